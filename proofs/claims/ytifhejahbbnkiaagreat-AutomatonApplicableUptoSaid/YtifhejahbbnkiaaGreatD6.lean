/-
  Lemmas and walks that the claim rests on, part 6 (packed by a program).
-/
import Derived.Test.YtifhejahbbnkiaaGreatD2
import Derived.Test.YtifhejahbbnkiaaGreatD5
import Derived.Test.YtifhejahbbnkiaaGreatD3
import Derived.Test.YtifhejahbbnkiaaGreatD4
import Derived.Test.YtifhejahbbnkiaaGreatD1
namespace Go.Proofs.YtifhejahbbnkiaaGreat
open Go.RowKit
mutual
def ptE:Pt→Pt→Bool
 | .mk v op imm iv ks,q=>decide (v=q.v∧op=q.op∧imm=q.imm∧iv=q.iv∧ks.length=q.kids.length)&&ptEL ks q.kids
def ptEL:List Pt→List Pt→Bool
 | [],_=>true
 | k::ks,ls=>match ls with
  | []=>true
  | l::ls=>ptE k l&&ptEL ks ls
end
theorem ptE_eq (p q:Pt):ptE p q=(decide (p.v=q.v∧p.op=q.op∧p.imm=q.imm∧p.iv=q.iv∧p.kids.length=q.kids.length)&&ptEL p.kids q.kids):=by
 cases p
 rw [ptE];rfl
def rlE (r s:Rl):Bool:=decide (r.vars=s.vars∧r.imms=s.imms∧r.conds.length=s.conds.length)&&ptE r.l s.l&&ptE r.r s.r&&decide (r.conds=s.conds)
def nmCs (l:List (Bs×Bs)):List Value:=l.map fun x=>.string (kstr x.1)
theorem nmCs_snoc (l:List (Bs×Bs)) (x:Bs×Bs):nmCs (l++[x])=nmCs l++[.string (kstr x.1)]:=by simp [nmCs]
theorem T_strs:SlT Tryz.prog 27 9 1 16:=by
 obtain ⟨i,h1,h2,h3,h4⟩:=info_parts (show (Tryz.prog.info? 9).map (fun i=>(i.zero,i.size,i.bytes))=some (some (.string ⟨#[]⟩),1,16) from by kernel_rfl)
 exact ⟨Tryz.underlying27,⟨i,_,h1,h2,h3,h4,rfl⟩,by omega⟩
theorem ptE_sound (p:Pt):∀q,ptE p q=true→p=q:=by
 induction p using Pt.ind with
 | h p ih =>
  intro q h;rw [ptE_eq,Bool.and_eq_true,decide_eq_true_eq] at h;obtain ⟨⟨h1,h2,h3,h4,h5⟩,h6⟩:=h
  have hk:∀(ks ls:List Pt),(∀k∈ks,∀q,ptE k q=true→k=q)→ks.length=ls.length→ptEL ks ls=true→ks=ls:=by
   intro ks
   induction ks with
   | nil=>intro ls _ hl _;exact (List.eq_nil_of_length_eq_zero hl.symm).symm
   | cons k ks ihl =>
    intro ls hm hl he
    cases ls with
    | nil=>cases hl
    | cons l ls =>
     rw [ptEL,Bool.and_eq_true] at he;rw [hm k List.mem_cons_self l he.1,ihl ls (fun k hk=>hm k (List.mem_cons_of_mem _ hk)) (Nat.succ.inj hl) he.2]
  have h7:=hk p.kids q.kids ih h5 h6;cases p
  cases q
  simp only [Pt.v,Pt.op,Pt.imm,Pt.iv,Pt.kids] at h1 h2 h3 h4 h7;subst h1 h2 h3 h4 h7;rfl
theorem rlE_sound {r s:Rl} (hn:r.name=s.name) (h:rlE r s=true):r=s:=by
 unfold rlE at h;simp only [Bool.and_eq_true,decide_eq_true_eq] at h;obtain ⟨⟨⟨⟨h1,h2,_⟩,h3⟩,h4⟩,h5⟩:=h;have h6:=ptE_sound _ _ h3;have h7:=ptE_sound _ _ h4;cases r
 cases s
 dsimp only at *;subst hn h1 h2 h5 h6 h7;rfl
def axTy (x:Bs×Bs):Bs:=x.1++[32,58,32]++x.2++[32,59]
def axN (x:Bs×Bs):Except Er (Rl×PS):=ruleN (goodT (toksF (axTy x))) (axTy x).length ⟨0,[],[]⟩
theorem axy_all:axL.all (fun x=>match parseG (fun _=>none) (axTx x),axN x with | .ok [r],.ok (q,_)=>decide (r.name=q.name)&&rlE r q | _,_=>false)=true:=by decide +kernel
theorem axy {x:Bs×Bs} (h:x∈axL):∃r z,parseG (fun _=>none) (axTx x)=.ok [r]∧axN x=.ok (r,z):=by
 have h1:=List.all_eq_true.1 axy_all x h
 split at h1
 ·rename_i r q z e1 e2;rw [Bool.and_eq_true,decide_eq_true_eq] at h1;obtain rfl:=rlE_sound h1.1 h1.2;exact ⟨r,z,e1,e2⟩
 ·cases h1
theorem xok_toks {s:Bs} (hs:s.length≤20000) (hl:(goodT (toksF s)).length≤s.length):XOk (goodT (toksF s)) :=
 ⟨fun _ ht=>(tokL_s _ _ _ _ (goodT_mem ht) rfl).1,fun t ht=>by have h3:t.1.length≤s.length:=(tokL_s _ _ _ _ (goodT_mem ht) rfl).2;omega,by omega⟩
set_option maxRecDepth 100000 in
theorem xAxiomTexts_c (w:World):Calls Tryz.prog 62 #[] w fun e w'=>e=.returned (.slice (some ⟨w.heap.size,0,none⟩) 44 44)∧Blk w' w.heap.size 9 axCs.toArray∧Upd Non w w':=by
 go_enter Tryz.func62,Tryz.ntmps62;go_wp2_with fail
 go_ret;exact ⟨rfl,Blk.new _ _ _,Upd.refl.alloc _⟩
set_option maxRecDepth 100000 in
set_option maxHeartbeats 4000000 in
theorem xAxiom_c (s:Bs) (w:World):Calls Tryz.prog 25 #[.string (kstr s)] w (AxP axiomF s w):=by
 have HX:Hid (axiomF s=match axL.find? (fun x=>decide (x.1=s)) with
  | none=>none
  | some x=>match parseG (fun _=>none) (axTx x) with
   | .ok [r]=>some r
   | _=>none):=axiomF_eq s
 obtain ⟨W1,HW1⟩:=nm (w.alloc (.cells #[.string ⟨#[]⟩,.int .i64 0,.int .i64 0,.int .i64 0,.int .i64 0,.slice none 0 0,.int .i64 0,.int .i64 0,.int .i64 0,.int .i64 0,.slice none 0 0,.slice none 0 0,.int .i64 0,.int .i64 0] 41))
 have e1:=HW1.out;have u1:Upd Non w W1:=by rw [←e1];exact Upd.refl.alloc _
 have b1:Blk W1 w.heap.size 41 z14:=by rw [←e1];exact Blk.new _ _ _
 have s1:W1.heap.size=w.heap.size+1:=by rw [←e1];simp
 have CA:=h_ (xAxiomTexts_c W1);rw [s1] at CA;obtain ⟨qs,Hqs⟩:=nm (kstr s);rw [Hqs.out];have HB1:=h_ b1;have HU1:=h_ u1;clear u1 b1 s1;go_enter Tryz.func25,Tryz.ntmps25;go_wp2_with fail
 refine CA.out.mono ?_;rintro e w2 ⟨rfl,hbt,hu2⟩;have HT:=h_ hbt;have HB2:=h_ (HB1.out.upd hu2 (fun f=>f));have HU2:=h_ (HU1.out.then_non hu2);clear hbt hu2 CA HB1 HU1 e1;go_wp2_with fail
 go_loopg [5] 22 (fun g iv wr=>∃j k:Nat,Hid (g=22 - j)∧j≤22∧Hid (k=j * 2)∧iv=.int .i64 k∧Hid (wr=w2)∧Hid (∀x∈axL.take j,¬x.1=s))
 case atStart=>exact ⟨0,0,rfl,Nat.zero_le _,rfl,rfl,rfl,fun x hx=>by simp at hx⟩
 case round =>
  obtain ⟨j,k,Hg,hj,Hk,rfl,HWR,HN⟩:=hrel;have hwr:=HWR.out;subst hwr;have hb:=HT.out;have hr:=HB2.out;by_cases hlt:j<22
  ·have hal:j<axL.length:=hlt;have hk44:k+1<44:=by rw [Hk.out];omega
   obtain ⟨k0,k1⟩:=axCs_get hal;rw [←Hk.out] at k0 k1;have c0:wr.cell? ⟨w.heap.size+1,k,none⟩=some (.string (kstr axL[j].1)):=by rw [hb.cell];simpa using k0
   have c1:wr.cell? ⟨w.heap.size+1,k+1,none⟩=some (.string (kstr axL[j].2)):=by rw [hb.cell];simpa using k1
   have HM:Hid (axL[j]∈axL):=List.getElem_mem hal
   have HDR:Hid (axL=axL.take j++axL[j]::axL.drop (j+1)):=by
    show axL=_;rw [←List.drop_eq_getElem_cons hal,List.take_append_drop]
   have HTK:Hid (axL.take (j+1)=axL.take j++[axL[j]]):=take_snoc' hal;generalize axL[j]=xx at *;obtain ⟨D,HD⟩:=nm (decide (xx.1=s));have hD:((kstr xx.1).toList==qs.toList)=D:=by rw [←Hqs.out,str_beq,HD.out]
   obtain ⟨qa,Hqa⟩:=nm (kstr xx.1);obtain ⟨qb,Hqb⟩:=nm (kstr xx.2);rw [Hqa.out] at c0 hD;rw [Hqb.out] at c1;clear k0 k1 hb hr
   cases D with
   | false =>
    go_wp2_with fail
    go_roundg (22 - (j+1))
    case measure=>rw [Hg.out];omega
    case rel =>
     refine ⟨j+1,k+2,rfl,by omega,by show _=_;rw [Hk.out];omega,by go_num,rfl,fun y hy=>?_⟩;rw [HTK.out] at hy;rcases List.mem_append.1 hy with hy | hy
     ·exact HN.out y hy
     ·rw [List.mem_singleton] at hy;subst hy;exact of_decide_eq_false HD.out
   | true =>
    obtain ⟨rl,z,hpr,hax⟩:=axy HM.out;obtain ⟨la,lb⟩:=ax_size HM.out;have hxs:xx.1=s:=of_decide_eq_true HD.out;have hqa:qa=qs:=by rw [←Hqa.out,←Hqs.out,hxs]
    rw [Hqa.out,hqa] at la;rw [Hqb.out] at lb
    have hkx:kx (((qs++{ data:=#[32,58,32] })++qb)++{ data:=#[32,59] })=axTy xx:=by
     rw [←Hqs.out,←Hqb.out,←hxs];simp [kx,kstr,axTy]
    have hsz:(((qs++{ data:=#[32,58,32] })++qb)++{ data:=#[32,59] }).size≤3000:=by
     simp only [ByteArray.size_append];show qs.size+3+qb.size+2≤3000;omega
    obtain ⟨str,Hstr⟩:=nm (((qs++{ data:=#[32,58,32] })++qb)++{ data:=#[32,59] });have estr:=Hstr.out;rw [estr] at hkx hsz;have CT:=h_ (xTokens_c str wr (by omega));have hkl:(kx str).length=str.size:=kx_len _
    have HXO:Hid ((goodT (toksF (axTy xx))).length≤str.size→XOk (goodT (toksF (axTy xx)))):=fun q=>by
     rw [hkx] at hkl;exact xok_toks (by omega) (by omega)
    have HAX:Hid (ruleN (goodT (toksF (axTy xx))) str.size ⟨0,[],[]⟩=.ok (rl,z)):=by
     show _=_;rw [←hax,←hkl,hkx];rfl
    rw [hkx] at CT;obtain ⟨T,HTT⟩:=nm (goodT (toksF (axTy xx)));rw [HTT.out] at CT HAX HXO;obtain ⟨m,Hm⟩:=nm str.size;have hm:=Hm.out;rw [hm] at HAX HXO CT hsz;have HPR:=h_ hpr;clear hkx hpr hkl hax hxs hqa hal
    go_upto_region 7 with fail
    clear estr;go_wp2_with fail
    refine CT.out.mono ?_;rintro e w4 ⟨A,c,mm,rfl,ho4,hat4,hlen4,hf4,hm4,u4⟩;clear hf4 hm4;have hT:=HXO.out hlen4;obtain ⟨W5,HW5⟩:=nm (w4.alloc (.cells #[.slice A T.length c,.int .i64 0,.int .i64 (m:Nat),.int .i64 0,.int .i64 0,.string ⟨#[]⟩,.string ⟨#[]⟩,.bool false] 115))
    have u5:Upd Non w4 W5:=by rw [←HW5.out];exact Upd.refl.alloc _
    have b5:Blk W5 w4.heap.size 115 (xcells A T.length c m ⟨0,0,0,[],[],false⟩):=by rw [←HW5.out];exact Blk.new _ _ _
    have hxd:XdS W5 w4.heap.size A c T m ⟨0,0,0,[],[],false⟩:=⟨b5,((xt_view ho4).upd u5 (fun _ _ _ f=>f)).mono (fun k hk q=>Own.lt ho4 q),Own.le ho4⟩
    have CR:=h_ (xRule_c hT hxd ⟨Nat.zero_le _,Nat.zero_le _,Nat.zero_le _⟩);have HU5:=h_ ((HU2.out.then_non u4).then_non u5);have HR5:=h_ ((HB2.out.upd u4 (fun f=>f)).upd u5 (fun f=>f));have hl4:=u4.size;have hl2:=HU2.out.size;have hl5:=u5.size;have hlw:=HB2.out.lt;have hch:w.heap.size<W5.heap.size:=Nat.lt_of_lt_of_le (Nat.lt_of_lt_of_le HB2.out.lt hl4) hl5;clear ho4 hat4 u4 u5 b5 hxd CT hT HXO
    go_upto_region 9 with fail
    rw [HW5.out];go_wp2_with fail
    refine CR.out.mono ?_;rintro e w6 ⟨R,a,y,rfl,hrk,hx1,hx2,hx3,u6,hx4,hx5,hres⟩;clear hx1 hx2 hx3 hx4 hx5
    have HE:Hid (R=rl):=by
     have h1:=hres.1 rfl;rw [show (⟨0,0,0,[],[],false⟩:Xs).ps=⟨0,[],[]⟩ from rfl,HAX.out] at h1;exact h1.2.2.symm
    have b0:=HR5.out.upd u6 (by omega);unfold z14 at b0;have z0:=b0.cell 0;have z1:=b0.cell 1;have z2:=b0.cell 2;have z3:=b0.cell 3;have z4:=b0.cell 4;have z5:=b0.cell 5;have z6:=b0.cell 6;have z7:=b0.cell 7;have z8:=b0.cell 8;have z9:=b0.cell 9;have z10:=b0.cell 10;have z11:=b0.cell 11;have z12:=b0.cell 12;have z13:=b0.cell 13;have zf:=b0.frozen;have HRK:=h_ hrk;have HU6:Hid (Upd Non w w6):=HU5.out.trans u6 (fun k hk e=>by omega);have HB0:=h_ b0;clear hrk hres u6 CR b0 HAX;unfold rlv rlCells;go_wp2_with fail
    rw [set14_eq];obtain ⟨W8,HW8⟩:=nm (set14 w6 w.heap.size (.string R.name) (.int .i64 R.l.v) (.int .i64 R.l.op) (.int .i64 R.l.imm) (.int .i64 R.l.iv) (.slice a.la R.l.kids.length a.lc) (.int .i64 R.r.v) (.int .i64 R.r.op) (.int .i64 R.r.imm) (.int .i64 R.r.iv) (.slice a.ra R.r.kids.length a.rc) (.slice a.ca R.conds.length a.cc) (.int .i64 R.vars) (.int .i64 R.imms))
    rw [HW8.out];have us:Upd (·=w.heap.size) w6 W8:=by rw [←HW8.out];exact set14_upd _ _ _ _ _ _ _ _ _ _ _ _ _ _ _ _
    have b8:Blk W8 w.heap.size 41 (rlCells R a):=by rw [←HW8.out];exact set14_blk HB0.out _ _ _ _ _ _ _ _ _ _ _ _ _ _
    have hU8:Upd Non w W8:=HU6.out.trans us (fun k hk e=>Nat.lt_irrefl _ (e ▸ hk));have hK8:RlK W8 (fun k=>w.heap.size≤k) R a:=(HRK.out.upd us (fun k _ q e=>Nat.lt_irrefl _ (Nat.lt_of_lt_of_le hch (e ▸ q)))).mono (fun k _ q=>Nat.le_trans (Nat.le_of_lt hch) q)
    clear HW8 us;refine bodyPost_ret (results_cell_row_tmp rfl _ _ w.heap.size 41 _ (0,0) _ rfl b8 Tryz.underlying41 rfl (by kernel_rfl)) rfl ?_;refine ⟨R,a,true,rfl,hK8,hU8,fun _=>?_,fun q=>(by cases q)⟩;rw [HX.out,HDR.out,find_take HN.out (of_decide_eq_true HD.out)];dsimp only;rw [HPR.out,HE.out]
  ·obtain rfl:j=22:=by omega
   have hk44:k=44:=Hk.out;subst hk44;clear hb;unfold z14 at hr;have z0:=hr.cell 0;have z1:=hr.cell 1;have z2:=hr.cell 2;have z3:=hr.cell 3;have z4:=hr.cell 4;have z5:=hr.cell 5;have z6:=hr.cell 6;have z7:=hr.cell 7;have z8:=hr.cell 8;have z9:=hr.cell 9;have z10:=hr.cell 10;have z11:=hr.cell 11;have z12:=hr.cell 12;have z13:=hr.cell 13;have zf:=hr.frozen;go_wp2_with fail
   rw [set14_eq];have us:=set14_upd wr w.heap.size (.string ⟨#[]⟩) (.int .i64 0) (.int .i64 0) (.int .i64 0) (.int .i64 0) (.slice none 0 0) (.int .i64 0) (.int .i64 0) (.int .i64 0) (.int .i64 0) (.slice none 0 0) (.slice none 0 0) (.int .i64 0) (.int .i64 0)
   have b5:=set14_blk hr (.string ⟨#[]⟩) (.int .i64 0) (.int .i64 0) (.int .i64 0) (.int .i64 0) (.slice none 0 0) (.int .i64 0) (.int .i64 0) (.int .i64 0) (.int .i64 0) (.slice none 0 0) (.slice none 0 0) (.int .i64 0) (.int .i64 0)
   refine bodyPost_ret (results_cell_row_tmp rfl _ _ w.heap.size 41 _ (0,0) _ rfl b5 Tryz.underlying41 rfl (by kernel_rfl)) rfl ?_;refine ⟨⟨⟨#[]⟩,.mk 0 0 0 0 [],.mk 0 0 0 0 [],[],0,0⟩,⟨none,0,none,0,none,0⟩,false,rfl,⟨PtK.leaf,PtK.leaf,CondsV.nil,Nat.le_refl _⟩,HU2.out.trans us (fun k hk e=>by omega),fun q=>(by cases q),fun _=>?_⟩
   rw [HX.out,List.find?_eq_none.2];intro y hy;simpa using HN.out y (by rw [List.take_of_length_le (show axL.length≤22 from Nat.le_refl _)];exact hy)
set_option maxRecDepth 100000 in
set_option maxHeartbeats 1000000 in
theorem xAxioms_c (w:World):Calls Tryz.prog 24 #[] w fun e w'=>∃(A:Option Addr) (c:Nat),e=.returned (.slice A 22 c)∧Own w' 9 1 A 22 c (nmCs axL)∧(∀k,At A k→w.heap.size≤k)∧Upd Non w w':=by
 have CA:=h_ (xAxiomTexts_c w);go_enter Tryz.func24,Tryz.ntmps24;go_wp2_with fail
 refine CA.out.mono ?_;rintro e w2 ⟨rfl,hbt,hu2⟩;have HT:=h_ hbt;have HU2:=h_ hu2;have hs2:=hu2.size;clear hbt hu2 CA;go_wp2_with fail
 go_loopg [1,3] 22 (fun g v iv wr=>∃(j k:Nat) (A:Option Addr) (c:Nat),Hid (g=22 - j)∧j≤22∧Hid (k=j * 2)∧iv=.int .i64 k∧v=.slice A j c∧Hid (Own wr 9 1 A j c (nmCs (axL.take j)))∧Hid (∀k,At A k→w2.heap.size≤k)∧Hid (Upd Non w2 wr))
 case atStart=>exact ⟨0,0,none,0,rfl,Nat.zero_le _,rfl,rfl,rfl,Own.none_,fun _ q=>(At.none_ q).elim,Upd.refl⟩
 case round =>
  obtain ⟨j,k,A,c,Hg,hj,Hk,rfl,rfl,HO,HA,HU⟩:=hrel;have hb:=HT.out.upd HU.out (fun f=>f);by_cases hlt:j<22
  ·have hal:j<axL.length:=hlt;have hk44:k+1<44:=by rw [Hk.out];omega
   obtain ⟨k0,_⟩:=axCs_get hal;rw [←Hk.out] at k0;have c0:wr.cell? ⟨w.heap.size,k,none⟩=some (.string (kstr axL[j].1)):=by rw [hb.cell];simpa using k0
   have HTK:Hid (axL.take (j+1)=axL.take j++[axL[j]]):=take_snoc' hal;generalize axL[j]=xx at *;obtain ⟨qa,Hqa⟩:=nm (kstr xx.1);rw [Hqa.out] at c0;have hsl:=HU.out.size;have hoA:=HO.out;clear k0 hb
   go_wp2_with (at_builtin;refine wpList_app rfl rfl T_strs rfl (hoA.alloc _) rfl (Sl.new _ _ _) rfl (by simp [Value.oneCell']) (by simp only [maxLen];omega) (by omega) ?_;intro A4 c4 w4 ho4 hu4 hat4)
   have HU4:Hid (Upd Non w2 w4):=(HU.out.alloc _).trans hu4 (fun k hk e=>by have:=HA.out k e;omega)
   have HA4:Hid (∀k,At A4 k→w2.heap.size≤k):=fun k hk=>by
    rcases hat4 k hk with q | q
    ·exact HA.out k q
    ·simp at q;omega
   have HO4:Hid (Own w4 9 1 A4 (j+1) c4 (nmCs (axL.take (j+1)))):=by
    show Own _ _ _ _ _ _ _;rw [HTK.out,nmCs_snoc,Hqa.out];exact ho4
   clear ho4 hu4 hat4 hoA
   go_roundg (22 - (j+1))
   case measure=>rw [Hg.out];omega
   case rel=>exact ⟨j+1,k+2,A4,c4,rfl,by omega,by show _=_;rw [Hk.out];omega,by go_num,rfl,HO4.out,HA4.out,HU4.out⟩
  ·obtain rfl:j=22:=by omega
   have hk44:k=44:=Hk.out;subst hk44;clear hb;have hO:=HO.out;rw [List.take_of_length_le (show axL.length≤22 from Nat.le_refl _)] at hO;have HO2:=h_ hO;clear hO;go_wp2_with fail
   go_ret;exact ⟨A,c,rfl,HO2.out,fun k hk=>by have:=HA.out k hk;omega,HU2.out.then_non HU.out⟩
theorem kConds_len (n:Int) (nv:Nat):(kCondsF n nv).length≤1:=by
 unfold kCondsF
 repeat' split
 all_goals simp
theorem side_size (op:Int) (p:Pt):(sideF op p).size≤1+p.size:=by
 unfold sideF
 split
 ·rw [Pt.size_one];exact Nat.le_refl _
 ·omega
theorem kRule_sz (name:ByteArray) (hn:name.size≤1000) (xs:List Int):RlSz (kRuleF name xs):=by
 have h1:=patF_size (3:Nat) false 3 1 xs.tail;have h2:=(numF_len (patF (3:Nat) false 3 1 xs.tail).1 [] []).2.2;have h3:=side_size 21 (numF (patF (3:Nat) false 3 1 xs.tail).1 [] []).1;have h4:=patF_size (numF (patF (3:Nat) false 3 1 xs.tail).1 [] []).2.1.length false 2 1 (patF (3:Nat) false 3 1 xs.tail).2;have h5:=kConds_len (xs.headD 0) (numF (patF (3:Nat) false 3 1 xs.tail).1 [] []).2.1.length;simp only [kSize] at h1 h4;unfold kRuleF;dsimp only
 split
 ·exact ⟨by dsimp only;omega,by dsimp only;rw [Pt.size_leaf];omega,by simp,by dsimp only;omega⟩
 ·exact ⟨by dsimp only;omega,by dsimp only;omega,by dsimp only;omega,by dsimp only;omega⟩
def sh (k:Nat) (x:PS):PS:=⟨k+x.i,x.vs,x.ms⟩
section
variable {T1 T:List (Bs×Nat)} {fin fin' k:Nat}
end
section
variable {T:List (Bs×Nat)} {fin n:Nat} {ax:Bs→Option Rl}
end
inductive Fm6:Pt→Prop
 | var {v:Int}:0<v→v≤6→Fm6 (.mk v 0 0 0 [])
 | cst {imm:Int}:I64 imm→Fm6 (.mk 0 1 imm 0 [])
 | cim {iv:Int}:0<iv→iv≤6→Fm6 (.mk 0 1 0 iv [])
 | app {op imm iv:Int} {ks:List Pt}:4≤op→op<32→arF op=some ks.length→I64 imm→0≤iv→iv≤6→(iv≠0→imm=0)→(immOp op=false→imm=0∧iv=0)→(∀k∈ks,Fm6 k)→Fm6 (.mk 0 op imm iv ks)
structure Cd6 (c:Cd):Prop where
 k0:1≤c.kind
 k1:c.kind≤6
 a0:0<c.a
 a1:c.a≤6
 b0:4≤c.kind→0<c.b∧c.b≤6
 b1:c.kind≤3→c.b=0
 n0:c.kind≠2→c.kind≠3→c.n=0
 n1:I64 c.n
structure Rt6 (R:Rl):Prop where
 n:nameF R.name=true
 l:Fm6 R.l
 r:Fm6 R.r
 c:∀x∈R.conds,Cd6 x
def cnI (iv:Int) (n:Nat):Option Nat:=if 0<iv then (if iv≤n then some n else if iv=n+1 then some (n+1) else none) else some n
mutual
def cn:Pt→Nat→Nat→Option (Nat×Nat)
 | .mk v _ _ iv ks,m,n =>
  if 0<v then (if v≤m then some (m,n) else if v=m+1 then some (m+1,n) else none)
  else match cnI iv n with
   | none=>none
   | some n2=>cnL ks m n2
def cnL:List Pt→Nat→Nat→Option (Nat×Nat)
 | [],m,n=>some (m,n)
 | k::ks,m,n=>match cn k m n with
  | none=>none
  | some s=>cnL ks s.1 s.2
end
section
variable {T:List (Bs×Nat)} {fin:Nat}
end
structure CdIn (m n:Nat) (c:Cd):Prop where
 a1:c.kind≤5→c.a≤m
 a2:c.kind=6→c.a≤n
 b1:c.kind=4→c.b≤m
 b2:5≤c.kind→c.b≤n
section
variable {T:List (Bs×Nat)} {fin:Nat}
end
structure Rt (r:Rl) (m n:Nat):Prop where
 t:Rt6 r
 vs:r.vars=(m:Int)
 is:r.imms=(n:Int)
 m6:m≤6
 n6:n≤6
 cl:cn r.l 0 0=some (m,n)
 cr:cn r.r m n=some (m,n)
 ci:∀c∈r.conds,CdIn m n c
theorem oS_ar {op:Int} (h:(oSortsF op).2.2=true) (h4:4≤op):arF op=some (oSortsF op).1.length:=by
 have h32:op<32:=by rcases oS_ops h with q | q <;> omega
 obtain ⟨i,hi⟩:∃i:Fin 28,op=4+(i.val:Int):=⟨⟨(op - 4).toNat,by omega⟩,by show op=4+((op - 4).toNat:Int);omega⟩;have key:∀i:Fin 28,(oSortsF (4+(i.val:Int))).2.2=true→arF (4+(i.val:Int))=some (oSortsF (4+(i.val:Int))).1.length:=by decide +kernel
 subst hi;exact key i h
theorem shp_fm6 (p:Pt):∀(s m:Int) (n:Nat),shp p s m n=true→m≤6→n≤6→PI p→Fm6 p:=by
 induction p using Pt.ind with
 | h p ih =>
  intro s m n hs hm hn hi;by_cases hv:p.v=0
  ·rw [shp_op hv,Bool.and_eq_true,decide_eq_true_iff] at hs;obtain ⟨⟨h1,h2,_,h4⟩,h5⟩:=hs;have hI:=hi p (nodes_self p)
   have hks:∀k∈p.kids,Fm6 k:=fun k hk=>by
    obtain ⟨i,hi2,rfl⟩:=List.mem_iff_getElem.1 hk;exact ih _ hk _ m n (shpL_at hi2 h5) hm hn (hi.kid hk)
   have hiv:0≤p.iv∧p.iv≤6∧(p.iv≠0→p.imm=0∧hasImmF p.op=true):=by
    unfold pImmF at h4
    split at h4
    ·simp only [Bool.and_eq_true,decide_eq_true_iff] at h4;exact ⟨by omega,by omega,fun _=>⟨h4.2.1,h4.1⟩⟩
    ·rename_i q;exact ⟨by omega,by omega,fun q2=>absurd q2 q⟩
   cases p with
   | mk v op imm iv ks =>
    dsimp only [Pt.v,Pt.op,Pt.imm,Pt.iv,Pt.kids] at *;subst hv;rcases oS_ops h1 with rfl | ⟨a,b⟩
    ·have hk0:ks=[]:=List.length_eq_zero_iff.1 (by rw [h2];rfl);subst hk0;by_cases q:iv=0
     ·subst q;exact .cst hI
     ·have:=(hiv.2.2 q).1;subst this;exact .cim (by omega) hiv.2.1
    ·refine .app a b (by rw [oS_ar h1 a,h2]) hI hiv.1 hiv.2.1 (fun q=>(hiv.2.2 q).1) (fun q=>?_) hks
     have q1:¬(op=1∨op=23∨op=27∨op=28):=by
      simp only [immOp,decide_eq_false_iff_not] at q;omega
     have e0:iv=0:=by
      by_cases q2:iv=0
      ·exact q2
      ·have:=(hiv.2.2 q2).2;simp only [hasImmF,decide_eq_true_eq] at this;exact absurd this q1
     refine ⟨?_,e0⟩;unfold pImmF at h4
     split at h4
     ·rename_i q2;exact absurd e0 q2
     ·split at h4
      ·rename_i q2;dsimp only [Pt.op] at q2;exact absurd q2 (by omega)
      ·split at h4
       ·rename_i q2;dsimp only [Pt.op] at q2;exact absurd q2 (by omega)
       ·rw [decide_eq_true_eq] at h4;dsimp only [Pt.op,Pt.imm] at h4;omega
  ·rw [shp_var hv,decide_eq_true_iff] at hs
   cases p with
   | mk v op imm iv ks =>
    dsimp only [Pt.v,Pt.op,Pt.imm,Pt.iv,Pt.kids] at *;obtain ⟨rfl,rfl,rfl,hk⟩:op=0∧imm=0∧iv=0∧ks.length=0:=by omega
    obtain rfl:=List.length_eq_zero_iff.1 hk;exact .var (by omega) (by omega)
theorem cn_full (p:Pt):∀(s m:Int) (n:Nat),shp p s m n=true→cn p n m.toNat=some (n,m.toNat):=by
 induction p using Pt.ind with
 | h p ih =>
  intro s m n hs;by_cases hv:p.v=0
  ·rw [shp_op hv,Bool.and_eq_true,decide_eq_true_iff] at hs;obtain ⟨⟨h1,h2,_,h4⟩,h5⟩:=hs
   have hiv:cnI p.iv m.toNat=some m.toNat:=by
    unfold cnI;unfold pImmF at h4
    split at h4
    ·simp only [Bool.and_eq_true,decide_eq_true_iff] at h4;rw [if_pos (by omega),if_pos (by omega)]
    ·rename_i q;rw [if_neg (by omega)]
   have hks:cnL p.kids n m.toNat=some (n,m.toNat):=by
    have key:∀ks:List Pt,(∀k∈ks,cn k n m.toNat=some (n,m.toNat))→cnL ks n m.toNat=some (n,m.toNat):=by
     intro ks
     induction ks with
     | nil=>intro _;simp [cnL]
     | cons k ks ihk =>
      intro hh;rw [cnL,hh k List.mem_cons_self];exact ihk fun q hq=>hh q (List.mem_cons_of_mem _ hq)
    refine key _ fun k hk=>?_
    obtain ⟨i,hi2,rfl⟩:=List.mem_iff_getElem.1 hk;exact ih _ hk _ m n (shpL_at hi2 h5)
   cases p with
   | mk v op imm iv ks =>
    dsimp only [Pt.v,Pt.op,Pt.imm,Pt.iv,Pt.kids] at *;rw [cn,if_neg (by omega),hiv];exact hks
  ·rw [shp_var hv,decide_eq_true_iff] at hs
   cases p with
   | mk v op imm iv ks =>
    dsimp only [Pt.v,Pt.op,Pt.imm,Pt.iv,Pt.kids] at *;rw [cn,if_pos (by omega),if_pos (by omega)]
theorem cond_6 {c:Cd} {ss:List Int} {m:Int} {n:Nat} (h:condF c ss m=true) (hs:ss.length=n+1) (hn6:n≤6) (hm:0≤m∧m≤6) (hn:I64 c.n):Cd6 c∧CdIn n m.toNat c:=by
 unfold condF at h
 split at h
 ·simp only [isValF,Bool.and_eq_true,decide_eq_true_iff] at h;exact ⟨⟨by omega,by omega,by omega,by omega,by omega,by omega,by omega,hn⟩,⟨by omega,by omega,by omega,by omega⟩⟩
 ·split at h
  ·simp only [isValF,Bool.and_eq_true,decide_eq_true_iff] at h;exact ⟨⟨by omega,by omega,by omega,by omega,by omega,by omega,by omega,hn⟩,⟨by omega,by omega,by omega,by omega⟩⟩
  ·split at h
   ·simp only [isValF,Bool.and_eq_true,decide_eq_true_iff] at h;exact ⟨⟨by omega,by omega,by omega,by omega,by omega,by omega,by omega,hn⟩,⟨by omega,by omega,by omega,by omega⟩⟩
   ·split at h
    ·simp only [isValF,isImmF,Bool.and_eq_true,decide_eq_true_iff] at h;exact ⟨⟨by omega,by omega,by omega,by omega,by omega,by omega,by omega,hn⟩,⟨by omega,by omega,by omega,by omega⟩⟩
    ·split at h
     ·simp only [isImmF,Bool.and_eq_true,decide_eq_true_iff] at h;exact ⟨⟨by omega,by omega,by omega,by omega,by omega,by omega,by omega,hn⟩,⟨by omega,by omega,by omega,by omega⟩⟩
     ·cases h
theorem rt_of {r:Rl} (h:implF r=true) (hi:RlI r) (hc:cn r.l 0 0=some (r.vars.toNat,r.imms.toNat)):Rt r r.vars.toNat r.imms.toNat:=by
 have k:=imp_ok h;have hv:=k.vars;have him:=k.imms;have kc:=fun x hx=>cond_6 (n:=r.vars.toNat) (k.cnd x hx) (by simp) (by omega) him (hi.c x hx)
 exact ⟨⟨k.name,shp_fm6 _ _ _ _ k.shl him.2 (by omega) hi.l,shp_fm6 _ _ _ _ k.shr him.2 (by omega) hi.r,fun x hx=>(kc x hx).1⟩,by omega,by omega,by omega,by omega,hc,cn_full _ _ _ _ k.shr,fun x hx=>(kc x hx).2⟩
def riB (r:Rl):Bool:=(nodes r.l).all (fun q=>decide (-9223372036854775808≤q.imm∧q.imm≤9223372036854775807))&&(nodes r.r).all (fun q=>decide (-9223372036854775808≤q.imm∧q.imm≤9223372036854775807))&&r.conds.all (fun c=>decide (-9223372036854775808≤c.n∧c.n≤9223372036854775807))
theorem riB_ok {r:Rl} (h:riB r=true):RlI r:=by
 simp only [riB,Bool.and_eq_true,List.all_eq_true,decide_eq_true_eq] at h;exact ⟨fun q hq=>h.1.1 q hq,fun q hq=>h.1.2 q hq,fun q hq=>h.2 q hq⟩
theorem szB_ok {r:Rl} (h:szB r=true):RlSz r:=by
 simp only [szB,Bool.and_eq_true,decide_eq_true_eq] at h;exact ⟨h.1.1.1,h.1.1.2,h.1.2,h.2⟩
theorem ax_allR:axL.all (fun x=>match axiomF x.1 with | some r=>szB r&&riB r&&implF r&&decide (cn r.l 0 0=some (r.vars.toNat,r.imms.toNat))&&decide (kx r.name=x.1) | none=>false)=true:=by decide +kernel
structure AxOk (x:Bs×Bs) (r:Rl):Prop where
 eq:axiomF x.1=some r
 sz:RlSz r
 i:RlI r
 v:implF r=true
 rt:Rt r r.vars.toNat r.imms.toNat
 nm:r.name=kstr x.1
theorem ax_rule {x:Bs×Bs} (h:x∈axL):∃r,AxOk x r:=by
 have h1:=List.all_eq_true.1 ax_allR x h
 split at h1
 ·rename_i r he;simp only [Bool.and_eq_true,decide_eq_true_eq] at h1;obtain ⟨⟨⟨⟨a1,a2⟩,a3⟩,a4⟩,a5⟩:=h1;refine ⟨r,he,szB_ok a1,riB_ok a2,a3,rt_of a3 (riB_ok a2) a4,?_⟩;rw [←a5];rfl
 ·cases h1
def kid (l:List Pt) (i:Nat):Pt:=l.getD i (.mk 0 0 0 0 [])
def shK (kids:List Pt):Nat:=((kid kids 1).imm % 64).toNat
theorem shK_lt (kids:List Pt):shK kids<64:=by unfold shK;omega
def isG (op:Int):Bool:=decide (15≤op∧op≤19∨op=22)
def ownN (op:Int) (kids:List Pt):Nat:=if op=4∨op=5∨op=20 then 1 else if op=12 then shK kids else if isG op then 2 else 0
theorem ownN_lt (op:Int) (kids:List Pt):ownN op kids<64:=by
 have:=shK_lt kids;unfold ownN
 split
 ·omega
 ·split
  ·omega
  ·split <;> omega
def supO (op:Int) (kids:List Pt):Bool:=decide (op=1∨op=4∨op=5∨op=9∨op=10∨op=11∨(15≤op∧op≤22)∨(op=12∧(kid kids 1).op=1∧(kid kids 1).imm % 64≤8))
mutual
def supF:Pt→Bool
 | .mk v op _ _ kids=>if 0<v then true else supO op kids&&supL kids
def supL:List Pt→Bool
 | []=>true
 | k::ks=>supF k&&supL ks
end
theorem supL_iff:∀l:List Pt,supL l=l.all supF
 | []=>rfl
 | k::ks=>by rw [supL,supL_iff ks];rfl
theorem supF_iff (p:Pt):supF p=if 0<p.v then true else supO p.op p.kids&&p.kids.all supF:=by
 obtain ⟨v,op,imm,iv,kids⟩:=p;rw [supF,supL_iff];rfl
mutual
def bN:Pt→Nat
 | .mk v op _ _ kids=>if 0<v then 0 else ownN op kids+bL kids
def bL:List Pt→Nat
 | []=>0
 | k::ks=>bN k+bL ks
end
theorem bN_iff (p:Pt):bN p=if 0<p.v then 0 else ownN p.op p.kids+bL p.kids:=by
 obtain ⟨v,op,imm,iv,kids⟩:=p;rw [bN];rfl
theorem bL_le:∀(l:List Pt),(∀k∈l,bN k≤64 * k.size)→bL l≤64 * Pt.sizeL l
 | [],_=>by simp [bL]
 | k::ks,h=>by
  have h1:=h k (by simp);have h2:=bL_le ks (fun x hx=>h x (by simp [hx]));simp only [bL,Pt.sizeL];omega
theorem bN_le (p:Pt):bN p≤64 * p.size:=by
 induction p using Pt.ind with
 | h p ih =>
  have h1:=bL_le p.kids ih;have h2:=ownN_lt p.op p.kids;rw [bN_iff,Pt.size_eq]
  split <;> omega
mutual
def gN:Pt→Nat
 | .mk v op _ _ kids=>if 0<v then 0 else (isG op).toNat+gL kids
def gL:List Pt→Nat
 | []=>0
 | k::ks=>gN k+gL ks
end
theorem gN_iff (p:Pt):gN p=if 0<p.v then 0 else (isG p.op).toNat+gL p.kids:=by
 obtain ⟨v,op,imm,iv,kids⟩:=p;rw [gN];rfl
theorem gL_le:∀(l:List Pt),(∀k∈l,gN k≤k.size)→gL l≤Pt.sizeL l
 | [],_=>by simp [gL]
 | k::ks,h=>by
  have h1:=h k (by simp);have h2:=gL_le ks (fun x hx=>h x (by simp [hx]));simp only [gL,Pt.sizeL];omega
theorem gN_le (p:Pt):gN p≤p.size:=by
 induction p using Pt.ind with
 | h p ih =>
  have h1:=gL_le p.kids ih;rw [gN_iff,Pt.size_eq]
  split
  ·omega
  ·cases isG p.op <;> simp <;> omega
def bI (x:Int) (k:Nat):Bool:=(BitVec.ofInt 64 x).getLsbD k
def ordB (m a b:Bool) (sign:Bool):Bool:=if a=b then m else if sign then a else !a
def opB (k:Nat) (op imm:Int) (mine:List Bool) (a b c:Bool):Bool×List Bool :=
 let g:=mine.getD 0 false
 let m:=mine.getD 1 false
 if op=1 then (bI imm k,[]) else if op=9 then (a&&b,[]) else if op=10 then (a || b,[]) else if op=11 then (a ^^ b,[]) else if op=21 then (!a,[])
 else if op=4 then ((a ^^ b) ^^ g,[a&&b || a&&g || b&&g]) else if op=5 then ((a ^^ b) ^^ g,[!a&&b || !(a ^^ b)&&g]) else if op=20 then (!a ^^ g,[!a&&g])
 else if op=12 then ((mine++[a]).headD false,(mine++[a]).tail)
 else if op=22 then (if g then b else c,[g,m || a])
 else if op=15∨op=16 then (decide (k=0)&&g,[g,m&&(a==b)])
 else (decide (k=0)&&g,[g,ordB m a b (decide (k=63∧op≠19))])
def opBit (k:Nat) (op imm:Int) (mine vs:List Bool):Bool×List Bool:=opB k op imm mine (vs.getD 0 false) (vs.getD 1 false) (vs.getD 2 false)
mutual
def bitP (k:Nat) (ins:Nat→Bool):Pt→List Bool→Bool×List Bool×List Bool
 | .mk v op imm _ kids,old=>if 0<v then (ins (v - 1).toNat,old,[]) else
  ((opBit k op imm (old.take (ownN op kids)) (bitL k ins kids (old.drop (ownN op kids))).1).1,(bitL k ins kids (old.drop (ownN op kids))).2.1,
   (opBit k op imm (old.take (ownN op kids)) (bitL k ins kids (old.drop (ownN op kids))).1).2++(bitL k ins kids (old.drop (ownN op kids))).2.2)
def bitL (k:Nat) (ins:Nat→Bool):List Pt→List Bool→List Bool×List Bool×List Bool
 | [],old=>([],old,[])
 | p::ps,old=>((bitP k ins p old).1::(bitL k ins ps (bitP k ins p old).2.1).1,(bitL k ins ps (bitP k ins p old).2.1).2.1,(bitP k ins p old).2.2++(bitL k ins ps (bitP k ins p old).2.1).2.2)
end
theorem bitP_var {p:Pt} (h:0<p.v) (k:Nat) (ins:Nat→Bool) (old:List Bool):bitP k ins p old=(ins (p.v - 1).toNat,old,[]):=by
 obtain ⟨v,op,imm,iv,kids⟩:=p;rw [bitP,if_pos (show 0<v from h)];rfl
theorem bitP_op {p:Pt} (h:¬0<p.v) (k:Nat) (ins:Nat→Bool) (old:List Bool) {r:List Bool×List Bool×List Bool} (hr:bitL k ins p.kids (old.drop (ownN p.op p.kids))=r) :
  bitP k ins p old=((opBit k p.op p.imm (old.take (ownN p.op p.kids)) r.1).1,r.2.1,(opBit k p.op p.imm (old.take (ownN p.op p.kids)) r.1).2++r.2.2):=by
 obtain ⟨v,op,imm,iv,kids⟩:=p;subst hr;rw [bitP,if_neg (show ¬0<v from h)];rfl
theorem opBit_len {k:Nat} {op imm:Int} {kids:List Pt} {mine vs:List Bool} (hs:supO op kids=true) (hm:mine.length=ownN op kids):(opBit k op imm mine vs).2.length=ownN op kids:=by
 unfold supO at hs;have hs:=of_decide_eq_true hs;have hg:∀{q:Int},op=q→isG op=isG q:=fun h=>by rw [h]
 rcases hs with h | h | h | h | h | h | h | h
 all_goals first
  | (subst h;rfl)
  | skip
 ·have : op=15∨op=16∨op=17∨op=18∨op=19∨op=20∨op=21∨op=22:=by omega
  rcases this with rfl | rfl | rfl | rfl | rfl | rfl | rfl | rfl <;> rfl
 ·obtain ⟨rfl,_⟩:=h;show ((mine++[vs.getD 0 false]).tail).length=_;rw [List.length_tail,List.length_append,List.length_singleton,hm];omega
theorem bitP_app (k:Nat) (ins:Nat→Bool) (p:Pt):supF p=true→∀mine:List Bool,mine.length=bN p→∃b now,now.length=bN p∧∀rest,bitP k ins p (mine++rest)=(b,rest,now):=by
 induction p using Pt.ind with
 | h p ih =>
  intro hs mine hm;by_cases hv:0<p.v
  ·rw [bN_iff,if_pos hv] at hm;have : mine=[]:=List.length_eq_zero_iff.1 hm;subst this;exact ⟨ins (p.v - 1).toNat,[],by rw [bN_iff,if_pos hv];rfl,fun rest=>by rw [List.nil_append,bitP_var hv]⟩
  ·rw [supF_iff,if_neg hv,Bool.and_eq_true] at hs;rw [bN_iff,if_neg hv] at hm
   have hl:∀(l:List Pt),(∀q∈l,q∈p.kids)→∀mine:List Bool,mine.length=bL l→∃bs now,now.length=bL l∧bs.length=l.length∧∀rest,bitL k ins l (mine++rest)=(bs,rest,now):=by
    intro l
    induction l with
    | nil=>intro _ mine hm;have : mine=[]:=List.length_eq_zero_iff.1 hm;subst this;exact ⟨[],[],rfl,rfl,fun rest=>rfl⟩
    | cons q qs ihl =>
     intro hq mine hm;simp only [bL] at hm;have hq1:supF q=true:=List.all_eq_true.1 hs.2 q (hq q (by simp));obtain ⟨b,now,hn,hb⟩:=ih q (hq q (by simp)) hq1 (mine.take (bN q)) (by rw [List.length_take];omega);obtain ⟨bs,now2,hn2,hbl,hb2⟩:=ihl (fun x hx=>hq x (by simp [hx])) (mine.drop (bN q)) (by rw [List.length_drop];omega);refine ⟨b::bs,now++now2,by rw [List.length_append,hn,hn2];rfl,by simp [hbl],fun rest=>?_⟩;have e:mine++rest=mine.take (bN q)++(mine.drop (bN q)++rest):=by rw [←List.append_assoc,List.take_append_drop]
     rw [e];simp only [bitL,hb,hb2]
   obtain ⟨bs,now,hn,_,hb⟩:=hl p.kids (fun q h=>h) (mine.drop (ownN p.op p.kids)) (by rw [List.length_drop];omega);refine ⟨(opBit k p.op p.imm (mine.take (ownN p.op p.kids)) bs).1,(opBit k p.op p.imm (mine.take (ownN p.op p.kids)) bs).2++now,?_,fun rest=>?_⟩
   ·rw [List.length_append,hn,bN_iff,if_neg hv,opBit_len hs.1 (by rw [List.length_take];omega)]
   ·have e1:(mine++rest).drop (ownN p.op p.kids)=mine.drop (ownN p.op p.kids)++rest:=by rw [List.drop_append_of_le_length (by omega)]
    have e2:(mine++rest).take (ownN p.op p.kids)=mine.take (ownN p.op p.kids):=by rw [List.take_append_of_le_length (by omega)]
    rw [bitP_op hv k ins _ (r:=(bs,rest,now)) (by rw [e1];exact hb rest),e2]
def cdBit (k:Nat) (ins:Nat→Bool) (c:Cd) (m:Bool):Bool :=
 if c.kind=1 then m || ins (c.a - 1).toNat else if c.kind=4 then m || (ins (c.a - 1).toNat ^^ ins (c.b - 1).toNat)
 else if c.kind=2 then ordB m (bI c.n k) (ins (c.a - 1).toNat) (decide (k=63)) else if c.kind=3 then ordB m (ins (c.a - 1).toNat) (bI c.n k) (decide (k=63)) else m
def stN (r:Rl):Nat:=bN r.l+bN r.r+r.conds.length+1
def succF (k:Nat) (ins:Nat→Bool) (r:Rl) (old:List Bool):List Bool :=
 (bitP k ins r.l old).2.2++(bitP k ins r.r (bitP k ins r.l old).2.1).2.2 ++
 List.zipWith (cdBit k ins) r.conds (bitP k ins r.r (bitP k ins r.l old).2.1).2.1 ++
 [(bitP k ins r.r (bitP k ins r.l old).2.1).2.1.getD r.conds.length false || ((bitP k ins r.l old).1 ^^ (bitP k ins r.r (bitP k ins r.l old).2.1).1)]
theorem succF_len {r:Rl} (hl:supF r.l=true) (hr:supF r.r=true) (k:Nat) (ins:Nat→Bool) {old:List Bool} (h:old.length=stN r):(succF k ins r old).length=stN r:=by
 unfold stN at h;obtain ⟨b,now,hn,hb⟩:=bitP_app k ins r.l hl (old.take (bN r.l)) (by rw [List.length_take];omega);obtain ⟨b2,now2,hn2,hb2⟩:=bitP_app k ins r.r hr ((old.drop (bN r.l)).take (bN r.r)) (by rw [List.length_take,List.length_drop];omega);have e1:=hb (old.drop (bN r.l));rw [List.take_append_drop] at e1;have e2:=hb2 ((old.drop (bN r.l)).drop (bN r.r));rw [List.take_append_drop] at e2;unfold succF stN;simp only [e1,e2,List.length_append,hn,hn2,List.length_zipWith,List.length_drop,List.length_singleton];omega
def inO (op:Int) (n:Nat) (g:Bool):List Bool:=if op=20 then [true] else if op=4∨op=5 then [false] else if op=12 then List.replicate n false else if isG op then [g,decide (op=15∨op=16∨op=18)] else []
mutual
def inP (g:Nat→Bool):Pt→Nat→List Bool
 | .mk v op _ _ kids,i=>if 0<v then [] else inO op (ownN op kids) (g i)++inL g kids (i+(isG op).toNat)
def inL (g:Nat→Bool):List Pt→Nat→List Bool
 | [],_=>[]
 | k::ks,i=>inP g k i++inL g ks (i+gN k)
end
theorem inP_iff (g:Nat→Bool) (p:Pt) (i:Nat):inP g p i=if 0<p.v then [] else inO p.op (ownN p.op p.kids) (g i)++inL g p.kids (i+(isG p.op).toNat):=by
 obtain ⟨v,op,imm,iv,kids⟩:=p;rw [inP];rfl
theorem inO_len (op:Int) (kids:List Pt) (g:Bool):(inO op (ownN op kids) g).length=ownN op kids:=by
 unfold inO ownN
 split
 ·rename_i h;subst h;rfl
 ·split
  ·rename_i h;rw [if_pos (by omega)];rfl
  ·split
   ·rename_i h1 h2 h;rw [if_neg (by omega),List.length_replicate]
   ·split
    ·rename_i h;rw [if_neg (by omega)];rfl
    ·rw [if_neg (by omega)];rfl
theorem inP_len (g:Nat→Bool) (p:Pt):∀i,(inP g p i).length=bN p:=by
 induction p using Pt.ind with
 | h p ih =>
  intro i;rw [inP_iff,bN_iff]
  split
  ·rfl
  ·have : ∀(l:List Pt),(∀q∈l,q∈p.kids)→∀i,(inL g l i).length=bL l:=by
    intro l
    induction l with
    | nil=>intro _ i;rfl
    | cons q qs ihl=>intro h i;rw [inL,List.length_append,ih q (h q (by simp)),ihl (fun x hx=>h x (by simp [hx]))];rfl
   rw [List.length_append,inO_len,this _ (fun q h=>h)]
def cdIn (c:Cd):Bool:=decide (c.kind=2∨c.kind=3)
def initF (g:Nat→Bool) (r:Rl):List Bool:=inP g r.l 0++inP g r.r (gN r.l)++r.conds.map cdIn++[false]
theorem initF_len (g:Nat→Bool) (r:Rl):(initF g r).length=stN r:=by unfold initF stN;simp [inP_len];omega
def gR (r:Rl):Nat:=gN r.l+gN r.r
def initsF (r:Rl):List (List Bool):=(List.range (2 ^ gR r)).map fun h=>initF h.testBit r
def gOk (op:Int) (mine:List Bool):Bool:=if isG op then (if op=16 then mine.getD 0 false != mine.getD 1 false else mine.getD 0 false==mine.getD 1 false) else true
mutual
def gRP:Pt→List Bool→Bool×List Bool
 | .mk v op _ _ kids,b=>if 0<v then (true,b) else (gOk op (b.take (ownN op kids))&&(gRL kids (b.drop (ownN op kids))).1,(gRL kids (b.drop (ownN op kids))).2)
def gRL:List Pt→List Bool→Bool×List Bool
 | [],b=>(true,b)
 | k::ks,b=>((gRP k b).1&&(gRL ks (gRP k b).2).1,(gRL ks (gRP k b).2).2)
end
theorem gRP_iff (p:Pt) (b:List Bool):gRP p b=if 0<p.v then (true,b) else (gOk p.op (b.take (ownN p.op p.kids))&&(gRL p.kids (b.drop (ownN p.op p.kids))).1,(gRL p.kids (b.drop (ownN p.op p.kids))).2):=by
 obtain ⟨v,op,imm,iv,kids⟩:=p;rw [gRP];rfl
def safeF (r:Rl) (b:List Bool):Bool:=!((gRP r.l b).1&&(gRP r.r (gRP r.l b).2).1&&((gRP r.r (gRP r.l b).2).2.take r.conds.length).all id&&(gRP r.r (gRP r.l b).2).2.getD r.conds.length false)
theorem gRP_rest (p:Pt):∀b:List Bool,(gRP p b).2=b.drop (bN p):=by
 induction p using Pt.ind with
 | h p ih =>
  intro b;rw [gRP_iff,bN_iff]
  split
  ·rfl
  ·have : ∀(l:List Pt),(∀q∈l,q∈p.kids)→∀b:List Bool,(gRL l b).2=b.drop (bL l):=by
    intro l
    induction l with
    | nil=>intro _ b;rfl
    | cons q qs ihl=>intro h b;rw [gRL,ih q (h q (by simp)),ihl (fun x hx=>h x (by simp [hx])),List.drop_drop];rfl
   rw [this _ (fun q h=>h),List.drop_drop]
def applF (r:Rl):Bool:=implF r&&decide (r.imms=0)&&supF r.l&&supF r.r&&decide (gR r≤6)&&r.conds.all fun c=>decide (1≤c.kind∧c.kind≤4)
def ltB:List Bool→List Bool→Bool
 | [],[]=>false
 | [],_::_=>true
 | _::_,[]=>false
 | a::xs,b::ys=>if a=b then ltB xs ys else !a
def insB (x:List Bool):List (List Bool)→List (List Bool)
 | []=>[x]
 | y::ys=>if ltB y x then y::insB x ys else if y=x then y::ys else x::y::ys
def sortB (l:List (List Bool)):List (List Bool):=l.foldl (fun a x=>insB x a) []
def succsF (r:Rl) (k:Nat) (b:List Bool):List (List Bool):=(List.range (2 ^ r.vars.toNat)).map fun h=>succF k h.testBit r b
def lvl (r:Rl):Nat→List (List Bool)
 | 0=>sortB (initsF r)
 | k+1=>sortB ((lvl r k).flatMap (succsF r k))
def lvls (r:Rl) (n:Nat):List (Nat×List Bool):=(List.range n).flatMap fun k=>(lvl r k).map fun b=>(k,b)
def autF (r:Rl):Option (List (Nat×List Bool)):=if applF r=true∧(lvls r 65).length≤4096∧(lvl r 64).all (safeF r)=true then some (lvls r 65) else none
def bW (b:Bool):Int:=if b then 1 else 0
def shF (b:Int):Nat:=min (IntKind.u64.wrap (bits .and .i64 b 63)).toNat 64
def uW (x:Int):Nat:=(BitVec.ofInt 64 x).toNat
theorem uW_eq (x:Int):(uW x:Int)=x % 18446744073709551616:=by
 unfold uW;rw [BitVec.toNat_ofInt];have : (0:Int)≤x % ((2 ^ 64:Nat):Int):=Int.emod_nonneg _ (by decide);rw [Int.toNat_of_nonneg this];rfl
theorem uW_lt (x:Int):uW x<18446744073709551616:=by have:=uW_eq x;omega
theorem bI_eq (x:Int) (k:Nat):bI x k=(uW x).testBit k:=rfl
theorem wrap64_mod' (x:Int):IntKind.i64.wrap x % 18446744073709551616=x % 18446744073709551616:=by
 show (let m:=x % (2 ^ 64:Int);if true&&m ≥ (2 ^ 63:Int) then m - (2 ^ 64:Int) else m) % _=_;simp only [Bool.true_and,decide_eq_true_eq]
 split <;> omega
theorem uW_inj {x y:Int} (hx:I64 x) (hy:I64 y) (h:uW x=uW y):x=y:=by
 have h1:=uW_eq x;have h2:=uW_eq y;unfold I64 at hx hy;omega
def lo (x:Int) (k:Nat):Nat:=uW x % 2 ^ k
theorem bI_bv (v:BitVec 64) (k:Nat):bI (IntKind.i64.wrap v.toNat) k=v.getLsbD k:=by
 have h:uW (IntKind.i64.wrap v.toNat)=v.toNat:=by
  have h1:IntKind.i64.wrap (v.toNat:Int) % 18446744073709551616=(v.toNat:Int) % 18446744073709551616:=wrap64_mod' _;have h2:=uW_eq (IntKind.i64.wrap v.toNat);have h3:=v.isLt;omega
 rw [bI_eq,h];rfl
theorem bb_and (a b:Int) (k:Nat):bI (bits .and .i64 a b) k=(bI a k&&bI b k):=(bI_bv _ k).trans (BitVec.getLsbD_and ..)
theorem uW_u64 (x:Int):IntKind.u64.wrap x=(uW x:Int):=by
 rw [uW_eq];show (let m:=x % (2 ^ 64:Int);if false&&m ≥ (2 ^ 63:Int) then m - (2 ^ 64:Int) else m)=_;simp
theorem bI_bool (b:Bool) (k:Nat):bI (bW b) k=(decide (k=0)&&b):=by
 cases b
 ·rw [Bool.and_false];exact Nat.zero_testBit k
 ·rw [Bool.and_true];show (1:Nat).testBit k=_
  cases k with
  | zero=>rfl
  | succ k=>rw [Nat.testBit_succ];exact Nat.zero_testBit k
theorem word_ext {x y:Int} (hx:I64 x) (hy:I64 y) (h:∀k,k<64→bI x k=bI y k):x=y:=by
 refine uW_inj hx hy (Nat.eq_of_testBit_eq fun i=>?_);by_cases hi:i<64
 ·exact h i hi
 ·rw [Nat.testBit_lt_two_pow (Nat.lt_of_lt_of_le (uW_lt x) (Nat.pow_le_pow_right (n:=2) (by decide) (show 64≤i by omega))),Nat.testBit_lt_two_pow (Nat.lt_of_lt_of_le (uW_lt y) (Nat.pow_le_pow_right (n:=2) (by decide) (show 64≤i by omega)))]
end Go.Proofs.YtifhejahbbnkiaaGreat
