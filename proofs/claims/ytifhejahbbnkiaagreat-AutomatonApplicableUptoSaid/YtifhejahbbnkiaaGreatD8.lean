/-
  Lemmas and walks that the claim rests on, part 8 (packed by a program).
-/
import Derived.Test.YtifhejahbbnkiaaGreatD7
import Derived.Test.YtifhejahbbnkiaaGreatD2
namespace Go.Proofs.YtifhejahbbnkiaaGreat
open Go.RowKit
set_option maxRecDepth 100000 in
theorem aVarBit_c {w:World} {s k h:Nat} {c2 c3:Value} (hb:Blk w s 186 #[.int .i64 (k:Int),.int .i64 (h:Int),c2,c3]) (hh:h<18446744073709551616) {v:Int} (h1:1≤v) (h2:v≤64) :
  Calls Tryz.prog 133 #[pp s,.int .i64 v] w fun e w'=>e=.returned (.int .u8 (bW (h.testBit (v - 1).toNat)))∧w'=w:=by
 obtain ⟨vn,hvn⟩:∃n:Nat,v=(n:Int)+1:=⟨(v - 1).toNat,by omega⟩;subst hvn;rw [show ((vn:Int)+1 - 1).toNat=vn by omega];have hb8:=bit_u8 (h:Int) vn (by omega);rw [uW_small hh] at hb8;have x1:=hb.cell 1;obtain ⟨rb,Hrb⟩:=nm (h.testBit vn);rw [Hrb.out] at hb8 ⊢;have HB8:=h_ hb8;have hvn64:vn<64:=by omega
 clear hb8 hb;unfold pp;go_enter Tryz.func133,Tryz.ntmps133;go_wp2_with fail
 go_ret;exact ⟨by show Ending.returned (Value.int .u8 _)=_;rw [HB8.out],rfl⟩
structure AU (w:World) (F:Nat→Prop) (m:Nat) (r:Rl) (a:RlA) (L R:Nat) (GA:Option Addr) (gc:Nat) (gs:List Nat):Prop where
 blk:Blk w m 129 #[.string r.name,.int .i64 r.l.v,.int .i64 r.l.op,.int .i64 r.l.imm,.int .i64 r.l.iv,.slice a.la r.l.kids.length a.lc,.int .i64 r.r.v,.int .i64 r.r.op,.int .i64 r.r.imm,.int .i64 r.r.iv,.slice a.ra r.r.kids.length a.rc,.slice a.ca r.conds.length a.cc,.int .i64 r.vars,.int .i64 r.imms,pp L,pp R,.slice GA gs.length gc,.int .i64 ((bN r.l+bN r.r:Nat):Int),.int .i64 ((stN r:Nat):Int)]
 inF:F m
 cds:CondsV w F a.ca r.conds
 tl:OsT w F r.l 0 L
 tr:OsT w F r.r (bN r.l) R
 gds:Sl w F GA (gs.map pp)
theorem b8s_one (l:List Bool):∀v∈b8s l,v.oneCell'=true:=fun v hv=>by
 unfold b8s at hv;obtain ⟨b,_,rfl⟩:=List.mem_map.1 hv;rfl
structure NxOk (r:Rl):Prop where
 hl:supF r.l=true∧WfP 64 r.l∧r.l.size≤1000000
 hr:supF r.r=true∧WfP 64 r.r∧r.r.size≤1000000
 hc:∀c∈r.conds,(1≤c.kind∧c.kind≤4)∧1≤c.a∧c.a≤64∧(c.kind=4→1≤c.b∧c.b≤64)
theorem succF_pos {k:Nat} {ins:Nat→Bool} {r:Rl} (hr:NxOk r) {old:List Bool} (hl:old.length=stN r) :
  succF k ins r old=(nP k ins old r.l 0++nP k ins old r.r (bN r.l))++List.zipWith (cdBit k ins) r.conds (old.drop (bN r.l+bN r.r))++[old.getD (bN r.l+bN r.r+r.conds.length) false || (vP k ins old r.l 0 ^^ vP k ins old r.r (bN r.l))]:=by
 unfold stN at hl;have h1:=(bitP_pos (k:=k) (ins:=ins) (O:=old) hr.hl.1 (a:=0) (by omega)).1;have h2:=(bitP_pos (k:=k) (ins:=ins) (O:=old) hr.hr.1 (a:=bN r.l) (by omega)).1;rw [List.drop_zero,Nat.zero_add] at h1;unfold succF;rw [h1,h2]
 congr 3
 rw [List.getD_eq_getElem?_getD,List.getElem?_drop,List.getD_eq_getElem?_getD]
theorem spl_full {old m:List Bool} {i:Nat} (hm:m.length=i) (hl:old.length=i+1) (b:Bool):(spl old 0 m).set i b=m++[b]:=by
 unfold spl;rw [List.take_zero,List.nil_append,Nat.zero_add,List.set_append_right _ _ (by omega),hm,Nat.sub_self,List.drop_eq_getElem_cons (by omega),List.set_cons_zero,List.drop_of_length_le (by omega)]
set_option maxRecDepth 100000 in
set_option maxHeartbeats 16000000 in
theorem aNext_c {w:World} {F G:Nat→Prop} {m:Nat} {r:Rl} {a:RlA} {L R:Nat} {GA:Option Addr} {gc:Nat} {gs:List Nat} (hA:AU w F m r a L R GA gc gs) (hr:NxOk r) (hn:stN r≤100000)
  {BA:Option Addr} {bc k h:Nat} {old:List Bool} (hB:Sl w G BA (b8s old)) (hbl:old.length=stN r) (hbc:old.length≤bc) (hk:k<64) (hh:h<18446744073709551616) :
  Calls Tryz.prog 72 #[pp m,.slice BA old.length bc,.int .i64 k,.int .i64 h] w fun e w'=>∃A c,e=.returned (.slice A (stN r) c)∧Own w' 5 1 A (stN r) c (b8s (succF k h.testBit r old))∧(∀i,At A i→w.heap.size≤i)∧Upd Non w w':=by
 have hst:stN r=bN r.l+bN r.r+r.conds.length+1:=rfl;obtain ⟨n,Hn⟩:=nm (stN r);rw [Hn.out] at hn hbl hst;have hbl2:(b8s old).length=n * 1:=by rw [b8s_len,hbl];omega
 have HA:=h_ hA;have HB:=h_ hB;have HB1:=h_ (b8s_one old);have hn12:n≤100000:=hn;rw [hbl,Hn.out];rw [hbl] at hbc;have HBL:=h_ hbl;have HB2:=h_ hbl2;have HST:=h_ hst;clear hbl hbl2 hB hA hst hn;go_enter Tryz.func72,Tryz.ntmps72;unfold pp
 go_wp2_with (at_builtin;refine wpList_app rfl rfl T_u8s rfl Own.none_ rfl HB.out HB2.out HB1.out (by simp only [maxLen];omega) (by omega) ?_)
 intro A8 c8 w8 ho8 hu8 hat8;have hn0:0<n:=by have:=HST.out;omega
 obtain ⟨g,rfl⟩:=ho8.some_ (by omega)
 have hgw:w.heap.size≤g:=by
  rcases hat8 g (At.some_.2 rfl) with q | q
  ·exact absurd q At.none_
  ·omega
 have hg8:g<w8.heap.size:=ho8.lt (At.some_.2 rfl);have u8':Upd Non w w8:=hu8.mono (fun _ _ q=>(At.none_ q).elim);obtain ⟨W,HW⟩:=nm (w8.alloc (.cells #[.int .i64 (k:Int),.int .i64 (h:Int),.slice BA n bc,.slice (some ⟨g,0,none⟩) n c8] 186));obtain ⟨s,hs⟩:∃s,w8.heap.size=s:=⟨_,rfl⟩;have u1:Upd Non w8 W:=by rw [←HW.out];exact Upd.refl.alloc _
 have hsb:Blk W s 186 #[.int .i64 (k:Int),.int .i64 (h:Int),.slice BA n bc,.slice (some ⟨g,0,none⟩) n c8]:=by rw [←HW.out,←hs];exact Blk.new _ _ _
 have e0:=HW.out;have uW:Upd Non w W:=u8'.then_non u1
 have HT:Hid (TrS W (fun i=>i<w.heap.size) s k h BA bc g c8 old old):=by
  have e:=HBL.out;refine ⟨?_,((HB.out.mono (G:=fun i=>i<w.heap.size) (fun i hi _=>hi)).upd uW (fun _ _ _ f=>f)),?_,rfl,fun i hi e=>by omega,by rw [e];exact hbc⟩
  ·rw [e];exact hsb
  ·rw [e];exact ho8.upd u1 (fun _ _ f=>f)
 have HAW:Hid (AU W (fun i=>i<w.heap.size) m r a L R GA gc gs):=by
  obtain ⟨a1,a2,a3,a4,a5,a6⟩:=HA.out;exact ⟨a1.upd uW (fun f=>f),a1.lt,(a3.mono (G:=fun i=>i<w.heap.size) (fun i hi _=>hi)).upd uW (fun _ _ _ f=>f),OsT.upd uW (fun _ _ _ f=>f) (fun i hi _=>hi) _ _ _ a4,OsT.upd uW (fun _ _ _ f=>f) (fun i hi _=>hi) _ _ _ a5,(a6.mono (G:=fun i=>i<w.heap.size) (fun i hi _=>hi)).upd uW (fun _ _ _ f=>f)⟩
 have hws:w.heap.size≤s:=by rw [←hs];exact u8'.size
 have hsz8:=uW.size;have hnl:=(bitP_pos (k:=k) (ins:=h.testBit) (O:=old) hr.hl.1 (a:=0) (by have:=HBL.out;have:=HST.out;omega)).2;have hnr:=(bitP_pos (k:=k) (ins:=h.testBit) (O:=old) hr.hr.1 (a:=bN r.l) (by have:=HBL.out;have:=HST.out;omega)).2;have hsg:s≠g:=by omega
 have C1:=h_ (fun (W':World) (u:Upd Non W W')=>aTBit_c (F:=fun i=>i<w.heap.size) hk hh (by have:=HBL.out;omega) (show ¬s<w.heap.size by omega) r.l W' old 0 L hr.hl.1 hr.hl.2.1 hr.hl.2.2 (OsT.upd u (fun _ _ _ f=>f) (fun _ _ q=>q) _ _ _ HAW.out.tl) (HT.out.upd u (fun f=>f) (fun f=>f) (fun _ _ _ f=>f)) (fun i hi=>by have:=u.size;omega) (by have:=HBL.out;have:=HST.out;omega) (fun _ _ _=>rfl))
 have C2:=h_ (fun (W':World) (u:Upd (·=g) W W') (T:TrS W' (fun i=>i<w.heap.size) s k h BA bc g c8 old (spl old 0 (nP k h.testBit old r.l 0)))=>aTBit_c (F:=fun i=>i<w.heap.size) hk hh (by have:=HBL.out;omega) (show ¬s<w.heap.size by omega) r.r W' _ (bN r.l) R hr.hr.1 hr.hr.2.1 hr.hr.2.2 (OsT.upd u (fun i _ hi e=>by omega) (fun _ _ q=>q) _ _ _ HAW.out.tr) T (fun i hi=>by have:=u.size;omega) (by have:=HBL.out;have:=HST.out;omega) (fun i hi _=>by rw [spl_at (by rw [hnl];have:=HBL.out;have:=HST.out;omega) (.inr (by omega))]))
 have x14:=HAW.out.blk.cell 14;have x15:=HAW.out.blk.cell 15;have HLT:Hid (∀x,x<w.heap.size→x≠g):=fun x hx e=>by omega
 have HM:Hid (m<w.heap.size):=HAW.out.inF;have HU:=h_ uW;unfold pp at C1 C2 x14 x15;clear hu8 hat8 ho8 u8' u1 hsb HW uW HB HA HB1 HB2;go_wp2_with fail
 obtain ⟨wD,HwD⟩:=nm W.drew;have uD:Upd Non W wD:=by rw [←HwD.out];exact Upd.refl.drew
 refine wp_region_held_drew (S:=fun w'=>w'.cell? ⟨m,14,none⟩=some (.pointer (some ⟨L,0,none⟩))∧w'.cell? ⟨m,15,none⟩=some (.pointer (some ⟨R,0,none⟩))) (by kernel_rfl) ⟨x14,x15⟩ (fun hHeld=>?_)
 rw [HwD.out] at hHeld ⊢;refine wpT 0 ?_;(try simp only [y_,z_]);refine wpT 1 ?_;(try simp only [y_,z_]);refine wpT 2 ?_;(try simp only [y_,z_]);refine wpT 3 ?_;(try simp only [y_,z_]);refine wpT 4 ?_;(try simp only [y_,z_]);refine wpT 6 ?_;(try simp only [y_,z_]);refine wpT 7 ?_;(try simp only [y_,z_]);refine wpT 8 ?_;(try simp only [y_,z_]);refine wpT 9 ?_;(try simp only [y_,z_]);refine wpT 10 ?_;(try simp only [y_,z_]);refine aR_ (rs:=[5]) (by kernel_rfl) (by simp) ?_;refine aC_ rfl (fun K hK=>?_) aN_;go_simp;refine (C1.out wD uD).mono ?_;rintro e w3 ⟨rfl,T3,U3⟩;have uD3:Upd (·=g) W w3:=(uD.mono (fun _ _ f=>f.elim)).trans U3 (fun _ _ q=>q);have HT3:=h_ T3;have HU3:=h_ uD3;clear T3 U3;unfold b8;go_wp2_with fail
 refine hK.out _ _ ?_ (fun hHeld=>?_)
 ·exact ⟨u_ (S:=(·=g)) x14 HU3.out (HLT.out m HM.out),u_ (S:=(·=g)) x15 HU3.out (HLT.out m HM.out)⟩
 clear hK K;(try simp only [y_,z_]);refine aR_ (rs:=[11]) (by kernel_rfl) (by simp) ?_;refine aC_ rfl (fun K hK=>?_) aN_;go_simp;refine (C2.out w3 HU3.out HT3.out).mono ?_;rintro e w4 ⟨rfl,T4,U4⟩;have HT4:=h_ T4;have HU4:Hid (Upd (·=g) W w4):=uD3.trans U4 (fun _ _ q=>q);clear T4 U4 uD3;unfold b8;go_wp2_with fail
 refine hK.out _ _ ?_ (fun hHeld=>?_)
 ·exact ⟨u_ (S:=(·=g)) x14 HU4.out (HLT.out m HM.out),u_ (S:=(·=g)) x15 HU4.out (HLT.out m HM.out)⟩
 clear hK K;(try simp only [y_,z_]);refine wpT 12 ?_;(try simp only [y_,z_]);refine wpT 13 ?_;(try simp only [y_,z_]);refine aD_ (by kernel_rfl) ?_ _
 have hsp:spl (spl old 0 (nP k h.testBit old r.l 0)) (bN r.l) (nP k h.testBit old r.r (bN r.l))=spl old 0 (nP k h.testBit old r.l 0++nP k h.testBit old r.r (bN r.l)):=by
  have e:=spl_spl (N:=old) (a:=0) (m1:=nP k h.testBit old r.l 0) (m2:=nP k h.testBit old r.r (bN r.l)) (by have:=HBL.out;have:=HST.out;omega);rw [hnl,Nat.zero_add] at e;exact e
 rw [hsp] at HT4;obtain ⟨N2,HN2⟩:=nm (nP k h.testBit old r.l 0++nP k h.testBit old r.r (bN r.l));have hN2:N2.length=bN r.l+bN r.r:=by rw [←HN2.out,List.length_append,hnl,hnr]
 rw [HN2.out] at HT4;obtain ⟨bl,Hbl⟩:=nm (vP k h.testBit old r.l 0);obtain ⟨br,Hbr⟩:=nm (vP k h.testBit old r.r (bN r.l));rw [Hbl.out,Hbr.out];have HM4:=h_ (HAW.out.blk.upd HU4.out (HLT.out m HM.out));have x11:=HM4.out.cell 11;have HM17:=h_ (HM4.out.cell 17);have HM18:=h_ (HM4.out.cell 18);have HCD:=h_ (HAW.out.cds.upd HU4.out (fun i hi hi2=>HLT.out i hi2));obtain ⟨CA,hCA⟩:∃x,a.ca=x:=⟨_,rfl⟩;rw [hCA] at x11 HCD;clear hCA;obtain ⟨nc,Hnc⟩:=nm r.conds.length;rw [Hnc.out] at x11;obtain ⟨cn,hcn⟩:∃c,bN r.l+bN r.r=c:=⟨_,rfl⟩;rw [hcn] at HM17 hN2;rw [Hn.out] at HM18;have HSN:Hid (n=cn+nc+1):=by have:=HST.out;rw [Hnc.out,hcn] at this;exact this
 obtain ⟨CL,HCL⟩:=nm (List.zipWith (cdBit k h.testBit) r.conds (old.drop cn));have hCL:CL.length=nc:=by rw [←HCL.out,List.length_zipWith,List.length_drop,Hnc.out];have:=HBL.out;have:=HSN.out;omega
 have HCG:Hid (∀j (hj:j<r.conds.length),CL.take (j+1)=CL.take j++[cdBit k h.testBit r.conds[j] (old.getD (cn+j) false)]):=fun j hj=>by
  have hj2:j<CL.length:=by rw [hCL,←Hnc.out];exact hj
  have hj3:cn+j<old.length:=by have:=HBL.out;have:=HSN.out;have:=Hnc.out;omega
  rw [List.take_succ_eq_append_getElem hj2]
  congr 2
  simp only [←HCL.out,List.getElem_zipWith,List.getElem_drop];rw [List.getD_eq_getElem?_getD,List.getElem?_eq_getElem hj3];rfl
 have HCN:=h_ hCL;have HN2L:=h_ hN2;clear C1 C2 x14 x15 hHeld hsp uD hN2 hCL hnl hnr;have hcn12:cn+nc+1≤100000:=by have:=HSN.out;omega
 go_wp2_with fail
 go_loopg [12,13,14,40] nc (fun gg _ _ _ i wr=>∃j:Nat,Hid (gg=nc - j)∧j≤nc∧i=.int .i64 j∧Hid (TrS wr (fun i=>i<w.heap.size) s k h BA bc g c8 old (spl old 0 (N2++CL.take j)))∧Hid (Upd (·=g) w4 wr))
 case atStart=>exact ⟨0,rfl,by omega,rfl,by rw [List.take_zero,List.append_nil];exact HT4.out,Upd.refl⟩
 case round =>
  obtain ⟨j,Hg,hj,rfl,HTr,HUr⟩:=hrel;by_cases hlt:j<nc
  ·have hjl:j<r.conds.length:=by rw [Hnc.out];exact hlt
   obtain ⟨b,o,rfl,_,hbw,c0,c1,c2,c3⟩:=(HCD.out.upd HUr.out (fun i hi hi2=>HLT.out i hi2)).at_ hjl;have hst:=HCG.out j hjl;have hcc:=hr.hc _ (List.getElem_mem hjl);generalize r.conds[j]=c at *;have HST2:=h_ hst;obtain ⟨cb,hcb⟩:∃b,wr.heap.size=b:=⟨_,rfl⟩;obtain ⟨W5,HW5⟩:=nm (wr.alloc (.cells #[.int .i64 c.kind,.int .i64 c.a,.int .i64 c.b,.int .i64 c.n] 102));have u5:Upd Non wr W5:=by rw [←HW5.out];exact Upd.refl.alloc _
   have b5:Blk W5 cb 102 #[.int .i64 c.kind,.int .i64 c.a,.int .i64 c.b,.int .i64 c.n]:=by rw [←HW5.out,←hcb];exact Blk.new _ _ _
   have e5:=HW5.out;have HT5:=h_ (HTr.out.upd u5 (fun f=>f) (fun f=>f) (fun _ _ _ f=>f));have HM5:=h_ ((HM4.out.upd HUr.out (HLT.out m HM.out)).upd u5 (fun f=>f));have HU5:Hid (Upd (·=g) w4 W5):=HUr.out.trans u5 (fun _ _ f=>f.elim);have hlenJ:(N2++CL.take j).length=cn+j:=by rw [List.length_append,List.length_take,HN2L.out,HCN.out];omega
   have hbnd:0+(N2++CL.take j).length≤old.length:=by rw [hlenJ];have:=HBL.out;have:=HSN.out;omega
   obtain ⟨Nj,HNj⟩:=nm (spl old 0 (N2++CL.take j));have hNjl:Nj.length=n:=by rw [←HNj.out,spl_len hbnd];exact HBL.out
   have hNjg:Nj.getD (cn+j) false=old.getD (cn+j) false:=by rw [←HNj.out,spl_at hbnd (.inr (by omega))]
   have HST3:Hid (spl old 0 (N2++CL.take (j+1))=Nj.set (cn+j) (cdBit k h.testBit c (old.getD (cn+j) false))):=by
    show _=_;rw [hst,spl_one _ (by rw [hNjl];have:=HSN.out;omega),←HNj.out];have e:=spl_spl (N:=old) (a:=0) (m1:=N2++CL.take j) (m2:=[cdBit k h.testBit c (old.getD (cn+j) false)]) (by rw [hlenJ,List.length_singleton];have:=HBL.out;have:=HSN.out;omega)
    rw [hlenJ,Nat.zero_add] at e;rw [e,List.append_assoc]
   rw [HNj.out] at HT5;obtain ⟨om,Hom⟩:=nm (old.getD (cn+j) false);rw [Hom.out] at hNjg HST3
   have hcg:W5.cell? ⟨g,cn+j,none⟩=some (.int .u8 (bW om)):=by
    have hl:cn+j<Nj.length:=by rw [hNjl];have:=HSN.out;omega
    rw [HT5.out.own.cell_ (i:=cn+j) (by rw [b8s_len];exact hl)];have:=b8s_get (l:=Nj) (i:=cn+j) hl;rw [List.getElem?_eq_getElem (by rw [b8s_len];exact hl),hNjg] at this;exact this
   have hfg:=HT5.out.own.frozen_ (cn+j);have hbs:Blk W5 s 186 #[.int .i64 (k:Int),.int .i64 (h:Int),.slice BA n bc,.slice (some ⟨g,0,none⟩) n c8]:=by have:=HT5.out.blk;rw [HBL.out,hNjl] at this;exact this
   have x3:=hbs.cell 3;have y17:=HM5.out.cell 17;rw [hcn] at y17;have HB5:=h_ b5;have z0:=b5.cell 0;have z1:=b5.cell 1;have z2:=b5.cell 2;have z3:=b5.cell 3;have j0:(0:Int)≤(j:Int):=by omega
   have jn:(j:Int)<(nc:Int):=by omega
   have q1:IntKind.i64.wrap ((cn:Int)+(j:Int))=(cn:Int)+(j:Int):=i64w_of (by unfold I64;omega);have q2:(0:Int)≤(cn:Int)+(j:Int):=by omega
   have q3:(cn:Int)+(j:Int)<(n:Int):=by have:=HSN.out;omega
   have q4:((cn:Int)+(j:Int)).toNat=cn+j:=by omega
   have hsb:=hbs;have A8:=and8;have O8:=or8;have X8:=xor8;have HA1:=h_ hcc.2.1;have HA2:=h_ hcc.2.2.1;have HA3:=h_ hcc.2.2.2;have hkk:c.kind=1∨c.kind=2∨c.kind=3∨c.kind=4:=by have:=hcc.1;omega
   have CV1:=h_ (fun (W:World) (q:Blk W s 186 #[.int .i64 (k:Int),.int .i64 (h:Int),.slice BA n bc,.slice (some ⟨g,0,none⟩) n c8])=>aVarBit_c q hh HA1.out HA2.out)
   have CB:=h_ (fun W=>aBit_c c.n k hk W);obtain ⟨ra,Hra⟩:=nm (h.testBit (c.a - 1).toNat);rw [Hra.out] at CV1;obtain ⟨rn,Hrn⟩:=nm (bI c.n k);rw [Hrn.out] at CB;clear hst hlenJ hbnd hNjl hNjg b5 u5 hcc;rcases hkk with e | e | e | e
   ·obtain ⟨nb,Hnb⟩:=nm (om || ra);have HCB:Hid (cdBit k h.testBit c om=nb):=by show _=_;rw [←Hnb.out,←Hra.out];unfold cdBit;rw [if_pos e]
    rw [e] at z0 e5;have hnb:=Hnb.out;go_wp2_with fail
    refine wp_region_held_drew (S:=fun w'=>w'.cell? ⟨s,3,none⟩=some (.slice (some ⟨g,0,none⟩) n c8)∧w'.cell? ⟨m,17,none⟩=some (.int .i64 (cn:Int))) (by kernel_rfl) ⟨x3,y17⟩ (fun hHeld=>?_)
    refine wpT 0 ?_;(try simp only [y_,z_]);refine wpT 1 ?_;(try simp only [y_,z_]);refine wpT 2 ?_;(try simp only [y_,z_]);refine wpT 3 ?_;(try simp only [y_,z_]);refine wpT 4 ?_;(try simp only [y_,z_]);refine wpT 5 ?_;(try simp only [y_,z_]);refine wpT 6 ?_;(try simp only [y_,z_]);refine wpT 7 ?_;(try simp only [y_,z_]);refine wpT 8 ?_;(try simp only [y_,z_]);refine wpT 9 ?_;(try simp only [y_,z_]);refine wpT 10 ?_;(try simp only [y_,z_]);refine wpT 11 ?_;(try simp only [y_,z_]);refine aD_ (by kernel_rfl) ?_ _;clear hHeld;go_wp2_with fail
    have uS:=updCell W5 g (cn+j) (b8 nb);have hcbg:cb≠g:=by have:=HTr.out.own.lt (At.some_.2 rfl);omega
    have SB:=h_ (hsb.upd uS hsg);have Z1:=h_ (u_ (S:=(·=g)) z1 uS hcbg);have Z2:=h_ (u_ (S:=(·=g)) z2 uS hcbg);have Z3:=h_ (u_ (S:=(·=g)) z3 uS hcbg);refine wp_region_held_drew (S:=fun w'=>Blk w' s 186 #[.int .i64 (k:Int),.int .i64 (h:Int),.slice BA n bc,.slice (some ⟨g,0,none⟩) n c8]∧w'.cell? ⟨cb,1,none⟩=some (.int .i64 c.a)∧w'.cell? ⟨cb,2,none⟩=some (.int .i64 c.b)∧w'.cell? ⟨cb,3,none⟩=some (.int .i64 c.n)) (by kernel_rfl) ⟨hsb,z1,z2,z3⟩ (fun hHeld=>?_)
    refine wpT 0 ?_;(try simp only [y_,z_]);refine wpT 1 ?_;(try simp only [y_,z_]);refine wpT 3 ?_;(try simp only [y_,z_]);refine wpT 4 ?_;(try simp only [y_,z_]);refine wpT 5 ?_;(try simp only [y_,z_]);refine wpAnyH_takeC (i:=6) (v:=?v1) rfl (by kernel_rfl) (by kernel_rfl) (by kernel_rfl) (fun _ _ _ h=>h) ⟨by rfl,?f1,?a1,?r1,?c1⟩ (by assumption) ?m1
    case r1=>intro w;go_simp;constructor <;> with_reducible rfl
    case c1=>intro W hSw;refine (CV1.out W hSw.1).mono ?_;rintro e w' ⟨rfl,rfl⟩;constructor <;> with_reducible rfl
    (try simp only [y_,z_]);refine wpAnyH_takeM (fun w'=>w'.cell? ⟨g,cn+j,none⟩=some (.int .u8 (bW om))) (calm_cell _ _) [7,8,9] (i:=2) (v:=?_) rfl (by kernel_rfl) (by kernel_rfl) (by kernel_rfl) (by kernel_rfl) (fun _ _ _ h=>h) (Or.inl ⟨by rfl,?_⟩) (hcg) (by assumption) ?_
    rotate_left
    ·intro w hSw;(try dsimp only at hSw);go_simp;try with_reducible rfl
    (try simp only [y_,z_]);refine wpT 7 ?_;(try simp only [y_,z_]);refine wpT 8 ?_;(try simp only [y_,z_]);refine aR_ (rs:=[9]) (by kernel_rfl) (by simp) ?_;refine aC_ rfl (fun K hK=>?_) aN_;go_simp;refine hK.out _ _ ?_ (fun hHeld=>?_)
    ·exact ⟨SB.out,Z1.out,Z2.out,Z3.out⟩
    clear hK K;(try simp only [y_,z_]);refine aD_ (by kernel_rfl) ?_ _;go_wp2_with fail
    go_roundg (nc - (j+1))
    case measure=>rw [Hg.out];omega
    case rel=>exact ⟨j+1,rfl,by omega,by go_num,by rw [HST3.out,HCB.out];exact (HT5.out.set (cn+j) nb).upd (S:=Non) (Upd.refl.drewN 2) (fun f=>f) (fun f=>f) (fun _ _ _ f=>f),(HU5.out.trans uS (fun _ _ q=>q)).drewN 2⟩
   ·obtain ⟨nb,Hnb⟩:=nm (ordB om rn ra (decide (k=63)));have HCB:Hid (cdBit k h.testBit c om=nb):=by show _=_;rw [←Hnb.out,←Hra.out,←Hrn.out];unfold cdBit;rw [if_neg (by omega),if_neg (by omega),if_pos e]
    rw [e] at z0 e5;have CO:=h_ (fun W=>aOrderFlag_c om rn ra (decide (k=63)) W);rw [Hnb.out] at CO;have T63:Hid (((k:Int)==63)=decide (k=63)):=by show _=_;rw [Bool.eq_iff_iff];simp;omega
    go_wp2_with fail
    refine wp_region_held_drew (S:=fun w'=>w'.cell? ⟨s,3,none⟩=some (.slice (some ⟨g,0,none⟩) n c8)∧w'.cell? ⟨m,17,none⟩=some (.int .i64 (cn:Int))) (by kernel_rfl) ⟨x3,y17⟩ (fun hHeld=>?_)
    refine wpT 0 ?_;(try simp only [y_,z_]);refine wpT 1 ?_;(try simp only [y_,z_]);refine wpT 2 ?_;(try simp only [y_,z_]);refine wpT 3 ?_;(try simp only [y_,z_]);refine wpT 4 ?_;(try simp only [y_,z_]);refine wpT 5 ?_;(try simp only [y_,z_]);refine wpT 6 ?_;(try simp only [y_,z_]);refine wpT 7 ?_;(try simp only [y_,z_]);refine wpT 8 ?_;(try simp only [y_,z_]);refine wpT 9 ?_;(try simp only [y_,z_]);refine wpT 10 ?_;(try simp only [y_,z_]);refine wpT 11 ?_;(try simp only [y_,z_]);refine aD_ (by kernel_rfl) ?_ _;clear hHeld;go_wp2_with fail
    have uS:=updCell W5 g (cn+j) (b8 nb);have hcbg:cb≠g:=by have:=HTr.out.own.lt (At.some_.2 rfl);omega
    have SB:=h_ (hsb.upd uS hsg);have Z1:=h_ (u_ (S:=(·=g)) z1 uS hcbg);have Z2:=h_ (u_ (S:=(·=g)) z2 uS hcbg);have Z3:=h_ (u_ (S:=(·=g)) z3 uS hcbg);refine wp_region_held_drew (S:=fun w'=>Blk w' s 186 #[.int .i64 (k:Int),.int .i64 (h:Int),.slice BA n bc,.slice (some ⟨g,0,none⟩) n c8]∧w'.cell? ⟨cb,1,none⟩=some (.int .i64 c.a)∧w'.cell? ⟨cb,2,none⟩=some (.int .i64 c.b)∧w'.cell? ⟨cb,3,none⟩=some (.int .i64 c.n)) (by kernel_rfl) ⟨hsb,z1,z2,z3⟩ (fun hHeld=>?_)
    refine wpT 0 ?_;(try simp only [y_,z_]);refine wpT 1 ?_;(try simp only [y_,z_]);refine wpT 2 ?_;(try simp only [y_,z_]);refine wpT 4 ?_;(try simp only [y_,z_]);refine wpT 5 ?_;(try simp only [y_,z_]);refine wpT 6 ?_;(try simp only [y_,z_]);refine wpT 8 ?_;(try simp only [y_,z_]);refine wpT 9 ?_;(try simp only [y_,z_]);refine wpT 10 ?_;(try simp only [y_,z_]);refine wpAnyH_takeC (i:=7) (v:=?v2) rfl (by kernel_rfl) (by kernel_rfl) (by kernel_rfl) (fun _ _ _ h=>h) ⟨by rfl,?f2,?a2,?r2,?c2⟩ (by assumption) ?m2
    case r2=>intro w;go_simp;constructor <;> with_reducible rfl
    case c2=>intro W hSw;refine (CB.out W).mono ?_;rintro e w' ⟨rfl,rfl⟩;constructor <;> with_reducible rfl
    (try simp only [y_,z_]);refine wpAnyH_takeC (i:=11) (v:=?v3) rfl (by kernel_rfl) (by kernel_rfl) (by kernel_rfl) (fun _ _ _ h=>h) ⟨by rfl,?f3,?a3,?r3,?c3⟩ (by assumption) ?m3
    case r3=>intro w;go_simp;constructor <;> with_reducible rfl
    case c3=>intro W hSw;refine (CV1.out W hSw.1).mono ?_;rintro e w' ⟨rfl,rfl⟩;constructor <;> with_reducible rfl
    (try simp only [y_,z_]);refine wpT 12 ?_;(try simp only [y_,z_]);have t63:=T63.out;refine wpT 13 ?_;(try simp only [y_,z_]);clear t63;refine wpAnyH_takeM (fun w'=>w'.cell? ⟨g,cn+j,none⟩=some (.int .u8 (bW om))) (calm_cell _ _) [14,15,16] (i:=3) (v:=?_) rfl (by kernel_rfl) (by kernel_rfl) (by kernel_rfl) (by kernel_rfl) (fun _ _ _ h=>h) (Or.inl ⟨by rfl,?_⟩) (hcg) (by assumption) ?_
    rotate_left
    ·intro w hSw;(try dsimp only at hSw);go_simp;try with_reducible rfl
    (try simp only [y_,z_]);refine aR_ (rs:=[14]) (by kernel_rfl) (by simp) ?_;refine aC_ rfl (fun K hK=>?_) aN_;go_simp;refine (CO.out _).mono ?_;rintro e w' ⟨rfl,rfl⟩;go_wp2_with fail
    refine hK.out _ _ ?_ (fun hHeld=>?_)
    ·exact hHeld
    clear hK K;(try simp only [y_,z_]);refine wpT 15 ?_;(try simp only [y_,z_]);refine aR_ (rs:=[16]) (by kernel_rfl) (by simp) ?_;refine aC_ rfl (fun K hK=>?_) aN_;go_simp;refine hK.out _ _ ?_ (fun hHeld=>?_)
    ·exact ⟨SB.out,Z1.out,Z2.out,Z3.out⟩
    clear hK K;(try simp only [y_,z_]);refine aD_ (by kernel_rfl) ?_ _;go_wp2_with fail
    go_roundg (nc - (j+1))
    case measure=>rw [Hg.out];omega
    case rel=>exact ⟨j+1,rfl,by omega,by go_num,by rw [HST3.out,HCB.out];exact (HT5.out.set (cn+j) nb).upd (S:=Non) (Upd.refl.drewN 2) (fun f=>f) (fun f=>f) (fun _ _ _ f=>f),(HU5.out.trans uS (fun _ _ q=>q)).drewN 2⟩
   ·obtain ⟨nb,Hnb⟩:=nm (ordB om ra rn (decide (k=63)));have HCB:Hid (cdBit k h.testBit c om=nb):=by show _=_;rw [←Hnb.out,←Hra.out,←Hrn.out];unfold cdBit;rw [if_neg (by omega),if_neg (by omega),if_neg (by omega),if_pos e]
    rw [e] at z0 e5;have CO:=h_ (fun W=>aOrderFlag_c om ra rn (decide (k=63)) W);rw [Hnb.out] at CO;have T63:Hid (((k:Int)==63)=decide (k=63)):=by show _=_;rw [Bool.eq_iff_iff];simp;omega
    go_wp2_with fail
    refine wp_region_held_drew (S:=fun w'=>w'.cell? ⟨s,3,none⟩=some (.slice (some ⟨g,0,none⟩) n c8)∧w'.cell? ⟨m,17,none⟩=some (.int .i64 (cn:Int))) (by kernel_rfl) ⟨x3,y17⟩ (fun hHeld=>?_)
    refine wpT 0 ?_;(try simp only [y_,z_]);refine wpT 1 ?_;(try simp only [y_,z_]);refine wpT 2 ?_;(try simp only [y_,z_]);refine wpT 3 ?_;(try simp only [y_,z_]);refine wpT 4 ?_;(try simp only [y_,z_]);refine wpT 5 ?_;(try simp only [y_,z_]);refine wpT 6 ?_;(try simp only [y_,z_]);refine wpT 7 ?_;(try simp only [y_,z_]);refine wpT 8 ?_;(try simp only [y_,z_]);refine wpT 9 ?_;(try simp only [y_,z_]);refine wpT 10 ?_;(try simp only [y_,z_]);refine wpT 11 ?_;(try simp only [y_,z_]);refine aD_ (by kernel_rfl) ?_ _;clear hHeld;go_wp2_with fail
    have uS:=updCell W5 g (cn+j) (b8 nb);have hcbg:cb≠g:=by have:=HTr.out.own.lt (At.some_.2 rfl);omega
    have SB:=h_ (hsb.upd uS hsg);have Z1:=h_ (u_ (S:=(·=g)) z1 uS hcbg);have Z2:=h_ (u_ (S:=(·=g)) z2 uS hcbg);have Z3:=h_ (u_ (S:=(·=g)) z3 uS hcbg);refine wp_region_held_drew (S:=fun w'=>Blk w' s 186 #[.int .i64 (k:Int),.int .i64 (h:Int),.slice BA n bc,.slice (some ⟨g,0,none⟩) n c8]∧w'.cell? ⟨cb,1,none⟩=some (.int .i64 c.a)∧w'.cell? ⟨cb,2,none⟩=some (.int .i64 c.b)∧w'.cell? ⟨cb,3,none⟩=some (.int .i64 c.n)) (by kernel_rfl) ⟨hsb,z1,z2,z3⟩ (fun hHeld=>?_)
    refine wpT 0 ?_;(try simp only [y_,z_]);refine wpT 1 ?_;(try simp only [y_,z_]);refine wpT 2 ?_;(try simp only [y_,z_]);refine wpT 4 ?_;(try simp only [y_,z_]);refine wpT 5 ?_;(try simp only [y_,z_]);refine wpT 6 ?_;(try simp only [y_,z_]);refine wpT 8 ?_;(try simp only [y_,z_]);refine wpT 9 ?_;(try simp only [y_,z_]);refine wpT 10 ?_;(try simp only [y_,z_]);refine wpAnyH_takeC (i:=7) (v:=?v4) rfl (by kernel_rfl) (by kernel_rfl) (by kernel_rfl) (fun _ _ _ h=>h) ⟨by rfl,?f4,?a4,?r4,?c4⟩ (by assumption) ?m4
    case r4=>intro w;go_simp;constructor <;> with_reducible rfl
    case c4=>intro W hSw;refine (CV1.out W hSw.1).mono ?_;rintro e w' ⟨rfl,rfl⟩;constructor <;> with_reducible rfl
    (try simp only [y_,z_]);refine wpAnyH_takeC (i:=11) (v:=?v5) rfl (by kernel_rfl) (by kernel_rfl) (by kernel_rfl) (fun _ _ _ h=>h) ⟨by rfl,?f5,?a5,?r5,?c5⟩ (by assumption) ?m5
    case r5=>intro w;go_simp;constructor <;> with_reducible rfl
    case c5=>intro W hSw;refine (CB.out W).mono ?_;rintro e w' ⟨rfl,rfl⟩;constructor <;> with_reducible rfl
    (try simp only [y_,z_]);refine wpT 12 ?_;(try simp only [y_,z_]);have t63:=T63.out;refine wpT 13 ?_;(try simp only [y_,z_]);clear t63;refine wpAnyH_takeM (fun w'=>w'.cell? ⟨g,cn+j,none⟩=some (.int .u8 (bW om))) (calm_cell _ _) [14,15,16] (i:=3) (v:=?_) rfl (by kernel_rfl) (by kernel_rfl) (by kernel_rfl) (by kernel_rfl) (fun _ _ _ h=>h) (Or.inl ⟨by rfl,?_⟩) (hcg) (by assumption) ?_
    rotate_left
    ·intro w hSw;(try dsimp only at hSw);go_simp;try with_reducible rfl
    (try simp only [y_,z_]);refine aR_ (rs:=[14]) (by kernel_rfl) (by simp) ?_;refine aC_ rfl (fun K hK=>?_) aN_;go_simp;refine (CO.out _).mono ?_;rintro e w' ⟨rfl,rfl⟩;go_wp2_with fail
    refine hK.out _ _ ?_ (fun hHeld=>?_)
    ·exact hHeld
    clear hK K;(try simp only [y_,z_]);refine wpT 15 ?_;(try simp only [y_,z_]);refine aR_ (rs:=[16]) (by kernel_rfl) (by simp) ?_;refine aC_ rfl (fun K hK=>?_) aN_;go_simp;refine hK.out _ _ ?_ (fun hHeld=>?_)
    ·exact ⟨SB.out,Z1.out,Z2.out,Z3.out⟩
    clear hK K;(try simp only [y_,z_]);refine aD_ (by kernel_rfl) ?_ _;go_wp2_with fail
    go_roundg (nc - (j+1))
    case measure=>rw [Hg.out];omega
    case rel=>exact ⟨j+1,rfl,by omega,by go_num,by rw [HST3.out,HCB.out];exact (HT5.out.set (cn+j) nb).upd (S:=Non) (Upd.refl.drewN 2) (fun f=>f) (fun f=>f) (fun _ _ _ f=>f),(HU5.out.trans uS (fun _ _ q=>q)).drewN 2⟩
   ·have CV2:=h_ (fun (W:World) (q:Blk W s 186 #[.int .i64 (k:Int),.int .i64 (h:Int),.slice BA n bc,.slice (some ⟨g,0,none⟩) n c8])=>aVarBit_c q hh (HA3.out e).1 (HA3.out e).2)
    obtain ⟨rb,Hrb⟩:=nm (h.testBit (c.b - 1).toNat);rw [Hrb.out] at CV2;obtain ⟨nb,Hnb⟩:=nm (om || (ra ^^ rb));have HCB:Hid (cdBit k h.testBit c om=nb):=by show _=_;rw [←Hnb.out,←Hra.out,←Hrb.out];unfold cdBit;rw [if_neg (by omega),if_pos e]
    rw [e] at z0 e5;have hnb:=Hnb.out;have hnb2:(om || (ra != rb))=nb:=by rw [←hnb]
    go_wp2_with fail
    refine wp_region_held_drew (S:=fun w'=>w'.cell? ⟨s,3,none⟩=some (.slice (some ⟨g,0,none⟩) n c8)∧w'.cell? ⟨m,17,none⟩=some (.int .i64 (cn:Int))) (by kernel_rfl) ⟨x3,y17⟩ (fun hHeld=>?_)
    refine wpT 0 ?_;(try simp only [y_,z_]);refine wpT 1 ?_;(try simp only [y_,z_]);refine wpT 2 ?_;(try simp only [y_,z_]);refine wpT 3 ?_;(try simp only [y_,z_]);refine wpT 4 ?_;(try simp only [y_,z_]);refine wpT 5 ?_;(try simp only [y_,z_]);refine wpT 6 ?_;(try simp only [y_,z_]);refine wpT 7 ?_;(try simp only [y_,z_]);refine wpT 8 ?_;(try simp only [y_,z_]);refine wpT 9 ?_;(try simp only [y_,z_]);refine wpT 10 ?_;(try simp only [y_,z_]);refine wpT 11 ?_;(try simp only [y_,z_]);refine aD_ (by kernel_rfl) ?_ _;clear hHeld;go_wp2_with fail
    have uS:=updCell W5 g (cn+j) (b8 nb);have hcbg:cb≠g:=by have:=HTr.out.own.lt (At.some_.2 rfl);omega
    have SB:=h_ (hsb.upd uS hsg);have Z1:=h_ (u_ (S:=(·=g)) z1 uS hcbg);have Z2:=h_ (u_ (S:=(·=g)) z2 uS hcbg);have Z3:=h_ (u_ (S:=(·=g)) z3 uS hcbg);refine wp_region_held_drew (S:=fun w'=>Blk w' s 186 #[.int .i64 (k:Int),.int .i64 (h:Int),.slice BA n bc,.slice (some ⟨g,0,none⟩) n c8]∧w'.cell? ⟨cb,1,none⟩=some (.int .i64 c.a)∧w'.cell? ⟨cb,2,none⟩=some (.int .i64 c.b)∧w'.cell? ⟨cb,3,none⟩=some (.int .i64 c.n)) (by kernel_rfl) ⟨hsb,z1,z2,z3⟩ (fun hHeld=>?_)
    refine wpT 0 ?_;(try simp only [y_,z_]);refine wpT 1 ?_;(try simp only [y_,z_]);refine wpT 3 ?_;(try simp only [y_,z_]);refine wpT 4 ?_;(try simp only [y_,z_]);refine wpT 5 ?_;(try simp only [y_,z_]);refine wpT 7 ?_;(try simp only [y_,z_]);refine wpT 8 ?_;(try simp only [y_,z_]);refine wpT 9 ?_;(try simp only [y_,z_]);refine wpAnyH_takeC (i:=6) (v:=?v6) rfl (by kernel_rfl) (by kernel_rfl) (by kernel_rfl) (fun _ _ _ h=>h) ⟨by rfl,?f6,?a6,?r6,?c6⟩ (by assumption) ?m6
    case r6=>intro w;go_simp;constructor <;> with_reducible rfl
    case c6=>intro W hSw;refine (CV1.out W hSw.1).mono ?_;rintro e w' ⟨rfl,rfl⟩;constructor <;> with_reducible rfl
    (try simp only [y_,z_]);refine wpAnyH_takeC (i:=10) (v:=?v7) rfl (by kernel_rfl) (by kernel_rfl) (by kernel_rfl) (fun _ _ _ h=>h) ⟨by rfl,?f7,?a7,?r7,?c7⟩ (by assumption) ?m7
    case r7=>intro w;go_simp;constructor <;> with_reducible rfl
    case c7=>intro W hSw;refine (CV2.out W hSw.1).mono ?_;rintro e w' ⟨rfl,rfl⟩;constructor <;> with_reducible rfl
    (try simp only [y_,z_]);refine wpT 11 ?_;(try simp only [y_,z_]);refine wpAnyH_takeM (fun w'=>w'.cell? ⟨g,cn+j,none⟩=some (.int .u8 (bW om))) (calm_cell _ _) [12,13,14] (i:=2) (v:=?_) rfl (by kernel_rfl) (by kernel_rfl) (by kernel_rfl) (by kernel_rfl) (fun _ _ _ h=>h) (Or.inl ⟨by rfl,?_⟩) (hcg) (by assumption) ?_
    rotate_left
    ·intro w hSw;(try dsimp only at hSw);go_simp;try with_reducible rfl
    (try simp only [y_,z_]);refine wpT 12 ?_;(try simp only [y_,z_]);refine wpT 13 ?_;(try simp only [y_,z_]);refine aR_ (rs:=[14]) (by kernel_rfl) (by simp) ?_;refine aC_ rfl (fun K hK=>?_) aN_;go_simp;refine hK.out _ _ ?_ (fun hHeld=>?_)
    ·exact ⟨SB.out,Z1.out,Z2.out,Z3.out⟩
    clear hK K;(try simp only [y_,z_]);refine aD_ (by kernel_rfl) ?_ _;go_wp2_with fail
    go_roundg (nc - (j+1))
    case measure=>rw [Hg.out];omega
    case rel=>exact ⟨j+1,rfl,by omega,by go_num,by rw [HST3.out,HCB.out];exact (HT5.out.set (cn+j) nb).upd (S:=Non) (Upd.refl.drewN 2) (fun f=>f) (fun f=>f) (fun _ _ _ f=>f),(HU5.out.trans uS (fun _ _ q=>q)).drewN 2⟩
  ·obtain rfl:nc=j:=by omega
   have hfull:CL.take nc=CL:=List.take_of_length_le (by rw [HCN.out];exact Nat.le_refl _);rw [hfull] at HTr;have hlenJ:(N2++CL).length=cn+nc:=by rw [List.length_append,HN2L.out,HCN.out]
   have hbnd:0+(N2++CL).length≤old.length:=by rw [hlenJ];have:=HBL.out;have:=HSN.out;omega
   obtain ⟨om,Hom⟩:=nm (old.getD (cn+nc) false);obtain ⟨nb,Hnb⟩:=nm (om || (bl ^^ br))
   have HEND:Hid ((spl old 0 (N2++CL)).set (cn+nc) nb=succF k h.testBit r old):=by
    show _=_;rw [succF_pos (ins:=h.testBit) hr (by rw [HBL.out,Hn.out]),hcn,Hnc.out,HCL.out,Hom.out,Hbl.out,Hbr.out,Hnb.out,HN2.out];exact spl_full hlenJ (by rw [HBL.out];exact HSN.out) nb
   obtain ⟨Nj,HNj⟩:=nm (spl old 0 (N2++CL));have hNjl:Nj.length=n:=by rw [←HNj.out,spl_len hbnd];exact HBL.out
   have hNjg:Nj.getD (cn+nc) false=om:=by rw [←HNj.out,spl_at hbnd (.inr (by omega))];exact Hom.out
   rw [HNj.out] at HTr HEND
   have hcg:wr.cell? ⟨g,cn+nc,none⟩=some (.int .u8 (bW om)):=by
    have hl:cn+nc<Nj.length:=by rw [hNjl];have:=HSN.out;omega
    rw [HTr.out.own.cell_ (i:=cn+nc) (by rw [b8s_len];exact hl)];have:=b8s_get (l:=Nj) (i:=cn+nc) hl;rw [List.getElem?_eq_getElem (by rw [b8s_len];exact hl),hNjg] at this;exact this
   have hfg:=HTr.out.own.frozen_ (cn+nc);have hbs:Blk wr s 186 #[.int .i64 (k:Int),.int .i64 (h:Int),.slice BA n bc,.slice (some ⟨g,0,none⟩) n c8]:=by have:=HTr.out.blk;rw [HBL.out,hNjl] at this;exact this
   have x3:=hbs.cell 3;have HMr:=h_ (HM4.out.upd HUr.out (HLT.out m HM.out));have y18:=HMr.out.cell 18;rw [Hn.out] at y18;have uS:=updCell wr g (cn+nc) (b8 nb);have X3:=h_ (u_ (S:=(·=g)) x3 uS hsg);have Y18:=h_ (u_ (S:=(·=g)) y18 uS (HLT.out m HM.out))
   have HTF:Hid (TrS (wr.setCell ⟨g,cn+nc,none⟩ (b8 nb)) (fun i=>i<w.heap.size) s k h BA bc g c8 old (succF k h.testBit r old)):=by
    show TrS _ _ _ _ _ _ _ _ _ _ _;rw [←HEND.out];exact HTr.out.set _ _
   have A8:=and8;have O8:=or8;have X8:=xor8;have hnb:=Hnb.out;have hnb2:(om || (bl != br))=nb:=by rw [←hnb]
   have q1:IntKind.i64.wrap ((n:Int) - 1)=(n:Int) - 1:=i64w_of (by unfold I64;omega);have q2:(0:Int)≤(n:Int) - 1:=by omega
   have q3:(n:Int) - 1<(n:Int):=by omega
   have q4:((n:Int) - 1).toNat=cn+nc:=by have:=HSN.out;omega
   have q5:(1:Int)≤(n:Int):=by omega
   have q6:n - 1=cn+nc:=by have:=HSN.out;omega
   have HUF:Hid (Upd (·=g) w4 (wr.setCell ⟨g,cn+nc,none⟩ (b8 nb))):=HUr.out.trans uS (fun _ _ q=>q);clear hfull hlenJ hbnd hNjl hNjg uS;go_wp2_with fail
   refine wp_region_held_drew (S:=fun w'=>w'.cell? ⟨s,3,none⟩=some (.slice (some ⟨g,0,none⟩) n c8)∧w'.cell? ⟨m,18,none⟩=some (.int .i64 (n:Int))) (by kernel_rfl) ⟨x3,y18⟩ (fun hHeld=>?_)
   refine wpT 0 ?_;(try simp only [y_,z_]);refine wpT 1 ?_;(try simp only [y_,z_]);refine wpT 2 ?_;(try simp only [y_,z_]);refine wpT 3 ?_;(try simp only [y_,z_]);refine wpT 4 ?_;(try simp only [y_,z_]);refine wpT 5 ?_;(try simp only [y_,z_]);refine wpT 6 ?_;(try simp only [y_,z_]);refine wpT 7 ?_;(try simp only [y_,z_]);refine wpT 8 ?_;(try simp only [y_,z_]);refine wpT 9 ?_;(try simp only [y_,z_]);refine wpT 11 ?_;(try simp only [y_,z_]);refine wpT 12 ?_;(try simp only [y_,z_]);refine wpT 13 ?_;(try simp only [y_,z_]);refine wpAnyH_takeM (fun w'=>w'.cell? ⟨g,cn+nc,none⟩=some (.int .u8 (bW om))) (calm_cell _ _) [14,15,16] (i:=10) (v:=?_) rfl (by kernel_rfl) (by kernel_rfl) (by kernel_rfl) (by kernel_rfl) (fun _ _ _ h=>h) (Or.inl ⟨by rfl,?_⟩) (hcg) (by assumption) ?_
   rotate_left
   ·intro w hSw;(try dsimp only at hSw);go_simp;try with_reducible rfl
   (try simp only [y_,z_]);refine wpT 14 ?_;(try simp only [y_,z_]);refine wpT 15 ?_;(try simp only [y_,z_]);refine aR_ (rs:=[16]) (by kernel_rfl) (by simp) ?_;refine aC_ rfl (fun K hK=>?_) aN_;go_simp;refine hK.out _ _ ?_ (fun hHeld=>?_)
   ·exact ⟨X3.out,Y18.out⟩
   clear hK K;(try simp only [y_,z_]);refine aD_ (by kernel_rfl) ?_ _;have x3':=X3.out;go_wp2_with fail
   go_ret;have hln:=HTF.out.len;rw [HBL.out] at hln;refine ⟨some ⟨g,0,none⟩,c8,rfl,?_,fun i hi=>by rw [At.some_] at hi;omega,?_⟩
   ·have:=HTF.out.own;rw [hln] at this;exact this.drewN 1
   ·exact ((HU.out.trans HU4.out (fun i hi e=>by omega)).trans HUF.out (fun i hi e=>by omega)).drewN 1
def iP (p:Pt):List Bool:=inP (fun _=>false) p 0
def iL:List Pt→List Bool
 | []=>[]
 | q::qs=>iP q++iL qs
theorem inL_const {l:List Pt} (h:∀q∈l,∀i,inP (fun _=>false) q i=iP q):∀i,inL (fun _=>false) l i=iL l:=by
 induction l with
 | nil=>intro _;rfl
 | cons q qs ih=>intro i;rw [inL,iL,h q (by simp),ih (fun x hx=>h x (by simp [hx]))]
theorem inP_const (p:Pt):∀i,inP (fun _=>false) p i=iP p:=by
 induction p using Pt.ind with
 | h p ih =>
  intro i;unfold iP;rw [inP_iff,inP_iff]
  split
  ·rfl
  ·rw [inL_const (fun q hq=>ih q hq),inL_const (fun q hq=>ih q hq)]
theorem iP_iff (p:Pt):iP p=if 0<p.v then [] else inO p.op (ownN p.op p.kids) false++iL p.kids:=by
 unfold iP;rw [inP_iff,inL_const (fun q _=>inP_const q)]
theorem iP_len (p:Pt):(iP p).length=bN p:=inP_len _ _ _
theorem iL_len:∀l:List Pt,(iL l).length=bL l
 | []=>rfl
 | q::qs=>by rw [iL,List.length_append,iP_len,iL_len qs];rfl
theorem iL_app:∀l m:List Pt,iL (l++m)=iL l++iL m
 | [],_=>rfl
 | q::qs,m=>by rw [List.cons_append,iL,iL,iL_app qs m,List.append_assoc]
theorem spl_zero {N:List Bool} {a:Nat}:∀(n:Nat),a+n≤N.length→(∀i,a≤i→i<a+n→N.getD i false=false)→spl N a (List.replicate n false)=N:=by
 intro n hl h;refine List.ext_getElem? fun i=>?_
 rw [spl_get (by rw [List.length_replicate];exact hl),List.length_replicate]
 split
 ·rename_i hi;have:=h i hi.1 hi.2;rw [List.getD_eq_getElem?_getD,List.getElem?_eq_getElem (by omega)] at this;rw [List.getElem?_replicate,if_pos (by omega),List.getElem?_eq_getElem (by omega)];exact congrArg some this.symm
 ·rfl
set_option maxRecDepth 100000 in
set_option maxHeartbeats 16000000 in
theorem aInitialize_c {F:Nat→Prop} {g n c m:Nat} (hl:n≤1000000) (hFg:∀i,F i→i≠g) (p:Pt) :
  ∀(w:World) (N:List Bool) (a x:Nat),supF p=true→WfP 64 p→OsT w F p a x→Own w 5 1 (some ⟨g,0,none⟩) n c (b8s N)→N.length=n→a+bN p≤n→(∀i,a≤i→i<a+bN p→N.getD i false=false) →
  Calls Tryz.prog 131 #[pp m,pp x,.slice (some ⟨g,0,none⟩) n c] w fun e w'=>e=.returned (.tuple #[])∧Own w' 5 1 (some ⟨g,0,none⟩) n c (b8s (spl N a (iP p)))∧Upd (·=g) w w':=by
 induction p using Pt.ind with
 | h p ih =>
  intro w N a x hs hw hos hO hNl ha hz;have hosF:F x:=(OsT.iff.1 hos).1;obtain ⟨_,KA,kc,CA,cc,gs,hb,hgl,hCA,hL⟩:=OsT.iff.1 hos;have hxg:x≠g:=hFg x hosF;have hw':=(WfP.iff 64 p).1 hw;by_cases hv:0<p.v
  ·have HR:Hid (spl N a (iP p)=N):=by show _=_;rw [iP_iff,if_pos hv,spl_nil]
   have hg0:gs.length=0:=by rw [hgl];unfold osN;rw [if_pos hv]
   have y0:=hb.cell 0;have y5:=hb.cell 5;rw [hg0] at y5;have t0:(p.v==0)=false:=by simp;omega
   have HO:=h_ hO;clear hb hw' hw ih hL hCA hos hO hz ha hgl hg0;unfold pp;go_enter Tryz.func131,Tryz.ntmps131;go_wp2_with fail
   go_loopg [7,43] 0 (fun _ _ i wr=>i=.int .i64 0∧wr=w)
   case atStart=>exact ⟨rfl,rfl⟩
   case round =>
    obtain ⟨rfl,rfl⟩:=hrel;go_wp2_with fail
    go_end0
    exact ⟨rfl,by rw [HR.out];exact HO.out,Upd.refl⟩
  ·have hs':supO p.op p.kids=true∧p.kids.all supF=true:=by have:=hs;rw [supF_op hv,Bool.and_eq_true] at this;exact this
   have hsk:∀q∈p.kids,supF q=true:=List.all_eq_true.1 hs'.2;have hlen:p.kids.length=(oSortsF p.op).1.length:=hw'.2.2.1 (by omega);obtain ⟨own,hown⟩:∃n,ownN p.op p.kids=n:=⟨_,rfl⟩;have hosw:osOwn p.v p.op p.kids=own:=by unfold osOwn;rw [if_neg hv,hown]
   have hbn:bN p=own+bL p.kids:=by rw [bN_iff,if_neg hv,hown]
   obtain ⟨nk,hn⟩:∃n,osN p.v p.op p.kids.length=n:=⟨_,rfl⟩;have hn':nk=if p.op=12 then min 1 p.kids.length else p.kids.length:=by rw [←hn];unfold osN;rw [if_neg hv]
   have hnk:nk≤p.kids.length:=by rw [hn'];split <;> omega
   have hn3:nk≤3:=by
    have : p.kids.length≤3:=by
     rw [hlen];rcases supO_ops hs'.1 with e | e | e | e | e | e | e | e | e | e | e | e | e | e | e <;> rw [e] <;> decide
    omega
   have hbl:∀j,bL (p.kids.take j)≤bL p.kids:=fun j=>bL_take_le _ _
   rw [hosw] at hL hb
   have HK:Hid (∀j,j<nk→∃(q:Pt) (y:Nat),q∈p.kids∧gs[j]?=some y∧OsT w F q (a+own+bL (p.kids.take j)) y∧bL (p.kids.take (j+1))=bL (p.kids.take j)+bN q∧p.kids.take (j+1)=p.kids.take j++[q]):=fun j hj=>by
    have h1:j<p.kids.length:=by omega
    have h2:j<gs.length:=by rw [hgl,hn];exact hj
    exact ⟨p.kids[j],gs[j],List.getElem_mem h1,List.getElem?_eq_getElem h2,hL.at_ h1 h2,bL_take h1,List.take_succ_eq_append_getElem h1⟩
   have HFULL:Hid (iL (p.kids.take nk)=iL p.kids):=by
    show _=_;by_cases h12:p.op=12
    ·have h2:p.kids.length=2:=by rw [hlen,h12];rfl
     obtain ⟨k0,k1,ek⟩:∃k0 k1,p.kids=[k0,k1]:=by
      match p.kids,h2 with
      | [x,y],_=>exact ⟨x,y,rfl⟩
     have ho:k1.op=1:=by
      have:=hs'.1;unfold supO at this;have:=of_decide_eq_true this;rw [h12,ek] at this;simp [kid] at this;omega
     have w1:=(WfP.iff 64 k1).1 (hw'.2.2.2 k1 (by rw [ek];simp))
     have hz1:iP k1=[]:=by
      rw [iP_iff];by_cases hv1:0<k1.v
      ·rw [if_pos hv1]
      ·have hk0:k1.kids=[]:=List.length_eq_zero_iff.1 (by rw [w1.2.2.1 (by omega),ho];rfl);rw [if_neg hv1,hk0,ho];rfl
     have hn1:nk=1:=by rw [hn',if_pos h12,ek];rfl
     rw [hn1,ek];simp [iL,hz1]
    ·have : nk=p.kids.length:=by rw [hn',if_neg h12]
     rw [this,List.take_length]
   obtain ⟨o0,ho0⟩:∃l,inO p.op own false=l:=⟨_,rfl⟩;have hol:o0.length=own:=by rw [←ho0,←hown];exact inO_len _ _ _
   have HIP:Hid (iP p=o0++iL p.kids):=by show _=_;rw [iP_iff,if_neg hv,hown,ho0]
   obtain ⟨N1,hN1⟩:∃l,spl N a o0=l:=⟨_,rfl⟩;have hN1l:N1.length=n:=by rw [←hN1,spl_len (by rw [hol,hNl];have:=hbn;omega)];exact hNl
   have HN1z:Hid (∀i,a+own≤i→i<a+bN p→N1.getD i false=false):=fun i h1 h2=>by
    rw [←hN1,spl_at (by rw [hol,hNl];omega) (.inr (by rw [hol];exact h1))];exact hz i (by omega) h2
   have y0:=hb.cell 0;have y1:=hb.cell 1;have y5:=hb.cell 5;have y6:=hb.cell 6;have t0:(p.v==0)=true:=by have:=hw'.1;simp;omega
   rw [hgl,hn] at y5;have HI:=h_ (fun q (hq:q∈p.kids)=>ih q hq);have HWF:=h_ hw'.2.2.2;have HSK:=h_ hsk;have HBN:=h_ hbn;have HA:=h_ ha;have HCA:=h_ hCA;have HN1:=h_ hN1;have HN1l:=h_ hN1l;have HNl:=h_ hNl;have HOL:=h_ hol;have HGS:Hid (gs.length=nk):=hgl.trans hn;have hsup:=hs'.1;have hO0:=hO;have HZ:=h_ hz;have hfz:=hO.frozen_
   have hcl:∀i,i<n→w.cell? ⟨g,i,none⟩=some (b8 (N.getD i false)):=fun i hi=>by
    rw [hO.cell_ (i:=i) (by rw [b8s_len,hNl];exact hi)];have:=b8s_get (l:=N) (i:=i) (by rw [hNl];exact hi);rw [List.getElem?_eq_getElem (by rw [b8s_len,hNl];exact hi)] at this;exact this
   have HOWN:=h_ hown;have HO0:=h_ ho0;clear ih hw hw' hsk hos hL hb hbl hlen hs hs' hz hbn ha hCA hosw hn' hN1 hN1l hol hO hown ho0 hv hgl;unfold pp;have hgrp:(p.op=1∨p.op=4∨p.op=5∨p.op=9∨p.op=10∨p.op=11∨p.op=12∨p.op=17∨p.op=19∨p.op=21∨p.op=22)∨p.op=20∨(p.op=15∨p.op=16∨p.op=18):=by have:=supO_ops hsup;omega
   rcases hgrp with hg | hg | hg
   ·have hN:N1=N:=by
     have e:o0=List.replicate own false:=by
      rw [←HO0.out,←HOWN.out];rcases hg with e | e | e | e | e | e | e | e | e | e | e <;> rw [e] <;> rfl
     rw [←HN1.out,e];exact spl_zero own (by rw [HNl.out];have:=HBN.out;have:=HA.out;omega) (fun i h1 h2=>HZ.out i h1 (by have:=HBN.out;omega))
    have HO1:Hid (Own w 5 1 (some ⟨g,0,none⟩) n c (b8s N1)):=by rw [hN];exact hO0
    have HU1:Hid (Upd (·=g) w w):=Upd.refl;clear hN hcl hfz hO0 HZ;rcases hg with e | e | e | e | e | e | e | e | e | e | e
    all_goals
     rw [e] at y1;clear e;go_enter Tryz.func131,Tryz.ntmps131;go_wp2_with fail
     go_loopg [7,43] nk (fun gg _ i wr=>∃j:Nat,Hid (gg=nk - j)∧j≤nk∧i=.int .i64 j∧Hid (Own wr 5 1 (some ⟨g,0,none⟩) n c (b8s (spl N1 (a+own) (iL (p.kids.take j)))))∧Hid (Upd (·=g) w wr))
     case atStart=>exact ⟨0,rfl,by omega,rfl,by rw [List.take_zero];show Own _ _ _ _ _ _ (b8s (spl N1 _ []));rw [spl_nil];exact HO1.out,HU1.out⟩
     case round =>
      obtain ⟨j,Hg,hj,rfl,HO,HU⟩:=hrel;by_cases hlt:j<nk
      ·obtain ⟨q,y,hqm,hgy,hOq,hbl1,htk⟩:=HK.out j hlt;have hle:bL (p.kids.take (j+1))≤bL p.kids:=bL_take_le _ _;have hln:=iL_len (p.kids.take j);have hbn':=HBN.out;have ha':=HA.out;have hl1:=HN1l.out;have hlq:=iP_len q;have hsa:=fun i hi=>spl_at (N:=N1) (a:=a+own) (m:=iL (p.kids.take j)) (by omega) (i:=i) (.inr hi)
       have C1:=h_ (HI.out q hqm wr _ (a+own+bL (p.kids.take j)) y (HSK.out q hqm) (HWF.out q hqm) (OsT.upd HU.out (fun i _ hi=>hFg i hi) (fun _ _ q=>q) q _ _ hOq) HO.out (by rw [spl_len (by omega)];exact hl1) (by omega) (fun i hi1 hi2=>by
        rw [hsa i (by omega)]
        exact HN1z.out i (by omega) (by omega)))
       have e:=spl_spl (N:=N1) (a:=a+own) (m1:=iL (p.kids.take j)) (m2:=iP q) (by omega);rw [hln] at e
       have HS:Hid (spl (spl N1 (a+own) (iL (p.kids.take j))) (a+own+bL (p.kids.take j)) (iP q)=spl N1 (a+own) (iL (p.kids.take (j+1)))):=by
        show _=_;rw [e,htk,iL_app];simp [iL]
       rw [HS.out] at C1;obtain ⟨cb,co,eC,hFc,hcb,hcc⟩:=HCA.out.at_ (k:=j) (by rw [List.length_map,HGS.out];exact hlt)
       have hcc2:wr.cell? ⟨cb,co+j,none⟩=some (.pointer (some ⟨y,0,none⟩)):=by
        have h1:=u_ hcc HU.out (hFg _ hFc);rw [h1];have h2:(gs.map pp)[j]?=some (pp y):=by rw [List.getElem?_map,hgy];rfl
        rw [List.getElem?_eq_getElem (by rw [List.length_map,HGS.out];exact hlt)] at h2;exact h2
       subst eC;have j0:(0:Int)≤(j:Int):=by omega
       have jn:(j:Int)<(nk:Int):=by omega
       unfold pp at C1;clear hOq hgy hle hln hbn' ha' hl1 hlq hsa hcc e hbl1;go_wp2_with fail
       refine C1.out.mono ?_;rintro e w4 ⟨rfl,O4,U4⟩;go_wp2_with fail
       go_roundg (nk - (j+1))
       case measure=>rw [Hg.out];omega
       case rel=>exact ⟨j+1,rfl,by omega,by go_num,O4,HU.out.trans U4 (fun _ _ q=>q)⟩
      ·obtain rfl:nk=j:=by omega
       have HEND:Hid (spl N1 (a+own) (iL (p.kids.take nk))=spl N a (iP p)):=by
        show _=_;have e:=spl_spl (N:=N) (a:=a) (m1:=o0) (m2:=iL p.kids) (by rw [HOL.out,iL_len,HNl.out];have:=HBN.out;have:=HA.out;omega);rw [HFULL.out,HIP.out,←e,HOL.out,HN1.out]
       go_wp2_with fail
       go_end0
       exact ⟨rfl,by rw [←HEND.out];exact HO.out,HU.out⟩
   ·have how:own=1:=by rw [←HOWN.out,hg];rfl
    have han:a<n:=by have:=HBN.out;have:=HA.out;omega
    have hN:N1=N.set a true:=by
     have e:o0=[true]:=by rw [←HO0.out,hg];rfl
     rw [←HN1.out,e,spl_one true (by rw [HNl.out];exact han)]
    have HO1:Hid (Own (w.setCell ⟨g,a,none⟩ (b8 true)) 5 1 (some ⟨g,0,none⟩) n c (b8s N1)):=by
     show Own _ _ _ _ _ _ _;rw [hN,←b8s_set];exact hO0.set_ _ _
    have HU1:Hid (Upd (·=g) w (w.setCell ⟨g,a,none⟩ (b8 true))):=updCell w g a (b8 true);have hca:=hcl a han;have hfa:=hfz a;have ai0:(0:Int)≤(a:Int):=by omega
    have ai1:(a:Int)<(n:Int):=by omega
    have hgx:g≠x:=fun e=>hxg e.symm
    rw [hg] at y1;clear hN hcl hfz hO0 HZ how hg;go_enter Tryz.func131,Tryz.ntmps131;go_wp2_with fail
    go_loopg [7,43] nk (fun gg _ i wr=>∃j:Nat,Hid (gg=nk - j)∧j≤nk∧i=.int .i64 j∧Hid (Own wr 5 1 (some ⟨g,0,none⟩) n c (b8s (spl N1 (a+own) (iL (p.kids.take j)))))∧Hid (Upd (·=g) w wr))
    case atStart=>exact ⟨0,rfl,by omega,rfl,by rw [List.take_zero];show Own _ _ _ _ _ _ (b8s (spl N1 _ []));rw [spl_nil];exact HO1.out,HU1.out⟩
    case round =>
     obtain ⟨j,Hg,hj,rfl,HO,HU⟩:=hrel;by_cases hlt:j<nk
     ·obtain ⟨q,y,hqm,hgy,hOq,hbl1,htk⟩:=HK.out j hlt;have hle:bL (p.kids.take (j+1))≤bL p.kids:=bL_take_le _ _;have hln:=iL_len (p.kids.take j);have hbn':=HBN.out;have ha':=HA.out;have hl1:=HN1l.out;have hlq:=iP_len q;have hsa:=fun i hi=>spl_at (N:=N1) (a:=a+own) (m:=iL (p.kids.take j)) (by omega) (i:=i) (.inr hi)
      have C1:=h_ (HI.out q hqm wr _ (a+own+bL (p.kids.take j)) y (HSK.out q hqm) (HWF.out q hqm) (OsT.upd HU.out (fun i _ hi=>hFg i hi) (fun _ _ q=>q) q _ _ hOq) HO.out (by rw [spl_len (by omega)];exact hl1) (by omega) (fun i hi1 hi2=>by
       rw [hsa i (by omega)]
       exact HN1z.out i (by omega) (by omega)))
      have e:=spl_spl (N:=N1) (a:=a+own) (m1:=iL (p.kids.take j)) (m2:=iP q) (by omega);rw [hln] at e
      have HS:Hid (spl (spl N1 (a+own) (iL (p.kids.take j))) (a+own+bL (p.kids.take j)) (iP q)=spl N1 (a+own) (iL (p.kids.take (j+1)))):=by
       show _=_;rw [e,htk,iL_app];simp [iL]
      rw [HS.out] at C1;obtain ⟨cb,co,eC,hFc,hcb,hcc⟩:=HCA.out.at_ (k:=j) (by rw [List.length_map,HGS.out];exact hlt)
      have hcc2:wr.cell? ⟨cb,co+j,none⟩=some (.pointer (some ⟨y,0,none⟩)):=by
       have h1:=u_ hcc HU.out (hFg _ hFc);rw [h1];have h2:(gs.map pp)[j]?=some (pp y):=by rw [List.getElem?_map,hgy];rfl
       rw [List.getElem?_eq_getElem (by rw [List.length_map,HGS.out];exact hlt)] at h2;exact h2
      subst eC;have j0:(0:Int)≤(j:Int):=by omega
      have jn:(j:Int)<(nk:Int):=by omega
      unfold pp at C1;clear hOq hgy hle hln hbn' ha' hl1 hlq hsa hcc e hbl1;go_wp2_with fail
      refine C1.out.mono ?_;rintro e w4 ⟨rfl,O4,U4⟩;go_wp2_with fail
      go_roundg (nk - (j+1))
      case measure=>rw [Hg.out];omega
      case rel=>exact ⟨j+1,rfl,by omega,by go_num,O4,HU.out.trans U4 (fun _ _ q=>q)⟩
     ·obtain rfl:nk=j:=by omega
      have HEND:Hid (spl N1 (a+own) (iL (p.kids.take nk))=spl N a (iP p)):=by
       show _=_;have e:=spl_spl (N:=N) (a:=a) (m1:=o0) (m2:=iL p.kids) (by rw [HOL.out,iL_len,HNl.out];have:=HBN.out;have:=HA.out;omega);rw [HFULL.out,HIP.out,←e,HOL.out,HN1.out]
      go_wp2_with fail
      go_end0
      exact ⟨rfl,by rw [←HEND.out];exact HO.out,HU.out⟩
   ·have how:own=2:=by rw [←HOWN.out];rcases hg with e | e | e <;> rw [e] <;> rfl
    have han:a+1<n:=by have:=HBN.out;have:=HA.out;omega
    have hN:N1=N.set (a+1) true:=by
     have e:o0=[false,true]:=by rw [←HO0.out];rcases hg with e | e | e <;> rw [e] <;> rfl
     rw [←HN1.out,e,spl_two (by rw [HNl.out];exact han) (HZ.out a (Nat.le_refl _) (by have:=HBN.out;omega))]
    have HO1:Hid (Own (w.setCell ⟨g,a+1,none⟩ (b8 true)) 5 1 (some ⟨g,0,none⟩) n c (b8s N1)):=by
     show Own _ _ _ _ _ _ _;rw [hN,←b8s_set];exact hO0.set_ _ _
    have HU1:Hid (Upd (·=g) w (w.setCell ⟨g,a+1,none⟩ (b8 true))):=updCell w g (a+1) (b8 true);have hca:=hcl (a+1) han;have hfa:=hfz (a+1);have ai0:(0:Int)≤(a:Int)+1:=by omega
    have ai1:(a:Int)+1<(n:Int):=by omega
    have hgx:g≠x:=fun e=>hxg e.symm
    clear hN hcl hfz hO0 HZ how;rcases hg with e | e | e
    all_goals
     rw [e] at y1;clear e;go_enter Tryz.func131,Tryz.ntmps131;go_wp2_with fail
     go_loopg [7,43] nk (fun gg _ i wr=>∃j:Nat,Hid (gg=nk - j)∧j≤nk∧i=.int .i64 j∧Hid (Own wr 5 1 (some ⟨g,0,none⟩) n c (b8s (spl N1 (a+own) (iL (p.kids.take j)))))∧Hid (Upd (·=g) w wr))
     case atStart=>exact ⟨0,rfl,by omega,rfl,by rw [List.take_zero];show Own _ _ _ _ _ _ (b8s (spl N1 _ []));rw [spl_nil];exact HO1.out,HU1.out⟩
     case round =>
      obtain ⟨j,Hg,hj,rfl,HO,HU⟩:=hrel;by_cases hlt:j<nk
      ·obtain ⟨q,y,hqm,hgy,hOq,hbl1,htk⟩:=HK.out j hlt;have hle:bL (p.kids.take (j+1))≤bL p.kids:=bL_take_le _ _;have hln:=iL_len (p.kids.take j);have hbn':=HBN.out;have ha':=HA.out;have hl1:=HN1l.out;have hlq:=iP_len q;have hsa:=fun i hi=>spl_at (N:=N1) (a:=a+own) (m:=iL (p.kids.take j)) (by omega) (i:=i) (.inr hi)
       have C1:=h_ (HI.out q hqm wr _ (a+own+bL (p.kids.take j)) y (HSK.out q hqm) (HWF.out q hqm) (OsT.upd HU.out (fun i _ hi=>hFg i hi) (fun _ _ q=>q) q _ _ hOq) HO.out (by rw [spl_len (by omega)];exact hl1) (by omega) (fun i hi1 hi2=>by
        rw [hsa i (by omega)]
        exact HN1z.out i (by omega) (by omega)))
       have e:=spl_spl (N:=N1) (a:=a+own) (m1:=iL (p.kids.take j)) (m2:=iP q) (by omega);rw [hln] at e
       have HS:Hid (spl (spl N1 (a+own) (iL (p.kids.take j))) (a+own+bL (p.kids.take j)) (iP q)=spl N1 (a+own) (iL (p.kids.take (j+1)))):=by
        show _=_;rw [e,htk,iL_app];simp [iL]
       rw [HS.out] at C1;obtain ⟨cb,co,eC,hFc,hcb,hcc⟩:=HCA.out.at_ (k:=j) (by rw [List.length_map,HGS.out];exact hlt)
       have hcc2:wr.cell? ⟨cb,co+j,none⟩=some (.pointer (some ⟨y,0,none⟩)):=by
        have h1:=u_ hcc HU.out (hFg _ hFc);rw [h1];have h2:(gs.map pp)[j]?=some (pp y):=by rw [List.getElem?_map,hgy];rfl
        rw [List.getElem?_eq_getElem (by rw [List.length_map,HGS.out];exact hlt)] at h2;exact h2
       subst eC;have j0:(0:Int)≤(j:Int):=by omega
       have jn:(j:Int)<(nk:Int):=by omega
       unfold pp at C1;clear hOq hgy hle hln hbn' ha' hl1 hlq hsa hcc e hbl1;go_wp2_with fail
       refine C1.out.mono ?_;rintro e w4 ⟨rfl,O4,U4⟩;go_wp2_with fail
       go_roundg (nk - (j+1))
       case measure=>rw [Hg.out];omega
       case rel=>exact ⟨j+1,rfl,by omega,by go_num,O4,HU.out.trans U4 (fun _ _ q=>q)⟩
      ·obtain rfl:nk=j:=by omega
       have HEND:Hid (spl N1 (a+own) (iL (p.kids.take nk))=spl N a (iP p)):=by
        show _=_;have e:=spl_spl (N:=N) (a:=a) (m1:=o0) (m2:=iL p.kids) (by rw [HOL.out,iL_len,HNl.out];have:=HBN.out;have:=HA.out;omega);rw [HFULL.out,HIP.out,←e,HOL.out,HN1.out]
       go_wp2_with fail
       go_end0
       exact ⟨rfl,by rw [←HEND.out];exact HO.out,HU.out⟩
mutual
def gpos:Pt→Nat→List (Int×Nat)
 | .mk v op _ _ kids,a=>if 0<v then [] else (if isG op then [(op,a)] else [])++gposL kids (a+ownN op kids)
def gposL:List Pt→Nat→List (Int×Nat)
 | [],_=>[]
 | q::qs,a=>gpos q a++gposL qs (a+bN q)
end
theorem gpos_iff (p:Pt) (a:Nat):gpos p a=if 0<p.v then [] else (if isG p.op then [(p.op,a)] else [])++gposL p.kids (a+ownN p.op p.kids):=by
 obtain ⟨v,op,imm,iv,kids⟩:=p;rw [gpos];rfl
theorem gposL_app:∀(l m:List Pt) (a:Nat),gposL (l++m) a=gposL l a++gposL m (a+bL l)
 | [],_,_=>rfl
 | q::qs,m,a=>by rw [List.cons_append,gposL,gposL,gposL_app qs m,bL,List.append_assoc,Nat.add_assoc]
def gAt (b:List Bool) (q:Int×Nat):Bool:=if q.1=16 then b.getD q.2 false != b.getD (q.2+1) false else b.getD q.2 false==b.getD (q.2+1) false
theorem isG_own {op:Int} (kids:List Pt) (h:isG op=true):ownN op kids=2:=by
 unfold isG at h;have h:=of_decide_eq_true h;have : op=15∨op=16∨op=17∨op=18∨op=19∨op=22:=by omega
 rcases this with rfl | rfl | rfl | rfl | rfl | rfl <;> rfl
theorem getD_take_drop (b:List Bool) (a i n:Nat) (h:i<n):((b.drop a).take n).getD i false=b.getD (a+i) false:=by
 rw [List.getD_eq_getElem?_getD,List.getElem?_take,if_pos h,List.getElem?_drop,List.getD_eq_getElem?_getD]
theorem gRP_pos (b:List Bool) (p:Pt):∀a,(gRP p (b.drop a)).1=(gpos p a).all (gAt b):=by
 induction p using Pt.ind with
 | h p ih =>
  intro a;rw [gRP_iff,gpos_iff];by_cases hv:0<p.v
  ·rw [if_pos hv,if_pos hv];rfl
  ·rw [if_neg hv,if_neg hv,List.all_append,List.drop_drop]
   have hl:∀(l:List Pt),(∀q∈l,q∈p.kids)→∀a,(gRL l (b.drop a)).1=(gposL l a).all (gAt b):=by
    intro l
    induction l with
    | nil=>intro _ a;rfl
    | cons q qs ihl =>
     intro hq a;rw [gRL,gposL,List.all_append,ih q (hq q (by simp)),gRP_rest,List.drop_drop,ihl (fun x hx=>hq x (by simp [hx]))]
   show (gOk p.op _&&(gRL p.kids _).1)=_;rw [hl _ (fun q h=>h)]
   congr 1
   unfold gOk
   cases hg:isG p.op with
   | false=>rfl
   | true =>
    rw [isG_own p.kids hg,getD_take_drop _ _ _ _ (by decide),getD_take_drop _ _ _ _ (by decide)];simp [gAt]
def gposR (r:Rl):List (Int×Nat):=gpos r.l 0++gpos r.r (bN r.l)
theorem safe_pos {r:Rl} {b:List Bool}:safeF r b=!((gposR r).all (gAt b)&&((b.drop (bN r.l+bN r.r)).take r.conds.length).all id&&b.getD (bN r.l+bN r.r+r.conds.length) false):=by
 have h1:=gRP_pos b r.l 0;have h2:=gRP_pos b r.r (bN r.l);rw [List.drop_zero] at h1;unfold safeF gposR;rw [gRP_rest,gRP_rest,List.drop_drop,h1,h2,List.all_append]
 congr 2
 rw [List.getD_eq_getElem?_getD,List.getElem?_drop,List.getD_eq_getElem?_getD]
theorem gpos_len (p:Pt):∀a,(gpos p a).length=gN p:=by
 induction p using Pt.ind with
 | h p ih =>
  intro a;rw [gpos_iff,gN_iff]
  split
  ·rfl
  ·have hl:∀(l:List Pt),(∀q∈l,q∈p.kids)→∀a,(gposL l a).length=gL l:=by
    intro l
    induction l with
    | nil=>intro _ a;rfl
    | cons q qs ihl=>intro hq a;rw [gposL,List.length_append,ih q (hq q (by simp)),ihl (fun x hx=>hq x (by simp [hx]))];rfl
   rw [List.length_append,hl _ (fun q h=>h)];cases isG p.op <;> rfl
theorem gpos_lt (p:Pt):∀a,∀q∈gpos p a,a≤q.2∧q.2+1<a+bN p:=by
 induction p using Pt.ind with
 | h p ih =>
  intro a q hq;rw [gpos_iff] at hq;rw [bN_iff];by_cases hv:0<p.v
  ·rw [if_pos hv] at hq;cases hq
  ·rw [if_neg hv] at hq ⊢
   have hl:∀(l:List Pt),(∀x∈l,x∈p.kids)→∀a,∀q∈gposL l a,a≤q.2∧q.2+1<a+bL l:=by
    intro l
    induction l with
    | nil=>intro _ a q hq;cases hq
    | cons x xs ihl =>
     intro hx a q hq;rw [gposL,List.mem_append] at hq;rw [bL];rcases hq with hq | hq
     ·have:=ih x (hx x (by simp)) a q hq;omega
     ·have:=ihl (fun y hy=>hx y (by simp [hy])) (a+bN x) q hq;omega
   rcases List.mem_append.1 hq with hq | hq
   ·cases hg:isG p.op with
    | false=>rw [hg] at hq;cases hq
    | true =>
     rw [hg,if_pos rfl,List.mem_singleton] at hq;subst hq;rw [isG_own p.kids hg];exact ⟨Nat.le_refl _,by show a+1<_;omega⟩
   ·have:=hl p.kids (fun x h=>h) _ q hq;omega
theorem gposR_lt {r:Rl}:∀q∈gposR r,q.2+1<stN r:=fun q hq=>by
 unfold gposR at hq;unfold stN;rcases List.mem_append.1 hq with hq | hq
 ·have:=gpos_lt _ _ q hq;omega
 ·have:=gpos_lt _ _ q hq;omega
def setG (g:Nat→Bool):List (Int×Nat)→Nat→List Bool→List Bool
 | [],_,b=>b
 | q::qs,i,b=>setG g qs (i+1) (b.set q.2 (g i))
theorem setG_app (g:Nat→Bool):∀(l m:List (Int×Nat)) (i:Nat) (b:List Bool),setG g (l++m) i b=setG g m (i+l.length) (setG g l i b)
 | [],_,_,_=>rfl
 | q::qs,m,i,b=>by rw [List.cons_append,setG,setG,setG_app g qs m,List.length_cons,Nat.add_assoc,Nat.add_comm 1]
theorem setG_len (g:Nat→Bool):∀(l:List (Int×Nat)) (i:Nat) (b:List Bool),(setG g l i b).length=b.length
 | [],_,_=>rfl
 | q::qs,i,b=>by rw [setG,setG_len g qs,List.length_set]
theorem setG_pre (g:Nat→Bool):∀(l:List (Int×Nat)) (i:Nat) (b rest:List Bool),(∀q∈l,q.2<b.length)→setG g l i (b++rest)=setG g l i b++rest
 | [],_,_,_,_=>rfl
 | q::qs,i,b,rest,h=>by
  rw [setG,setG,List.set_append_left _ _ (h q (by simp)),setG_pre g qs _ _ _ (fun x hx=>by rw [List.length_set];exact h x (by simp [hx]))]
theorem inO_set {op:Int} (n:Nat) (h:isG op=true) (g:Bool):(inO op n false).set 0 g=inO op n g:=by
 unfold isG at h;have h:=of_decide_eq_true h;have : op=15∨op=16∨op=17∨op=18∨op=19∨op=22:=by omega
 rcases this with rfl | rfl | rfl | rfl | rfl | rfl <;> rfl
theorem inO_no {op:Int} (n:Nat) (h:isG op=false) (g:Bool):inO op n false=inO op n g:=by
 unfold inO;rw [h];rfl
theorem setG_inP (g:Nat→Bool) (p:Pt):∀(i:Nat) (pre:List Bool),setG g (gpos p pre.length) i (pre++iP p)=pre++inP g p i:=by
 induction p using Pt.ind with
 | h p ih =>
  intro i pre;rw [gpos_iff,inP_iff,iP_iff];by_cases hv:0<p.v
  ·rw [if_pos hv,if_pos hv,if_pos hv];rfl
  ·rw [if_neg hv,if_neg hv,if_neg hv,setG_app]
   have hl:∀(l:List Pt),(∀x∈l,x∈p.kids)→∀(i:Nat) (pre:List Bool),setG g (gposL l pre.length) i (pre++iL l)=pre++inL g l i:=by
    intro l
    induction l with
    | nil=>intro _ i pre;rfl
    | cons x xs ihl =>
     intro hx i pre;rw [gposL,setG_app,iL,inL,←List.append_assoc,setG_pre g _ _ _ _ (fun q hq=>by have:=gpos_lt x _ q hq;rw [List.length_append,iP_len];omega),ih x (hx x (by simp)),gpos_len]
     have e:=ihl (fun y hy=>hx y (by simp [hy])) (i+gN x) (pre++inP g x i);rw [List.length_append,inP_len] at e;rw [e,List.append_assoc]
   have e1:setG g (if isG p.op=true then [(p.op,pre.length)] else []) i (pre++(inO p.op (ownN p.op p.kids) false++iL p.kids))=(pre++inO p.op (ownN p.op p.kids) (g i))++iL p.kids:=by
    cases hg:isG p.op with
    | false=>rw [if_neg (by decide),←inO_no _ hg (g i),List.append_assoc];rfl
    | true =>
     rw [if_pos rfl];show (pre++(inO p.op (ownN p.op p.kids) false++iL p.kids)).set pre.length (g i)=_;rw [List.set_append_right _ _ (Nat.le_refl _),Nat.sub_self,List.set_append_left _ _ (by rw [inO_len,isG_own p.kids hg];decide),inO_set _ hg,List.append_assoc]
   have e2:(if isG p.op=true then [(p.op,pre.length)] else []).length=(isG p.op).toNat:=by cases isG p.op <;> rfl
   rw [e1,e2];have e:=hl p.kids (fun x h=>h) (i+(isG p.op).toNat) (pre++inO p.op (ownN p.op p.kids) (g i));rw [List.length_append,inO_len] at e;rw [e,List.append_assoc]
def initZ (r:Rl):List Bool:=iP r.l++iP r.r++r.conds.map cdIn++[false]
theorem setG_init (g:Nat→Bool) (r:Rl):setG g (gposR r) 0 (initZ r)=initF g r:=by
 unfold gposR initZ initF;have h1:=setG_inP g r.l 0 [];rw [List.nil_append,List.nil_append,List.length_nil] at h1;have h2:=setG_inP g r.r (0+gN r.l) (inP g r.l 0);rw [inP_len] at h2
 rw [setG_app,gpos_len,List.append_assoc,List.append_assoc,setG_pre g _ _ _ _ (fun q hq=>by have:=gpos_lt r.l _ q hq;rw [iP_len];omega),h1,←List.append_assoc,
  setG_pre g _ _ _ _ (fun q hq=>by have:=gpos_lt r.r _ q hq;rw [List.length_append,inP_len,iP_len];omega),h2,Nat.zero_add]
 simp only [List.append_assoc]
mutual
def NkP:Pt→Prop
 | .mk v _ _ _ kids=>(v≠0→kids=[])∧NkL kids
def NkL:List Pt→Prop
 | []=>True
 | k::ks=>NkP k∧NkL ks
end
theorem NkL.iff:∀l:List Pt,NkL l↔∀k∈l,NkP k
 | []=>by simp [NkL]
 | k::ks=>by simp [NkL,NkL.iff ks]
theorem NkP.iff (p:Pt):NkP p↔(p.v≠0→p.kids=[])∧∀k∈p.kids,NkP k:=by
 obtain ⟨v,op,imm,iv,kids⟩:=p;rw [NkP,NkL.iff];rfl
theorem nk_of_vPt (p:Pt):∀(s m:Int) (vs:List Int),(vPt p s m vs).1=true→NkP p:=by
 induction p using Pt.ind with
 | h p ih =>
  intro s m vs h;rw [NkP.iff];by_cases hv:p.v=0
  ·rw [vPt_op hv] at h
   split at h
   ·refine ⟨fun q=>absurd hv q,?_⟩
    suffices ∀(ks:List Pt) (ss:List Int) (us:List Int),us.length=vs.length→(∀k∈ks,k∈p.kids)→(vKids ks ss m us).1=true→∀k∈ks,NkP k from this _ _ _ rfl (fun k hk=>hk) h
    intro ks
    induction ks with
    | nil=>intro ss us _ _ _ k hk;simp at hk
    | cons k ks ihk =>
     intro ss us hu hm hk;simp only [vKids] at hk
     split at hk
     ·rename_i hk1;intro k' hk';rcases List.mem_cons.1 hk' with rfl | hk'
      ·exact ih _ (hm _ (by simp)) _ _ _ hk1
      ·exact ihk _ _ (by rw [vPt_len];exact hu) (fun x hx=>hm x (by simp [hx])) hk k' hk'
     ·exact absurd hk (by simp)
   ·simp at h
  ·rw [vPt_var hv] at h
   split at h
   ·simp at h
   ·rename_i hc;have h0:p.kids=[]:=List.length_eq_zero_iff.1 (by omega);refine ⟨fun _=>h0,?_⟩;rw [h0];intro k hk;simp at hk
theorem applF_nk {r:Rl} (h:implF r=true):NkP r.l∧NkP r.r:=by
 unfold implF at h;simp only [Bool.and_eq_true,decide_eq_true_eq] at h;obtain ⟨⟨⟨⟨⟨_,hl⟩,hr⟩,_⟩,_⟩,_⟩:=h;unfold validF at hl hr;rw [Bool.and_eq_true] at hl hr;exact ⟨nk_of_vPt _ _ _ _ hl.2,nk_of_vPt _ _ _ _ hr.2⟩
theorem gposR_len (r:Rl):(gposR r).length=gR r:=by
 unfold gposR gR;rw [List.length_append,gpos_len,gpos_len]
theorem gposL_take {l:List Pt} {i a:Nat} (h:i<l.length):gposL (l.take (i+1)) a=gposL (l.take i) a++gpos l[i] (a+bL (l.take i)):=by
 rw [List.take_succ_eq_append_getElem h,gposL_app];simp [gposL]
def mC (cs:Array Value) (a b:Value):Array Value:=(cs.setIfInBounds 16 a).setIfInBounds 18 b
theorem mC_16 {cs:Array Value} (h:cs.size=19) (a b:Value):(mC cs a b)[16]?=some a:=by
 unfold mC;rw [Array.getElem?_setIfInBounds_ne (by decide),Array.getElem?_setIfInBounds_self_of_lt (by omega)]
theorem mC_18 {cs:Array Value} (h:cs.size=19) (a b:Value):(mC cs a b)[18]?=some b:=by
 unfold mC;rw [Array.getElem?_setIfInBounds_self_of_lt (by rw [Array.size_setIfInBounds];omega)]
theorem mC_s16 (cs:Array Value) (a b c:Value):(mC cs a b).setIfInBounds 16 c=mC cs c b:=by
 unfold mC;rw [Array.setIfInBounds_comm _ _ (by decide),Array.setIfInBounds_setIfInBounds]
theorem mC_s18 (cs:Array Value) (a b c:Value):(mC cs a b).setIfInBounds 18 c=mC cs a c:=by
 unfold mC;rw [Array.setIfInBounds_setIfInBounds]
structure LyM (w:World) (m:Nat) (cs:Array Value) (sz:Nat) (GA:Option Addr) (gc:Nat) (gs:List Nat):Prop where
 blk:Blk w m 129 (mC cs (.slice GA gs.length gc) (.int .i64 (sz:Int)))
 own:Own w 126 1 GA gs.length gc (gs.map pp)
 cs:cs.size=19
theorem LyM.ne {w:World} {m:Nat} {cs:Array Value} {sz:Nat} {GA:Option Addr} {gc:Nat} {gs:List Nat} (h:LyM w m cs sz GA gc gs):¬At GA m:=h.own.ne_blk h.blk (by decide)
theorem LyM.upd {w w':World} {S:Nat→Prop} {m:Nat} {cs:Array Value} {sz:Nat} {GA:Option Addr} {gc:Nat} {gs:List Nat} (h:LyM w m cs sz GA gc gs) (u:Upd S w w') (hm:¬S m) (hg:∀i,At GA i→¬S i):LyM w' m cs sz GA gc gs :=
 ⟨h.blk.upd u hm,h.own.upd u hg,h.cs⟩
def GsX (w:World) (ns:List Nat) (ps:List (Int×Nat)):Prop:=ns.length=ps.length∧∀i (h1:i<ns.length) (h2:i<ps.length),OpX w ns[i] ps[i].1 ps[i].2 2
theorem GsX.nil {w:World}:GsX w [] []:=⟨rfl,fun _ h=>absurd h (Nat.not_lt_zero _)⟩
theorem GsX.app {w:World} {ns ms:List Nat} {ps qs:List (Int×Nat)} (h:GsX w ns ps) (k:GsX w ms qs):GsX w (ns++ms) (ps++qs):=by
 refine ⟨by rw [List.length_append,List.length_append,h.1,k.1],fun i h1 h2=>?_⟩;have hl:=h.1;by_cases hi:i<ns.length
 ·rw [List.getElem_append_left hi,List.getElem_append_left (by omega)];exact h.2 i hi (by omega)
 ·rw [List.getElem_append_right (by omega),List.getElem_append_right (by omega)];rw [List.length_append] at h1 h2;have:=k.2 (i - ns.length) (by omega) (by omega);simpa [hl] using this
theorem GsX.upd {w w':World} {S:Nat→Prop} {ns:List Nat} {ps:List (Int×Nat)} (h:GsX w ns ps) (u:Upd S w w') (d:∀g cs,Blk w g 183 cs→¬S g):GsX w' ns ps:=by
 refine ⟨h.1,fun i h1 h2=>?_⟩;obtain ⟨v,imm,iv,K,C,hb⟩:=(h.2 i h1 h2).blk;exact ⟨v,imm,iv,K,C,hb.upd u (d _ _ hb)⟩
theorem GsX.set5 {w:World} {ns:List Nat} {ps:List (Int×Nat)} (h:GsX w ns ps) (x:Nat) (u:Value):GsX (w.setCell ⟨x,5,none⟩ u) ns ps:=by
 refine ⟨h.1,fun i h1 h2=>?_⟩;obtain ⟨v,imm,iv,K,C,hb⟩:=(h.2 i h1 h2).blk;by_cases e:ns[i]=x
 ·rw [e] at hb ⊢;exact ⟨v,imm,iv,K,u,by simpa using hb.set_ 5 u⟩
 ·exact ⟨v,imm,iv,K,C,hb.far (p:=⟨x,5,none⟩) e u⟩
structure LyR (w w':World) (m:Nat) (cs:Array Value) (p:Pt) (a:Nat) (GA:Option Addr) (gs:List Nat) (x:Nat) (GA':Option Addr) (gc':Nat) (ns:List Nat):Prop where
 st:LyM w' m cs (a+bN p) GA' gc' (gs++ns)
 os:OsT w' (fun i=>w.heap.size≤i∧¬At GA' i) p a x
 gx:GsX w' ns (gpos p a)
 ga:∀i,At GA' i→At GA i∨w.heap.size≤i
 upd:Upd (fun i=>i=m∨At GA i) w w'
def gp1 (p:Pt) (a:Nat):List (Int×Nat):=if 0<p.v then [] else if isG p.op then [(p.op,a)] else []
def laN (p:Pt):Nat:=osN p.v p.op p.kids.length
def laO (p:Pt):Nat:=osOwn p.v p.op p.kids
theorem lay_facts {p:Pt} (hnk:NkP p) (hs:supF p=true) (hw:WfP 64 p):laN p≤p.kids.length∧laO p<64∧bN p=laO p+bL (p.kids.take (laN p))∧∀a,gpos p a=gp1 p a++gposL (p.kids.take (laN p)) (a+laO p):=by
 have hnk':=(NkP.iff p).1 hnk;have hw':=(WfP.iff 64 p).1 hw;unfold laN laO osN osOwn gp1;by_cases hv:0<p.v
 ·have hk:p.kids=[]:=hnk'.1 (by omega);rw [if_pos hv,if_pos hv];refine ⟨Nat.zero_le _,by decide,by rw [bN_iff,if_pos hv,hk];rfl,fun a=>by rw [gpos_iff,if_pos hv,if_pos hv,hk];rfl⟩
 ·rw [supF_op hv,Bool.and_eq_true] at hs;rw [if_neg hv,if_neg hv];refine ⟨by split <;> omega,ownN_lt _ _,?_,fun a=>?_⟩
  all_goals
   by_cases h12:p.op=12
   ·have h2:p.kids.length=2:=by rw [hw'.2.2.1 (by omega),h12];rfl
    obtain ⟨k0,k1,ek⟩:∃k0 k1,p.kids=[k0,k1]:=by
     match p.kids,h2 with
     | [x,y],_=>exact ⟨x,y,rfl⟩
    have ho:k1.op=1:=by
     have:=hs.1;unfold supO at this;have:=of_decide_eq_true this;rw [h12,ek] at this;simp [kid] at this;omega
    have w1:=(WfP.iff 64 k1).1 (hw'.2.2.2 k1 (by rw [ek];simp))
    have hb1:bN k1=0:=by
     rw [bN_iff];by_cases hv1:0<k1.v
     ·rw [if_pos hv1]
     ·have hk0:k1.kids=[]:=List.length_eq_zero_iff.1 (by rw [w1.2.2.1 (by omega),ho];rfl);rw [if_neg hv1,hk0,ho];rfl
    have hg1:∀a,gpos k1 a=[]:=fun a=>by
     rw [gpos_iff];by_cases hv1:0<k1.v
     ·rw [if_pos hv1]
     ·have hk0:k1.kids=[]:=List.length_eq_zero_iff.1 (by rw [w1.2.2.1 (by omega),ho];rfl);rw [if_neg hv1,hk0,ho];rfl
    first
    | (rw [bN_iff,if_neg hv,if_pos h12,ek];simp [bL,hb1])
    | (rw [gpos_iff,if_neg hv,if_neg hv,if_pos h12,ek];simp [gposL,hg1])
   ·first
    | (rw [bN_iff,if_neg hv,if_neg h12,List.take_length])
    | (rw [gpos_iff,if_neg hv,if_neg hv,if_neg h12,List.take_length])
theorem lay_bounds {l:List Pt} {n j a:Nat} (hj:j<n) (hjl:j<l.length):bL (l.take j)+bN l[j]≤bL (l.take n)∧(gposL (l.take j) a).length+gN l[j]≤(gposL (l.take n) a).length:=by
 have e:l.take n=l.take (j+1)++(l.take n).drop (j+1):=by
  have h:=List.take_append_drop (j+1) (l.take n);rw [List.take_take,Nat.min_eq_left (by omega)] at h;exact h.symm
 have h1:=bL_take hjl;have h2:=gposL_take (a:=a) hjl;refine ⟨?_,?_⟩
 ·rw [e,bL_app];omega
 ·rw [e,gposL_app,List.length_append,h2,List.length_append,gpos_len];omega
structure LyL (w wr:World) (m:Nat) (cs:Array Value) (p:Pt) (a:Nat) (KA:Option Addr) (kc:Nat) (GA:Option Addr) (gs:List Nat) (x j:Nat) (GA1:Option Addr) (gc1:Nat) (ns:List Nat) (CA:Option Addr) (cc:Nat) (ks:List Nat):Prop where
 st:LyM wr m cs (a+laO p+bL (p.kids.take j)) GA1 gc1 (gs++ns)
 gx:GsX wr ns (gp1 p a++gposL (p.kids.take j) (a+laO p))
 xb:Blk wr x 183 #[.int .i64 p.v,.int .i64 p.op,.int .i64 p.imm,.int .i64 p.iv,.slice KA p.kids.length kc,.slice CA ks.length cc,.int .i64 (a:Int),.int .i64 (laO p:Int)]
 kl:ks.length=j
 ko:Own wr 126 1 CA ks.length cc (ks.map pp)
 kt:∀i (h1:i<p.kids.length) (h2:i<ks.length),OsT wr (fun i=>w.heap.size≤i∧¬At GA1 i∧¬At CA i∧i≠x) p.kids[i] (a+laO p+bL (p.kids.take i)) ks[i]
 kf:∀i,At CA i→w.heap.size≤i∧¬At GA1 i
 ga:∀i,At GA1 i→At GA i∨w.heap.size≤i
 upd:Upd (fun i=>i=m∨At GA i) w wr
 mw:m<w.heap.size
 xw:w.heap.size≤x
 gaw:∀i,At GA i→i<w.heap.size
section
variable {w wr:World} {m:Nat} {cs:Array Value} {p:Pt} {a:Nat} {KA:Option Addr} {kc:Nat} {GA:Option Addr} {gs:List Nat} {x j:Nat} {GA1:Option Addr} {gc1:Nat} {ns:List Nat} {CA:Option Addr} {cc:Nat} {ks:List Nat}
theorem LyL.xm (h:LyL w wr m cs p a KA kc GA gs x j GA1 gc1 ns CA cc ks):x≠m:=h.xb.ne_ h.st.blk (by decide)
theorem LyL.xg (h:LyL w wr m cs p a KA kc GA gs x j GA1 gc1 ns CA cc ks):¬At GA1 x:=h.st.own.ne_blk h.xb (by decide)
theorem LyL.xc (h:LyL w wr m cs p a KA kc GA gs x j GA1 gc1 ns CA cc ks):¬At CA x:=h.ko.ne_blk h.xb (by decide)
theorem LyL.mc (h:LyL w wr m cs p a KA kc GA gs x j GA1 gc1 ns CA cc ks):¬At CA m:=h.ko.ne_blk h.st.blk (by decide)
theorem LyL.non (h:LyL w wr m cs p a KA kc GA gs x j GA1 gc1 ns CA cc ks) {wD:World} (u:Upd Non wr wD):LyL w wD m cs p a KA kc GA gs x j GA1 gc1 ns CA cc ks :=
 ⟨h.st.upd u (fun f=>f) (fun _ _ f=>f),h.gx.upd u (fun _ _ _ f=>f),h.xb.upd u (fun f=>f),h.kl,h.ko.upd u (fun _ _ f=>f),fun i h1 h2=>OsT.upd u (fun _ _ _ f=>f) (fun _ _ q=>q) _ _ _ (h.kt i h1 h2),h.kf,h.ga,h.upd.then_non u,h.mw,h.xw,h.gaw⟩
theorem LyL.step (h:LyL w wr m cs p a KA kc GA gs x j GA1 gc1 ns CA cc ks) (hj:j<p.kids.length) {w4 w5 w6:World} {y:Nat} {GA2:Option Addr} {gc2:Nat} {ns2:List Nat}
  (hR:LyR wr w4 m cs p.kids[j] (a+laO p+bL (p.kids.take j)) GA1 (gs++ns) y GA2 gc2 ns2) (u5:Upd Non w4 w5) {CA':Option Addr} {cc':Nat}
  (ho:Own w6 126 1 CA' (ks.length+1) cc' (ks.map pp++[pp y])) (u6:Upd (At CA) w5 w6) (hat:∀k,At CA' k→At CA k∨k=w5.heap.size) :
  LyL w (w6.setCell ⟨x,5,none⟩ (.slice CA' (ks.length+1) cc')) m cs p a KA kc GA gs x (j+1) GA2 gc2 (ns++ns2) CA' cc' (ks++[y]):=by
 have hxb4:=h.xb.upd hR.upd (fun e=>e.elim h.xm h.xg);have hxb5:=hxb4.upd u5 (fun f=>f);have hxb6:=hxb5.upd u6 h.xc;have s4:=hR.upd.size;have s5:=u5.size;have s6:=u6.size;have hst5:=hR.st.upd u5 (fun f=>f) (fun _ _ f=>f);have hCw:∀i,At CA i→i<wr.heap.size:=fun i hi=>h.ko.lt hi
 have hGC:∀i,At GA2 i→¬At CA i:=fun i hi hc=>by
  rcases hR.ga i hi with q | q
  ·exact (h.kf i hc).2 q
  ·have:=hCw i hc;omega
 have hst6:=hst5.upd u6 h.mc hGC;have uS:=updCell w6 x 5 (.slice CA' (ks.length+1) cc');have hxm:=h.xm;have hxG2:¬At GA2 x:=hst6.own.ne_blk hxb6 (by decide);have hst7:=hst6.upd uS (fun e=>hxm e.symm) (fun i hi e=>hxG2 (e ▸ hi));have hxC':¬At CA' x:=ho.ne_blk hxb6 (by decide)
 have uA:Upd (fun i=>i=m∨At GA1 i∨At CA i∨i=x) wr (w6.setCell ⟨x,5,none⟩ (.slice CA' (ks.length+1) cc')) :=
  (((hR.upd.mono (T:=fun i=>i=m∨At GA1 i∨At CA i∨i=x) (fun i _ q=>q.elim .inl (fun q=>.inr (.inl q)))).trans u5 (fun _ _ f=>f.elim)).trans u6 (fun _ _ q=>.inr (.inr (.inl q)))).trans uS (fun _ _ q=>.inr (.inr (.inr q)))
 have u46:Upd (At CA) w4 w6:=(u5.mono (fun _ _ f=>f.elim)).trans u6 (fun _ _ q=>q);have u4E:Upd (fun i=>At CA i∨i=x) w4 (w6.setCell ⟨x,5,none⟩ (.slice CA' (ks.length+1) cc')):=(u46.mono (fun _ _ q=>.inl q)).trans uS (fun _ _ q=>.inr q)
 have uA6:Upd (fun i=>i=m∨At GA1 i∨At CA i) wr w6:=(hR.upd.mono (fun i _ q=>q.elim .inl (fun q=>.inr (.inl q)))).trans u46 (fun _ _ q=>.inr (.inr q))
 have hxl:=h.xb.lt;have hsw:=h.upd.size;refine ⟨?_,?_,?_,by rw [List.length_append,h.kl];rfl,?_,?_,?_,?_,?_,h.mw,h.xw,h.gaw⟩
 ·rw [bL_take hj,←Nat.add_assoc,←List.append_assoc];exact hst7
 ·rw [gposL_take hj,←List.append_assoc];refine GsX.set5 (GsX.app (h.gx.upd uA6 ?_) (hR.gx.upd u46 ?_)) x _
  ·intro g c hb q;rcases q with q | q | q
   ·subst q;exact hb.ne_ h.st.blk (by decide) rfl
   ·exact h.st.own.ne_blk hb (by decide) q
   ·exact h.ko.ne_blk hb (by decide) q
  ·intro g c hb q;have hb':=hb.lt;have hl:=hCw g q;have hko4:=h.ko.upd hR.upd (fun i hi e=>e.elim (fun e=>h.mc (e ▸ hi)) (fun e=>(h.kf i hi).2 e));exact hko4.ne_blk hb (by decide) q
 ·have:=hxb6.set_ 5 (.slice CA' (ks.length+1) cc');rw [List.length_append];simpa using this
 ·rw [List.length_append,List.map_append];exact ho.upd uS (fun i hi e=>hxC' (e ▸ hi))
 ·intro i h1 h2;rw [List.length_append,List.length_singleton] at h2;by_cases hi:i<ks.length
  ·rw [List.getElem_append_left hi];refine OsT.upd uA (fun i hi hF=>?_) (fun i hi hF=>⟨hF.1,fun q=>?_,fun q=>?_,hF.2.2.2⟩) _ _ _ (h.kt i h1 hi)
   ·rintro (q | q | q | q)
    ·have:=h.mw;omega
    ·exact hF.2.1 q
    ·exact hF.2.2.1 q
    ·exact hF.2.2.2 q
   ·rcases hR.ga i q with q | q
    ·exact hF.2.1 q
    ·omega
   ·rcases hat i q with q | q
    ·exact hF.2.2.1 q
    ·omega
  ·have e:i=j:=by have:=h.kl;omega
   subst e;have : (ks++[y])[i]=y:=by rw [List.getElem_append_right (by omega)];simp
   rw [this];refine OsT.upd u4E (fun k hk hF=>?_) (fun k hk hF=>⟨by have:=hF.1;omega,hF.2,fun q=>?_,?_⟩) _ _ _ hR.os
   ·rintro (q | q)
    ·have:=hCw k q;have:=hF.1;omega
    ·have:=hF.1;omega
   ·rcases hat k q with q | q
    ·have:=hCw k q;have:=hF.1;omega
    ·omega
   ·have:=hF.1;omega
 ·intro i hi;rcases hat i hi with q | q
  ·exact ⟨(h.kf i q).1,fun z=>hGC i z q⟩
  ·refine ⟨by omega,fun z=>?_⟩;have:=hR.st.own.lt z;omega
 ·intro i hi;rcases hR.ga i hi with q | q
  ·exact h.ga i q
  ·exact .inr (by omega)
 ·refine h.upd.trans uA (fun i hi q=>?_);rcases q with q | q | q | q
  ·exact .inl q
  ·rcases h.ga i q with z | z
   ·exact .inr z
   ·omega
  ·have:=(h.kf i q).1;omega
  ·have:=h.xw;omega
theorem LyL.done (h:LyL w wr m cs p a KA kc GA gs x j GA1 gc1 ns CA cc ks) (hf:bN p=laO p+bL (p.kids.take (laN p))∧∀a,gpos p a=gp1 p a++gposL (p.kids.take (laN p)) (a+laO p)) (hj:j=laN p):LyR w wr m cs p a GA gs x GA1 gc1 ns:=by
 subst hj;refine ⟨?_,?_,?_,h.ga,h.upd⟩
 ·rw [hf.1,←Nat.add_assoc];exact h.st
 ·rw [OsT.iff];refine ⟨⟨h.xw,h.xg⟩,KA,kc,CA,cc,ks,h.xb,h.kl,(h.ko.sl.mono (fun i _ q=>h.kf i q)),OsL.of fun i h1 h2=>OsT.upd (Upd.refl (S:=Non)) (fun _ _ _ f=>f) (fun _ _ q=>⟨q.1,q.2.1⟩) _ _ _ (h.kt i h1 h2)⟩
 ·rw [hf.2];exact h.gx
end
theorem T_pops:SlT Tryz.prog 127 126 1 8:=by
 obtain ⟨i,h1,h2,h3,h4⟩:=info_parts (show (Tryz.prog.info? 126).map (fun i=>(i.zero,i.size,i.bytes))=some (some (.pointer none),1,8) from by kernel_rfl)
 exact ⟨Tryz.underlying127,⟨i,_,h1,h2,h3,h4,rfl⟩,by omega⟩
def LyC (w wx:World) (m:Nat) (cs:Array Value) (p:Pt) (a:Nat) (KA:Option Addr) (kc:Nat) (GA:Option Addr) (gs:List Nat) (x:Nat):Prop :=
 ∃GA1 gc1 ns,Blk wx x 183 #[.int .i64 p.v,.int .i64 p.op,.int .i64 p.imm,.int .i64 p.iv,.slice KA p.kids.length kc,.slice none 0 0,.int .i64 (a:Int),.int .i64 (laO p:Int)] ∧
  LyM wx m cs a GA1 gc1 (gs++ns)∧GsX wx ns (gp1 p a)∧(∀i,At GA1 i→At GA i∨w.heap.size≤i)∧Upd (fun i=>i=m∨At GA i) w wx
set_option maxRecDepth 100000 in
set_option maxHeartbeats 16000000 in
theorem aLayout_c (p:Pt):∀(w:World) (F:Nat→Prop) (KA:Option Addr) (kc:Nat),PtK w F p KA kc→NkP p→supF p=true→WfP 64 p→p.size≤1000 →
  ∀(m a:Nat) (cs:Array Value) (GA:Option Addr) (gc:Nat) (gs:List Nat),LyM w m cs a GA gc gs→(∀i,F i→i<w.heap.size∧i≠m∧¬At GA i)→a+bN p≤1000000→gs.length+gN p≤1000000 →
  Calls Tryz.prog 122 #[pp m,pv p KA kc] w fun e w'=>∃x GA' gc' ns,e=.returned (pp x)∧LyR w w' m cs p a GA gs x GA' gc' ns:=by
 induction p using Pt.ind with
 | h p ih =>
  intro w F KA kc hp hnk hs hw hz m a cs GA gc gs hM hF hab hgb;obtain ⟨hn,ho,hbn,hgp⟩:=lay_facts hnk hs hw;have hnk':=(NkP.iff p).1 hnk;have hw':=(WfP.iff 64 p).1 hw;have hkc:=(PtK.iff.1 hp).1;have HI:=h_ ih;have HNK:=h_ hnk'.2;have HNK1:=h_ hnk'.1;have HWF:=h_ hw'.2.2.2;have HSZ:Hid (∀q∈p.kids,q.size≤1000):=fun q hq=>by have:=Pt.kids_lt hq;omega
  have HGN:Hid (gN p=(gp1 p a++gposL (p.kids.take (laN p)) (a+laO p)).length):=by show _=_;rw [←hgp,gpos_len]
  have hle:=Pt.len_le p.kids;have hse:=Pt.size_eq p;have hkl:p.kids.length≤1000:=by omega
  obtain ⟨W,HW⟩:=nm (w.alloc (.cells #[.int .i64 p.v,.int .i64 p.op,.int .i64 p.imm,.int .i64 p.iv,.slice KA p.kids.length kc] 38));obtain ⟨pb,hpb⟩:∃b,w.heap.size=b:=⟨_,rfl⟩;have hU:Upd Non w W:=by rw [←HW.out];exact Upd.refl.alloc _
  have hb:Blk W pb 38 #[.int .i64 p.v,.int .i64 p.op,.int .i64 p.imm,.int .i64 p.iv,.slice KA p.kids.length kc]:=by rw [←HW.out,←hpb];exact Blk.new _ _ _
  have e0:=HW.out;have hWs:W.heap.size=pb+1:=by rw [←HW.out,←hpb];simp
  have hMW:=hM.upd hU (fun f=>f) (fun _ _ f=>f);obtain ⟨wD,HwD⟩:=nm W.drew;have uD:Upd Non W wD:=by rw [←HwD.out];exact Upd.refl.drew
  have hDs:wD.heap.size=pb+1:=by rw [←HwD.out];exact hWs
  obtain ⟨W2,HW2⟩:=nm (wD.alloc (.cells #[.int .i64 p.v,.int .i64 p.op,.int .i64 p.imm,.int .i64 p.iv,.slice KA p.kids.length kc,.slice none 0 0,.int .i64 (a:Int),.int .i64 0] 183))
  have e2:=HW2.out;have u2:Upd Non W W2:=by rw [←HW2.out];exact uD.alloc _
  have hx2:Blk W2 (pb+1) 183 #[.int .i64 p.v,.int .i64 p.op,.int .i64 p.imm,.int .i64 p.iv,.slice KA p.kids.length kc,.slice none 0 0,.int .i64 (a:Int),.int .i64 0]:=by rw [←HW2.out,←hDs];exact Blk.new _ _ _
  have p0:=hb.cell 0;have p1:=hb.cell 1;have p2:=hb.cell 2;have p3:=hb.cell 3;have p4:=hb.cell 4;have m18:=(hMW.blk.cell 18).trans (mC_18 hM.cs _ _);have hM2:=hMW.upd u2 (fun f=>f) (fun _ _ f=>f);have hb2:=hb.upd u2 (fun f=>f);have u02:Upd Non w W2:=hU.then_non u2;have hp2:=PtK.upd u02 (fun _ _ _ f=>f) p KA kc hp;have HLD:=h_ (fun (w':World) x j GA1 gc1 ns CA cc ks (h:LyL w w' m cs p a KA kc GA gs x j GA1 gc1 ns CA cc ks) hj=>h.done ⟨hbn,hgp⟩ hj);have HGP:=h_ hgp;have HBN:=h_ hbn;have HHW:=h_ hw';have HHS:=h_ hs;have HPK:=h_ hp2;have HP0:=h_ hp
  have HSK:Hid (∀q∈p.kids,supF q=true):=fun q hq=>by
   by_cases hv:0<p.v
   ·rw [hnk'.1 (by omega)] at hq;cases hq
   ·have:=hs;rw [supF_op hv,Bool.and_eq_true] at this;exact List.all_eq_true.1 this.2 q hq
  have hgaw:∀i,At GA i→i<pb:=fun i hi=>by have:=hM.own.lt hi;omega
  have hmw:m<pb:=by have:=hM.blk.lt;omega
  have HM2:=h_ hM2;have HB2:=h_ hb2;have HX2:=h_ hx2;have HFF:=h_ hF;have HGAW:=h_ hgaw;have HAB:=h_ hab;have HGB:=h_ hgb;clear hp hnk hs hw hz ih hnk' hw' hle hse hab hgb hgp hbn hM hMW hM2 hb2 hx2 hp2 hF hb hgaw;unfold pv pp;go_enter Tryz.func122,Tryz.ntmps122;go_wp2_with fail
  refine wp_region_held_drew (S:=fun w'=>w'.cell? ⟨pb,0,none⟩=some (.int .i64 p.v)∧w'.cell? ⟨pb,1,none⟩=some (.int .i64 p.op)∧w'.cell? ⟨pb,2,none⟩=some (.int .i64 p.imm)∧w'.cell? ⟨pb,3,none⟩=some (.int .i64 p.iv)∧w'.cell? ⟨pb,4,none⟩=some (.slice KA p.kids.length kc)∧w'.cell? ⟨m,18,none⟩=some (.int .i64 (a:Int))) (by kernel_rfl) ⟨p0,p1,p2,p3,p4,m18⟩ (fun hHeld=>?_)
  rw [HwD.out] at hHeld ⊢;refine wpT 0 ?_;(try simp only [y_,z_]);refine wpT 1 ?_;(try simp only [y_,z_]);refine wpT 2 ?_;(try simp only [y_,z_]);refine wpT 3 ?_;(try simp only [y_,z_]);refine wpT 4 ?_;(try simp only [y_,z_]);refine wpT 5 ?_;(try simp only [y_,z_]);refine aR_ (rs:=[6]) (by kernel_rfl) (by simp) ?_;refine aC_ rfl (fun K hK=>?_) aN_;go_simp;refine hK.out _ _ ?_ (fun hHeld=>?_)
  ·exact ⟨u_ p0 u2 (fun f=>f),u_ p1 u2 (fun f=>f),u_ p2 u2 (fun f=>f),u_ p3 u2 (fun f=>f),u_ p4 u2 (fun f=>f),u_ m18 u2 (fun f=>f)⟩
  clear hK K;(try simp only [y_,z_]);refine wpT 7 ?_;(try simp only [y_,z_]);refine aD_ (by kernel_rfl) ?_ _
  go_upto_block 0 with fail
  clear hHeld;have hv0:=HHW.out.1;have q0:=HB2.out.cell 0;have q1:=HB2.out.cell 1;have q4:=HB2.out.cell 4;have z7:=HX2.out.cell 7;have zf:=HX2.out.frozen 7;have hm1:m≠pb+1:=by omega
  have HC0:Hid (∀(wx:World) (GA1:Option Addr) (gc1:Nat) (ns:List Nat),Blk wx (pb+1) 183 #[.int .i64 p.v,.int .i64 p.op,.int .i64 p.imm,.int .i64 p.iv,.slice KA p.kids.length kc,.slice none 0 0,.int .i64 (a:Int),.int .i64 (laO p:Int)] →
    LyM wx m cs a GA1 gc1 (gs++ns)→GsX wx ns (gp1 p a)→(∀i,At GA1 i→At GA i∨w.heap.size≤i)→Upd (fun i=>i=m∨At GA i) w wx→LyC w wx m cs p a KA kc GA gs (pb+1)):=fun _ GA1 gc1 ns h1 h2 h3 h4 h5=>⟨GA1,gc1,ns,h1,h2,h3,h4,h5⟩
  have HU2:=h_ u02
  go_cut [6] (fun s wx=>s=.slice KA (laN p) kc∧LyC w wx m cs p a KA kc GA gs (pb+1))
  case first =>
   have hgl:∀i,At GA i→¬i=pb+1:=fun i hi e=>by have:=HGAW.out i hi;omega
   have HS:Hid (∀n:Nat,laO p=n→gp1 p a=[]→LyC w (W2.setCell ⟨pb+1,7,none⟩ (.int .i64 (n:Int))) m cs p a KA kc GA gs (pb+1)):=fun n hn hg=>by
    have uS:=updCell W2 (pb+1) 7 (.int .i64 (n:Int));refine HC0.out _ GA gc [] ?_ ?_ (by rw [hg];exact GsX.nil) (fun _ q=>.inl q) ((HU2.out.mono (fun _ _ f=>f.elim)).trans uS (fun i hi e=>by omega))
    ·rw [hn];simpa using HX2.out.set_ 7 (.int .i64 (n:Int))
    ·rw [List.append_nil];exact HM2.out.upd uS hm1 hgl
   have HZ:Hid (laO p=0→gp1 p a=[]→LyC w W2 m cs p a KA kc GA gs (pb+1)):=fun hn hg=>by
    refine HC0.out _ GA gc [] ?_ ?_ (by rw [hg];exact GsX.nil) (fun _ q=>.inl q) (HU2.out.mono (fun _ _ f=>f.elim))
    ·rw [hn];exact HX2.out
    ·rw [List.append_nil];exact HM2.out
   by_cases hv:0<p.v
   ·have t18:decide (p.v > 0)=true:=dT_ hv;have HN:Hid (laN p=0):=by show _=_;unfold laN osN;rw [if_pos hv]
    have HK:Hid (p.kids.length=0):=by show _=_;rw [HNK1.out (by omega)];rfl
    have HR:Hid (LyC w W2 m cs p a KA kc GA gs (pb+1)):=HZ.out (by unfold laO osOwn;rw [if_pos hv]) (by unfold gp1;rw [if_pos hv]);clear hv;go_wp2_with fail
    go_meet
    case rel=>exact ⟨by rw [HN.out,HK.out],HR.out⟩
   ·have t18:decide (p.v > 0)=false:=dF_ hv;have hs':supO p.op p.kids=true:=by have:=HHS.out;rw [supF_op hv,Bool.and_eq_true] at this;exact this.1
    have HO:Hid (laO p=ownN p.op p.kids):=by show _=_;unfold laO osOwn;rw [if_neg hv]
    have HNN:Hid (p.op≠12→laN p=p.kids.length):=fun h=>by unfold laN osN;rw [if_neg hv,if_neg h]
    have HG1:Hid (gp1 p a=if isG p.op then [(p.op,a)] else []):=by show _=_;unfold gp1;rw [if_neg hv]
    have hcases:(p.op=4∨p.op=5∨p.op=20)∨p.op=12∨((p.op==4)=false∧(p.op==5)=false∧(p.op==20)=false∧(p.op==12)=false∧(isG p.op=true∨(isG p.op=false∧ownN p.op p.kids=0))):=by
     rcases supO_ops hs' with e | e | e | e | e | e | e | e | e | e | e | e | e | e | e <;> rw [e]
     all_goals first
      | exact .inl (by decide)
      | exact .inr (.inl rfl)
      | exact .inr (.inr ⟨by decide,by decide,by decide,by decide,.inl (by decide)⟩)
      | exact .inr (.inr ⟨by decide,by decide,by decide,by decide,.inr ⟨by decide,rfl⟩⟩)
    rcases hcases with hB | hC | ⟨t4,t5,t20,t12,hD⟩
    ·have HR:Hid (LyC w (W2.setCell ⟨pb+1,7,none⟩ (.int .i64 1)) m cs p a KA kc GA gs (pb+1)):=HS.out 1 (by rw [HO.out];rcases hB with e | e | e <;> rw [e] <;> rfl) (by rw [HG1.out];rcases hB with e | e | e <;> rw [e] <;> rfl)
     have HN:=h_ (HNN.out (by omega));clear hv hs';rcases hB with e | e | e
     all_goals
      rw [e] at q1;clear e;go_wp2_with fail
      go_meet
      case rel=>exact ⟨by rw [HN.out],HR.out⟩
    ·have h2:p.kids.length=2:=by rw [HHW.out.2.2.1 (by have:=HHW.out.1;omega),hC];rfl
     obtain ⟨k0,k1,ek⟩:∃k0 k1,p.kids=[k0,k1]:=by
      match p.kids,h2 with
      | [x,y],_=>exact ⟨x,y,rfl⟩
     obtain ⟨b,o,rfl,hFb,hbw,KB,kd,_,_,g2,_,_,_⟩:=HPK.out.at_ (i:=1) (by rw [h2];decide);have ek1:p.kids[1]'(by rw [h2];decide)=k1:=by simp [ek]
     rw [ek1] at g2;have ha:=and63 k1.imm;have HR:Hid (LyC w (W2.setCell ⟨pb+1,7,none⟩ (.int .i64 ((k1.imm % 64).toNat:Int))) m cs p a (some ⟨b,o,none⟩) kc GA gs (pb+1)):=HS.out _ (by rw [HO.out,hC,ek];rfl) (by rw [HG1.out,hC];rfl)
     obtain ⟨sh,Hsh⟩:=nm (k1.imm % 64).toNat;rw [Hsh.out] at ha HR;have HN:Hid (laN p=1):=by show _=_;unfold laN osN;rw [if_neg hv,if_pos hC,h2];rfl
     rw [hC] at q1;have hk0:(1:Int)≤(kc:Int):=by omega
     have hk1:(1:Int)<(p.kids.length:Int):=by omega
     have h2:=h_ h2;have hbx:b≠pb+1:=by have:=(HFF.out b hFb).1;omega
     clear hv hs' hC ek1 ek HNN HG1 HO Hsh;go_wp2_with fail
     go_meet
     case rel=>exact ⟨by rw [HN.out],HR.out⟩
    ·rcases hD with hD | ⟨hD,hE⟩
     ·have CG:∀W,Calls Tryz.prog 172 #[.int .i64 p.op] W fun e w'=>e=.returned (.bool true)∧w'=W:=fun W=>by have:=aIsGuess_c p.op W;rw [hD] at this;exact this
      have CG:=h_ CG;have HN:=h_ (HNN.out (by intro e;rw [e] at t12;cases t12));have HG2:Hid (gp1 p a=[(p.op,a)]):=by show _=_;rw [HG1.out,hD];rfl
      have HO2:Hid (laO p=2):=by show _=_;rw [HO.out,isG_own _ hD]
      obtain ⟨W3,HW3⟩:=nm (W2.setCell ⟨pb+1,7,none⟩ (.int .i64 2));have uS:Upd (·=pb+1) W2 W3:=by rw [←HW3.out];exact updCell W2 (pb+1) 7 _
      have hx3:Blk W3 (pb+1) 183 #[.int .i64 p.v,.int .i64 p.op,.int .i64 p.imm,.int .i64 p.iv,.slice KA p.kids.length kc,.slice none 0 0,.int .i64 (a:Int),.int .i64 2]:=by rw [←HW3.out];simpa using HX2.out.set_ 7 (.int .i64 2)
      have hM3:=HM2.out.upd uS hm1 hgl;have HX3:=h_ hx3;have HM3:=h_ hM3;have r16:=(hM3.blk.cell 16).trans (mC_16 hM3.cs _ _);have ho3:=hM3.own;have HU3:Hid (Upd (·=pb+1) w W3):=(HU2.out.mono (fun _ _ f=>f.elim)).trans uS (fun _ _ q=>q)
      have hgn:gs.length+1≤1000000:=by
       have:=HGB.out;have h1:=HGN.out;rw [HG2.out] at h1;simp at h1;omega
      have HW3s:Hid (W3.heap.size=pb+2):=by show _=_;rw [←HW3.out];simp [World.setCell,←HW2.out,hDs]
      have e6:=HX3.out;clear hv hs' hD hx3 hM3 HNN HG1 HO
      go_upto_region 11 with (go_at_call 172;refine (CG.out _).mono ?_;rintro e w' ⟨rfl,rfl⟩)
      rw [HW3.out];unfold pp at ho3
      go_wp2_with (at_builtin;go_loud (refine wpList_app rfl rfl T_pops rfl (ho3.alloc _) rfl (Sl.new _ _ _) rfl (by simp [Value.oneCell']) (by simp only [maxLen];omega) (by omega) ?_;intro A8 c8 w8 ho8 hu8 hat8;have m8:=(HM3.out.blk.alloc _).upd hu8 HM3.out.ne;have r8:=(m8.cell 16).trans (mC_16 HM3.out.cs _ _);have f8:=m8.frozen 16))
      go_meet
      case rel =>
       have uM:=updCell w8 m 16 (.slice A8 (gs.length+1) c8);have hxg:¬At GA (pb+1):=fun q=>hgl _ q rfl
       have hxb:=(((HX3.out.alloc (.cells #[.pointer (some ⟨pb+1,0,none⟩)] 126)).upd hu8 hxg).upd uM (fun e=>hm1 e.symm));have hmA:¬At A8 m:=ho8.ne_blk m8 (by decide);refine ⟨by rw [HN.out],HC0.out _ A8 c8 [pb+1] ?_ ⟨?_,?_,HM3.out.cs⟩ ?_ ?_ ?_⟩
       ·rw [HO2.out];exact hxb
       ·have:=m8.set_ 16 (.slice A8 (gs.length+1) c8);rw [mC_s16] at this;rw [List.length_append];exact this
       ·rw [List.length_append,List.map_append];exact ho8.upd uM (fun i hi e=>hmA (e ▸ hi))
       ·rw [HG2.out];refine ⟨rfl,fun i h1 _=>?_⟩;have : i=0:=by simp at h1;exact h1
        subst this;exact ⟨p.v,p.imm,p.iv,_,_,hxb⟩
       ·intro i hi;rcases hat8 i hi with q | q
        ·exact .inl q
        ·refine .inr ?_;have:=HW3s.out;simp at q;omega
       ·refine ((HU3.out.alloc (.cells #[.pointer (some ⟨pb+1,0,none⟩)] 126)).mono (T:=fun i=>i=pb+1∨i=m∨At GA i) (fun _ _ q=>.inl q)).trans hu8 (fun _ _ q=>.inr (.inr q)) |>.trans uM (fun _ _ q=>.inr (.inl q)) |>.mono (fun i hi q=>q.elim (fun e=>by omega) (fun q=>q))
     ·have CG:∀W,Calls Tryz.prog 172 #[.int .i64 p.op] W fun e w'=>e=.returned (.bool false)∧w'=W:=fun W=>by have:=aIsGuess_c p.op W;rw [hD] at this;exact this
      have CG:=h_ CG;have HR:Hid (LyC w W2 m cs p a KA kc GA gs (pb+1)):=HZ.out (by rw [HO.out,hE]) (by rw [HG1.out,hD];rfl);have HN:=h_ (HNN.out (by intro e;rw [e] at t12;cases t12));clear hv hs' hD hE;go_wp2_with fail
      refine (CG.out _).mono ?_;rintro e w' ⟨rfl,rfl⟩;go_wp2_with fail
      go_meet
      case rel=>exact ⟨by rw [HN.out],HR.out⟩
  case rest =>
  obtain ⟨hs6,hC⟩:=hcut;subst hs6;obtain ⟨GA1,gc1,ns,hx,hM1,hg1,hga1,hu1⟩:=hC;have x7:=hx.cell 7;have m18:=(hM1.blk.cell 18).trans (mC_18 hM1.cs _ _);have f18:=hM1.blk.frozen 18;have hxm:pb+1≠m:=by omega
  have uS:=updCell wc m 18 (.int .i64 ((a:Int)+(laO p:Int)));have hmG:¬At GA1 m:=hM1.ne
  have hL0:LyL w (wc.setCell ⟨m,18,none⟩ (.int .i64 ((a:Int)+(laO p:Int)))) m cs p a KA kc GA gs (pb+1) 0 GA1 gc1 ns none 0 []:=by
   refine ⟨⟨?_,hM1.own.upd uS (fun i hi e=>hmG (e ▸ hi)),hM1.cs⟩,?_,hx.upd uS hxm,rfl,Own.none_,fun _ _ h=>absurd h (Nat.not_lt_zero _),fun i hi=>(At.none_ hi).elim,hga1,hu1.trans uS (fun _ _ q=>.inl q),by omega,by omega,fun i hi=>by have:=HGAW.out i hi;omega⟩
   ·have:=hM1.blk.set_ 18 (.int .i64 ((a:Int)+(laO p:Int)));rw [mC_s18] at this;rw [List.take_zero];exact this
   ·rw [List.take_zero];show GsX _ ns (gp1 p a++[]);rw [List.append_nil];exact hg1.upd uS (fun g c hb e=>by subst e;exact hb.ne_ hM1.blk (by decide) rfl)
  have HL0:=h_ (hL0.non (wD:=(wc.setCell ⟨m,18,none⟩ (.int .i64 ((a:Int)+(laO p:Int)))).drewN 1) (Upd.refl.drewN 1));have ha1:a+laO p≤1000000:=by have:=HAB.out;have:=HBN.out;omega
  have q1:IntKind.i64.wrap ((a:Int)+(laO p:Int))=(a:Int)+(laO p:Int):=i64w_of (by unfold I64;omega);clear hL0 uS hg1 hga1 hu1 hx;go_wp2_with fail
  refine wp_region_held_drew (S:=fun w'=>w'.cell? ⟨pb+1,7,none⟩=some (.int .i64 (laO p:Int))) (by kernel_rfl) x7 (fun hHeld=>?_);refine wpT 0 ?_;(try simp only [y_,z_]);refine wpT 1 ?_;(try simp only [y_,z_]);refine wpT 2 ?_;(try simp only [y_,z_]);refine wpT 4 ?_;(try simp only [y_,z_]);refine wpT 5 ?_;(try simp only [y_,z_]);refine wpT 6 ?_;(try simp only [y_,z_]);refine wpT 7 ?_;(try simp only [y_,z_]);refine wpAnyH_takeM (fun w'=>w'.cell? ⟨m,18,none⟩=some (.int .i64 (a:Int))) (calm_cell _ _) [8,9,10,11] (i:=3) (v:=?_) rfl (by kernel_rfl) (by kernel_rfl) (by kernel_rfl) (by kernel_rfl) (fun _ _ _ h=>h) (Or.inl ⟨by rfl,?_⟩) (m18) (by assumption) ?_
  rotate_left
  ·intro w hSw;(try dsimp only at hSw);go_simp;try with_reducible rfl
  (try simp only [y_,z_]);refine wpT 8 ?_;(try simp only [y_,z_]);refine wpT 9 ?_;(try simp only [y_,z_]);refine wpT 10 ?_;(try simp only [y_,z_]);refine aR_ (rs:=[11]) (by kernel_rfl) (by simp) ?_;refine aC_ rfl (fun K hK=>?_) aN_;go_simp;refine hK.out _ _ ?_ (fun hHeld=>?_)
  ·exact u_ (S:=(·=m)) x7 ((updCell wc m 18 (.int .i64 ((a:Int)+(laO p:Int)))).drewN 1) hxm
  clear hK K;(try simp only [y_,z_]);refine aD_ (by kernel_rfl) ?_ _;clear hHeld x7 m18 f18 q1;obtain ⟨n,Hnn⟩:=nm (laN p);rw [Hnn.out] at hn;rw [Hnn.out];go_wp2_with fail
  go_loopg [8,84] n (fun gg _ i wr=>∃(j:Nat) (GA1:Option Addr) (gc1:Nat) (ns:List Nat) (CA:Option Addr) (cc:Nat) (ks:List Nat),Hid (gg=n - j)∧j≤n∧i=.int .i64 j∧Hid (LyL w wr m cs p a KA kc GA gs (pb+1) j GA1 gc1 ns CA cc ks))
  case atStart=>exact ⟨0,GA1,gc1,ns,none,0,[],rfl,by omega,rfl,HL0.out⟩
  case round =>
   clear HL0 hM1;obtain ⟨j,GA1,gc1,ns,CA,cc,ks,Hg,hj,rfl,HL⟩:=hrel;by_cases hlt:j<n
   ·have hjk:j<p.kids.length:=by omega
    have hmem:=List.getElem_mem hjk;have hd:∀i,i<w.heap.size→F i→¬(i=m∨At GA i):=fun i _ hi q=>q.elim (HFF.out i hi).2.1 (HFF.out i hi).2.2
    obtain ⟨b,o,rfl,hFb,hbw,KB,kd,h0,h1,h2,h3,h4,h5⟩:=(PtK.upd HL.out.upd hd p KA kc HP0.out).at_ hjk;have hkd:=(PtK.iff.1 h5).1;have hbd:=lay_bounds (a:=a+laO p) (show j<laN p by rw [Hnn.out];exact hlt) hjk;obtain ⟨q,Hq⟩:=nm (p.kids[j]);rw [Hq.out] at h0 h1 h2 h3 h4 h5 hmem hkd hbd;obtain ⟨W7,HW7⟩:=nm (wr.alloc (.cells #[.int .i64 q.v,.int .i64 q.op,.int .i64 q.imm,.int .i64 q.iv,.slice KB q.kids.length kd] 38));obtain ⟨cb,hcb⟩:∃c,wr.heap.size=c:=⟨_,rfl⟩;have e7:=HW7.out;have u7:Upd Non wr W7:=by rw [←HW7.out];exact Upd.refl.alloc _
    have hb7:Blk W7 cb 38 #[.int .i64 q.v,.int .i64 q.op,.int .i64 q.imm,.int .i64 q.iv,.slice KB q.kids.length kd]:=by rw [←HW7.out,←hcb];exact Blk.new _ _ _
    obtain ⟨wD,HwD'⟩:=nm W7.drew;have uD7:Upd Non W7 wD:=by rw [←HwD'.out];exact Upd.refl.drew
    have hbD:=hb7.upd uD7 (fun f=>f);have uD':=u7.then_non uD7;have hLD:=HL.out.non uD';have hns:ns.length=(gp1 p a++gposL (p.kids.take j) (a+laO p)).length:=HL.out.gx.1;have hgN:=HGN.out
    have hlen:(gs++ns).length+gN q≤1000000:=by
     have:=HGB.out;rw [List.length_append] at hgN hns ⊢;omega
    have hsum:a+laO p+bL (p.kids.take j)+bN q≤1000000:=by have:=HAB.out;have:=HBN.out;omega
    have hFD:∀i,F i→i<wD.heap.size∧i≠m∧¬At GA1 i:=fun i hi=>by
     have h1:=(HFF.out i hi);have h2:=HL.out.upd.size;have h3:=uD'.size;refine ⟨by omega,h1.2.1,fun z=>?_⟩;rcases HL.out.ga i z with z | z
     ·exact h1.2.2 z
     ·omega
    have C1:=h_ (HI.out q hmem wD F KB kd (PtK.upd uD' (fun _ _ _ f=>f) _ _ _ h5) (HNK.out q hmem) (HSK.out q hmem) (HWF.out q hmem) (HSZ.out q hmem) m _ cs GA1 gc1 (gs++ns) hLD.st hFD hsum hlen)
    have HLD2:=h_ hLD;have HBD:=h_ hbD;have t0:=hb7.cell 0;have t1:=hb7.cell 1;have t2:=hb7.cell 2;have t3:=hb7.cell 3;have t4:=hb7.cell 4;have hcx:cb≠pb+1:=by have:=HL.out.xb.lt;omega
    have HCD:Hid (cb<wD.heap.size):=hbD.lt;have HS5:Hid (∀w':World,Blk w' cb 38 #[.int .i64 q.v,.int .i64 q.op,.int .i64 q.imm,.int .i64 q.iv,.slice KB q.kids.length kd]→w'.cell? ⟨cb,0,none⟩=some (.int .i64 q.v)∧w'.cell? ⟨cb,1,none⟩=some (.int .i64 q.op)∧w'.cell? ⟨cb,2,none⟩=some (.int .i64 q.imm)∧w'.cell? ⟨cb,3,none⟩=some (.int .i64 q.iv)∧w'.cell? ⟨cb,4,none⟩=some (.slice KB q.kids.length kd)):=fun w' h=>⟨h.cell 0,h.cell 1,h.cell 2,h.cell 3,h.cell 4⟩
    have HCM:Hid (¬(cb=m∨At GA1 cb)):=fun z=>by
     rcases z with z | z
     ·have h1:=HL.out.mw;have h2:=HL.out.upd.size;omega
     ·have:=HL.out.st.own.lt z;omega
    have HCC:Hid (∀i,At CA i→i<cb):=fun i hi=>by have:=HL.out.ko.lt hi;omega
    have hksl:ks.length≤1000:=by have:=HL.out.kl;omega
    have hj0:(0:Int)≤(j:Int):=by omega
    have hjn:(j:Int)<(n:Int):=by omega
    clear hd h5 hkd hbd hns hgN hlen hsum hFD hLD hbD hb7;unfold pv pp at C1;go_wp2_with fail
    refine wp_region_held_drew (S:=fun w'=>w'.cell? ⟨cb,0,none⟩=some (.int .i64 q.v)∧w'.cell? ⟨cb,1,none⟩=some (.int .i64 q.op)∧w'.cell? ⟨cb,2,none⟩=some (.int .i64 q.imm)∧w'.cell? ⟨cb,3,none⟩=some (.int .i64 q.iv)∧w'.cell? ⟨cb,4,none⟩=some (.slice KB q.kids.length kd)) (by kernel_rfl) ⟨t0,t1,t2,t3,t4⟩ (fun hHeld=>?_)
    rw [HwD'.out] at hHeld ⊢;clear t0 t1 t2 t3 t4;refine wpT 0 ?_;(try simp only [y_,z_]);refine wpT 1 ?_;(try simp only [y_,z_]);refine wpT 2 ?_;(try simp only [y_,z_]);refine wpT 3 ?_;(try simp only [y_,z_]);refine wpT 5 ?_;(try simp only [y_,z_]);refine wpT 6 ?_;(try simp only [y_,z_]);refine aR_ (rs:=[4,7]) (by kernel_rfl) (by simp) ?_;refine aC_ rfl (fun K hK=>?_) (aC_ rfl (fun K hK=>?_) aN_)
    ·have d5:=HLD2.out.xb.cell 5;go_simp;refine hK.out _ _ ?_ (fun hHeld=>?_)
     ·exact hHeld
     clear hK K;(try simp only [y_,z_]);refine aR_ (rs:=[7]) (by kernel_rfl) (by simp) ?_;refine aC_ rfl (fun K hK=>?_) aN_;go_simp;refine C1.out.mono ?_;rintro e w4 ⟨y,GA2,gc2,ns2,rfl,hR⟩;go_wp2_with fail
     refine hK.out _ _ ?_ (fun hHeld=>?_)
     ·exact HS5.out _ (HBD.out.upd hR.upd HCM.out)
     clear hK K;(try simp only [y_,z_]);have b4:=HBD.out.upd hR.upd HCM.out;have x4:=HLD2.out.xb.upd hR.upd (fun e=>e.elim HLD2.out.xm HLD2.out.xg);have ho4:=HLD2.out.ko.upd hR.upd (fun i hi e=>e.elim (fun e=>HLD2.out.mc (e ▸ hi)) (fun e=>(HLD2.out.kf i hi).2 e));have X4:=h_ x4;have B4:=h_ b4;have HR4:=h_ hR;have hxc:=HLD2.out.xc;clear x4 b4 hR;refine aR_ (rs:=[8]) (by kernel_rfl) (by simp) ?_;refine aC_ rfl (fun K hK=>?_) aN_;go_simp;refine hK.out _ _ ?_ (fun hHeld=>?_)
     ·exact HS5.out _ (B4.out.alloc _)
     clear hK K;(try simp only [y_,z_]);refine aR_ (rs:=[9]) (by kernel_rfl) (by simp) ?_;refine aC_ rfl (fun K hK=>?_) aN_;refine step_app rfl rfl T_pops rfl (ho4.alloc _) rfl (Sl.new _ _ _) rfl (by simp [Value.oneCell']) (by simp only [maxLen];omega) (by omega) ?_;intro A8 c8 w8 ho8 hu8 hat8;have b8:=(B4.out.alloc (.cells #[.pointer (some ⟨y,0,none⟩)] 126)).upd hu8 (fun h=>by have:=HCC.out _ h;omega);have x8:=(X4.out.alloc (.cells #[.pointer (some ⟨y,0,none⟩)] 126)).upd hu8 hxc;have d8:=x8.cell 5;have f8:=x8.frozen 5;refine hK.out _ _ ?_ (fun hHeld=>?_)
     ·exact HS5.out _ b8
     clear hK K;(try simp only [y_,z_]);refine wpT 10 ?_;(try simp only [y_,z_]);refine wpT 11 ?_;(try simp only [y_,z_]);refine aR_ (rs:=[12]) (by kernel_rfl) (by simp) ?_;refine aC_ rfl (fun K hK=>?_) aN_;go_simp;refine hK.out _ _ ?_ (fun hHeld=>?_)
     ·exact HS5.out _ (b8.upd (updCell w8 (pb+1) 5 (.slice A8 (ks.length+1) c8)) hcx)
     clear hK K;(try simp only [y_,z_]);refine aD_ (by kernel_rfl) ?_ _;go_wp2_with fail
     go_roundg (n - (j+1))
     case measure=>rw [Hg.out];omega
     case rel=>exact ⟨j+1,GA2,gc2,ns++ns2,A8,c8,ks++[y],rfl,by omega,by go_num,HLD2.out.step hjk (by rw [Hq.out];exact HR4.out) (Upd.refl.alloc (.cells #[.pointer (some ⟨y,0,none⟩)] 126)) ho8 hu8 hat8⟩
    ·go_simp;refine C1.out.mono ?_;rintro e w4 ⟨y,GA2,gc2,ns2,rfl,hR⟩;go_wp2_with fail
     refine hK.out _ _ ?_ (fun hHeld=>?_)
     ·exact HS5.out _ (HBD.out.upd hR.upd HCM.out)
     clear hK K;(try simp only [y_,z_]);have d5:=(HLD2.out.xb.upd hR.upd (fun e=>e.elim HLD2.out.xm HLD2.out.xg)).cell 5;refine wpAnyH_takeM (fun w'=>w'.cell? ⟨pb+1,5,none⟩=some (.slice CA ks.length cc)) (calm_cell _ _) [9,10,11,12] (i:=4) (v:=?_) rfl (by kernel_rfl) (by kernel_rfl) (by kernel_rfl) (by kernel_rfl) (fun _ _ _ h=>h) (Or.inl ⟨by rfl,?_⟩) (d5) (by assumption) ?_
     rotate_left
     ·intro w hSw;(try dsimp only at hSw);go_simp;try with_reducible rfl
     (try simp only [y_,z_]);clear d5;have b4:=HBD.out.upd hR.upd HCM.out;have x4:=HLD2.out.xb.upd hR.upd (fun e=>e.elim HLD2.out.xm HLD2.out.xg);have ho4:=HLD2.out.ko.upd hR.upd (fun i hi e=>e.elim (fun e=>HLD2.out.mc (e ▸ hi)) (fun e=>(HLD2.out.kf i hi).2 e));have X4:=h_ x4;have B4:=h_ b4;have HR4:=h_ hR;have hxc:=HLD2.out.xc;clear x4 b4 hR;refine aR_ (rs:=[8]) (by kernel_rfl) (by simp) ?_;refine aC_ rfl (fun K hK=>?_) aN_;go_simp;refine hK.out _ _ ?_ (fun hHeld=>?_)
     ·exact HS5.out _ (B4.out.alloc _)
     clear hK K;(try simp only [y_,z_]);refine aR_ (rs:=[9]) (by kernel_rfl) (by simp) ?_;refine aC_ rfl (fun K hK=>?_) aN_;refine step_app rfl rfl T_pops rfl (ho4.alloc _) rfl (Sl.new _ _ _) rfl (by simp [Value.oneCell']) (by simp only [maxLen];omega) (by omega) ?_;intro A8 c8 w8 ho8 hu8 hat8;have b8:=(B4.out.alloc (.cells #[.pointer (some ⟨y,0,none⟩)] 126)).upd hu8 (fun h=>by have:=HCC.out _ h;omega);have x8:=(X4.out.alloc (.cells #[.pointer (some ⟨y,0,none⟩)] 126)).upd hu8 hxc;have d8:=x8.cell 5;have f8:=x8.frozen 5;refine hK.out _ _ ?_ (fun hHeld=>?_)
     ·exact HS5.out _ b8
     clear hK K;(try simp only [y_,z_]);refine wpT 10 ?_;(try simp only [y_,z_]);refine wpT 11 ?_;(try simp only [y_,z_]);refine aR_ (rs:=[12]) (by kernel_rfl) (by simp) ?_;refine aC_ rfl (fun K hK=>?_) aN_;go_simp;refine hK.out _ _ ?_ (fun hHeld=>?_)
     ·exact HS5.out _ (b8.upd (updCell w8 (pb+1) 5 (.slice A8 (ks.length+1) c8)) hcx)
     clear hK K;(try simp only [y_,z_]);refine aD_ (by kernel_rfl) ?_ _;go_wp2_with fail
     go_roundg (n - (j+1))
     case measure=>rw [Hg.out];omega
     case rel=>exact ⟨j+1,GA2,gc2,ns++ns2,A8,c8,ks++[y],rfl,by omega,by go_num,HLD2.out.step hjk (by rw [Hq.out];exact HR4.out) (Upd.refl.alloc (.cells #[.pointer (some ⟨y,0,none⟩)] 126)) ho8 hu8 hat8⟩
   ·obtain rfl:n=j:=by omega
    go_wp2_with fail
    go_ret;exact ⟨pb+1,GA1,gc1,ns,rfl,HLD.out _ _ _ _ _ _ _ _ _ HL.out Hnn.out.symm⟩
theorem WfP.mono {m n:Nat} (h:m≤n) (p:Pt):WfP m p→WfP n p:=by
 induction p using Pt.ind with
 | h p ih =>
  intro hw;rw [WfP.iff] at hw ⊢;exact ⟨hw.1,by omega,hw.2.2.1,fun k hk=>ih k hk (hw.2.2.2 k hk)⟩
structure ImOk (r:Rl):Prop where
 wl:WfP 64 r.l
 wr:WfP 64 r.r
 nl:NkP r.l
 nr:NkP r.r
 sl:r.l.size≤24
 sr:r.r.size≤24
 cn:r.conds.length≤6
 v0:0≤r.vars
 v6:r.vars≤6
 ck:∀c∈r.conds,1≤c.kind
theorem imok_of {r:Rl} (h:implF r=true):ImOk r:=by
 have hn:=applF_nk h;unfold implF at h;simp only [Bool.and_eq_true,decide_eq_true_eq] at h;obtain ⟨⟨⟨⟨⟨_,hl⟩,hr⟩,_⟩,hc⟩,hg⟩:=h;unfold validF at hl hr;rw [Bool.and_eq_true,decide_eq_true_iff] at hl hr;have wl:=wf_of_vPt _ _ _ _ hl.2;have wr:=wf_of_vPt _ _ _ _ hr.2;rw [List.length_replicate] at wl wr;refine ⟨WfP.mono (by omega) _ wl,WfP.mono (by omega) _ wr,hn.1,hn.2,by omega,by omega,hc,by omega,by omega,fun c hc=>?_⟩;unfold implG at hg;rw [Bool.and_eq_true] at hg;have hcond:=List.all_eq_true.1 hg.2 c hc;unfold condF at hcond;by_cases h1:c.kind=1
 ·omega
 ·by_cases h2:c.kind=2∨c.kind=3
  ·omega
  ·by_cases h4:c.kind=4
   ·omega
   ·by_cases h5:c.kind=5
    ·omega
    ·by_cases h6:c.kind=6
     ·omega
     ·rw [if_neg h1,if_neg h2,if_neg h4,if_neg h5,if_neg h6] at hcond;cases hcond
theorem nxok_of {r:Rl} (h:applF r=true):NxOk r:=by
 have h0:=h;unfold applF at h0;simp only [Bool.and_eq_true,decide_eq_true_eq] at h0;obtain ⟨⟨⟨⟨⟨h1,h2⟩,h3⟩,h4⟩,_⟩,h6⟩:=h0;have hi:=imok_of h1;refine ⟨⟨h3,hi.wl,by have:=hi.sl;omega⟩,⟨h4,hi.wr,by have:=hi.sr;omega⟩,fun c hc=>?_⟩;have hk:=of_decide_eq_true (List.all_eq_true.1 h6 c hc);unfold implF at h1;simp only [Bool.and_eq_true,decide_eq_true_eq] at h1;obtain ⟨⟨⟨⟨⟨_,hl⟩,_⟩,_⟩,_⟩,hg⟩:=h1;unfold validF at hl;rw [Bool.and_eq_true,decide_eq_true_iff] at hl;unfold implG at hg;rw [Bool.and_eq_true] at hg;have hcond:=List.all_eq_true.1 hg.2 c hc;have hss:(colV (occ r.r (rsF r.l.op).2) (colV (occ r.l (rsF r.l.op).2) (List.replicate (r.vars.toNat+1) 0))).length=r.vars.toNat+1:=by rw [colV_len,colV_len,List.length_replicate]
 generalize colV (occ r.r (rsF r.l.op).2) (colV (occ r.l (rsF r.l.op).2) (List.replicate (r.vars.toNat+1) 0))=ss at *
 have hv:∀x,isValF ss x=true→1≤x∧x≤64:=fun x hx=>by
  have:=of_decide_eq_true hx;omega
 have hkk:c.kind=1∨c.kind=2∨c.kind=3∨c.kind=4:=by omega
 unfold condF at hcond;refine ⟨hk,?_⟩;rcases hkk with e | e | e | e <;> simp only [e] at hcond <;> simp at hcond
 ·have:=hv _ hcond.1.1;exact ⟨this.1,this.2,fun q=>by omega⟩
 ·have:=hv _ hcond.1;exact ⟨this.1,this.2,fun q=>by omega⟩
 ·have:=hv _ hcond.1;exact ⟨this.1,this.2,fun q=>by omega⟩
 ·have q1:=hv _ hcond.1.1.1;have q2:=hv _ hcond.1.1.2;exact ⟨q1.1,q1.2,fun _=>q2⟩
theorem stN_le {r:Rl} (h:ImOk r):stN r≤4000:=by
 have h1:=bN_le r.l;have h2:=bN_le r.r;have:=h.sl;have:=h.sr;have:=h.cn;unfold stN;omega
theorem gR_le {r:Rl} (h:ImOk r):gN r.l≤24∧gN r.r≤24:=by
 have h1:=gN_le r.l;have h2:=gN_le r.r;have:=h.sl;have:=h.sr;omega
def BldP (F:Nat→Prop) (r:Rl) (a:RlA) (w:World) (e:Ending) (w':World):Prop :=
 ∃v,e=.returned (.tuple #[v,.bool (applF r)])∧Upd Non w w'∧(applF r=true→∃m L R GA gc gs,v=pp m∧w.heap.size≤m∧AU w' (fun i=>F i∧i<w.heap.size∨w.heap.size≤i) m r a L R GA gc gs∧GsX w' gs (gposR r))
theorem mC_far {cs:Array Value} {i:Nat} (h6:i≠16) (h8:i≠18) (a b v:Value):(mC cs a b).setIfInBounds i v=mC (cs.setIfInBounds i v) a b:=by
 unfold mC;rw [Array.setIfInBounds_comm _ _ (Ne.symm h8),Array.setIfInBounds_comm _ _ (Ne.symm h6)]
theorem mC_get {cs:Array Value} {i:Nat} (h6:i≠16) (h8:i≠18) (a b:Value):(mC cs a b)[i]?=cs[i]?:=by
 unfold mC;rw [Array.getElem?_setIfInBounds_ne (Ne.symm h8),Array.getElem?_setIfInBounds_ne (Ne.symm h6)]
theorem LyM.put {w:World} {m:Nat} {cs:Array Value} {sz:Nat} {GA:Option Addr} {gc:Nat} {gs:List Nat} (h:LyM w m cs sz GA gc gs) {i:Nat} (h6:i≠16) (h8:i≠18) (v:Value):LyM (w.setCell ⟨m,i,none⟩ v) m (cs.setIfInBounds i v) sz GA gc gs:=by
 refine ⟨?_,h.own.upd (updCell w m i v) (fun k hk e=>h.ne (e ▸ hk)),by rw [Array.size_setIfInBounds];exact h.cs⟩;have:=h.blk.set_ i v
 rwa [mC_far h6 h8] at this
def auC (r:Rl) (a:RlA) (L R c:Value):Array Value:=#[.string r.name,.int .i64 r.l.v,.int .i64 r.l.op,.int .i64 r.l.imm,.int .i64 r.l.iv,.slice a.la r.l.kids.length a.lc,.int .i64 r.r.v,.int .i64 r.r.op,.int .i64 r.r.imm,.int .i64 r.r.iv,.slice a.ra r.r.kids.length a.rc,.slice a.ca r.conds.length a.cc,.int .i64 r.vars,.int .i64 r.imms,L,R,.slice none 0 0,c,.int .i64 0]
theorem auC_14 (r:Rl) (a:RlA) (L R c v:Value):(auC r a L R c).setIfInBounds 14 v=auC r a v R c:=rfl
theorem auC_15 (r:Rl) (a:RlA) (L R c v:Value):(auC r a L R c).setIfInBounds 15 v=auC r a L v c:=rfl
theorem auC_17 (r:Rl) (a:RlA) (L R c v:Value):(auC r a L R c).setIfInBounds 17 v=auC r a L R v:=rfl
theorem auC_mC (r:Rl) (a:RlA) (L R c g s:Value):mC (auC r a L R c) g s=#[.string r.name,.int .i64 r.l.v,.int .i64 r.l.op,.int .i64 r.l.imm,.int .i64 r.l.iv,.slice a.la r.l.kids.length a.lc,.int .i64 r.r.v,.int .i64 r.r.op,.int .i64 r.r.imm,.int .i64 r.r.iv,.slice a.ra r.r.kids.length a.rc,.slice a.ca r.conds.length a.cc,.int .i64 r.vars,.int .i64 r.imms,L,R,g,c,s]:=rfl
set_option maxRecDepth 100000 in
set_option maxHeartbeats 16000000 in
theorem aBuild_c (r:Rl) (a:RlA) (F:Nat→Prop) (w:World) (hk:RlK w F r a) (hz:RlSz r) :
  Calls Tryz.prog 60 #[rlv r a] w fun e w'=>BldP F r a w e w':=by
 obtain ⟨W,HW⟩:=nm (w.alloc (.cells (rlCells r a) 41));have hU:Upd Non w W:=by rw [←HW.out];exact Upd.refl.alloc _
 obtain ⟨rb,hrb⟩:∃b,w.heap.size=b:=⟨_,rfl⟩;have hb:Blk W rb 41 (rlCells r a):=by rw [←HW.out,←hrb];exact Blk.new _ _ _
 have e0:=HW.out;have hK:=(hk.mono (G:=fun k=>F k∧k<w.heap.size) (fun _ h q=>⟨q,h⟩)).upd hU (fun _ _ _ f=>f);have HC:=h_ (fun (w':World) (u:Upd Non W w')=>rl_cells (hb.upd u (fun f=>f)));have hc0:=HC.out W Upd.refl;obtain ⟨c0,c1,c2,c3,c4,c5,c6,c7,c8,c9,c10,c11,c12,c13⟩:=hc0;have CV:=h_ (rlValid_c r a _ W hK hz);have HZ:=h_ hz;have HK:=h_ hK;have HU:=h_ hU;have HBP:Hid (∀e w',BldP F r a w e w'=BldP F r a w e w'):=fun _ _=>rfl
 clear hk hz hK hb hU;unfold rlv at CV ⊢;unfold rlCells at CV e0 ⊢;by_cases hv:implF r=true
 ·have hi:=imok_of hv;have HV:=h_ hv;rw [hv] at CV;by_cases him:r.imms=0
  ·have CL:=h_ (fun (w':World) (u:Upd Non W w')=>aSupported_c 64 r.l w' _ a.la a.lc (PtK.upd u (fun _ _ _ f=>f) _ _ _ HK.out.l) hi.wl (by have:=hi.sl;omega))
   have CR:=h_ (fun (w':World) (u:Upd Non W w')=>aSupported_c 64 r.r w' _ a.ra a.rc (PtK.upd u (fun _ _ _ f=>f) _ _ _ HK.out.r) hi.wr (by have:=hi.sr;omega))
   unfold pv at CL CR;have HI:=h_ hi;have HIM:=h_ him;have tim:(r.imms != 0)=false:=by simpa using him
   clear hi him hv;obtain ⟨sl,Hsl⟩:=nm (supF r.l);obtain ⟨sr,Hsr⟩:=nm (supF r.r);rw [Hsl.out] at CL;rw [Hsr.out] at CR
   cases sl with
   | false =>
    have HR:Hid (applF r=false):=by show _=_;unfold applF;rw [HV.out,Hsl.out];simp
    go_enter Tryz.func60,Tryz.ntmps60;go_wp2_with fail
    refine CV.out.mono ?_;rintro e w1 ⟨rfl,u1⟩;have c13':=u_ c13 u1 (fun f=>f);have c1':=u_ c1 u1 (fun f=>f);have c2':=u_ c2 u1 (fun f=>f);have c3':=u_ c3 u1 (fun f=>f);have c4':=u_ c4 u1 (fun f=>f);have c5':=u_ c5 u1 (fun f=>f);go_wp2_with fail
    refine (CL.out w1 u1).mono ?_;rintro e w2 ⟨rfl,u2'⟩;have u2:=u1.then_non u2';have u3:=HU.out.then_non u2;go_wp2_with fail
    go_ret2;exact ⟨_,by rw [HR.out];rfl,by assumption,fun h=>by rw [HR.out] at h;cases h⟩
   | true =>
    cases sr with
    | false =>
     have HR:Hid (applF r=false):=by show _=_;unfold applF;rw [HV.out,Hsl.out,Hsr.out];simp
     go_enter Tryz.func60,Tryz.ntmps60;go_wp2_with fail
     refine CV.out.mono ?_;rintro e w1 ⟨rfl,u1⟩;have c13':=u_ c13 u1 (fun f=>f);have c1':=u_ c1 u1 (fun f=>f);have c2':=u_ c2 u1 (fun f=>f);have c3':=u_ c3 u1 (fun f=>f);have c4':=u_ c4 u1 (fun f=>f);have c5':=u_ c5 u1 (fun f=>f);go_wp2_with fail
     refine (CL.out w1 u1).mono ?_;rintro e w2 ⟨rfl,u2'⟩;have u2:=u1.then_non u2';have c6':=u_ c6 u2 (fun f=>f);have c7':=u_ c7 u2 (fun f=>f);have c8':=u_ c8 u2 (fun f=>f);have c9':=u_ c9 u2 (fun f=>f);have c10':=u_ c10 u2 (fun f=>f);go_wp2_with fail
     refine (CR.out w2 u2).mono ?_;rintro e w3 ⟨rfl,u3'⟩;have u3:=u2.then_non u3';have u4:=HU.out.then_non u3;go_wp2_with fail
     go_ret2;exact ⟨_,by rw [HR.out];rfl,by assumption,fun h=>by rw [HR.out] at h;cases h⟩
    | true =>
     go_enter Tryz.func60,Tryz.ntmps60;go_wp2_with fail
     refine CV.out.mono ?_;rintro e w1 ⟨rfl,u1⟩;have c13':=u_ c13 u1 (fun f=>f);have c1':=u_ c1 u1 (fun f=>f);have c2':=u_ c2 u1 (fun f=>f);have c3':=u_ c3 u1 (fun f=>f);have c4':=u_ c4 u1 (fun f=>f);have c5':=u_ c5 u1 (fun f=>f);go_wp2_with fail
     refine (CL.out w1 u1).mono ?_;rintro e w2 ⟨rfl,u2'⟩;have u2:=u1.then_non u2';have c6':=u_ c6 u2 (fun f=>f);have c7':=u_ c7 u2 (fun f=>f);have c8':=u_ c8 u2 (fun f=>f);have c9':=u_ c9 u2 (fun f=>f);have c10':=u_ c10 u2 (fun f=>f);go_wp2_with fail
     refine (CR.out w2 u2).mono ?_;rintro e w3 ⟨rfl,u3'⟩;have u3:=u2.then_non u3';have HU3:=h_ u3;have c11':=u_ c11 u3 (fun f=>f);have HCV:=h_ (HK.out.c.upd u3 (fun _ _ _ f=>f));obtain ⟨CA,hCA⟩:∃x,a.ca=x:=⟨_,rfl⟩;rw [hCA] at HCV c11';have HCE:=h_ hCA;obtain ⟨nc,Hnc⟩:=nm r.conds.length;rw [Hnc.out] at c11';have hnc6:nc≤6:=by rw [←Hnc.out];exact HI.out.cn
     clear hCA c1 c2 c3 c4 c5 c6 c7 c8 c9 c10 c1' c2' c3' c4' c5' c6' c7' c8' c9' c10' c13 c13' c0 c12 c11 u1 u2' u2 u3' u3 CL CR CV;go_wp2_with fail
     go_loopg [5,30] nc (fun gg _ i wr=>∃j:Nat,Hid (gg=nc - j)∧j≤nc∧i=.int .i64 j∧Hid (∀c∈r.conds.take j,c.kind≤4)∧Hid (Upd Non w3 wr))
     case atStart=>exact ⟨0,rfl,by omega,rfl,fun c hc=>(by rw [List.take_zero] at hc;cases hc),Upd.refl⟩
     case round =>
      obtain ⟨j,Hg,hj,rfl,HT,HUr⟩:=hrel;by_cases hlt:j<nc
      ·have hjl:j<r.conds.length:=by rw [Hnc.out];exact hlt
       obtain ⟨b,o,rfl,_,hbw,k0,k1,k2,k3⟩:=(HCV.out.upd HUr.out (fun _ _ _ f=>f)).at_ hjl;have hmem:=List.getElem_mem hjl;have htk:=List.take_succ_eq_append_getElem hjl;generalize r.conds[j]=c at *;have hj0:(0:Int)≤(j:Int):=by omega
       have hjn:(j:Int)<(nc:Int):=by omega
       by_cases h4:c.kind≤4
       ·have t4:decide (c.kind > 4)=false:=dF_ (by omega)
        have HT2:Hid (∀c∈r.conds.take (j+1),c.kind≤4):=fun x hx=>by
         rw [htk,List.mem_append,List.mem_singleton] at hx;rcases hx with hx | rfl
         ·exact HT.out x hx
         ·exact h4
        clear hmem htk h4;go_wp2_with fail
        go_roundg (nc - (j+1))
        case measure=>rw [Hg.out];omega
        case rel=>exact ⟨j+1,rfl,by omega,by go_num,HT2.out,HUr.out.alloc _⟩
       ·have t4:decide (c.kind > 4)=true:=dT_ (by omega)
        have HR:Hid (applF r=false):=by
         show _=_;rw [Bool.eq_false_iff];intro q;unfold applF at q;simp only [Bool.and_eq_true] at q;have:=of_decide_eq_true (List.all_eq_true.1 q.2 c hmem);omega
        have u4:=HU.out.then_non (HU3.out.then_non (HUr.out.alloc (.cells #[.int .i64 c.kind,.int .i64 c.a,.int .i64 c.b,.int .i64 c.n] 102)));clear hmem htk h4;go_wp2_with fail
        go_ret2;exact ⟨_,by rw [HR.out];rfl,by assumption,fun h=>by rw [HR.out] at h;cases h⟩
      ·obtain rfl:nc=j:=by omega
       have HT2:Hid (∀c∈r.conds,c.kind≤4):=fun c hc=>HT.out c (by rw [List.take_of_length_le (by rw [Hnc.out];exact Nat.le_refl _)];exact hc)
       have HUW:=h_ (HU3.out.then_non HUr.out);have hcr:=HC.out wr HUW.out;obtain ⟨c0,c1,c2,c3,c4,c5,c6,c7,c8,c9,c10,c11,c12,c13⟩:=hcr;have HKr:=h_ (HK.out.upd HUW.out (fun _ _ _ f=>f));have HWr:Hid (rb<wr.heap.size):=World.block_lt_of_cell? wr _ c0;obtain ⟨mb,hmb⟩:∃b,wr.heap.size=b:=⟨_,rfl⟩;obtain ⟨W5,HW5⟩:=nm (wr.alloc (.cells #[.string r.name,.int .i64 r.l.v,.int .i64 r.l.op,.int .i64 r.l.imm,.int .i64 r.l.iv,.slice a.la r.l.kids.length a.lc,.int .i64 r.r.v,.int .i64 r.r.op,.int .i64 r.r.imm,.int .i64 r.r.iv,.slice a.ra r.r.kids.length a.rc,.slice a.ca r.conds.length a.cc,.int .i64 r.vars,.int .i64 r.imms,.pointer none,.pointer none,.slice none 0 0,.int .i64 0,.int .i64 0] 129))
       have e5:=HW5.out;have u5:Upd Non wr W5:=by rw [←HW5.out];exact Upd.refl.alloc _
       have hM5:LyM W5 mb (auC r a (.pointer none) (.pointer none) (.int .i64 0)) 0 none 0 []:=by
        refine ⟨?_,Own.none_,rfl⟩;rw [auC_mC,←HW5.out,←hmb];exact Blk.new _ _ _
       have hmr:rb≠mb:=by have:=HWr.out;omega
       have hws:w.heap.size≤wr.heap.size:=by have:=HU.out.size;have:=HUW.out.size;omega
       have hF1:∀i,(F i∧i<w.heap.size)→i<W5.heap.size∧i≠mb∧¬At none i:=fun i hi=>by
        have:=u5.size;exact ⟨by omega,by omega,At.none_⟩
       have hgr:=gR_le HI.out;have hbl:=bN_le r.l;have hbr:=bN_le r.r;have hsl:=HI.out.sl;have hsr:=HI.out.sr;have C1:=h_ (aLayout_c r.l W5 (fun k=>F k∧k<w.heap.size) a.la a.lc (PtK.upd u5 (fun _ _ _ f=>f) _ _ _ HKr.out.l) HI.out.nl Hsl.out HI.out.wl (by omega) mb 0 _ none 0 [] hM5 hF1 (by omega) (by simp;omega))
       unfold pv pp at C1;have HM5:=h_ hM5;have HU5:=h_ u5;have d1:=u_ c1 u5 (fun f=>f);have d2:=u_ c2 u5 (fun f=>f);have d3:=u_ c3 u5 (fun f=>f);have d4:=u_ c4 u5 (fun f=>f);have d5:=u_ c5 u5 (fun f=>f);have HC0:=h_ c0;clear hM5 u5
       go_upto_region 10 with fail
       go_wp2_with fail
       refine C1.out.mono ?_;rintro e w6 ⟨L,GA1,gc1,ns1,rfl,hR1⟩;have k14:w6.cell? ⟨mb,14,none⟩=some (.pointer none):=(hR1.st.blk.cell 14).trans (mC_get (by decide) (by decide) _ _);have f14:=hR1.st.blk.frozen 14;have hM7:=hR1.st.put (i:=14) (by decide) (by decide) (pp L);rw [auC_14,Nat.zero_add,List.nil_append] at hM7;have hmw:∀i,i<wr.heap.size→¬i=mb:=fun i hi e=>by omega
       obtain ⟨W7,HW7⟩:=nm (w6.setCell ⟨mb,14,none⟩ (pp L))
       have u7:Upd Non wr W7:=by
        rw [←HW7.out];exact ((HU5.out.trans hR1.upd (T:=fun i=>i=mb∨At none i) (fun i hi q=>q.elim (fun e=>(hmw i hi e).elim) (fun q=>(At.none_ q).elim))).trans (updCell w6 mb 14 (pp L)) (fun i hi q=>(hmw i hi q).elim))
       have uT1:Upd (·=mb) w6 W7:=by rw [←HW7.out];exact updCell w6 mb 14 (pp L)
       rw [HW7.out] at hM7;have hG1:∀i,At GA1 i→W5.heap.size≤i:=fun i hi=>(hR1.ga i hi).elim (fun q=>(At.none_ q).elim) (fun q=>q)
       have hF2:∀i,(F i∧i<w.heap.size)→i<W7.heap.size∧i≠mb∧¬At GA1 i:=fun i hi=>by
        have h1:=u7.size;have h2:=HU5.out.size;exact ⟨by omega,by omega,fun q=>by have:=hG1 i q;omega⟩
       have hn1:ns1.length=gN r.l:=by rw [hR1.gx.1,gpos_len]
       have C2:=h_ (aLayout_c r.r W7 (fun k=>F k∧k<w.heap.size) a.ra a.rc (PtK.upd u7 (fun _ _ _ f=>f) _ _ _ HKr.out.r) HI.out.nr Hsr.out HI.out.wr (by omega) mb (bN r.l) _ GA1 gc1 ns1 hM7 hF2 (by omega) (by omega))
       unfold pv pp at C2;have d6:=u_ c6 u7 (fun f=>f);have d7:=u_ c7 u7 (fun f=>f);have d8:=u_ c8 u7 (fun f=>f);have d9:=u_ c9 u7 (fun f=>f);have d10:=u_ c10 u7 (fun f=>f);have HR1:=h_ hR1;have HM7:=h_ hM7;have HU7:=h_ u7;have HT1:=h_ uT1;have HG1:=h_ hG1;have e7:=HW7.out;unfold pp at e7;clear hR1 hM7 u7 uT1 hG1 hF2 d1 d2 d3 d4 d5 hF1 C1;go_wp2_with fail
       refine C2.out.mono ?_;rintro e w8 ⟨R,GA2,gc2,ns2,rfl,hR2⟩;have k15:w8.cell? ⟨mb,15,none⟩=some (.pointer none):=(hR2.st.blk.cell 15).trans (mC_get (by decide) (by decide) _ _);have f15:=hR2.st.blk.frozen 15;have hM9:=hR2.st.put (i:=15) (by decide) (by decide) (pp R);rw [auC_15] at hM9;obtain ⟨sz,Hsz⟩:=nm (bN r.l+bN r.r);have hsz:sz≤10000:=by have:=Hsz.out;omega
       rw [Hsz.out] at hM9;obtain ⟨W9,HW9⟩:=nm (w8.setCell ⟨mb,15,none⟩ (pp R));rw [HW9.out] at hM9;have e9:=HW9.out;have uT2:Upd (·=mb) w8 W9:=by rw [←HW9.out];exact updCell w8 mb 15 (pp R)
       have k18:=(hM9.blk.cell 18).trans (mC_18 hM9.cs _ _);have k17:W9.cell? ⟨mb,17,none⟩=some (.int .i64 0):=(hM9.blk.cell 17).trans (mC_get (by decide) (by decide) _ _);have f17:=hM9.blk.frozen 17;have hM10:=hM9.put (i:=17) (by decide) (by decide) (.int .i64 (sz:Int));rw [auC_17] at hM10;obtain ⟨W10,HW10⟩:=nm (W9.setCell ⟨mb,17,none⟩ (.int .i64 (sz:Int)));rw [HW10.out] at hM10;have e10:=HW10.out;have uT3:Upd (·=mb) W9 W10:=by rw [←HW10.out];exact updCell W9 mb 17 _
       have u8:Upd (fun i=>i=mb∨At GA1 i) W7 W10:=(hR2.upd.trans uT2 (fun _ _ q=>.inl q)).trans uT3 (fun _ _ q=>.inl q);have u10:Upd Non wr W10:=HU7.out.trans u8 (fun i hi q=>q.elim (fun e=>(hmw i hi e).elim) (fun q=>by have h1:=HG1.out i q;have h2:=HU5.out.size;omega))
       have g11:=u_ c11 u10 (fun f=>f);have m18:=(hM10.blk.cell 18).trans (mC_18 hM10.cs _ _);have f18:=hM10.blk.frozen 18
       have hM11:LyM (W10.setCell ⟨mb,18,none⟩ (.int .i64 ((sz:Int)+((r.conds.length:Int)+1)))) mb (auC r a (pp L) (pp R) (.int .i64 (sz:Int))) (stN r) GA2 gc2 (ns1++ns2):=by
        have uS:=updCell W10 mb 18 (.int .i64 ((sz:Int)+((r.conds.length:Int)+1)));refine ⟨?_,hM10.own.upd uS (fun i hi e=>hM10.ne (e ▸ hi)),rfl⟩;have:=hM10.blk.set_ 18 (.int .i64 ((sz:Int)+((r.conds.length:Int)+1)));rw [mC_s18] at this;rw [show ((stN r:Nat):Int)=(sz:Int)+((r.conds.length:Int)+1) by rw [←Hsz.out];unfold stN;push_cast;omega];exact this
       have HM11:=h_ hM11;have HR2:=h_ hR2;have HU8:=h_ u8;have HU10:=h_ u10;have HT23:Hid (Upd (·=mb) w8 W10):=uT2.trans uT3 (fun _ _ q=>q);have hcl:r.conds.length≤6:=HI.out.cn;have q1:IntKind.i64.wrap ((r.conds.length:Int)+1)=(r.conds.length:Int)+1:=i64w_of (by unfold I64;omega);have q2:IntKind.i64.wrap ((sz:Int)+((r.conds.length:Int)+1))=(sz:Int)+((r.conds.length:Int)+1):=i64w_of (by unfold I64;omega);unfold pp at e9;clear hR2 hM9 hM10 hM11 u8 u10 uT2 uT3 d6 d7 d8 d9 d10 C2
       go_upto_region 13 with fail
       refine wp_region_held_drew (S:=fun w'=>w'.cell? ⟨rb,11,none⟩=some (.slice a.ca r.conds.length a.cc)) (by kernel_rfl) g11 (fun hHeld=>?_);refine wpT 0 ?_;(try simp only [y_,z_]);refine wpT 1 ?_;(try simp only [y_,z_]);refine wpT 2 ?_;(try simp only [y_,z_]);refine wpT 4 ?_;(try simp only [y_,z_]);refine wpT 5 ?_;(try simp only [y_,z_]);refine wpT 6 ?_;(try simp only [y_,z_]);refine wpT 7 ?_;(try simp only [y_,z_]);refine wpAnyH_takeM (fun w'=>w'.cell? ⟨mb,18,none⟩=some (.int .i64 (sz:Int))) (calm_cell _ _) [8,9,10,11] (i:=3) (v:=?_) rfl (by kernel_rfl) (by kernel_rfl) (by kernel_rfl) (by kernel_rfl) (fun _ _ _ h=>h) (Or.inl ⟨by rfl,?_⟩) (m18) (by assumption) ?_
       rotate_left
       ·intro w hSw;(try dsimp only at hSw);go_simp;try with_reducible rfl
       (try simp only [y_,z_]);refine wpT 8 ?_;(try simp only [y_,z_]);refine wpT 9 ?_;(try simp only [y_,z_]);refine wpT 10 ?_;(try simp only [y_,z_]);refine aR_ (rs:=[11]) (by kernel_rfl) (by simp) ?_;refine aC_ rfl (fun K hK=>?_) aN_;go_simp;refine hK.out _ _ ?_ (fun hHeld=>?_)
       ·exact u_ (S:=(·=mb)) g11 ((updCell W10 mb 18 (.int .i64 ((sz:Int)+((r.conds.length:Int)+1)))).drewN 1) hmr
       clear hK K;(try simp only [y_,z_]);refine aD_ (by kernel_rfl) ?_ _;clear hHeld;obtain ⟨WE,HWE⟩:=nm ((W10.setCell ⟨mb,18,none⟩ (.int .i64 ((sz:Int)+((r.conds.length:Int)+1)))).drewN 1);have uTE:Upd (·=mb) W10 WE:=by rw [←HWE.out];exact (updCell W10 mb 18 _).drewN 1
       have hME:LyM WE mb (auC r a (pp L) (pp R) (.int .i64 (sz:Int))) (stN r) GA2 gc2 (ns1++ns2):=by rw [←HWE.out];exact HM11.out.upd (S:=Non) (Upd.refl.drewN 1) (fun f=>f) (fun _ _ f=>f)
       have m16:=(hME.blk.cell 16).trans (mC_16 hME.cs _ _);have HME:=h_ hME;have HTE:=h_ uTE;have hgn:(ns1++ns2).length=gR r:=by rw [List.length_append,HR1.out.gx.1,HR2.out.gx.1,gpos_len,gpos_len];rfl
       obtain ⟨gn,Hgn⟩:=nm (ns1++ns2).length;rw [Hgn.out] at m16 hgn;have HGN:=h_ hgn;clear hgn g11 m18 f18 hME uTE q1 q2;rw [show (W10.setCell ⟨mb,18,none⟩ (.int .i64 ((sz:Int)+((r.conds.length:Int)+1)))).drew=WE from HWE.out];go_wp2_with fail
       refine wp_region_held_drew (S:=fun w'=>w'.cell? ⟨mb,16,none⟩=some (.slice GA2 gn gc2)) (by kernel_rfl) m16 (fun hHeld=>?_);refine wpT 0 ?_;(try simp only [y_,z_]);refine wpT 1 ?_;(try simp only [y_,z_]);refine wpT 2 ?_;(try simp only [y_,z_]);refine wpT 3 ?_;(try simp only [y_,z_]);refine wpT 4 ?_;(try simp only [y_,z_]);refine wpT 5 ?_;(try simp only [y_,z_]);refine wpT 6 ?_;(try simp only [y_,z_]);refine wpT 7 ?_;(try simp only [y_,z_]);refine wpT 8 ?_;(try simp only [y_,z_]);refine aD_ (by kernel_rfl) ?_ _;go_wp2_with fail
       go_ret2
       have hA:applF r=decide ((gn:Int)≤6):=by
        unfold applF;have hall:(r.conds.all fun c=>decide (1≤c.kind∧c.kind≤4))=true:=List.all_eq_true.2 fun c hc=>dT_ ⟨HI.out.ck c hc,HT2.out c hc⟩
        rw [HV.out,dT_ HIM.out,Hsl.out,Hsr.out,hall,HGN.out];simp;omega
       have uE1:Upd Non wr (WE.drewN 1):=(HU10.out.trans HTE.out (fun i hi q=>(hmw i hi q).elim)).drewN 1;have uWE:=HU.out.then_non (HUW.out.then_non uE1);have u6E:Upd (fun i=>i=mb∨At GA1 i) w6 (WE.drewN 1):=(((HT1.out.mono (fun _ _ q=>.inl q)).trans HU8.out (fun _ _ q=>q)).trans HTE.out (fun _ _ q=>.inl q)).drewN 1
       have u8E:Upd (·=mb) w8 (WE.drewN 1):=(HT23.out.trans HTE.out (fun _ _ q=>q)).drewN 1;have hW5:=HU5.out.size;have hW7:=HU7.out.size;have hm5:mb<W5.heap.size:=HM5.out.blk.lt;have hm7:mb<W7.heap.size:=HM7.out.blk.lt;refine ⟨_,by rw [hA];rfl,uWE,fun _=>⟨mb,L,R,GA2,gc2,ns1++ns2,rfl,by omega,⟨?_,.inr (by omega),?_,?_,?_,?_⟩,?_⟩⟩
       ·have:=HME.out.blk;rw [auC_mC,←Hsz.out] at this;exact this
       ·exact (HKr.out.c.mono (fun _ _ q=>.inl q)).upd uE1 (fun _ _ _ f=>f)
       ·refine OsT.upd u6E (fun i _ hi q=>?_) (fun i _ hi=>.inr (by have:=hi.1;omega)) _ _ _ HR1.out.os;rcases q with q | q
        ·have:=hi.1;omega
        ·exact hi.2 q
       ·refine OsT.upd u8E (fun i _ hi q=>by have:=hi.1;omega) (fun i _ hi=>.inr (by have:=hi.1;omega)) _ _ _ HR2.out.os
       ·refine (HME.out.own.sl.mono (fun i _ hi=>.inr ?_)).upd (S:=Non) (Upd.refl.drewN 1) (fun _ _ _ f=>f);rcases HR2.out.ga i hi with q | q
        ·have:=HG1.out i q;omega
        ·omega
       ·refine GsX.app (HR1.out.gx.upd u6E (fun g c hb q=>?_)) (HR2.out.gx.upd u8E (fun g c hb q=>?_))
        ·rcases q with q | q
         ·subst q;exact hb.ne_ HR1.out.st.blk (by decide) rfl
         ·exact HR1.out.st.own.ne_blk hb (by decide) q
        ·subst q;exact hb.ne_ HR2.out.st.blk (by decide) rfl
  ·have HR:Hid (applF r=false):=by show _=_;unfold applF;rw [hv,dF_ him];rfl
   have tim:(r.imms != 0)=true:=by simpa using him
   clear hi him hv;go_enter Tryz.func60,Tryz.ntmps60;go_wp2_with fail
   refine CV.out.mono ?_;rintro e w1 ⟨rfl,u1⟩;have c13':=u_ c13 u1 (fun f=>f);have u2:=HU.out.then_non u1;go_wp2_with fail
   go_ret2;exact ⟨_,by rw [HR.out];rfl,by assumption,fun h=>by rw [HR.out] at h;cases h⟩
 ·have hv':implF r=false:=by simpa using hv
  have HR:Hid (applF r=false):=by show _=_;unfold applF;rw [hv'];rfl
  rw [hv'] at CV;clear hv hv';go_enter Tryz.func60,Tryz.ntmps60;go_wp2_with fail
  refine CV.out.mono ?_;rintro e w1 ⟨rfl,u1⟩;have u2:=HU.out.then_non u1;go_wp2_with fail
  go_ret2;exact ⟨_,by rw [HR.out];rfl,by assumption,fun h=>by rw [HR.out] at h;cases h⟩
def U8B (w:World) (i:Nat):Prop:=∃cs,Blk w i 5 cs
theorem U8B.upd {w w':World} {S:Nat→Prop} {i:Nat} (h:U8B w i) (u:Upd S w w') (d:¬S i):U8B w' i:=by
 obtain ⟨cs,hb⟩:=h;exact ⟨cs,hb.upd u d⟩
section
variable {α:Type} {El:World→(Nat→Prop)→List Value→α→Prop} {k:Nat} {w w':World} {S:Nat→Prop} {A:Option Addr} {L:List α} {n c:Nat} {e:TypeId}
theorem ElO.u8 (O:ElOk El k) (h:ElO El k e w (U8B w) A n c L) (u:Upd S w w') (dA:∀i,At A i→¬S i) (d8:∀i cs,Blk w i 5 cs→¬S i):ElO El k e w' (U8B w') A n c L:=by
 obtain ⟨h1,cs,h2,h3⟩:=h;exact ⟨h1,cs,h2.upd u dA,h3.mono O u (fun i _ hg=>by obtain ⟨q,hb⟩:=hg.1;exact d8 i q hb) (fun i _ hg=>⟨hg.1.upd u (by obtain ⟨q,hb⟩:=hg.1;exact d8 i q hb),hg.2⟩)⟩
theorem ElO.snoc8 (O:ElOk El k) (he:e≠5) {w0:World} {A':Option Addr} {c':Nat} {x:α} {new cs:List Value} (hL:n=L.length) (h:ElCells El k w0 (fun i=>U8B w0 i∧¬At A i) cs L) (u0:Upd Non w0 w) (hO:Own w e k A n c cs) (hx:El w (fun i=>U8B w i∧¬At A i) new x) (ho:Own w' e k A' (n+1) c' (cs++new))
  (u:Upd (At A) w w') (hA:∀i,At A' i→At A i∨i=w.heap.size):ElO El k e w' (U8B w') A' (n+1) c' (L++[x]):=by
 have h1:ElCells El k w (fun i=>U8B w i∧¬At A i) cs L:=h.mono O u0 (fun _ _ _ f=>f) (fun i _ q=>⟨q.1.upd u0 (fun f=>f),q.2⟩);exact ElO.snoc O hL h1 hx ho rfl u (fun i hi=>(hA i hi).imp (fun z=>z) (fun z=>by omega)) (fun i _ hg=>hg.upd u (fun z=>by obtain ⟨q,hb⟩:=hg;exact hO.ne_blk hb he z))
end
theorem own_u8 {w:World} {q n c:Nat} {cs:List Value} (h:Own w 5 1 (some ⟨q,0,none⟩) n c cs):U8B w q:=by
 rcases h.cases with ⟨h0,_⟩ | ⟨g,cur,e1,hb,_⟩
 ·cases h0
 ·injection e1 with e1;injection e1 with e1;subst e1
  exact ⟨cur,hb⟩
theorem T_rows:SlT Tryz.prog 118 84 1 24:=by
 obtain ⟨i,h1,h2,h3,h4⟩:=info_parts (show (Tryz.prog.info? 84).map (fun i=>(i.zero,i.size,i.bytes))=some (some (.slice none 0 0),1,24) from by kernel_rfl)
 exact ⟨Tryz.underlying118,⟨i,_,h1,h2,h3,h4,rfl⟩,by omega⟩
theorem rep_set (m:List Bool) (k:Nat) (b:Bool):(m++List.replicate (k+1) false).set m.length b=(m++[b])++List.replicate k false:=by
 rw [List.set_append_right _ _ (Nat.le_refl _),Nat.sub_self,List.replicate_succ,List.set_cons_zero,List.append_assoc];rfl
theorem rep_no (m:List Bool) (k:Nat):m++List.replicate (k+1) false=(m++[false])++List.replicate k false:=by
 rw [List.replicate_succ,List.append_assoc];rfl
theorem rep_spl (m1 m2:List Bool) (k:Nat) (h:m2.length≤k):spl (m1++List.replicate k false) m1.length m2=(m1++m2)++List.replicate (k - m2.length) false:=by
 unfold spl;rw [List.take_append_of_le_length (Nat.le_refl _),List.take_length,List.drop_append,List.drop_of_length_le (by omega),List.drop_replicate,List.nil_append,List.append_assoc]
 congr 3
 omega
theorem rep_get (m:List Bool) (k i:Nat) (h:m.length≤i):(m++List.replicate k false).getD i false=false:=by
 rw [List.getD_eq_getElem?_getD,List.getElem?_append_right h,List.getElem?_replicate]
 split <;> rfl
theorem setG_snoc (g:Nat→Bool) (l:List (Int×Nat)) (b:List Bool) {i:Nat} (h:i<l.length):setG g (l.take (i+1)) 0 b=(setG g (l.take i) 0 b).set l[i].2 (g i):=by
 rw [List.take_succ_eq_append_getElem h,setG_app,List.length_take,Nat.min_eq_left (by omega),Nat.zero_add];rfl
theorem elRow_of {w:World} {K:Nat→Prop} {q n c:Nat} {l:List Bool} (h:Own w 5 1 (some ⟨q,0,none⟩) n c (b8s l)) (hl:l.length=n) (hK:K q):ElRow w K [.slice (some ⟨q,0,none⟩) n c] (bbs l):=by
 refine ⟨some ⟨q,0,none⟩,c,?_,?_,?_⟩
 ·unfold bbs;rw [List.length_map,hl]
 ·unfold bbs;rw [List.length_map,hl];exact h.le
 ·rw [←b8s_u8s];exact h.sl.mono (fun i _ hi=>by rw [At.some_] at hi;subst hi;exact hK)
theorem own_rep (w:World) (n:Nat) (hn:n≤1000000):Own (w.alloc (.cells (Array.replicate n (.int .u8 0)) 5)) 5 1 (some ⟨w.heap.size,0,none⟩) n n (b8s (List.replicate n false)):=by
 refine Own.mk_ (Blk.new _ _ _) (Nat.le_refl _) (by simp only [maxLen];omega) (by simp) ?_;rw [Nat.mul_one];unfold b8s;rw [List.map_replicate];simp;exact .inr rfl
set_option maxRecDepth 100000 in
set_option maxHeartbeats 16000000 in
theorem aInitStates_c {w:World} {F:Nat→Prop} {m:Nat} {r:Rl} {a:RlA} {L R:Nat} {GA:Option Addr} {gc:Nat} {gs:List Nat} (hA:AU w F m r a L R GA gc gs) (hG:GsX w gs (gposR r)) (hr:NxOk r) (hn:stN r≤100000) (hg6:gR r≤6) (hc6:r.conds.length≤6) :
  Calls Tryz.prog 70 #[pp m] w fun e w'=>∃A c,e=.returned (.slice A (2 ^ gR r) c)∧ElO ElRow 1 84 w' (U8B w') A (2 ^ gR r) c ((initsF r).map bbs)∧(∀i,At A i→w.heap.size≤i)∧Upd Non w w':=by
 have hst:stN r=bN r.l+bN r.r+r.conds.length+1:=rfl;obtain ⟨n,Hn⟩:=nm (stN r);rw [Hn.out] at hn hst;have x18:=hA.blk.cell 18;rw [Hn.out] at x18;have hmk:∀w:World,(Instr.makeSlice 84 (.int .i64 (n:Int)) (.int .i64 (n:Int))).run Tryz.prog w=.ok (.slice (some ⟨w.heap.size,0,none⟩) n n) (w.alloc (.cells (Array.replicate n (.int .u8 0)) 5)):=fun w=>run_mk (P:=Tryz.prog) T_u8s zero_u8 rfl n (by omega) (by omega) w
 obtain ⟨W1,HW1⟩:=nm (w.alloc (.cells (Array.replicate n (.int .u8 0)) 5));have e1:=HW1.out;have u1:Upd Non w W1:=by rw [←HW1.out];exact Upd.refl.alloc _
 obtain ⟨g,hg⟩:∃g,w.heap.size=g:=⟨_,rfl⟩;have ho1:Own W1 5 1 (some ⟨g,0,none⟩) n n (b8s (List.replicate n false)):=by rw [←HW1.out,←hg];exact own_rep w n (by omega)
 have HA:=h_ hA;have HST:=h_ hst;obtain ⟨bl,Hbl⟩:=nm (bN r.l);obtain ⟨br,Hbr⟩:=nm (bN r.r);obtain ⟨nc,Hnc⟩:=nm r.conds.length;have hst2:n=bl+br+nc+1:=by rw [hst,Hbl.out,Hbr.out,Hnc.out]
 have hzl:(iP r.l).length=bl:=by rw [iP_len,Hbl.out]
 have hzr:(iP r.r).length=br:=by rw [iP_len,Hbr.out]
 have hs1:spl (List.replicate n false) 0 (iP r.l)=iP r.l++List.replicate (n - bl) false:=by
  have:=rep_spl [] (iP r.l) n (by omega);rw [hzl] at this;exact this
 have hs2:spl (iP r.l++List.replicate (n - bl) false) bl (iP r.r)=(iP r.l++iP r.r)++List.replicate (nc+1) false:=by
  have:=rep_spl (iP r.l) (iP r.r) (n - bl) (by omega);rw [hzl,hzr,show n - bl - br=nc+1 by omega] at this;exact this
 have hTL:=OsT.upd u1 (fun _ _ _ f=>f) (G:=fun i=>i<w.heap.size) (fun i hi _=>hi) _ _ _ hA.tl;have hTR:=OsT.upd u1 (fun _ _ _ f=>f) (G:=fun i=>i<w.heap.size) (fun i hi _=>hi) _ _ _ hA.tr;have C1:=h_ (aInitialize_c (c:=n) (m:=m) (F:=fun i=>i<w.heap.size) (g:=g) (by omega:n≤1000000) (fun i hi e=>by omega) r.l W1 (List.replicate n false) 0 L hr.hl.1 hr.hl.2.1 hTL ho1 List.length_replicate (by omega) (fun i _ _=>by rw [List.getD_eq_getElem?_getD,List.getElem?_replicate];split <;> rfl))
 have x14:=u_ (hA.blk.cell 14) u1 (fun f=>f);have hgm:m≠g:=by have:=hA.blk.lt;omega
 rw [hs1] at C1;have C2:=h_ (fun (w':World) (u:Upd (·=g) W1 w') ho=>aInitialize_c (c:=n) (m:=m) (F:=fun i=>i<w.heap.size) (g:=g) (by omega:n≤1000000) (fun i hi e=>by omega) r.r w' (iP r.l++List.replicate (n - bl) false) bl R hr.hr.1 hr.hr.2.1 (OsT.upd u (fun i _ hi e=>by omega) (fun _ _ q=>q) _ _ _ (by rw [Hbl.out] at hTR;exact hTR)) ho (by rw [List.length_append,List.length_replicate];omega) (by have:=Hbr.out;omega) (fun i h1 _=>rep_get _ _ _ (by omega)))
 rw [hs2] at C2;have HLT:Hid (∀i,i<w.heap.size→i≠g):=fun i hi e=>by omega
 have X15:=h_ (u_ (hA.blk.cell 15) u1 (fun f=>f));have HU1:=h_ u1;have HML:Hid (m<w.heap.size):=hA.blk.lt;have HS2:=h_ hst2;have HZL:=h_ hzl;have HZR:=h_ hzr;clear hA hTL hTR ho1 hst hst2 hs1 hs2 hzl hzr u1;unfold pp at C1 C2 x14 X15 ⊢;go_enter Tryz.func70,Tryz.ntmps70;go_wp2_with fail
 refine C1.out.mono ?_;rintro e w2 ⟨rfl,ho2,hu2⟩;have x15:=u_ (S:=(·=g)) X15.out hu2 hgm;have HO2:=h_ ho2;have HU2:=h_ hu2;clear x14 ho2 hu2 C1;go_wp2_with fail
 refine (C2.out w2 HU2.out HO2.out).mono ?_;rintro e w3 ⟨rfl,ho3,hu3⟩;have hu13:=HU2.out.trans hu3 (fun _ _ q=>q);have hu03:Upd (·=g) w w3:=(HU1.out.mono (fun _ _ f=>f.elim)).trans hu13 (fun _ _ q=>q);have HU3:=h_ hu3;have HU03:Hid (Upd Non w w3):=hu03.mono (fun i hi e=>by omega);have HA3:=h_ (HA.out.blk.upd hu03 hgm);have HCD:=h_ (HA.out.cds.mono (G:=fun i=>i<w.heap.size) (fun i hi _=>hi) |>.upd hu03 (fun i _ hi e=>by omega));have x11:=HA3.out.cell 11;have x17:=HA3.out.cell 17;obtain ⟨CA,hCA⟩:∃x,a.ca=x:=⟨_,rfl⟩;rw [hCA] at x11 HCD;rw [Hnc.out] at x11;rw [Hbl.out,Hbr.out] at x17;obtain ⟨cn,hcn⟩:∃c,bl+br=c:=⟨_,rfl⟩;rw [hcn] at x17;have HCN:Hid (n=cn+nc+1):=by show _=_;have:=HS2.out;omega
 have HO3:=h_ ho3;have HZN:Hid ((iP r.l++iP r.r).length=cn):=by show _=_;rw [List.length_append,HZL.out,HZR.out,hcn]
 have hcn12:cn+nc+1≤100000:=by have:=HCN.out;omega
 rw [Hnc.out] at hc6;clear hCA ho3 hu3 hu13 hu03 x15 C2 hcn;go_wp2_with fail
 go_loopg [4,5,36] nc (fun gg _ _ i wr=>∃j:Nat,Hid (gg=nc - j)∧j≤nc∧i=.int .i64 j∧Hid (Own wr 5 1 (some ⟨g,0,none⟩) n n (b8s (((iP r.l++iP r.r)++(r.conds.take j).map cdIn)++List.replicate (nc - j+1) false)))∧Hid (Upd (·=g) w3 wr))
 case atStart=>exact ⟨0,rfl,by omega,rfl,by rw [List.take_zero,List.map_nil,List.append_nil];exact HO3.out,Upd.refl⟩
 case round =>
  obtain ⟨j,Hg,hj,rfl,HOr,HUr⟩:=hrel;by_cases hlt:j<nc
  ·have hjl:j<r.conds.length:=by rw [Hnc.out];exact hlt
   obtain ⟨b,o,rfl,_,hbw,k0,k1,k2,k3⟩:=(HCD.out.upd HUr.out (fun i hi hi2 e=>by omega)).at_ hjl;have htk:=List.take_succ_eq_append_getElem hjl;generalize r.conds[j]=c at *;obtain ⟨Zj,HZj⟩:=nm ((iP r.l++iP r.r)++(r.conds.take j).map cdIn);have hZl:Zj.length=cn+j:=by rw [←HZj.out,List.length_append,HZN.out,List.length_map,List.length_take,Nat.min_eq_left (by omega)]
   have HZ2:Hid ((iP r.l++iP r.r)++(r.conds.take (j+1)).map cdIn=Zj++[cdIn c]):=by show _=_;rw [htk,List.map_append,←List.append_assoc,HZj.out];rfl
   rw [HZj.out,show nc - j+1=(nc - (j+1)+1)+1 by omega] at HOr;have hj0:(0:Int)≤(j:Int):=by omega
   have hjn:(j:Int)<(nc:Int):=by omega
   obtain ⟨cb,hcb⟩:∃b,wr.heap.size=b:=⟨_,rfl⟩;obtain ⟨W5,HW5⟩:=nm (wr.alloc (.cells #[.int .i64 c.kind,.int .i64 c.a,.int .i64 c.b,.int .i64 c.n] 102));have u5:Upd Non wr W5:=by rw [←HW5.out];exact Upd.refl.alloc _
   have b5:Blk W5 cb 102 #[.int .i64 c.kind,.int .i64 c.a,.int .i64 c.b,.int .i64 c.n]:=by rw [←HW5.out,←hcb];exact Blk.new _ _ _
   have z0:=b5.cell 0;have hO5:=HOr.out.upd u5 (fun _ _ f=>f);have HO5:=h_ hO5;have hU5:Upd (·=g) w3 W5:=HUr.out.trans u5 (fun _ _ f=>f.elim);have HU5:=h_ hU5;have hg5:∃v,W5.cell? ⟨g,cn+j,none⟩=some v:=⟨_,hO5.cell_ (i:=cn+j) (by rw [b8s_len,List.length_append,hZl,List.length_replicate];omega)⟩
   obtain ⟨v5,hg5⟩:=hg5;have hf5:=hO5.frozen_ (cn+j);have x17':=u_ (S:=(·=g)) x17 hU5 hgm;clear b5 u5 hO5 hU5 htk;have hk23:(c.kind=2∨c.kind=3)∨(¬c.kind=2∧¬c.kind=3):=by omega
   rcases hk23 with hk | ⟨hk2,hk3⟩
   ·have HCI:Hid (cdIn c=true):=dT_ hk
    have HO6:Hid (Own (W5.setCell ⟨g,cn+j,none⟩ (b8 true)) 5 1 (some ⟨g,0,none⟩) n n (b8s ((Zj++[true])++List.replicate (nc - (j+1)+1) false))):=by
     show Own _ _ _ _ _ _ _;rw [←rep_set,hZl,←b8s_set];exact HO5.out.set_ _ _
    clear hZl;have q2:(0:Int)≤(cn:Int)+(j:Int):=by omega
    have q3:(cn:Int)+(j:Int)<(n:Int):=by have:=HCN.out;omega
    have q4:((cn:Int)+(j:Int)).toNat=cn+j:=by omega
    rcases hk with e | e
    all_goals
     rw [e] at z0;clear e
     go_upto_region 7 with fail
     rw [HW5.out];go_wp2_with fail
     go_roundg (nc - (j+1))
     case measure=>rw [Hg.out];omega
     case rel=>exact ⟨j+1,rfl,by omega,by go_num,by rw [HZ2.out,HCI.out];exact HO6.out,HU5.out.trans (updCell W5 g (cn+j) (b8 true)) (fun _ _ q=>q)⟩
   ·have HCI:Hid (cdIn c=false):=dF_ (by omega);have t2:(c.kind==2)=false:=by simpa using hk2
    have t3:(c.kind==3)=false:=by simpa using hk3
    have HO6:Hid (Own W5 5 1 (some ⟨g,0,none⟩) n n (b8s ((Zj++[false])++List.replicate (nc - (j+1)+1) false))):=by
     show Own _ _ _ _ _ _ _;rw [←rep_no];exact HO5.out
    clear hZl hk2 hk3
    go_upto_region 7 with fail
    rw [HW5.out];go_wp2_with fail
    go_roundg (nc - (j+1))
    case measure=>rw [Hg.out];omega
    case rel=>exact ⟨j+1,rfl,by omega,by go_num,by rw [HZ2.out,HCI.out];exact HO6.out,HU5.out⟩
  ·obtain rfl:nc=j:=by omega
   obtain ⟨w4,rfl⟩:∃x:World,x=wr:=⟨_,rfl⟩
   have hO:Own w4 5 1 (some ⟨g,0,none⟩) n n (b8s (initZ r)):=by
    have:=HOr.out;rw [List.take_of_length_le (by rw [Hnc.out];exact Nat.le_refl _),Nat.sub_self] at this;exact this
   have HO:=h_ hO;have hU3:Upd (·=g) w w4:=(HU1.out.mono (fun _ _ f=>f.elim)).trans (HU2.out.trans HU3.out (fun _ _ q=>q)) (fun _ _ q=>q) |>.trans HUr.out (fun _ _ q=>q)
   have HUW:Hid (Upd Non w w4):=hU3.mono (fun i hi e=>by omega);have hM:=HA3.out.upd HUr.out hgm;have x16:=hM.cell 16;have HGX:=h_ (hG.upd HUW.out (fun _ _ _ f=>f));have HGS:=h_ ((HA.out.gds.mono (G:=fun i=>i<w.heap.size) (fun i hi _=>hi)).upd hU3 (fun i _ hi e=>by omega));have hgl:gs.length=gR r:=by rw [hG.1,gposR_len]
   obtain ⟨gn,Hgn⟩:=nm gs.length;rw [Hgn.out] at x16 hgl;have HGL:=h_ hgl;obtain ⟨G2,HG2⟩:=nm (2 ^ gn);have hG2:G2≤64:=by rw [←HG2.out];exact Nat.le_trans (Nat.pow_le_pow_right (by decide) (show gn≤6 by omega)) (by decide)
   have hsh:wrap64 ((2:Int) ^ gn)=(G2:Int):=by
    have e:((2:Int) ^ gn)=((2 ^ gn:Nat):Int):=by push_cast;rfl
    rw [e,HG2.out];exact wrap64_of (by unfold I64;omega)
   have hgn6:gn≤6:=by omega
   have HM:=h_ hM;clear hO hU3 hG HCD HO3 HU3 x11 x17 HA3 hgl hM;go_wp2_with fail
   go_loopg [6,7,8,9,10,76] G2 (fun gg lv hv _ _ _ _ wx=>∃(h c:Nat) (A:Option Addr),Hid (gg=G2 - h)∧h≤G2∧hv=.int .i64 h∧lv=.slice A h c∧Hid (ElO ElRow 1 84 wx (U8B wx) A h c (((initsF r).take h).map bbs))∧Hid (∀i,At A i→w4.heap.size≤i)∧Hid (Upd Non w4 wx))
   case atStart=>exact ⟨0,0,none,rfl,by omega,rfl,rfl,ElO.none_,fun i hi=>(At.none_ hi).elim,Upd.refl⟩
   case round =>
    obtain ⟨h,c,A,Hg2,hh,rfl,rfl,HE,HAt,HUx⟩:=hrel;obtain ⟨wx,rfl⟩:∃x:World,x=wr:=⟨_,rfl⟩;have y16:=u_ x16 HUx.out (fun f=>f);by_cases hlt:h<G2
    ·have HOx:=HO.out.upd HUx.out (fun _ _ f=>f);have HSL:=h_ HOx.sl;have hzl:(initZ r).length=n:=by have:=HO.out.len;rw [b8s_len] at this;omega
     have HB2:Hid ((b8s (initZ r)).length=n * 1):=by show _=_;rw [b8s_len,hzl];omega
     have HB1:=h_ (b8s_one (initZ r));have HZ:=h_ hzl;obtain ⟨hEL,cs,hoE,hcE⟩:=HE.out;have HHL:=h_ hEL;have hAx:∀i,At A i→i<wx.heap.size:=fun i hi=>hoE.lt hi
     clear HOx hzl hEL
     go_wp2_with (at_builtin;refine wpList_app rfl rfl T_u8s rfl Own.none_ rfl HSL.out HB2.out HB1.out (by simp only [maxLen];omega) (by omega) ?_)
     intro A8 c8 w8 ho8 hu8 hat8;have hn0:0<n:=by have:=HS2.out;omega
     obtain ⟨q,rfl⟩:=ho8.some_ (by omega)
     have hqx:wx.heap.size≤q:=by
      rcases hat8 q (At.some_.2 rfl) with z | z
      ·exact absurd z At.none_
      ·omega
     have u8':Upd Non wx w8:=hu8.mono (fun _ _ z=>(At.none_ z).elim);have z16:=u_ y16 u8' (fun f=>f);have HU8:=h_ u8';have ho8':Own w8 5 1 (some ⟨q,0,none⟩) n c8 (b8s (initZ r)):=by simpa using ho8
     have HO8:=h_ ho8';have HW0:Hid (w.heap.size≤wx.heap.size):=by show _≤_;have h1:=HUW.out.size;have h2:=HUx.out.size;omega
     have HUw8:Hid (Upd Non w w8):=HUW.out.then_non (HUx.out.then_non u8');clear hu8 hat8 ho8 ho8' u8' HSL HB2 HB1;go_wp2_with fail
     go_loopg [9,10,76] gn (fun gg _ _ iv w2=>∃i:Nat,Hid (gg=gn - i)∧i≤gn∧iv=.int .i64 i∧Hid (Own w2 5 1 (some ⟨q,0,none⟩) n c8 (b8s (setG h.testBit ((gposR r).take i) 0 (initZ r))))∧Hid (Upd (·=q) w8 w2))
     case atStart=>exact ⟨0,rfl,by omega,rfl,by rw [List.take_zero];exact HO8.out,Upd.refl⟩
     case round =>
      obtain ⟨i,Hg3,hi,rfl,HO9,HU9⟩:=hrel;obtain ⟨w2,rfl⟩:∃x:World,x=wr:=⟨_,rfl⟩;have hw2q:∀k,k<w.heap.size→¬k=q:=fun k hk e=>by have:=HW0.out;omega
      by_cases hil:i<gn
      ·have hig:i<gs.length:=by rw [Hgn.out];exact hil
       have hip:i<(gposR r).length:=by rw [gposR_len,←HGL.out];exact hil
       have hUw:Upd (·=q) w w2:=(HUw8.out.mono (fun _ _ f=>f.elim)).trans HU9.out (fun _ _ z=>z);obtain ⟨cb,co,eC,_,_,hcc⟩:=(HGS.out.upd ((HUx.out.then_non HU8.out).mono (T:=(·=q)) (fun _ _ f=>f.elim) |>.trans HU9.out (fun _ _ z=>z)) (fun k _ hk=>hw2q k hk)).at_ (k:=i) (by rw [List.length_map];exact hig)
       rw [List.getElem_map] at hcc;have hu42:Upd (·=q) w4 w2:=((HUx.out.then_non HU8.out).mono (T:=(·=q)) (fun _ _ f=>f.elim)).trans HU9.out (fun _ _ z=>z);have h4x:=HUx.out.size;obtain ⟨v,imm,iv,KK,CC,hxb⟩:=((HGX.out.upd hu42 (fun k cs hb hk=>by have:=hb.lt;omega)).2 i hig hip).blk;have y6:=hxb.cell 6;have hlt2:=gposR_lt _ (List.getElem_mem hip);have hst:=setG_snoc h.testBit (gposR r) (initZ r) hip;generalize (gposR r)[i]=qq at *;generalize gs[i]=y at *;obtain ⟨op,at_⟩:=qq;have HST2:=h_ hst;have hat:at_+1<n:=by rw [←Hn.out];exact hlt2
       have hb8:=bit_u8 (h:Int) i (by omega);rw [uW_small (by omega)] at hb8;obtain ⟨rb,Hrb⟩:=nm (h.testBit i);rw [Hrb.out] at hb8 HST2
       have HO10:Hid (Own (w2.setCell ⟨q,at_,none⟩ (b8 rb)) 5 1 (some ⟨q,0,none⟩) n c8 (b8s (setG h.testBit ((gposR r).take (i+1)) 0 (initZ r)))):=by
        show Own _ _ _ _ _ _ _;rw [HST2.out,←b8s_set];exact HO9.out.set_ _ _
       have hc9:∃v,w2.cell? ⟨q,at_,none⟩=some v:=⟨_,HO9.out.cell_ (i:=at_) (by rw [b8s_len,setG_len,HZ.out];omega)⟩;obtain ⟨v9,hc9⟩:=hc9;have hf9:=HO9.out.frozen_ at_;have ai0:(0:Int)≤(at_:Int):=by omega
       have ai1:(at_:Int)<(n:Int):=by omega
       have i0:(0:Int)≤(i:Int):=by omega
       have ign:(i:Int)<(gn:Int):=by omega
       have i64:i<64:=by omega
       subst eC;unfold pp at hcc;clear hst hlt2 hxb hUw hu42 hig hip hat;go_wp2_with fail
       go_roundg (gn - (i+1))
       case measure=>rw [Hg3.out];omega
       case rel=>exact ⟨i+1,rfl,by omega,by go_num,HO10.out,HU9.out.trans (updCell w2 q at_ (b8 rb)) (fun _ _ z=>z)⟩
      ·obtain rfl:gn=i:=by omega
       have hfull:(gposR r).take gn=gposR r:=List.take_of_length_le (by rw [gposR_len,HGL.out];exact Nat.le_refl _);rw [hfull,setG_init] at HO9;have hu92:Upd Non wx w2:=(HU8.out.mono (T:=(·=q)) (fun _ _ f=>f.elim)).trans HU9.out (fun _ _ z=>z) |>.mono (fun k hk e=>by omega);have HU92:=h_ hu92;have hoE2:=hoE.upd hu92 (fun _ _ f=>f);have hqA:¬At A q:=fun z=>by have:=hAx q z;omega
       have hil:(initF h.testBit r).length=n:=by rw [initF_len,Hn.out]
       have HER:=h_ (fun (w':World) (u:Upd Non w2 w')=>elRow_of (K:=fun i=>U8B w' i∧¬At A i) (HO9.out.upd u (fun _ _ f=>f)) hil ⟨own_u8 (HO9.out.upd u (fun _ _ f=>f)),hqA⟩)
       have HCE:=h_ hcE;have hG0:h<64:=by omega
       clear hfull hu92 hil hcE hoE HO9
       go_wp2_with (at_builtin;refine wpList_app rfl rfl T_rows rfl (hoE2.alloc _) rfl (Sl.new _ _ _) rfl (by simp [Value.oneCell']) (by simp only [maxLen];omega) (by omega) ?_;intro A9 c9 w9 ho9 hu9 hat9)
       go_roundg (G2 - (h+1))
       case measure=>rw [Hg2.out];omega
       case rel =>
        have uA:=(HU92.out.alloc (.cells #[.slice (some ⟨q,0,none⟩) n c8] 84));have hE3:=ElO.snoc8 elRow (by decide) HHL.out HCE.out uA (hoE2.alloc _) (HER.out _ (Upd.refl.alloc (.cells #[.slice (some ⟨q,0,none⟩) n c8] 84))) ho9 hu9 hat9
        have htk:(initsF r).take (h+1)=(initsF r).take h++[initF h.testBit r]:=by
         have hl:h<(initsF r).length:=by unfold initsF;rw [List.length_map,List.length_range,←HGL.out,HG2.out];exact hlt
         rw [List.take_succ_eq_append_getElem hl]
         congr 2
         simp [initsF]
        refine ⟨h+1,c9,A9,rfl,by omega,by go_num,rfl,by rw [htk,List.map_append];exact hE3,fun i hi=>?_,?_⟩
        ·rcases hat9 i hi with z | z
         ·exact HAt.out i z
         ·have h1:=uA.size;have h2:=HUx.out.size;omega
        ·exact (HUx.out.then_non uA).trans hu9 (fun i hi z=>by have:=HAt.out i z;omega)
    ·obtain rfl:G2=h:=by omega
     have hfull:(initsF r).take G2=initsF r:=List.take_of_length_le (by unfold initsF;rw [List.length_map,List.length_range,←HGL.out,HG2.out];exact Nat.le_refl _)
     rw [hfull] at HE;have hE2:2 ^ gR r=G2:=by rw [←HGL.out];exact HG2.out
     go_wp2_with fail
     go_ret;exact ⟨A,c,by rw [hE2];rfl,by rw [hE2];exact HE.out,fun i hi=>by have h1:=HAt.out i hi;have h2:=HUW.out.size;omega,HUW.out.then_non HUx.out⟩
end Go.Proofs.YtifhejahbbnkiaaGreat
