/-
  Lemmas and walks that the claim rests on, part 3 (packed by a program).
-/
import Derived.Test.YtifhejahbbnkiaaGreatC2
namespace Go.Proofs.YtifhejahbbnkiaaGreat
open Go.RowKit
theorem drop_two {O:List Bool} {a:Nat} (h:a+1<O.length):(O.drop a).take 2=[O.getD a false,O.getD (a+1) false]:=by
 have h0:a<O.length:=by omega
 rw [List.drop_eq_getElem_cons h0,List.drop_eq_getElem_cons h,List.getD_eq_getElem?_getD,List.getElem?_eq_getElem h0,List.getD_eq_getElem?_getD,List.getElem?_eq_getElem h]
 rfl
theorem spl_two {N:List Bool} {a:Nat} {g:Bool} (h:a+1<N.length) (hg:N.getD a false=g) (m:Bool):spl N a [g,m]=N.set (a+1) m:=by
 have e:=spl_spl (N:=N) (a:=a) (m1:=[g]) (m2:=[m]) (by simp;omega)
 have e0:spl N a [g]=N:=by
  rw [←spl_one g (by omega),←hg,List.getD_eq_getElem?_getD,List.getElem?_eq_getElem (show a<N.length by omega)];simp
 rw [e0,List.length_singleton] at e;rw [spl_one m h,e];rfl
theorem set_same {N:List Bool} {a:Nat} {g:Bool} (h:a<N.length) (hg:N.getD a false=g):N.set a g=N:=by
 rw [←hg,List.getD_eq_getElem?_getD,List.getElem?_eq_getElem h];simp
theorem bW_ne {a b:Bool} (h:a≠b):(bW a != bW b)=true:=by cases a <;> cases b <;> first | exact absurd rfl h | rfl
set_option maxRecDepth 100000 in
set_option maxHeartbeats 16000000 in
theorem aCompB_c {w:World} {F:Nat→Prop} {s k h:Nat} {OA:Option Addr} {oc g nc:Nat} {O N:List Bool} (T:TrS w F s k h OA oc g nc O N) {x:Nat} {op:Int} {a n:Nat} (hx:OpX w x op a n) (hxg:x≠g) (ha:a+1<O.length)
  (hl:O.length≤1000000) (hop:op=15∨op=16∨op=17∨op=18∨op=19) (hk:k<64) (h0:N.getD a false=O.getD a false) (h1:N.getD (a+1) false=O.getD (a+1) false) (imm:Int) (b0 b1 b2:Bool) :
  Calls Tryz.prog 186 #[pp s,pp x,.agg #[b8 b0,b8 b1,b8 b2]] w fun e w'=>e=.returned (b8 (opB k op imm ((O.drop a).take 2) b0 b1 b2).1)∧TrS w' F s k h OA oc g nc O (spl N a (opB k op imm ((O.drop a).take 2) b0 b1 b2).2)∧Upd (·=g) w w':=by
 rw [drop_two ha];obtain ⟨v,imm',iv,KK,CC,hxb⟩:=hx.blk;obtain ⟨ob,oo,rfl,hFo,hob,hoc⟩:=T.old.at_ (k:=a) (by rw [b8s_len];omega)
 have hcell:w.cell? ⟨ob,oo+a,none⟩=some (b8 (O.getD a false)):=by
  rw [hoc];have:=b8s_get (l:=O) (i:=a) (by omega);rw [List.getElem?_eq_getElem (by rw [b8s_len];omega)] at this;exact this
 have hN:a+1<N.length:=by rw [T.len];exact ha
 have HNL:=h_ hN
 have hNc:w.cell? ⟨g,a+1,none⟩=some (b8 (O.getD (a+1) false)):=by
  rw [T.own.cell_ (i:=a+1) (by rw [b8s_len];exact hN)];have:=b8s_get (l:=N) (i:=a+1) hN;rw [List.getElem?_eq_getElem (by rw [b8s_len];exact hN)] at this;rw [←h1];exact this
 have H0:=h_ h0;have H1:=h_ h1;obtain ⟨W,HW⟩:=nm (w.alloc (.cells #[b8 b0,b8 b1,b8 b2] 231));have u1:Upd Non w W:=by rw [←HW.out];exact Upd.refl.alloc _
 have hv:Blk W w.heap.size 231 #[b8 b0,b8 b1,b8 b2]:=by rw [←HW.out];exact Blk.new _ _ _
 have e0:=HW.out;have hsb:=T.blk.upd u1 (fun f=>f);have hxw:=hxb.upd u1 (fun f=>f);have x0:=hsb.cell 0;have x2:=hsb.cell 2;have x3:=hsb.cell 3;have y1:=hxw.cell 1;have y6:=hxw.cell 6;have z0:=hv.cell 0;have z1:=hv.cell 1;have hc2:=u_ hcell u1 (fun f=>f);have hNl:=T.len;obtain ⟨gg,Hgg⟩:=nm (O.getD a false);obtain ⟨mm,Hmm⟩:=nm (O.getD (a+1) false);have HG0:Hid (N.getD a false=gg):=H0.out.trans Hgg.out;have HM0:Hid (N.getD (a+1) false=mm):=H1.out.trans Hmm.out;rw [Hgg.out] at hc2 ⊢;rw [Hmm.out] at hNc ⊢;have hNW:=u_ hNc u1 (fun f=>f);have hNfW:=(T.own.upd u1 (fun _ _ f=>f)).frozen_ (a+1);have TW:=h_ (T.upd u1 (fun f=>f) (fun f=>f) (fun _ _ _ f=>f));have hne:s≠g:=T.ne;have hfo:ob≠g:=T.far ob hFo;have hvg:w.heap.size≠g:=by have:=T.own.lt (At.some_.2 rfl);omega
 obtain ⟨L,HL⟩:=nm O.length;rw [HL.out] at hNl ha hl x2;rw [hNl] at x3;have ai0:(0:Int)≤(a:Int):=by omega
 have ai1:(a:Int)<(L:Int):=by omega
 have q1:IntKind.i64.wrap ((a:Int)+1)=(a:Int)+1:=i64w_of (by unfold I64;omega);have q2:(0:Int)≤(a:Int)+1:=by omega
 have q3:(a:Int)+1<(L:Int):=by omega
 have q4:((a:Int)+1).toNat=a+1:=by omega
 unfold b8 at hc2 z0 z1 e0 hNW;clear hcell hNc hoc hxb hsb hv hNl HW hob h0 h1 hN;by_cases hop2:op=15∨op=16
 ·have HR1:Hid ((opB k op imm [gg,mm] b0 b1 b2).1=(decide (k=0)&&gg)):=by rcases hop2 with rfl | rfl <;> rfl
  have HR2:Hid ((opB k op imm [gg,mm] b0 b1 b2).2=[gg,mm&&(b0==b1)]):=by rcases hop2 with rfl | rfl <;> rfl
  clear hop;by_cases hb:b0=b1
  ·subst hb;have HR3:Hid ((opB k op imm [gg,mm] b0 b0 b2).2=[gg,mm]):=by show _=_;rw [HR2.out];simp
   have HT2:Hid (TrS W F s k h (some ⟨ob,oo,none⟩) oc g nc O (spl N a [gg,mm])):=by
    show TrS _ _ _ _ _ _ _ _ _ _ _;rw [spl_two HNL.out HG0.out,set_same HNL.out HM0.out];exact TW.out
   have tb:(bW b0 != bW b0)=false:=by simp
   have f2:=x2;have f6:=y6;have fc:=hc2;by_cases hk0:0<k
   ·have tk:decide ((k:Int) > 0)=true:=dT_ (by omega);have HR4:Hid ((opB k op imm [gg,mm] b0 b0 b2).1=false):=by show _=_;rw [HR1.out,dF_ (by omega)];rfl
    rcases hop2 with rfl | rfl
    all_goals
     unfold pp b8;go_enter Tryz.func186,Tryz.ntmps186;go_wp2_with fail
     refine wp_region_held_drew (S:=fun w'=>w'.cell? ⟨s,3,none⟩=some (.slice (some ⟨g,0,none⟩) L nc)∧w'.cell? ⟨x,6,none⟩=some (.int .i64 (a:Int))) (by kernel_rfl) ⟨x3,y6⟩ (fun hHeld=>?_)
     refine wpT 0 ?_;(try simp only [y_,z_]);refine wpT 1 ?_;(try simp only [y_,z_]);refine wpT 2 ?_;(try simp only [y_,z_]);refine wpT 3 ?_;(try simp only [y_,z_]);refine wpT 4 ?_;(try simp only [y_,z_]);refine wpT 5 ?_;(try simp only [y_,z_]);refine wpT 6 ?_;(try simp only [y_,z_]);refine wpT 7 ?_;(try simp only [y_,z_]);refine wpT 8 ?_;(try simp only [y_,z_]);refine wpT 9 ?_;(try simp only [y_,z_]);refine wpT 10 ?_;(try simp only [y_,z_]);refine aD_ (by kernel_rfl) ?_ _;go_wp2_with fail
     go_ret;exact ⟨by rw [HR4.out];rfl,by rw [HR3.out];exact HT2.out.upd (S:=Non) (Upd.refl.drewN 1) (fun f=>f) (fun f=>f) (fun _ _ _ f=>f),(u1.mono (fun _ _ f=>f.elim)).drewN 1⟩
   ·have tk:decide ((k:Int) > 0)=false:=dF_ (by omega);have HR4:Hid ((opB k op imm [gg,mm] b0 b0 b2).1=gg):=by show _=_;rw [HR1.out,dT_ (by omega)];rfl
    rcases hop2 with rfl | rfl
    all_goals
     unfold pp b8;go_enter Tryz.func186,Tryz.ntmps186;go_wp2_with fail
     refine wp_region_held_drew (S:=fun w'=>w'.cell? ⟨s,3,none⟩=some (.slice (some ⟨g,0,none⟩) L nc)∧w'.cell? ⟨x,6,none⟩=some (.int .i64 (a:Int))) (by kernel_rfl) ⟨x3,y6⟩ (fun hHeld=>?_)
     refine wpT 0 ?_;(try simp only [y_,z_]);refine wpT 1 ?_;(try simp only [y_,z_]);refine wpT 2 ?_;(try simp only [y_,z_]);refine wpT 3 ?_;(try simp only [y_,z_]);refine wpT 4 ?_;(try simp only [y_,z_]);refine wpT 5 ?_;(try simp only [y_,z_]);refine wpT 6 ?_;(try simp only [y_,z_]);refine wpT 7 ?_;(try simp only [y_,z_]);refine wpT 8 ?_;(try simp only [y_,z_]);refine wpT 9 ?_;(try simp only [y_,z_]);refine wpT 10 ?_;(try simp only [y_,z_]);refine aD_ (by kernel_rfl) ?_ _;go_wp2_with fail
     refine wp_region_held_drew (S:=fun w'=>w'.cell? ⟨s,2,none⟩=some (.slice (some ⟨ob,oo,none⟩) L oc)∧w'.cell? ⟨x,6,none⟩=some (.int .i64 (a:Int))∧w'.cell? ⟨ob,oo+a,none⟩=some (.int .u8 (bW gg))) (by kernel_rfl) ⟨f2,f6,fc⟩ (fun hHeld=>?_)
     refine wpT 0 ?_;(try simp only [y_,z_]);refine wpT 1 ?_;(try simp only [y_,z_]);refine wpT 2 ?_;(try simp only [y_,z_]);refine wpT 3 ?_;(try simp only [y_,z_]);refine wpT 4 ?_;(try simp only [y_,z_]);refine wpT 5 ?_;(try simp only [y_,z_]);refine wpT 6 ?_;(try simp only [y_,z_]);refine wpT 7 ?_;(try simp only [y_,z_]);refine wpT 8 ?_;(try simp only [y_,z_]);refine wpT 9 ?_;(try simp only [y_,z_]);refine wpT 10 ?_;(try simp only [y_,z_]);refine aD_ (by kernel_rfl) ?_ _;go_wp2_with fail
     go_ret;exact ⟨by rw [HR4.out];rfl,by rw [HR3.out];exact HT2.out.upd (S:=Non) (Upd.refl.drewN 2) (fun f=>f) (fun f=>f) (fun _ _ _ f=>f),(u1.mono (fun _ _ f=>f.elim)).drewN 2⟩
  ·have HR3:Hid ((opB k op imm [gg,mm] b0 b1 b2).2=[gg,false]):=by show _=_;rw [HR2.out,show (b0==b1)=false by simpa using hb,Bool.and_false]
   have HT2:Hid (TrS (W.setCell ⟨g,a+1,none⟩ (b8 false)) F s k h (some ⟨ob,oo,none⟩) oc g nc O (spl N a [gg,false])):=by
    show TrS _ _ _ _ _ _ _ _ _ _ _;rw [spl_two HNL.out HG0.out];exact TW.out.set _ _
   have tb:(bW b0 != bW b1)=true:=bW_ne hb;have u2:=updCell W g (a+1) (b8 false);have f2:=u_ (S:=(·=g)) x2 u2 hne;have f6:=u_ (S:=(·=g)) y6 u2 hxg;have fc:=u_ (S:=(·=g)) hc2 u2 hfo;have U2:Hid (Upd (·=g) w (W.setCell ⟨g,a+1,none⟩ (b8 false))):=(u1.mono (fun _ _ f=>f.elim)).trans u2 (fun _ _ q=>q);clear u2 hb;by_cases hk0:0<k
   ·have tk:decide ((k:Int) > 0)=true:=dT_ (by omega);have HR4:Hid ((opB k op imm [gg,mm] b0 b1 b2).1=false):=by show _=_;rw [HR1.out,dF_ (by omega)];rfl
    rcases hop2 with rfl | rfl
    all_goals
     unfold pp b8;go_enter Tryz.func186,Tryz.ntmps186;go_wp2_with fail
     refine wp_region_held_drew (S:=fun w'=>w'.cell? ⟨s,3,none⟩=some (.slice (some ⟨g,0,none⟩) L nc)∧w'.cell? ⟨x,6,none⟩=some (.int .i64 (a:Int))) (by kernel_rfl) ⟨x3,y6⟩ (fun hHeld=>?_)
     refine wpT 0 ?_;(try simp only [y_,z_]);refine wpT 1 ?_;(try simp only [y_,z_]);refine wpT 2 ?_;(try simp only [y_,z_]);refine wpT 3 ?_;(try simp only [y_,z_]);refine wpT 4 ?_;(try simp only [y_,z_]);refine wpT 5 ?_;(try simp only [y_,z_]);refine wpT 6 ?_;(try simp only [y_,z_]);refine wpT 7 ?_;(try simp only [y_,z_]);refine wpT 8 ?_;(try simp only [y_,z_]);refine wpT 9 ?_;(try simp only [y_,z_]);refine wpT 10 ?_;(try simp only [y_,z_]);refine aD_ (by kernel_rfl) ?_ _;go_wp2_with fail
     go_ret;exact ⟨by rw [HR4.out];rfl,by rw [HR3.out];exact HT2.out.upd (S:=Non) (Upd.refl.drewN 1) (fun f=>f) (fun f=>f) (fun _ _ _ f=>f),U2.out.drewN 1⟩
   ·have tk:decide ((k:Int) > 0)=false:=dF_ (by omega);have HR4:Hid ((opB k op imm [gg,mm] b0 b1 b2).1=gg):=by show _=_;rw [HR1.out,dT_ (by omega)];rfl
    rcases hop2 with rfl | rfl
    all_goals
     unfold pp b8;go_enter Tryz.func186,Tryz.ntmps186;go_wp2_with fail
     refine wp_region_held_drew (S:=fun w'=>w'.cell? ⟨s,3,none⟩=some (.slice (some ⟨g,0,none⟩) L nc)∧w'.cell? ⟨x,6,none⟩=some (.int .i64 (a:Int))) (by kernel_rfl) ⟨x3,y6⟩ (fun hHeld=>?_)
     refine wpT 0 ?_;(try simp only [y_,z_]);refine wpT 1 ?_;(try simp only [y_,z_]);refine wpT 2 ?_;(try simp only [y_,z_]);refine wpT 3 ?_;(try simp only [y_,z_]);refine wpT 4 ?_;(try simp only [y_,z_]);refine wpT 5 ?_;(try simp only [y_,z_]);refine wpT 6 ?_;(try simp only [y_,z_]);refine wpT 7 ?_;(try simp only [y_,z_]);refine wpT 8 ?_;(try simp only [y_,z_]);refine wpT 9 ?_;(try simp only [y_,z_]);refine wpT 10 ?_;(try simp only [y_,z_]);refine aD_ (by kernel_rfl) ?_ _;go_wp2_with fail
     refine wp_region_held_drew (S:=fun w'=>w'.cell? ⟨s,2,none⟩=some (.slice (some ⟨ob,oo,none⟩) L oc)∧w'.cell? ⟨x,6,none⟩=some (.int .i64 (a:Int))∧w'.cell? ⟨ob,oo+a,none⟩=some (.int .u8 (bW gg))) (by kernel_rfl) ⟨f2,f6,fc⟩ (fun hHeld=>?_)
     refine wpT 0 ?_;(try simp only [y_,z_]);refine wpT 1 ?_;(try simp only [y_,z_]);refine wpT 2 ?_;(try simp only [y_,z_]);refine wpT 3 ?_;(try simp only [y_,z_]);refine wpT 4 ?_;(try simp only [y_,z_]);refine wpT 5 ?_;(try simp only [y_,z_]);refine wpT 6 ?_;(try simp only [y_,z_]);refine wpT 7 ?_;(try simp only [y_,z_]);refine wpT 8 ?_;(try simp only [y_,z_]);refine wpT 9 ?_;(try simp only [y_,z_]);refine wpT 10 ?_;(try simp only [y_,z_]);refine aD_ (by kernel_rfl) ?_ _;go_wp2_with fail
     go_ret;exact ⟨by rw [HR4.out];rfl,by rw [HR3.out];exact HT2.out.upd (S:=Non) (Upd.refl.drewN 2) (fun f=>f) (fun f=>f) (fun _ _ _ f=>f),U2.out.drewN 2⟩
 ·have hop3:op=17∨op=18∨op=19:=by omega
  have HR1:Hid ((opB k op imm [gg,mm] b0 b1 b2).1=(decide (k=0)&&gg)):=by rcases hop3 with rfl | rfl | rfl <;> rfl
  have HR2:Hid ((opB k op imm [gg,mm] b0 b1 b2).2=[gg,ordB mm b0 b1 (decide (k=63∧op≠19))]):=by rcases hop3 with rfl | rfl | rfl <;> rfl
  clear hop hop2;obtain ⟨sg,Hsg⟩:=nm (decide (k=63∧op≠19));rw [Hsg.out] at HR2;obtain ⟨cc,Hcc⟩:=nm (ordB mm b0 b1 sg);rw [Hcc.out] at HR2;have CO:=h_ (fun W=>aOrderFlag_c mm b0 b1 sg W);rw [Hcc.out] at CO
  have HT2:Hid (TrS (W.setCell ⟨g,a+1,none⟩ (b8 cc)) F s k h (some ⟨ob,oo,none⟩) oc g nc O (spl N a [gg,cc])):=by
   show TrS _ _ _ _ _ _ _ _ _ _ _;rw [spl_two HNL.out HG0.out];exact TW.out.set _ _
  have u2:=updCell W g (a+1) (b8 cc);have f0:=u_ (S:=(·=g)) x0 u2 hne;have f2:=u_ (S:=(·=g)) x2 u2 hne;have f6:=u_ (S:=(·=g)) y6 u2 hxg;have fc:=u_ (S:=(·=g)) hc2 u2 hfo;have F1:=h_ (u_ (S:=(·=g)) y1 u2 hxg);have G0:=h_ (u_ (S:=(·=g)) z0 u2 hvg);have G1:=h_ (u_ (S:=(·=g)) z1 u2 hvg);have U2:Hid (Upd (·=g) w (W.setCell ⟨g,a+1,none⟩ (b8 cc))):=(u1.mono (fun _ _ f=>f.elim)).trans u2 (fun _ _ q=>q);clear u2;by_cases h63:k=63
  ·have T63:Hid (((k:Int)==63)=true):=by show _=_;simp;omega
   have hk0:0<k:=by omega
   have tk:decide ((k:Int) > 0)=true:=dT_ (by omega);have HR4:Hid ((opB k op imm [gg,mm] b0 b1 b2).1=false):=by show _=_;rw [HR1.out,dF_ (by omega)];rfl
   rcases hop3 with rfl | rfl | rfl
   ·have hsg:sg=true:=by rw [←Hsg.out];exact dT_ ⟨h63,by decide⟩
    subst hsg;clear h63 Hsg;unfold pp b8;go_enter Tryz.func186,Tryz.ntmps186;go_wp2_with fail
    refine wp_region_held_drew (S:=fun w'=>w'.cell? ⟨s,3,none⟩=some (.slice (some ⟨g,0,none⟩) L nc)∧w'.cell? ⟨x,6,none⟩=some (.int .i64 (a:Int))) (by kernel_rfl) ⟨x3,y6⟩ (fun hHeld=>?_)
    refine wpT 0 ?_;(try simp only [y_,z_]);refine wpT 1 ?_;(try simp only [y_,z_]);refine wpT 2 ?_;(try simp only [y_,z_]);refine wpT 3 ?_;(try simp only [y_,z_]);refine wpT 4 ?_;(try simp only [y_,z_]);refine wpT 5 ?_;(try simp only [y_,z_]);refine wpT 6 ?_;(try simp only [y_,z_]);refine wpT 7 ?_;(try simp only [y_,z_]);refine wpT 8 ?_;(try simp only [y_,z_]);refine wpT 9 ?_;(try simp only [y_,z_]);refine wpT 10 ?_;(try simp only [y_,z_]);refine aD_ (by kernel_rfl) ?_ _;go_wp2_with fail
    refine wp_region_held_drew (S:=fun w'=>w'.cell? ⟨w.heap.size,0,none⟩=some (.int .u8 (bW b0))∧w'.cell? ⟨w.heap.size,1,none⟩=some (.int .u8 (bW b1))∧w'.cell? ⟨s,0,none⟩=some (.int .i64 (k:Int))∧w'.cell? ⟨x,1,none⟩=some (.int .i64 17)) (by kernel_rfl) ⟨z0,z1,x0,y1⟩ (fun hHeld=>?_)
    refine wpT 0 ?_;(try simp only [y_,z_]);refine wpT 1 ?_;(try simp only [y_,z_]);refine wpT 2 ?_;(try simp only [y_,z_]);have t63:=T63.out;refine wpT 4 ?_;(try simp only [y_,z_]);refine wpT 5 ?_;(try simp only [y_,z_]);refine wpT 6 ?_;(try simp only [y_,z_]);refine wpT 7 ?_;(try simp only [y_,z_]);refine wpT 8 ?_;(try simp only [y_,z_]);refine wpT 9 ?_;(try simp only [y_,z_]);refine wpT 10 ?_;(try simp only [y_,z_]);refine wpT 11 ?_;(try simp only [y_,z_]);refine wpT 12 ?_;(try simp only [y_,z_]);refine wpT 13 ?_;(try simp only [y_,z_]);clear t63;refine wpT 14 ?_;(try simp only [y_,z_]);refine wpT 15 ?_;(try simp only [y_,z_]);refine wpT 16 ?_;(try simp only [y_,z_]);refine wpT 17 ?_;(try simp only [y_,z_]);refine wpT 18 ?_;(try simp only [y_,z_]);refine wpT 19 ?_;(try simp only [y_,z_]);refine wpT 20 ?_;(try simp only [y_,z_])
    refine wpAnyH_takeM (fun w'=>w'.cell? ⟨g,a+1,none⟩=some (.int .u8 (bW mm))) (calm_cell _ _) [21,22,23] (i:=3) (v:=?_) rfl (by kernel_rfl) (by kernel_rfl) (by kernel_rfl) (by kernel_rfl) (fun _ _ _ h=>h) (Or.inl ⟨by rfl,?_⟩) (hNW) (by assumption) ?_
    rotate_left
    ·intro w hSw;(try dsimp only at hSw);go_simp;try with_reducible rfl
    (try simp only [y_,z_]);refine aR_ (rs:=[21]) (by kernel_rfl) (by simp) ?_;refine aC_ rfl (fun K hK=>?_) aN_;go_simp;refine (CO.out _).mono ?_;rintro e w' ⟨rfl,rfl⟩;go_wp2_with fail
    refine hK.out _ _ ?_ (fun hHeld=>?_)
    ·exact hHeld
    clear hK K;(try simp only [y_,z_]);refine wpT 22 ?_;(try simp only [y_,z_]);refine aR_ (rs:=[23]) (by kernel_rfl) (by simp) ?_;refine aC_ rfl (fun K hK=>?_) aN_;go_simp;refine hK.out _ _ ?_ (fun hHeld=>?_)
    ·exact ⟨G0.out,G1.out,f0,F1.out⟩
    clear hK K;(try simp only [y_,z_]);refine aD_ (by kernel_rfl) ?_ _;go_wp2_with fail
    go_ret;exact ⟨by rw [HR4.out];rfl,by rw [HR2.out];exact HT2.out.upd (S:=Non) (Upd.refl.drewN 2) (fun f=>f) (fun f=>f) (fun _ _ _ f=>f),U2.out.drewN 2⟩
   ·have hsg:sg=true:=by rw [←Hsg.out];exact dT_ ⟨h63,by decide⟩
    subst hsg;clear h63 Hsg;unfold pp b8;go_enter Tryz.func186,Tryz.ntmps186;go_wp2_with fail
    refine wp_region_held_drew (S:=fun w'=>w'.cell? ⟨s,3,none⟩=some (.slice (some ⟨g,0,none⟩) L nc)∧w'.cell? ⟨x,6,none⟩=some (.int .i64 (a:Int))) (by kernel_rfl) ⟨x3,y6⟩ (fun hHeld=>?_)
    refine wpT 0 ?_;(try simp only [y_,z_]);refine wpT 1 ?_;(try simp only [y_,z_]);refine wpT 2 ?_;(try simp only [y_,z_]);refine wpT 3 ?_;(try simp only [y_,z_]);refine wpT 4 ?_;(try simp only [y_,z_]);refine wpT 5 ?_;(try simp only [y_,z_]);refine wpT 6 ?_;(try simp only [y_,z_]);refine wpT 7 ?_;(try simp only [y_,z_]);refine wpT 8 ?_;(try simp only [y_,z_]);refine wpT 9 ?_;(try simp only [y_,z_]);refine wpT 10 ?_;(try simp only [y_,z_]);refine aD_ (by kernel_rfl) ?_ _;go_wp2_with fail
    refine wp_region_held_drew (S:=fun w'=>w'.cell? ⟨w.heap.size,0,none⟩=some (.int .u8 (bW b0))∧w'.cell? ⟨w.heap.size,1,none⟩=some (.int .u8 (bW b1))∧w'.cell? ⟨s,0,none⟩=some (.int .i64 (k:Int))∧w'.cell? ⟨x,1,none⟩=some (.int .i64 18)) (by kernel_rfl) ⟨z0,z1,x0,y1⟩ (fun hHeld=>?_)
    refine wpT 0 ?_;(try simp only [y_,z_]);refine wpT 1 ?_;(try simp only [y_,z_]);refine wpT 2 ?_;(try simp only [y_,z_]);have t63:=T63.out;refine wpT 4 ?_;(try simp only [y_,z_]);refine wpT 5 ?_;(try simp only [y_,z_]);refine wpT 6 ?_;(try simp only [y_,z_]);refine wpT 7 ?_;(try simp only [y_,z_]);refine wpT 8 ?_;(try simp only [y_,z_]);refine wpT 9 ?_;(try simp only [y_,z_]);refine wpT 10 ?_;(try simp only [y_,z_]);refine wpT 11 ?_;(try simp only [y_,z_]);refine wpT 12 ?_;(try simp only [y_,z_]);refine wpT 13 ?_;(try simp only [y_,z_]);clear t63;refine wpT 14 ?_;(try simp only [y_,z_]);refine wpT 15 ?_;(try simp only [y_,z_]);refine wpT 16 ?_;(try simp only [y_,z_]);refine wpT 17 ?_;(try simp only [y_,z_]);refine wpT 18 ?_;(try simp only [y_,z_]);refine wpT 19 ?_;(try simp only [y_,z_]);refine wpT 20 ?_;(try simp only [y_,z_])
    refine wpAnyH_takeM (fun w'=>w'.cell? ⟨g,a+1,none⟩=some (.int .u8 (bW mm))) (calm_cell _ _) [21,22,23] (i:=3) (v:=?_) rfl (by kernel_rfl) (by kernel_rfl) (by kernel_rfl) (by kernel_rfl) (fun _ _ _ h=>h) (Or.inl ⟨by rfl,?_⟩) (hNW) (by assumption) ?_
    rotate_left
    ·intro w hSw;(try dsimp only at hSw);go_simp;try with_reducible rfl
    (try simp only [y_,z_]);refine aR_ (rs:=[21]) (by kernel_rfl) (by simp) ?_;refine aC_ rfl (fun K hK=>?_) aN_;go_simp;refine (CO.out _).mono ?_;rintro e w' ⟨rfl,rfl⟩;go_wp2_with fail
    refine hK.out _ _ ?_ (fun hHeld=>?_)
    ·exact hHeld
    clear hK K;(try simp only [y_,z_]);refine wpT 22 ?_;(try simp only [y_,z_]);refine aR_ (rs:=[23]) (by kernel_rfl) (by simp) ?_;refine aC_ rfl (fun K hK=>?_) aN_;go_simp;refine hK.out _ _ ?_ (fun hHeld=>?_)
    ·exact ⟨G0.out,G1.out,f0,F1.out⟩
    clear hK K;(try simp only [y_,z_]);refine aD_ (by kernel_rfl) ?_ _;go_wp2_with fail
    go_ret;exact ⟨by rw [HR4.out];rfl,by rw [HR2.out];exact HT2.out.upd (S:=Non) (Upd.refl.drewN 2) (fun f=>f) (fun f=>f) (fun _ _ _ f=>f),U2.out.drewN 2⟩
   ·have hsg:sg=false:=by rw [←Hsg.out];exact dF_ (fun q=>q.2 rfl)
    subst hsg;clear h63 Hsg;unfold pp b8;go_enter Tryz.func186,Tryz.ntmps186;go_wp2_with fail
    refine wp_region_held_drew (S:=fun w'=>w'.cell? ⟨s,3,none⟩=some (.slice (some ⟨g,0,none⟩) L nc)∧w'.cell? ⟨x,6,none⟩=some (.int .i64 (a:Int))) (by kernel_rfl) ⟨x3,y6⟩ (fun hHeld=>?_)
    refine wpT 0 ?_;(try simp only [y_,z_]);refine wpT 1 ?_;(try simp only [y_,z_]);refine wpT 2 ?_;(try simp only [y_,z_]);refine wpT 3 ?_;(try simp only [y_,z_]);refine wpT 4 ?_;(try simp only [y_,z_]);refine wpT 5 ?_;(try simp only [y_,z_]);refine wpT 6 ?_;(try simp only [y_,z_]);refine wpT 7 ?_;(try simp only [y_,z_]);refine wpT 8 ?_;(try simp only [y_,z_]);refine wpT 9 ?_;(try simp only [y_,z_]);refine wpT 10 ?_;(try simp only [y_,z_]);refine aD_ (by kernel_rfl) ?_ _;go_wp2_with fail
    refine wp_region_held_drew (S:=fun w'=>w'.cell? ⟨w.heap.size,0,none⟩=some (.int .u8 (bW b0))∧w'.cell? ⟨w.heap.size,1,none⟩=some (.int .u8 (bW b1))∧w'.cell? ⟨s,0,none⟩=some (.int .i64 (k:Int))∧w'.cell? ⟨x,1,none⟩=some (.int .i64 19)) (by kernel_rfl) ⟨z0,z1,x0,y1⟩ (fun hHeld=>?_)
    refine wpT 0 ?_;(try simp only [y_,z_]);refine wpT 1 ?_;(try simp only [y_,z_]);refine wpT 2 ?_;(try simp only [y_,z_]);have t63:=T63.out;refine wpT 4 ?_;(try simp only [y_,z_]);refine wpT 5 ?_;(try simp only [y_,z_]);refine wpT 6 ?_;(try simp only [y_,z_]);refine wpT 7 ?_;(try simp only [y_,z_]);refine wpT 8 ?_;(try simp only [y_,z_]);refine wpT 9 ?_;(try simp only [y_,z_]);refine wpT 10 ?_;(try simp only [y_,z_]);refine wpT 11 ?_;(try simp only [y_,z_]);refine wpT 12 ?_;(try simp only [y_,z_]);refine wpT 13 ?_;(try simp only [y_,z_]);clear t63;refine wpT 14 ?_;(try simp only [y_,z_]);refine wpT 15 ?_;(try simp only [y_,z_]);refine wpT 16 ?_;(try simp only [y_,z_]);refine wpT 17 ?_;(try simp only [y_,z_]);refine wpT 18 ?_;(try simp only [y_,z_]);refine wpT 19 ?_;(try simp only [y_,z_]);refine wpT 20 ?_;(try simp only [y_,z_])
    refine wpAnyH_takeM (fun w'=>w'.cell? ⟨g,a+1,none⟩=some (.int .u8 (bW mm))) (calm_cell _ _) [21,22,23] (i:=3) (v:=?_) rfl (by kernel_rfl) (by kernel_rfl) (by kernel_rfl) (by kernel_rfl) (fun _ _ _ h=>h) (Or.inl ⟨by rfl,?_⟩) (hNW) (by assumption) ?_
    rotate_left
    ·intro w hSw;(try dsimp only at hSw);go_simp;try with_reducible rfl
    (try simp only [y_,z_]);refine aR_ (rs:=[21]) (by kernel_rfl) (by simp) ?_;refine aC_ rfl (fun K hK=>?_) aN_;go_simp;refine (CO.out _).mono ?_;rintro e w' ⟨rfl,rfl⟩;go_wp2_with fail
    refine hK.out _ _ ?_ (fun hHeld=>?_)
    ·exact hHeld
    clear hK K;(try simp only [y_,z_]);refine wpT 22 ?_;(try simp only [y_,z_]);refine aR_ (rs:=[23]) (by kernel_rfl) (by simp) ?_;refine aC_ rfl (fun K hK=>?_) aN_;go_simp;refine hK.out _ _ ?_ (fun hHeld=>?_)
    ·exact ⟨G0.out,G1.out,f0,F1.out⟩
    clear hK K;(try simp only [y_,z_]);refine aD_ (by kernel_rfl) ?_ _;go_wp2_with fail
    go_ret;exact ⟨by rw [HR4.out];rfl,by rw [HR2.out];exact HT2.out.upd (S:=Non) (Upd.refl.drewN 2) (fun f=>f) (fun f=>f) (fun _ _ _ f=>f),U2.out.drewN 2⟩
  ·have T63:Hid (((k:Int)==63)=false):=by show _=_;simp;omega
   have hsg:sg=false:=by rw [←Hsg.out];exact dF_ (fun q=>h63 q.1)
   subst hsg;by_cases hk0:0<k
   ·have tk:decide ((k:Int) > 0)=true:=dT_ (by omega);have HR4:Hid ((opB k op imm [gg,mm] b0 b1 b2).1=false):=by show _=_;rw [HR1.out,dF_ (by omega)];rfl
    clear h63 Hsg;rcases hop3 with rfl | rfl | rfl
    ·skip;unfold pp b8;go_enter Tryz.func186,Tryz.ntmps186;go_wp2_with fail
     refine wp_region_held_drew (S:=fun w'=>w'.cell? ⟨s,3,none⟩=some (.slice (some ⟨g,0,none⟩) L nc)∧w'.cell? ⟨x,6,none⟩=some (.int .i64 (a:Int))) (by kernel_rfl) ⟨x3,y6⟩ (fun hHeld=>?_)
     refine wpT 0 ?_;(try simp only [y_,z_]);refine wpT 1 ?_;(try simp only [y_,z_]);refine wpT 2 ?_;(try simp only [y_,z_]);refine wpT 3 ?_;(try simp only [y_,z_]);refine wpT 4 ?_;(try simp only [y_,z_]);refine wpT 5 ?_;(try simp only [y_,z_]);refine wpT 6 ?_;(try simp only [y_,z_]);refine wpT 7 ?_;(try simp only [y_,z_]);refine wpT 8 ?_;(try simp only [y_,z_]);refine wpT 9 ?_;(try simp only [y_,z_]);refine wpT 10 ?_;(try simp only [y_,z_]);refine aD_ (by kernel_rfl) ?_ _;go_wp2_with fail
     refine wp_region_held_drew (S:=fun w'=>w'.cell? ⟨w.heap.size,0,none⟩=some (.int .u8 (bW b0))∧w'.cell? ⟨w.heap.size,1,none⟩=some (.int .u8 (bW b1))∧w'.cell? ⟨s,0,none⟩=some (.int .i64 (k:Int))∧w'.cell? ⟨x,1,none⟩=some (.int .i64 17)) (by kernel_rfl) ⟨z0,z1,x0,y1⟩ (fun hHeld=>?_)
     refine wpT 0 ?_;(try simp only [y_,z_]);refine wpT 1 ?_;(try simp only [y_,z_]);refine wpT 2 ?_;(try simp only [y_,z_]);have t63:=T63.out;refine wpT 4 ?_;(try simp only [y_,z_]);refine wpT 5 ?_;(try simp only [y_,z_]);refine wpT 6 ?_;(try simp only [y_,z_]);refine wpT 7 ?_;(try simp only [y_,z_]);refine wpT 8 ?_;(try simp only [y_,z_]);refine wpT 9 ?_;(try simp only [y_,z_]);refine wpT 10 ?_;(try simp only [y_,z_]);refine wpT 11 ?_;(try simp only [y_,z_]);refine wpT 12 ?_;(try simp only [y_,z_]);refine wpT 13 ?_;(try simp only [y_,z_]);clear t63;refine wpU 14 ?_;(try simp only [y_,z_]);refine wpU 15 ?_;(try simp only [y_,z_]);refine wpU 16 ?_;(try simp only [y_,z_]);refine wpU 17 ?_;(try simp only [y_,z_]);refine wpU 18 ?_;(try simp only [y_,z_]);refine wpU 19 ?_;(try simp only [y_,z_]);refine wpT 20 ?_;(try simp only [y_,z_])
     refine wpAnyH_takeM (fun w'=>w'.cell? ⟨g,a+1,none⟩=some (.int .u8 (bW mm))) (calm_cell _ _) [21,22,23] (i:=3) (v:=?_) rfl (by kernel_rfl) (by kernel_rfl) (by kernel_rfl) (by kernel_rfl) (fun _ _ _ h=>h) (Or.inl ⟨by rfl,?_⟩) (hNW) (by assumption) ?_
     rotate_left
     ·intro w hSw;(try dsimp only at hSw);go_simp;try with_reducible rfl
     (try simp only [y_,z_]);refine aR_ (rs:=[21]) (by kernel_rfl) (by simp) ?_;refine aC_ rfl (fun K hK=>?_) aN_;go_simp;refine (CO.out _).mono ?_;rintro e w' ⟨rfl,rfl⟩;go_wp2_with fail
     refine hK.out _ _ ?_ (fun hHeld=>?_)
     ·exact hHeld
     clear hK K;(try simp only [y_,z_]);refine wpT 22 ?_;(try simp only [y_,z_]);refine aR_ (rs:=[23]) (by kernel_rfl) (by simp) ?_;refine aC_ rfl (fun K hK=>?_) aN_;go_simp;refine hK.out _ _ ?_ (fun hHeld=>?_)
     ·exact ⟨G0.out,G1.out,f0,F1.out⟩
     clear hK K;(try simp only [y_,z_]);refine aD_ (by kernel_rfl) ?_ _;go_wp2_with fail
     go_ret;exact ⟨by rw [HR4.out];rfl,by rw [HR2.out];exact HT2.out.upd (S:=Non) (Upd.refl.drewN 2) (fun f=>f) (fun f=>f) (fun _ _ _ f=>f),U2.out.drewN 2⟩
    ·skip;unfold pp b8;go_enter Tryz.func186,Tryz.ntmps186;go_wp2_with fail
     refine wp_region_held_drew (S:=fun w'=>w'.cell? ⟨s,3,none⟩=some (.slice (some ⟨g,0,none⟩) L nc)∧w'.cell? ⟨x,6,none⟩=some (.int .i64 (a:Int))) (by kernel_rfl) ⟨x3,y6⟩ (fun hHeld=>?_)
     refine wpT 0 ?_;(try simp only [y_,z_]);refine wpT 1 ?_;(try simp only [y_,z_]);refine wpT 2 ?_;(try simp only [y_,z_]);refine wpT 3 ?_;(try simp only [y_,z_]);refine wpT 4 ?_;(try simp only [y_,z_]);refine wpT 5 ?_;(try simp only [y_,z_]);refine wpT 6 ?_;(try simp only [y_,z_]);refine wpT 7 ?_;(try simp only [y_,z_]);refine wpT 8 ?_;(try simp only [y_,z_]);refine wpT 9 ?_;(try simp only [y_,z_]);refine wpT 10 ?_;(try simp only [y_,z_]);refine aD_ (by kernel_rfl) ?_ _;go_wp2_with fail
     refine wp_region_held_drew (S:=fun w'=>w'.cell? ⟨w.heap.size,0,none⟩=some (.int .u8 (bW b0))∧w'.cell? ⟨w.heap.size,1,none⟩=some (.int .u8 (bW b1))∧w'.cell? ⟨s,0,none⟩=some (.int .i64 (k:Int))∧w'.cell? ⟨x,1,none⟩=some (.int .i64 18)) (by kernel_rfl) ⟨z0,z1,x0,y1⟩ (fun hHeld=>?_)
     refine wpT 0 ?_;(try simp only [y_,z_]);refine wpT 1 ?_;(try simp only [y_,z_]);refine wpT 2 ?_;(try simp only [y_,z_]);have t63:=T63.out;refine wpT 4 ?_;(try simp only [y_,z_]);refine wpT 5 ?_;(try simp only [y_,z_]);refine wpT 6 ?_;(try simp only [y_,z_]);refine wpT 7 ?_;(try simp only [y_,z_]);refine wpT 8 ?_;(try simp only [y_,z_]);refine wpT 9 ?_;(try simp only [y_,z_]);refine wpT 10 ?_;(try simp only [y_,z_]);refine wpT 11 ?_;(try simp only [y_,z_]);refine wpT 12 ?_;(try simp only [y_,z_]);refine wpT 13 ?_;(try simp only [y_,z_]);clear t63;refine wpU 14 ?_;(try simp only [y_,z_]);refine wpU 15 ?_;(try simp only [y_,z_]);refine wpU 16 ?_;(try simp only [y_,z_]);refine wpU 17 ?_;(try simp only [y_,z_]);refine wpU 18 ?_;(try simp only [y_,z_]);refine wpU 19 ?_;(try simp only [y_,z_]);refine wpT 20 ?_;(try simp only [y_,z_])
     refine wpAnyH_takeM (fun w'=>w'.cell? ⟨g,a+1,none⟩=some (.int .u8 (bW mm))) (calm_cell _ _) [21,22,23] (i:=3) (v:=?_) rfl (by kernel_rfl) (by kernel_rfl) (by kernel_rfl) (by kernel_rfl) (fun _ _ _ h=>h) (Or.inl ⟨by rfl,?_⟩) (hNW) (by assumption) ?_
     rotate_left
     ·intro w hSw;(try dsimp only at hSw);go_simp;try with_reducible rfl
     (try simp only [y_,z_]);refine aR_ (rs:=[21]) (by kernel_rfl) (by simp) ?_;refine aC_ rfl (fun K hK=>?_) aN_;go_simp;refine (CO.out _).mono ?_;rintro e w' ⟨rfl,rfl⟩;go_wp2_with fail
     refine hK.out _ _ ?_ (fun hHeld=>?_)
     ·exact hHeld
     clear hK K;(try simp only [y_,z_]);refine wpT 22 ?_;(try simp only [y_,z_]);refine aR_ (rs:=[23]) (by kernel_rfl) (by simp) ?_;refine aC_ rfl (fun K hK=>?_) aN_;go_simp;refine hK.out _ _ ?_ (fun hHeld=>?_)
     ·exact ⟨G0.out,G1.out,f0,F1.out⟩
     clear hK K;(try simp only [y_,z_]);refine aD_ (by kernel_rfl) ?_ _;go_wp2_with fail
     go_ret;exact ⟨by rw [HR4.out];rfl,by rw [HR2.out];exact HT2.out.upd (S:=Non) (Upd.refl.drewN 2) (fun f=>f) (fun f=>f) (fun _ _ _ f=>f),U2.out.drewN 2⟩
    ·skip;unfold pp b8;go_enter Tryz.func186,Tryz.ntmps186;go_wp2_with fail
     refine wp_region_held_drew (S:=fun w'=>w'.cell? ⟨s,3,none⟩=some (.slice (some ⟨g,0,none⟩) L nc)∧w'.cell? ⟨x,6,none⟩=some (.int .i64 (a:Int))) (by kernel_rfl) ⟨x3,y6⟩ (fun hHeld=>?_)
     refine wpT 0 ?_;(try simp only [y_,z_]);refine wpT 1 ?_;(try simp only [y_,z_]);refine wpT 2 ?_;(try simp only [y_,z_]);refine wpT 3 ?_;(try simp only [y_,z_]);refine wpT 4 ?_;(try simp only [y_,z_]);refine wpT 5 ?_;(try simp only [y_,z_]);refine wpT 6 ?_;(try simp only [y_,z_]);refine wpT 7 ?_;(try simp only [y_,z_]);refine wpT 8 ?_;(try simp only [y_,z_]);refine wpT 9 ?_;(try simp only [y_,z_]);refine wpT 10 ?_;(try simp only [y_,z_]);refine aD_ (by kernel_rfl) ?_ _;go_wp2_with fail
     refine wp_region_held_drew (S:=fun w'=>w'.cell? ⟨w.heap.size,0,none⟩=some (.int .u8 (bW b0))∧w'.cell? ⟨w.heap.size,1,none⟩=some (.int .u8 (bW b1))∧w'.cell? ⟨s,0,none⟩=some (.int .i64 (k:Int))∧w'.cell? ⟨x,1,none⟩=some (.int .i64 19)) (by kernel_rfl) ⟨z0,z1,x0,y1⟩ (fun hHeld=>?_)
     refine wpT 0 ?_;(try simp only [y_,z_]);refine wpT 1 ?_;(try simp only [y_,z_]);refine wpT 2 ?_;(try simp only [y_,z_]);have t63:=T63.out;refine wpT 4 ?_;(try simp only [y_,z_]);refine wpT 5 ?_;(try simp only [y_,z_]);refine wpT 6 ?_;(try simp only [y_,z_]);refine wpT 7 ?_;(try simp only [y_,z_]);refine wpT 8 ?_;(try simp only [y_,z_]);refine wpT 9 ?_;(try simp only [y_,z_]);refine wpT 10 ?_;(try simp only [y_,z_]);refine wpT 11 ?_;(try simp only [y_,z_]);refine wpT 12 ?_;(try simp only [y_,z_]);refine wpT 13 ?_;(try simp only [y_,z_]);clear t63;refine wpU 14 ?_;(try simp only [y_,z_]);refine wpU 15 ?_;(try simp only [y_,z_]);refine wpU 16 ?_;(try simp only [y_,z_]);refine wpU 17 ?_;(try simp only [y_,z_]);refine wpU 18 ?_;(try simp only [y_,z_]);refine wpU 19 ?_;(try simp only [y_,z_]);refine wpT 20 ?_;(try simp only [y_,z_])
     refine wpAnyH_takeM (fun w'=>w'.cell? ⟨g,a+1,none⟩=some (.int .u8 (bW mm))) (calm_cell _ _) [21,22,23] (i:=3) (v:=?_) rfl (by kernel_rfl) (by kernel_rfl) (by kernel_rfl) (by kernel_rfl) (fun _ _ _ h=>h) (Or.inl ⟨by rfl,?_⟩) (hNW) (by assumption) ?_
     rotate_left
     ·intro w hSw;(try dsimp only at hSw);go_simp;try with_reducible rfl
     (try simp only [y_,z_]);refine aR_ (rs:=[21]) (by kernel_rfl) (by simp) ?_;refine aC_ rfl (fun K hK=>?_) aN_;go_simp;refine (CO.out _).mono ?_;rintro e w' ⟨rfl,rfl⟩;go_wp2_with fail
     refine hK.out _ _ ?_ (fun hHeld=>?_)
     ·exact hHeld
     clear hK K;(try simp only [y_,z_]);refine wpT 22 ?_;(try simp only [y_,z_]);refine aR_ (rs:=[23]) (by kernel_rfl) (by simp) ?_;refine aC_ rfl (fun K hK=>?_) aN_;go_simp;refine hK.out _ _ ?_ (fun hHeld=>?_)
     ·exact ⟨G0.out,G1.out,f0,F1.out⟩
     clear hK K;(try simp only [y_,z_]);refine aD_ (by kernel_rfl) ?_ _;go_wp2_with fail
     go_ret;exact ⟨by rw [HR4.out];rfl,by rw [HR2.out];exact HT2.out.upd (S:=Non) (Upd.refl.drewN 2) (fun f=>f) (fun f=>f) (fun _ _ _ f=>f),U2.out.drewN 2⟩
   ·have tk:decide ((k:Int) > 0)=false:=dF_ (by omega);have HR4:Hid ((opB k op imm [gg,mm] b0 b1 b2).1=gg):=by show _=_;rw [HR1.out,dT_ (by omega)];rfl
    clear h63 Hsg;rcases hop3 with rfl | rfl | rfl
    ·skip;unfold pp b8;go_enter Tryz.func186,Tryz.ntmps186;go_wp2_with fail
     refine wp_region_held_drew (S:=fun w'=>w'.cell? ⟨s,3,none⟩=some (.slice (some ⟨g,0,none⟩) L nc)∧w'.cell? ⟨x,6,none⟩=some (.int .i64 (a:Int))) (by kernel_rfl) ⟨x3,y6⟩ (fun hHeld=>?_)
     refine wpT 0 ?_;(try simp only [y_,z_]);refine wpT 1 ?_;(try simp only [y_,z_]);refine wpT 2 ?_;(try simp only [y_,z_]);refine wpT 3 ?_;(try simp only [y_,z_]);refine wpT 4 ?_;(try simp only [y_,z_]);refine wpT 5 ?_;(try simp only [y_,z_]);refine wpT 6 ?_;(try simp only [y_,z_]);refine wpT 7 ?_;(try simp only [y_,z_]);refine wpT 8 ?_;(try simp only [y_,z_]);refine wpT 9 ?_;(try simp only [y_,z_]);refine wpT 10 ?_;(try simp only [y_,z_]);refine aD_ (by kernel_rfl) ?_ _;go_wp2_with fail
     refine wp_region_held_drew (S:=fun w'=>w'.cell? ⟨w.heap.size,0,none⟩=some (.int .u8 (bW b0))∧w'.cell? ⟨w.heap.size,1,none⟩=some (.int .u8 (bW b1))∧w'.cell? ⟨s,0,none⟩=some (.int .i64 (k:Int))∧w'.cell? ⟨x,1,none⟩=some (.int .i64 17)) (by kernel_rfl) ⟨z0,z1,x0,y1⟩ (fun hHeld=>?_)
     refine wpT 0 ?_;(try simp only [y_,z_]);refine wpT 1 ?_;(try simp only [y_,z_]);refine wpT 2 ?_;(try simp only [y_,z_]);have t63:=T63.out;refine wpT 4 ?_;(try simp only [y_,z_]);refine wpT 5 ?_;(try simp only [y_,z_]);refine wpT 6 ?_;(try simp only [y_,z_]);refine wpT 7 ?_;(try simp only [y_,z_]);refine wpT 8 ?_;(try simp only [y_,z_]);refine wpT 9 ?_;(try simp only [y_,z_]);refine wpT 10 ?_;(try simp only [y_,z_]);refine wpT 11 ?_;(try simp only [y_,z_]);refine wpT 12 ?_;(try simp only [y_,z_]);refine wpT 13 ?_;(try simp only [y_,z_]);clear t63;refine wpU 14 ?_;(try simp only [y_,z_]);refine wpU 15 ?_;(try simp only [y_,z_]);refine wpU 16 ?_;(try simp only [y_,z_]);refine wpU 17 ?_;(try simp only [y_,z_]);refine wpU 18 ?_;(try simp only [y_,z_]);refine wpU 19 ?_;(try simp only [y_,z_]);refine wpT 20 ?_;(try simp only [y_,z_])
     refine wpAnyH_takeM (fun w'=>w'.cell? ⟨g,a+1,none⟩=some (.int .u8 (bW mm))) (calm_cell _ _) [21,22,23] (i:=3) (v:=?_) rfl (by kernel_rfl) (by kernel_rfl) (by kernel_rfl) (by kernel_rfl) (fun _ _ _ h=>h) (Or.inl ⟨by rfl,?_⟩) (hNW) (by assumption) ?_
     rotate_left
     ·intro w hSw;(try dsimp only at hSw);go_simp;try with_reducible rfl
     (try simp only [y_,z_]);refine aR_ (rs:=[21]) (by kernel_rfl) (by simp) ?_;refine aC_ rfl (fun K hK=>?_) aN_;go_simp;refine (CO.out _).mono ?_;rintro e w' ⟨rfl,rfl⟩;go_wp2_with fail
     refine hK.out _ _ ?_ (fun hHeld=>?_)
     ·exact hHeld
     clear hK K;(try simp only [y_,z_]);refine wpT 22 ?_;(try simp only [y_,z_]);refine aR_ (rs:=[23]) (by kernel_rfl) (by simp) ?_;refine aC_ rfl (fun K hK=>?_) aN_;go_simp;refine hK.out _ _ ?_ (fun hHeld=>?_)
     ·exact ⟨G0.out,G1.out,f0,F1.out⟩
     clear hK K;(try simp only [y_,z_]);refine aD_ (by kernel_rfl) ?_ _;go_wp2_with fail
     refine wp_region_held_drew (S:=fun w'=>w'.cell? ⟨s,2,none⟩=some (.slice (some ⟨ob,oo,none⟩) L oc)∧w'.cell? ⟨x,6,none⟩=some (.int .i64 (a:Int))∧w'.cell? ⟨ob,oo+a,none⟩=some (.int .u8 (bW gg))) (by kernel_rfl) ⟨f2,f6,fc⟩ (fun hHeld=>?_)
     refine wpT 0 ?_;(try simp only [y_,z_]);refine wpT 1 ?_;(try simp only [y_,z_]);refine wpT 2 ?_;(try simp only [y_,z_]);refine wpT 3 ?_;(try simp only [y_,z_]);refine wpT 4 ?_;(try simp only [y_,z_]);refine wpT 5 ?_;(try simp only [y_,z_]);refine wpT 6 ?_;(try simp only [y_,z_]);refine wpT 7 ?_;(try simp only [y_,z_]);refine wpT 8 ?_;(try simp only [y_,z_]);refine wpT 9 ?_;(try simp only [y_,z_]);refine wpT 10 ?_;(try simp only [y_,z_]);refine aD_ (by kernel_rfl) ?_ _;go_wp2_with fail
     go_ret;exact ⟨by rw [HR4.out];rfl,by rw [HR2.out];exact HT2.out.upd (S:=Non) (Upd.refl.drewN 3) (fun f=>f) (fun f=>f) (fun _ _ _ f=>f),U2.out.drewN 3⟩
    ·skip;unfold pp b8;go_enter Tryz.func186,Tryz.ntmps186;go_wp2_with fail
     refine wp_region_held_drew (S:=fun w'=>w'.cell? ⟨s,3,none⟩=some (.slice (some ⟨g,0,none⟩) L nc)∧w'.cell? ⟨x,6,none⟩=some (.int .i64 (a:Int))) (by kernel_rfl) ⟨x3,y6⟩ (fun hHeld=>?_)
     refine wpT 0 ?_;(try simp only [y_,z_]);refine wpT 1 ?_;(try simp only [y_,z_]);refine wpT 2 ?_;(try simp only [y_,z_]);refine wpT 3 ?_;(try simp only [y_,z_]);refine wpT 4 ?_;(try simp only [y_,z_]);refine wpT 5 ?_;(try simp only [y_,z_]);refine wpT 6 ?_;(try simp only [y_,z_]);refine wpT 7 ?_;(try simp only [y_,z_]);refine wpT 8 ?_;(try simp only [y_,z_]);refine wpT 9 ?_;(try simp only [y_,z_]);refine wpT 10 ?_;(try simp only [y_,z_]);refine aD_ (by kernel_rfl) ?_ _;go_wp2_with fail
     refine wp_region_held_drew (S:=fun w'=>w'.cell? ⟨w.heap.size,0,none⟩=some (.int .u8 (bW b0))∧w'.cell? ⟨w.heap.size,1,none⟩=some (.int .u8 (bW b1))∧w'.cell? ⟨s,0,none⟩=some (.int .i64 (k:Int))∧w'.cell? ⟨x,1,none⟩=some (.int .i64 18)) (by kernel_rfl) ⟨z0,z1,x0,y1⟩ (fun hHeld=>?_)
     refine wpT 0 ?_;(try simp only [y_,z_]);refine wpT 1 ?_;(try simp only [y_,z_]);refine wpT 2 ?_;(try simp only [y_,z_]);have t63:=T63.out;refine wpT 4 ?_;(try simp only [y_,z_]);refine wpT 5 ?_;(try simp only [y_,z_]);refine wpT 6 ?_;(try simp only [y_,z_]);refine wpT 7 ?_;(try simp only [y_,z_]);refine wpT 8 ?_;(try simp only [y_,z_]);refine wpT 9 ?_;(try simp only [y_,z_]);refine wpT 10 ?_;(try simp only [y_,z_]);refine wpT 11 ?_;(try simp only [y_,z_]);refine wpT 12 ?_;(try simp only [y_,z_]);refine wpT 13 ?_;(try simp only [y_,z_]);clear t63;refine wpU 14 ?_;(try simp only [y_,z_]);refine wpU 15 ?_;(try simp only [y_,z_]);refine wpU 16 ?_;(try simp only [y_,z_]);refine wpU 17 ?_;(try simp only [y_,z_]);refine wpU 18 ?_;(try simp only [y_,z_]);refine wpU 19 ?_;(try simp only [y_,z_]);refine wpT 20 ?_;(try simp only [y_,z_])
     refine wpAnyH_takeM (fun w'=>w'.cell? ⟨g,a+1,none⟩=some (.int .u8 (bW mm))) (calm_cell _ _) [21,22,23] (i:=3) (v:=?_) rfl (by kernel_rfl) (by kernel_rfl) (by kernel_rfl) (by kernel_rfl) (fun _ _ _ h=>h) (Or.inl ⟨by rfl,?_⟩) (hNW) (by assumption) ?_
     rotate_left
     ·intro w hSw;(try dsimp only at hSw);go_simp;try with_reducible rfl
     (try simp only [y_,z_]);refine aR_ (rs:=[21]) (by kernel_rfl) (by simp) ?_;refine aC_ rfl (fun K hK=>?_) aN_;go_simp;refine (CO.out _).mono ?_;rintro e w' ⟨rfl,rfl⟩;go_wp2_with fail
     refine hK.out _ _ ?_ (fun hHeld=>?_)
     ·exact hHeld
     clear hK K;(try simp only [y_,z_]);refine wpT 22 ?_;(try simp only [y_,z_]);refine aR_ (rs:=[23]) (by kernel_rfl) (by simp) ?_;refine aC_ rfl (fun K hK=>?_) aN_;go_simp;refine hK.out _ _ ?_ (fun hHeld=>?_)
     ·exact ⟨G0.out,G1.out,f0,F1.out⟩
     clear hK K;(try simp only [y_,z_]);refine aD_ (by kernel_rfl) ?_ _;go_wp2_with fail
     refine wp_region_held_drew (S:=fun w'=>w'.cell? ⟨s,2,none⟩=some (.slice (some ⟨ob,oo,none⟩) L oc)∧w'.cell? ⟨x,6,none⟩=some (.int .i64 (a:Int))∧w'.cell? ⟨ob,oo+a,none⟩=some (.int .u8 (bW gg))) (by kernel_rfl) ⟨f2,f6,fc⟩ (fun hHeld=>?_)
     refine wpT 0 ?_;(try simp only [y_,z_]);refine wpT 1 ?_;(try simp only [y_,z_]);refine wpT 2 ?_;(try simp only [y_,z_]);refine wpT 3 ?_;(try simp only [y_,z_]);refine wpT 4 ?_;(try simp only [y_,z_]);refine wpT 5 ?_;(try simp only [y_,z_]);refine wpT 6 ?_;(try simp only [y_,z_]);refine wpT 7 ?_;(try simp only [y_,z_]);refine wpT 8 ?_;(try simp only [y_,z_]);refine wpT 9 ?_;(try simp only [y_,z_]);refine wpT 10 ?_;(try simp only [y_,z_]);refine aD_ (by kernel_rfl) ?_ _;go_wp2_with fail
     go_ret;exact ⟨by rw [HR4.out];rfl,by rw [HR2.out];exact HT2.out.upd (S:=Non) (Upd.refl.drewN 3) (fun f=>f) (fun f=>f) (fun _ _ _ f=>f),U2.out.drewN 3⟩
    ·skip;unfold pp b8;go_enter Tryz.func186,Tryz.ntmps186;go_wp2_with fail
     refine wp_region_held_drew (S:=fun w'=>w'.cell? ⟨s,3,none⟩=some (.slice (some ⟨g,0,none⟩) L nc)∧w'.cell? ⟨x,6,none⟩=some (.int .i64 (a:Int))) (by kernel_rfl) ⟨x3,y6⟩ (fun hHeld=>?_)
     refine wpT 0 ?_;(try simp only [y_,z_]);refine wpT 1 ?_;(try simp only [y_,z_]);refine wpT 2 ?_;(try simp only [y_,z_]);refine wpT 3 ?_;(try simp only [y_,z_]);refine wpT 4 ?_;(try simp only [y_,z_]);refine wpT 5 ?_;(try simp only [y_,z_]);refine wpT 6 ?_;(try simp only [y_,z_]);refine wpT 7 ?_;(try simp only [y_,z_]);refine wpT 8 ?_;(try simp only [y_,z_]);refine wpT 9 ?_;(try simp only [y_,z_]);refine wpT 10 ?_;(try simp only [y_,z_]);refine aD_ (by kernel_rfl) ?_ _;go_wp2_with fail
     refine wp_region_held_drew (S:=fun w'=>w'.cell? ⟨w.heap.size,0,none⟩=some (.int .u8 (bW b0))∧w'.cell? ⟨w.heap.size,1,none⟩=some (.int .u8 (bW b1))∧w'.cell? ⟨s,0,none⟩=some (.int .i64 (k:Int))∧w'.cell? ⟨x,1,none⟩=some (.int .i64 19)) (by kernel_rfl) ⟨z0,z1,x0,y1⟩ (fun hHeld=>?_)
     refine wpT 0 ?_;(try simp only [y_,z_]);refine wpT 1 ?_;(try simp only [y_,z_]);refine wpT 2 ?_;(try simp only [y_,z_]);have t63:=T63.out;refine wpT 4 ?_;(try simp only [y_,z_]);refine wpT 5 ?_;(try simp only [y_,z_]);refine wpT 6 ?_;(try simp only [y_,z_]);refine wpT 7 ?_;(try simp only [y_,z_]);refine wpT 8 ?_;(try simp only [y_,z_]);refine wpT 9 ?_;(try simp only [y_,z_]);refine wpT 10 ?_;(try simp only [y_,z_]);refine wpT 11 ?_;(try simp only [y_,z_]);refine wpT 12 ?_;(try simp only [y_,z_]);refine wpT 13 ?_;(try simp only [y_,z_]);clear t63;refine wpU 14 ?_;(try simp only [y_,z_]);refine wpU 15 ?_;(try simp only [y_,z_]);refine wpU 16 ?_;(try simp only [y_,z_]);refine wpU 17 ?_;(try simp only [y_,z_]);refine wpU 18 ?_;(try simp only [y_,z_]);refine wpU 19 ?_;(try simp only [y_,z_]);refine wpT 20 ?_;(try simp only [y_,z_])
     refine wpAnyH_takeM (fun w'=>w'.cell? ⟨g,a+1,none⟩=some (.int .u8 (bW mm))) (calm_cell _ _) [21,22,23] (i:=3) (v:=?_) rfl (by kernel_rfl) (by kernel_rfl) (by kernel_rfl) (by kernel_rfl) (fun _ _ _ h=>h) (Or.inl ⟨by rfl,?_⟩) (hNW) (by assumption) ?_
     rotate_left
     ·intro w hSw;(try dsimp only at hSw);go_simp;try with_reducible rfl
     (try simp only [y_,z_]);refine aR_ (rs:=[21]) (by kernel_rfl) (by simp) ?_;refine aC_ rfl (fun K hK=>?_) aN_;go_simp;refine (CO.out _).mono ?_;rintro e w' ⟨rfl,rfl⟩;go_wp2_with fail
     refine hK.out _ _ ?_ (fun hHeld=>?_)
     ·exact hHeld
     clear hK K;(try simp only [y_,z_]);refine wpT 22 ?_;(try simp only [y_,z_]);refine aR_ (rs:=[23]) (by kernel_rfl) (by simp) ?_;refine aC_ rfl (fun K hK=>?_) aN_;go_simp;refine hK.out _ _ ?_ (fun hHeld=>?_)
     ·exact ⟨G0.out,G1.out,f0,F1.out⟩
     clear hK K;(try simp only [y_,z_]);refine aD_ (by kernel_rfl) ?_ _;go_wp2_with fail
     refine wp_region_held_drew (S:=fun w'=>w'.cell? ⟨s,2,none⟩=some (.slice (some ⟨ob,oo,none⟩) L oc)∧w'.cell? ⟨x,6,none⟩=some (.int .i64 (a:Int))∧w'.cell? ⟨ob,oo+a,none⟩=some (.int .u8 (bW gg))) (by kernel_rfl) ⟨f2,f6,fc⟩ (fun hHeld=>?_)
     refine wpT 0 ?_;(try simp only [y_,z_]);refine wpT 1 ?_;(try simp only [y_,z_]);refine wpT 2 ?_;(try simp only [y_,z_]);refine wpT 3 ?_;(try simp only [y_,z_]);refine wpT 4 ?_;(try simp only [y_,z_]);refine wpT 5 ?_;(try simp only [y_,z_]);refine wpT 6 ?_;(try simp only [y_,z_]);refine wpT 7 ?_;(try simp only [y_,z_]);refine wpT 8 ?_;(try simp only [y_,z_]);refine wpT 9 ?_;(try simp only [y_,z_]);refine wpT 10 ?_;(try simp only [y_,z_]);refine aD_ (by kernel_rfl) ?_ _;go_wp2_with fail
     go_ret;exact ⟨by rw [HR4.out];rfl,by rw [HR2.out];exact HT2.out.upd (S:=Non) (Upd.refl.drewN 3) (fun f=>f) (fun f=>f) (fun _ _ _ f=>f),U2.out.drewN 3⟩
theorem uW_small {h:Nat} (hh:h<18446744073709551616) (j:Nat):bI (h:Int) j=h.testBit j:=by
 rw [bI_eq];have:=uW_eq (h:Int);rw [show uW (h:Int)=h by omega]
set_option maxRecDepth 100000 in
set_option maxHeartbeats 16000000 in
theorem aTBit_c {F:Nat→Prop} {s k h:Nat} {OA:Option Addr} {oc g nc:Nat} {O:List Bool} (hk:k<64) (hh:h<18446744073709551616) (hl:O.length≤1000000) (hsF:¬F s) (p:Pt) :
  ∀(w:World) (N:List Bool) (a x:Nat),supF p=true→WfP 64 p→p.size≤1000000→OsT w F p a x→TrS w F s k h OA oc g nc O N→(∀i,F i→i<w.heap.size)→a+bN p<O.length→(∀i,a≤i→i<a+bN p→N.getD i false=O.getD i false) →
  Calls Tryz.prog 132 #[pp s,pp x] w fun e w'=>e=.returned (b8 (vP k h.testBit O p a))∧TrS w' F s k h OA oc g nc O (spl N a (nP k h.testBit O p a))∧Upd (·=g) w w':=by
 induction p using Pt.ind with
 | h p ih =>
  intro w N a x hs hw hz hos T hFw ha hNO;have hosF:F x:=(OsT.iff.1 hos).1;obtain ⟨_,KA,kc,CA,cc,gs,hb,hgl,hCA,hL⟩:=OsT.iff.1 hos;have hxg:x≠g:=T.far x hosF;have hw':=(WfP.iff 64 p).1 hw;by_cases hv:0<p.v
  ·have hN0:nP k h.testBit O p a=[]:=by unfold nP;rw [bitP_var hv]
   have hV0:vP k h.testBit O p a=h.testBit (p.v - 1).toNat:=by unfold vP;rw [bitP_var hv]
   obtain ⟨vn,hvn⟩:∃n:Nat,p.v=(n:Int)+1:=⟨(p.v - 1).toNat,by omega⟩;have hb8:=bit_u8 (h:Int) vn (by omega);rw [uW_small hh] at hb8;have HR:Hid (vP k h.testBit O p a=h.testBit vn):=by show _=_;rw [hV0,hvn];congr 1;omega
   have HR2:Hid (spl N a (nP k h.testBit O p a)=N):=by show _=_;rw [hN0,spl_nil]
   have x1:=T.blk.cell 1;have y0:=hb.cell 0;rw [hvn] at y0;have t0:decide ((vn:Int)+1 > 0)=true:=dT_ (by omega);obtain ⟨rb,Hrb⟩:=nm (h.testBit vn);rw [Hrb.out] at hb8 HR
   have HE:Hid (IntKind.u8.wrap (bits .and .i64 ((h:Int) / 2 ^ min (IntKind.u64.wrap (IntKind.i64.wrap (vn:Int))).toNat 64) 1)=bW rb):=by
    show _=_
    have e1:min (IntKind.u64.wrap (IntKind.i64.wrap (vn:Int))).toNat 64=vn:=by
     rw [i64w_of (by unfold I64;omega),uW_u64];have:=uW_eq (vn:Int);omega
    rw [e1,IntKind.wrap_u8,hb8]
   have T0:=h_ T;clear hb hw' hw ih hL hCA hos T hNO hN0 hV0 ha hFw;unfold pp;go_enter Tryz.func132,Tryz.ntmps132;go_wp2_with fail
   refine wp_region_held_drew (S:=fun w'=>w'.cell? ⟨s,1,none⟩=some (.int .i64 (h:Int))∧w'.cell? ⟨x,0,none⟩=some (.int .i64 ((vn:Int)+1))) (by kernel_rfl) ⟨x1,y0⟩ (fun hHeld=>?_)
   refine wpT 0 ?_;(try simp only [y_,z_]);refine wpT 1 ?_;(try simp only [y_,z_]);refine wpT 2 ?_;(try simp only [y_,z_]);refine wpT 3 ?_;(try simp only [y_,z_]);refine wpT 4 ?_;(try simp only [y_,z_]);refine wpT 5 ?_;(try simp only [y_,z_]);refine wpT 6 ?_;(try simp only [y_,z_]);refine wpT 7 ?_;(try simp only [y_,z_]);refine wpT 8 ?_;(try simp only [y_,z_]);refine wpT 9 ?_;(try simp only [y_,z_]);refine wpT 10 ?_;(try simp only [y_,z_]);refine wpT 11 ?_;(try simp only [y_,z_]);refine wpT 12 ?_;(try simp only [y_,z_]);refine wpT 13 ?_;(try simp only [y_,z_]);refine wpT 14 ?_;(try simp only [y_,z_]);refine aD_ (by kernel_rfl) ?_ _;go_wp2_with fail
   go_ret;refine ⟨by show Ending.returned (Value.int .u8 _)=_;rw [HE.out,HR.out];rfl,?_,Upd.refl.drewN 1⟩;rw [HR2.out];exact T0.out.upd (S:=Non) (Upd.refl.drewN 1) (fun f=>f) (fun f=>f) (fun _ _ _ f=>f)
  ·have hs':supO p.op p.kids=true∧p.kids.all supF=true:=by have:=hs;rw [supF_op hv,Bool.and_eq_true] at this;exact this
   have hsk:∀q∈p.kids,supF q=true:=List.all_eq_true.1 hs'.2;have hlen:p.kids.length=(oSortsF p.op).1.length:=hw'.2.2.1 (by omega);obtain ⟨own,hown⟩:∃n,ownN p.op p.kids=n:=⟨_,rfl⟩;have hosw:osOwn p.v p.op p.kids=own:=by unfold osOwn;rw [if_neg hv,hown]
   have hbn:bN p=own+bL p.kids:=by rw [bN_iff,if_neg hv,hown]
   obtain ⟨n,hn⟩:∃n,osN p.v p.op p.kids.length=n:=⟨_,rfl⟩;have hn':n=if p.op=12 then min 1 p.kids.length else p.kids.length:=by rw [←hn];unfold osN;rw [if_neg hv]
   have hnk:n≤p.kids.length:=by rw [hn'];split <;> omega
   have hn3:n≤3:=by
    have : p.kids.length≤3:=by
     rw [hlen];rcases supO_ops hs'.1 with e | e | e | e | e | e | e | e | e | e | e | e | e | e | e <;> rw [e] <;> decide
    omega
   have hbl:∀j,bL (p.kids.take j)≤bL p.kids:=fun j=>bL_take_le _ _
   rw [hosw] at hL hb
   have Hk:∀j,j<n→∃(q:Pt) (y:Nat),p.kids[j]?=some q∧q∈p.kids∧gs[j]?=some y∧OsT w F q (a+own+bL (p.kids.take j)) y∧bL (p.kids.take (j+1))=bL (p.kids.take j)+bN q∧p.kids.take (j+1)=p.kids.take j++[q]:=fun j hj=>by
    have h1:j<p.kids.length:=by omega
    have h2:j<gs.length:=by rw [hgl,hn];exact hj
    exact ⟨p.kids[j],gs[j],List.getElem?_eq_getElem h1,List.getElem_mem h1,List.getElem?_eq_getElem h2,hL.at_ h1 h2,bL_take h1,List.take_succ_eq_append_getElem h1⟩
   have HK:=h_ Hk;have HLN:Hid (∀j,(nL k h.testBit O (p.kids.take j) (a+own)).length=bL (p.kids.take j)):=fun j=>(bitL_pos (fun q hq=>hsk q (List.mem_of_mem_take hq)) (by have:=hbl j;omega)).2
   have HST:Hid (∀j q,p.kids.take (j+1)=p.kids.take j++[q]→nL k h.testBit O (p.kids.take (j+1)) (a+own)=nL k h.testBit O (p.kids.take j) (a+own)++nP k h.testBit O q (a+own+bL (p.kids.take j))∧vL k h.testBit O (p.kids.take (j+1)) (a+own)=vL k h.testBit O (p.kids.take j) (a+own)++[vP k h.testBit O q (a+own+bL (p.kids.take j))]):=fun j q e=>by
    rw [e,nL_app,vL_app];simp [nL,vL]
   obtain ⟨W,HW⟩:=nm (w.alloc (.cells #[.int .u8 0,.int .u8 0,.int .u8 0] 231));obtain ⟨vb,hvb⟩:∃b,w.heap.size=b:=⟨_,rfl⟩;have u1:Upd Non w W:=by rw [←HW.out];exact Upd.refl.alloc _
   have hv0:Blk W vb 231 (vpad []):=by rw [←HW.out,←hvb];exact Blk.new _ _ _
   have e0:=HW.out;have hbW:=hb.upd u1 (fun f=>f);have y0:=hb.cell 0;have HY1:=h_ (hb.cell 1);have y5:=hbW.cell 5;have T1:=T.upd u1 (fun f=>f) (fun f=>f) (fun _ _ _ f=>f);have hvg:vb≠g:=by have:=T.own.lt (At.some_.2 rfl);omega
   have hvs:vb≠s:=by have:=T.blk.lt;omega
   have hvx:vb≠x:=by have:=hb.lt;omega
   have HCA:=h_ hCA;have t0:decide (p.v > 0)=false:=dF_ hv;have HFW:=h_ hFw
   have HF:Hid (∀i,i<w.heap.size→F i→¬(i=g∨i=vb)):=fun i hi hf e=>by
    rcases e with e | e
    ·exact T.far i hf e
    ·omega
   have HB:=h_ hbW;have HI:=h_ (fun q (hq:q∈p.kids)=>ih q hq);have HWF:=h_ hw'.2.2.2;have HSZ:Hid (∀q∈p.kids,q.size≤1000000):=fun q hq=>by have:=Pt.kids_lt hq;omega
   have HSK:=h_ hsk;have HOWN:=h_ hown;have HN':=h_ hn'
   have H12:Hid (p.op=12→∃k0 k1,p.kids=[k0,k1]∧bN k1=0):=fun e=>by
    have h2:p.kids.length=2:=by rw [hlen,e];rfl
    obtain ⟨k0,k1,ek⟩:∃k0 k1,p.kids=[k0,k1]:=by
     match p.kids,h2 with
     | [x,y],_=>exact ⟨x,y,rfl⟩
    refine ⟨k0,k1,ek,?_⟩
    have ho:k1.op=1:=by
     have:=hs'.1;unfold supO at this;have:=of_decide_eq_true this;rw [e,ek] at this;simp [kid] at this;omega
    have w1:=(WfP.iff 64 k1).1 (hw'.2.2.2 k1 (by rw [ek];simp));rw [bN_iff];by_cases hv1:0<k1.v
    ·rw [if_pos hv1]
    ·have hk0:k1.kids=[]:=List.length_eq_zero_iff.1 (by rw [w1.2.2.1 (by omega),ho];rfl);rw [if_neg hv1,hk0,ho];rfl
   have HSO:Hid (supO p.op p.kids=true):=hs'.1;have hbl':=hbl;have HNO:=h_ hNO;have HBN:=h_ hbn;have HA:=h_ ha;have HTL:=h_ T.len;have HX:=h_ hxg;have HU1:=h_ u1;have HSF:Hid (∀i,F i→i≠s):=fun i hi e=>hsF (e ▸ hi)
   rw [hgl,hn] at y5;clear hFw ih hw hw' hsk hNO hos hL hb hbl hlen hs hs' hz hbn ha hCA HW hown hosw hn' u1;unfold pp;go_enter Tryz.func132,Tryz.ntmps132;go_wp2_with fail
   go_loopg [6,7,33] n (fun gg _ _ i wr=>∃j:Nat,Hid (gg=n - j)∧j≤n∧i=.int .i64 j∧Hid (TrS wr F s k h OA oc g nc O (spl N (a+own) (nL k h.testBit O (p.kids.take j) (a+own))))∧Hid (Blk wr vb 231 (vpad (vL k h.testBit O (p.kids.take j) (a+own))))∧Hid (Upd (fun b=>b=g∨b=vb) W wr))
   case atStart=>exact ⟨0,rfl,by omega,rfl,by rw [List.take_zero];show TrS _ _ _ _ _ _ _ _ _ _ (spl N _ []);rw [spl_nil];exact T1,hv0,Upd.refl⟩
   case round =>
    obtain ⟨j,Hg,hj,rfl,HT,HV,HU⟩:=hrel;by_cases hlt:j<n
    ·obtain ⟨q,y,hqk,hqm,hgy,hOq,hbl1,htk⟩:=HK.out j hlt;obtain ⟨hs1,hs2⟩:=HST.out j q htk;have hjk:j<p.kids.length:=by omega
     have hle:bL (p.kids.take (j+1))≤bL p.kids:=bL_take_le _ _;have hNl:=HTL.out;have hln:=HLN.out j;have hbn':=HBN.out;have ha':=HA.out;have hvl:(vL k h.testBit O (p.kids.take j) (a+own)).length=j:=by rw [vL_len,List.length_take];omega
     have hUw:Upd (fun b=>b=g∨b=vb) w wr:=(HU1.out.mono (fun _ _ f=>f.elim)).trans HU.out (fun _ _ q=>q);have hsa:=fun i hi=>spl_at (N:=N) (a:=a+own) (m:=nL k h.testBit O (p.kids.take j) (a+own)) (by omega) (i:=i) (.inr hi)
     have C1:=h_ (HI.out q hqm wr (spl N (a+own) (nL k h.testBit O (p.kids.take j) (a+own))) (a+own+bL (p.kids.take j)) y (HSK.out q hqm) (HWF.out q hqm) (HSZ.out q hqm)
      (OsT.upd hUw HF.out (fun _ _ h=>h) q _ _ hOq) HT.out (fun i hi=>Nat.lt_of_lt_of_le (HFW.out i hi) hUw.size) (by omega) (fun i hi1 hi2=>by
       rw [hsa i (by omega)]
       exact HNO.out i (by omega) (by omega)))
     have hsp:spl (spl N (a+own) (nL k h.testBit O (p.kids.take j) (a+own))) (a+own+bL (p.kids.take j)) (nP k h.testBit O q (a+own+bL (p.kids.take j)))=spl N (a+own) (nL k h.testBit O (p.kids.take (j+1)) (a+own)):=by
      have hq2:=(bitP_pos (k:=k) (ins:=h.testBit) (O:=O) (HSK.out q hqm) (a:=a+own+bL (p.kids.take j)) (by omega)).2;have e:=spl_spl (N:=N) (a:=a+own) (m1:=nL k h.testBit O (p.kids.take j) (a+own)) (m2:=nP k h.testBit O q (a+own+bL (p.kids.take j))) (by omega)
      rw [hln] at e;rw [hs1];exact e
     rw [hsp] at C1;have HS2:=h_ hs2;obtain ⟨rb,Hrb⟩:=nm (vP k h.testBit O q (a+own+bL (p.kids.take j)));rw [Hrb.out] at C1 HS2;obtain ⟨vs,Hvs⟩:=nm (vL k h.testBit O (p.kids.take j) (a+own));rw [Hvs.out] at HV HS2 hvl;obtain ⟨cb,co,eC,_,_,hcc⟩:=HCA.out.at_ (k:=j) (by rw [List.length_map];omega)
     have hcc2:wr.cell? ⟨cb,co+j,none⟩=some (.pointer (some ⟨y,0,none⟩)):=by
      obtain ⟨cb',co',eC',hFc,hcb,_⟩:=HCA.out.at_ (k:=j) (by rw [List.length_map];omega);rw [eC] at eC';injection eC' with eC'
      injection eC' with e1 e2
      subst e1 e2;have h1:=u_ hcc hUw (HF.out _ hcb hFc);rw [h1];have h2:(gs.map pp)[j]?=some (pp y):=by rw [List.getElem?_map,hgy];rfl
      rw [List.getElem?_eq_getElem (by rw [List.length_map];omega)] at h2;exact h2
     subst eC;have j0:(0:Int)≤(j:Int):=by omega
     have j3:(j:Int)<3:=by omega
     have jn:(j:Int)<(n:Int):=by omega
     have hvlen:=hvl;clear hqk hOq hs1 hs2 hjk hle hNl hln hbn' ha' hsa hsp hbl1 hcc hUw;go_wp2_with fail
     refine C1.out.mono ?_;rintro e w4 ⟨rfl,T4,u4⟩;have hv4:=HV.out.upd u4 hvg
     have hc4:∃c,w4.cell? ⟨vb,j,none⟩=some c:=by
      rw [hv4.cell];exact ⟨_,Array.getElem?_eq_getElem (show j<(vpad vs).size by show j<3;omega)⟩
     obtain ⟨c4,hc4⟩:=hc4;have hf4:=hv4.frozen j;have HV4:=h_ hv4;have HT4:=h_ T4;have HU4:=h_ u4;unfold b8;clear T4 u4 hv4;go_wp2_with fail
     have uS:=updCell w4 vb j (b8 rb);have TE:=HT4.out.upd uS (fun e=>hvs e.symm) (fun e=>hvg e.symm) (fun i _ hi e=>by have:=HFW.out i hi;omega);have VE:=HV4.out.set_ j (b8 rb);have hvp:=vpad_set (l:=vs) rb (by omega);rw [hvlen] at hvp;rw [hvp] at VE;have UE:=(HU.out.trans HU4.out (fun _ _ e=>.inl e)).trans uS (fun _ _ e=>.inr e)
     go_roundg (n - (j+1))
     case measure=>rw [Hg.out];omega
     case rel=>exact ⟨j+1,rfl,by omega,by go_num,TE,by rw [HS2.out];exact VE,UE⟩
    ·obtain rfl:n=j:=by omega
     obtain ⟨vs,Hvs⟩:=nm (vL k h.testBit O (p.kids.take n) (a+own));obtain ⟨m2,Hm2⟩:=nm (nL k h.testBit O (p.kids.take n) (a+own));obtain ⟨N1,HN1⟩:=nm (spl N (a+own) m2);obtain ⟨R,hR⟩:∃R,opB k p.op p.imm ((O.drop a).take own) (vs.getD 0 false) (vs.getD 1 false) (vs.getD 2 false)=R:=⟨_,rfl⟩;have hl2:=HLN.out n;rw [Hm2.out] at hl2 HT;rw [HN1.out] at HT;rw [Hvs.out] at HV
     obtain ⟨HP1,HP2,HP3⟩:Hid (vP k h.testBit O p a=R.1)∧Hid (nP k h.testBit O p a=R.2++m2)∧Hid (R.2.length=own):=by
      have hmn:((O.drop a).take own).length=own:=by have:=HA.out;have:=HBN.out;rw [List.length_take,List.length_drop];omega
      have hbp:=bitL_pos (k:=k) (ins:=h.testBit) (O:=O) (l:=p.kids) HSK.out (a:=a+own) (by have:=HA.out;have:=HBN.out;omega);have hop:=bitP_op (p:=p) (show ¬0<p.v by omega) k h.testBit (O.drop a) (r:=(vL k h.testBit O p.kids (a+own),O.drop (a+own+bL p.kids),nL k h.testBit O p.kids (a+own))) (by rw [HOWN.out,List.drop_drop];exact hbp.1)
      rw [HOWN.out] at hop
      have hR3:R.2.length=own:=by
       rw [←hR,←HOWN.out];exact opBit_len (kids:=p.kids) (vs:=vs) HSO.out (by rw [HOWN.out];exact hmn)
      suffices hq:opBit k p.op p.imm ((O.drop a).take own) (vL k h.testBit O p.kids (a+own))=R∧nL k h.testBit O p.kids (a+own)=m2 by
       refine ⟨?_,?_,hR3⟩
       ·show vP k h.testBit O p a=_;unfold vP;rw [hop,hq.1]
       ·show nP k h.testBit O p a=_;unfold nP;rw [hop,hq.1,hq.2]
      by_cases h12:p.op=12
      ·obtain ⟨k0,k1,ek,hb1⟩:=H12.out h12;have hn1:n=1:=by rw [HN'.out,if_pos h12,ek];rfl
       have e1:p.kids.take n=[k0]:=by rw [hn1,ek];rfl
       have hz:=(bitP_pos (k:=k) (ins:=h.testBit) (O:=O) (HSK.out k1 (by rw [ek];simp)) (a:=a+own+bN k0) (by have:=HA.out;have:=HBN.out;rw [ek] at this;simp only [bL] at this;omega)).2
       rw [hb1] at hz;have hz:=List.length_eq_zero_iff.1 hz;refine ⟨?_,?_⟩
       ·rw [←hR,h12,←Hvs.out,e1,ek];rfl
       ·rw [←Hm2.out,e1,ek];simp only [nL,hz,List.append_nil]
      ·have e1:p.kids.take n=p.kids:=by rw [HN'.out,if_neg h12];exact List.take_length
       rw [←hR,←Hvs.out,←Hm2.out,e1];exact ⟨rfl,rfl⟩
     have HP4:Hid (spl N a (nP k h.testBit O p a)=spl N1 a R.2):=by
      show _=_;have e:=spl_pre (N:=N) (a:=a) (m1:=R.2) (m2:=m2) (by rw [HP3.out,hl2,HTL.out];have:=hbl' n;have:=HA.out;have:=HBN.out;omega);rw [HP2.out,←e,HP3.out,HN1.out]
     have HG0:Hid (1≤own→N1.getD a false=O.getD a false):=fun q=>by
      rw [←HN1.out,spl_at (N:=N) (a:=a+own) (m:=m2) (by rw [hl2,HTL.out];have:=hbl' n;have:=HA.out;have:=HBN.out;omega) (.inl (by omega))];exact HNO.out a (Nat.le_refl _) (by have:=HBN.out;omega)
     have HG1:Hid (2≤own→N1.getD (a+1) false=O.getD (a+1) false):=fun q=>by
      rw [←HN1.out,spl_at (N:=N) (a:=a+own) (m:=m2) (by rw [hl2,HTL.out];have:=hbl' n;have:=HA.out;have:=HBN.out;omega) (.inl (by omega))];exact HNO.out (a+1) (by omega) (by have:=HBN.out;omega)
     have hbr:=HB.out.upd HU.out (fun e=>by rcases e with e | e;exact HX.out e;exact hvx e.symm);have y1:=hbr.cell 1;have HY2:=h_ (hbr.cell 2);have HY6:=h_ (hbr.cell 6);obtain ⟨b0,Hb0⟩:=nm (vs.getD 0 false);obtain ⟨b1,Hb1⟩:=nm (vs.getD 1 false);obtain ⟨b2,Hb2⟩:=nm (vs.getD 2 false);rw [Hb0.out,Hb1.out,Hb2.out] at hR;have HVB:=HV.out;unfold vpad at HVB;rw [Hb0.out,Hb1.out,Hb2.out] at HVB;have z0:=HVB.cell 0;have z1:=HVB.cell 1;have z2:=HVB.cell 2;have HOX:∀op,p.op=op→Hid (OpX wr x op a own):=fun op e=>by subst e;exact ⟨⟨_,_,_,_,_,hbr⟩⟩
     have HUW:Hid (Upd (fun b=>b=g) w wr):=(HU1.out.mono (fun _ _ f=>f.elim)).trans HU.out (fun i hi q=>by rcases q with q | q;exact q;omega);unfold b8 at z0 z1 z2;have A8:=and8;have O8:=or8;have X8:=xor8;have N8:=not8;rcases supO_ops HSO.out with e | e | e | e | e | e | e | e | e | e | e | e | e | e | e
     ·have y2:=HY2.out;have x0:=HT.out.blk.cell 0;rw [e] at hR y1;have HR:=h_ hR;clear HOX e hR;go_wp2_with fail
      refine wp_region_held_drew (S:=fun w'=>w'.cell? ⟨x,2,none⟩=some (.int .i64 p.imm)∧w'.cell? ⟨s,0,none⟩=some (.int .i64 (k:Int))) (by kernel_rfl) ⟨y2,x0⟩ (fun hHeld=>?_)
      refine wpT 0 ?_;(try simp only [y_,z_]);refine wpT 1 ?_;(try simp only [y_,z_]);refine wpT 2 ?_;(try simp only [y_,z_]);refine wpT 3 ?_;(try simp only [y_,z_]);refine wpT 4 ?_;(try simp only [y_,z_]);refine wpT 5 ?_;(try simp only [y_,z_]);refine wpT 6 ?_;(try simp only [y_,z_]);refine wpT 7 ?_;(try simp only [y_,z_]);refine wpT 8 ?_;(try simp only [y_,z_]);refine aR_ (rs:=[9]) (by kernel_rfl) (by simp) ?_;refine aC_ rfl (fun K hK=>?_) aN_;go_simp;refine (aBit_c p.imm k hk _).mono ?_;rintro e w4 ⟨rfl,rfl⟩;go_wp2_with fail
      refine hK.out _ _ ?_ (fun hHeld=>?_)
      ·exact hHeld
      clear hK K;(try simp only [y_,z_]);refine wpT 10 ?_;(try simp only [y_,z_]);refine aD_ (by kernel_rfl) ?_ _;go_wp2_with fail
      go_ret;refine ⟨by rw [HP1.out,←HR.out];rfl,?_,HUW.out.drewN 1⟩;rw [HP4.out,←HR.out];show TrS _ _ _ _ _ _ _ _ _ _ (spl N1 a []);rw [spl_nil];exact HT.out.upd (S:=Non) (Upd.refl.drewN 1) (fun f=>f) (fun f=>f) (fun _ _ _ f=>f)
     ·skip;have hox:=HOX _ e;have how:own=1:=by rw [←HOWN.out,e];rfl
      rw [how] at hR;rw [e] at hR y1;have HR:=h_ hR;have CA:=h_ (aArith_c HT.out hox.out hxg (by have:=HA.out;have:=HBN.out;omega) (.inl rfl) p.imm b0 b1 b2);unfold pp b8 at CA;clear HOX e hR hox;go_wp2_with fail
      refine CA.out.mono ?_;rintro e w4 ⟨rfl,T4,U4⟩;go_wp2_with fail
      go_ret;exact ⟨by rw [HP1.out,←HR.out];rfl,by rw [HP4.out,←HR.out];exact T4,HUW.out.trans U4 (fun _ _ q=>q)⟩
     ·skip;have hox:=HOX _ e;have how:own=1:=by rw [←HOWN.out,e];rfl
      rw [how] at hR;rw [e] at hR y1;have HR:=h_ hR;have CA:=h_ (aArith_c HT.out hox.out hxg (by have:=HA.out;have:=HBN.out;omega) (.inr (.inl rfl)) p.imm b0 b1 b2);unfold pp b8 at CA;clear HOX e hR hox;go_wp2_with fail
      refine CA.out.mono ?_;rintro e w4 ⟨rfl,T4,U4⟩;go_wp2_with fail
      go_ret;exact ⟨by rw [HP1.out,←HR.out];rfl,by rw [HP4.out,←HR.out];exact T4,HUW.out.trans U4 (fun _ _ q=>q)⟩
     ·skip;rw [e] at hR y1;have HR:=h_ hR;clear HOX e hR;go_wp2_with fail
      go_ret;refine ⟨by rw [HP1.out,←HR.out];rfl,?_,HUW.out⟩;rw [HP4.out,←HR.out];show TrS _ _ _ _ _ _ _ _ _ _ (spl N1 a []);rw [spl_nil];exact HT.out
     ·skip;rw [e] at hR y1;have HR:=h_ hR;clear HOX e hR;go_wp2_with fail
      go_ret;refine ⟨by rw [HP1.out,←HR.out];rfl,?_,HUW.out⟩;rw [HP4.out,←HR.out];show TrS _ _ _ _ _ _ _ _ _ _ (spl N1 a []);rw [spl_nil];exact HT.out
     ·skip;rw [e] at hR y1;have HR:=h_ hR;clear HOX e hR;go_wp2_with fail
      go_ret;refine ⟨by rw [HP1.out,←HR.out];rfl,?_,HUW.out⟩;rw [HP4.out,←HR.out];show TrS _ _ _ _ _ _ _ _ _ _ (spl N1 a []);rw [spl_nil];exact HT.out
     ·have hox:=HOX _ e;rw [e] at hR y1;have HR:=h_ hR;have CA:=h_ (aShiftB_c HT.out hox.out hxg (by have:=HA.out;have:=HBN.out;omega) hl p.imm b0 b1 b2);unfold pp b8 at CA;clear HOX e hR hox;go_wp2_with fail
      refine CA.out.mono ?_;rintro e w4 ⟨rfl,T4,U4⟩;go_wp2_with fail
      go_ret;exact ⟨by rw [HP1.out,←HR.out];rfl,by rw [HP4.out,←HR.out];exact T4,HUW.out.trans U4 (fun _ _ q=>q)⟩
     ·skip;have hox:=HOX _ e;have how:own=2:=by rw [←HOWN.out,e];rfl
      rw [how] at hR;rw [e] at hR y1;have HR:=h_ hR;have CA:=h_ (aCompB_c HT.out hox.out hxg (by have:=HA.out;have:=HBN.out;omega) hl (by decide) hk (HG0.out (by omega)) (HG1.out (by omega)) p.imm b0 b1 b2)
      unfold pp b8 at CA;clear HOX e hR hox;go_wp2_with fail
      refine CA.out.mono ?_;rintro e w4 ⟨rfl,T4,U4⟩;go_wp2_with fail
      go_ret;exact ⟨by rw [HP1.out,←HR.out];rfl,by rw [HP4.out,←HR.out];exact T4,HUW.out.trans U4 (fun _ _ q=>q)⟩
     ·skip;have hox:=HOX _ e;have how:own=2:=by rw [←HOWN.out,e];rfl
      rw [how] at hR;rw [e] at hR y1;have HR:=h_ hR;have CA:=h_ (aCompB_c HT.out hox.out hxg (by have:=HA.out;have:=HBN.out;omega) hl (by decide) hk (HG0.out (by omega)) (HG1.out (by omega)) p.imm b0 b1 b2)
      unfold pp b8 at CA;clear HOX e hR hox;go_wp2_with fail
      refine CA.out.mono ?_;rintro e w4 ⟨rfl,T4,U4⟩;go_wp2_with fail
      go_ret;exact ⟨by rw [HP1.out,←HR.out];rfl,by rw [HP4.out,←HR.out];exact T4,HUW.out.trans U4 (fun _ _ q=>q)⟩
     ·skip;have hox:=HOX _ e;have how:own=2:=by rw [←HOWN.out,e];rfl
      rw [how] at hR;rw [e] at hR y1;have HR:=h_ hR;have CA:=h_ (aCompB_c HT.out hox.out hxg (by have:=HA.out;have:=HBN.out;omega) hl (by decide) hk (HG0.out (by omega)) (HG1.out (by omega)) p.imm b0 b1 b2)
      unfold pp b8 at CA;clear HOX e hR hox;go_wp2_with fail
      refine CA.out.mono ?_;rintro e w4 ⟨rfl,T4,U4⟩;go_wp2_with fail
      go_ret;exact ⟨by rw [HP1.out,←HR.out];rfl,by rw [HP4.out,←HR.out];exact T4,HUW.out.trans U4 (fun _ _ q=>q)⟩
     ·skip;have hox:=HOX _ e;have how:own=2:=by rw [←HOWN.out,e];rfl
      rw [how] at hR;rw [e] at hR y1;have HR:=h_ hR;have CA:=h_ (aCompB_c HT.out hox.out hxg (by have:=HA.out;have:=HBN.out;omega) hl (by decide) hk (HG0.out (by omega)) (HG1.out (by omega)) p.imm b0 b1 b2)
      unfold pp b8 at CA;clear HOX e hR hox;go_wp2_with fail
      refine CA.out.mono ?_;rintro e w4 ⟨rfl,T4,U4⟩;go_wp2_with fail
      go_ret;exact ⟨by rw [HP1.out,←HR.out];rfl,by rw [HP4.out,←HR.out];exact T4,HUW.out.trans U4 (fun _ _ q=>q)⟩
     ·skip;have hox:=HOX _ e;have how:own=2:=by rw [←HOWN.out,e];rfl
      rw [how] at hR;rw [e] at hR y1;have HR:=h_ hR;have CA:=h_ (aCompB_c HT.out hox.out hxg (by have:=HA.out;have:=HBN.out;omega) hl (by decide) hk (HG0.out (by omega)) (HG1.out (by omega)) p.imm b0 b1 b2)
      unfold pp b8 at CA;clear HOX e hR hox;go_wp2_with fail
      refine CA.out.mono ?_;rintro e w4 ⟨rfl,T4,U4⟩;go_wp2_with fail
      go_ret;exact ⟨by rw [HP1.out,←HR.out];rfl,by rw [HP4.out,←HR.out];exact T4,HUW.out.trans U4 (fun _ _ q=>q)⟩
     ·skip;have hox:=HOX _ e;have how:own=1:=by rw [←HOWN.out,e];rfl
      rw [how] at hR;rw [e] at hR y1;have HR:=h_ hR;have CA:=h_ (aArith_c HT.out hox.out hxg (by have:=HA.out;have:=HBN.out;omega) (.inr (.inr rfl)) p.imm b0 b1 b2);unfold pp b8 at CA;clear HOX e hR hox;go_wp2_with fail
      refine CA.out.mono ?_;rintro e w4 ⟨rfl,T4,U4⟩;go_wp2_with fail
      go_ret;exact ⟨by rw [HP1.out,←HR.out];rfl,by rw [HP4.out,←HR.out];exact T4,HUW.out.trans U4 (fun _ _ q=>q)⟩
     ·rw [e] at hR y1;have HR:=h_ hR;clear HOX e hR;go_wp2_with fail
      go_ret;refine ⟨by rw [HP1.out,←HR.out];show Ending.returned (Value.int .u8 ((1 - bW b0) % 256))=_;rw [not8];rfl,?_,HUW.out⟩;rw [HP4.out,←HR.out];show TrS _ _ _ _ _ _ _ _ _ _ (spl N1 a []);rw [spl_nil];exact HT.out
     ·have how:own=2:=by rw [←HOWN.out,e];rfl
      have hal:a+1<O.length:=by have:=HA.out;have:=HBN.out;omega
      have hlN:N1.length=O.length:=HT.out.len;rw [how,drop_two hal] at hR;have hG0:=HG0.out (by omega);have hG1:=HG1.out (by omega);obtain ⟨ob,oo,eO,hFo,hob,hoc⟩:=HT.out.old.at_ (k:=a) (by rw [b8s_len];omega);subst eO
      have hcell:wr.cell? ⟨ob,oo+a,none⟩=some (b8 (O.getD a false)):=by
       rw [hoc];have:=b8s_get (l:=O) (i:=a) (by omega);rw [List.getElem?_eq_getElem (by rw [b8s_len];omega)] at this;exact this
      have hNc:wr.cell? ⟨g,a+1,none⟩=some (b8 (O.getD (a+1) false)):=by
       rw [HT.out.own.cell_ (i:=a+1) (by rw [b8s_len];omega)];have:=b8s_get (l:=N1) (i:=a+1) (by omega);rw [List.getElem?_eq_getElem (by rw [b8s_len];omega)] at this;rw [←hG1];exact this
      obtain ⟨gg,Hgg⟩:=nm (O.getD a false);obtain ⟨mm,Hmm⟩:=nm (O.getD (a+1) false);rw [Hgg.out] at hcell hR hG0;rw [Hmm.out] at hNc hR;have hNf:=HT.out.own.frozen_ (a+1);have x2:=HT.out.blk.cell 2;have x3:=HT.out.blk.cell 3;have y6:=HY6.out;have hne:s≠g:=HT.out.ne;have hfo:ob≠g:=T.far ob hFo;obtain ⟨L,HL⟩:=nm O.length;rw [HL.out] at x2 hal hlN;rw [hlN] at x3;have hl':L≤1000000:=by rw [←HL.out];exact hl
      have ai0:(0:Int)≤(a:Int):=by omega
      have ai1:(a:Int)<(L:Int):=by omega
      have q1:IntKind.i64.wrap ((a:Int)+1)=(a:Int)+1:=i64w_of (by unfold I64;omega);have q2:(0:Int)≤(a:Int)+1:=by omega
      have q3:(a:Int)+1<(L:Int):=by omega
      have q4:((a:Int)+1).toNat=a+1:=by omega
      obtain ⟨cc,Hcc⟩:=nm (mm || b0);have HRa:Hid (R.1=(if gg then b1 else b2)):=by rw [←hR,e];rfl
      have HRb:Hid (R.2=[gg,cc]):=by rw [←hR,e,←Hcc.out];rfl
      have HT2:Hid (TrS (wr.setCell ⟨g,a+1,none⟩ (b8 cc)) F s k h (some ⟨ob,oo,none⟩) oc g nc O (spl N1 a [gg,cc])):=by
       show TrS _ _ _ _ _ _ _ _ _ _ _;rw [spl_two (by omega) hG0];exact HT.out.set _ _
      have u2:=updCell wr g (a+1) (b8 cc);have f2:=u_ (S:=(·=g)) x2 u2 hne;have f3:=u_ (S:=(·=g)) x3 u2 hne;have f6:=u_ (S:=(·=g)) y6 u2 hxg;have fc:=u_ (S:=(·=g)) hcell u2 hfo;have F0:=u_ (S:=(·=g)) z0 u2 hvg;have F1:=u_ (S:=(·=g)) z1 u2 hvg;have F2:=u_ (S:=(·=g)) z2 u2 hvg;have U2:Hid (Upd (·=g) w (wr.setCell ⟨g,a+1,none⟩ (b8 cc))):=HUW.out.trans u2 (fun _ _ q=>q);have HC1:=Hcc.out;rw [e] at y1;unfold b8 at hcell hNc fc;have hg1:(bW true==1)=true:=rfl;have hg0:(bW false==1)=false:=rfl;clear HOX e hR u2 hG1 how hoc hob;go_wp2_with fail
      refine wp_region_held_drew (S:=fun w'=>w'.cell? ⟨s,3,none⟩=some (.slice (some ⟨g,0,none⟩) L nc)∧w'.cell? ⟨x,6,none⟩=some (.int .i64 (a:Int))∧w'.cell? ⟨vb,0,none⟩=some (.int .u8 (bW b0))) (by kernel_rfl) ⟨x3,y6,z0⟩ (fun hHeld=>?_)
      refine wpT 0 ?_;(try simp only [y_,z_]);refine wpT 1 ?_;(try simp only [y_,z_]);refine wpT 2 ?_;(try simp only [y_,z_]);refine wpT 3 ?_;(try simp only [y_,z_]);refine wpT 4 ?_;(try simp only [y_,z_]);refine wpT 5 ?_;(try simp only [y_,z_]);refine wpT 6 ?_;(try simp only [y_,z_]);refine wpT 7 ?_;(try simp only [y_,z_]);refine wpT 8 ?_;(try simp only [y_,z_]);refine wpT 9 ?_;(try simp only [y_,z_]);refine wpT 11 ?_;(try simp only [y_,z_]);refine wpT 12 ?_;(try simp only [y_,z_]);refine wpAnyH_takeM (fun w'=>w'.cell? ⟨g,a+1,none⟩=some (.int .u8 (bW mm))) (calm_cell _ _) [13,14,15] (i:=10) (v:=?_) rfl (by kernel_rfl) (by kernel_rfl) (by kernel_rfl) (by kernel_rfl) (fun _ _ _ h=>h) (Or.inl ⟨by rfl,?_⟩) (hNc) (by assumption) ?_
      rotate_left
      ·intro w hSw;(try dsimp only at hSw);go_simp;try with_reducible rfl
      (try simp only [y_,z_]);refine wpT 13 ?_;(try simp only [y_,z_]);refine wpT 14 ?_;(try simp only [y_,z_]);refine aR_ (rs:=[15]) (by kernel_rfl) (by simp) ?_;refine aC_ rfl (fun K hK=>?_) aN_;go_simp;refine hK.out _ _ ?_ (fun hHeld=>?_)
      ·exact ⟨f3,f6,F0⟩
      clear hK K;(try simp only [y_,z_]);refine aD_ (by kernel_rfl) ?_ _;go_wp2_with fail
      refine wp_region_held_drew (S:=fun w'=>w'.cell? ⟨s,2,none⟩=some (.slice (some ⟨ob,oo,none⟩) L oc)∧w'.cell? ⟨x,6,none⟩=some (.int .i64 (a:Int))∧w'.cell? ⟨ob,oo+a,none⟩=some (.int .u8 (bW gg))) (by kernel_rfl) ⟨f2,f6,fc⟩ (fun hHeld=>?_)
      refine wpT 0 ?_;(try simp only [y_,z_]);refine wpT 1 ?_;(try simp only [y_,z_]);refine wpT 2 ?_;(try simp only [y_,z_]);refine wpT 3 ?_;(try simp only [y_,z_]);refine wpT 4 ?_;(try simp only [y_,z_]);refine wpT 5 ?_;(try simp only [y_,z_]);refine wpT 6 ?_;(try simp only [y_,z_]);refine wpT 7 ?_;(try simp only [y_,z_]);refine wpT 8 ?_;(try simp only [y_,z_]);refine wpT 9 ?_;(try simp only [y_,z_]);refine wpT 10 ?_;(try simp only [y_,z_]);refine aD_ (by kernel_rfl) ?_ _;cases gg
      all_goals
       go_wp2_with fail
       go_ret;exact ⟨by rw [HP1.out,HRa.out];rfl,by rw [HP4.out,HRb.out];exact HT2.out.upd (S:=Non) (Upd.refl.drewN 2) (fun f=>f) (fun f=>f) (fun _ _ _ f=>f),U2.out.drewN 2⟩
set_option maxRecDepth 100000 in
theorem aVarBit_c {w:World} {s k h:Nat} {c2 c3:Value} (hb:Blk w s 186 #[.int .i64 (k:Int),.int .i64 (h:Int),c2,c3]) (hh:h<18446744073709551616) {v:Int} (h1:1≤v) (h2:v≤64) :
  Calls Tryz.prog 133 #[pp s,.int .i64 v] w fun e w'=>e=.returned (.int .u8 (bW (h.testBit (v - 1).toNat)))∧w'=w:=by
 obtain ⟨vn,hvn⟩:∃n:Nat,v=(n:Int)+1:=⟨(v - 1).toNat,by omega⟩;subst hvn;rw [show ((vn:Int)+1 - 1).toNat=vn by omega];have hb8:=bit_u8 (h:Int) vn (by omega);rw [uW_small hh] at hb8;have x1:=hb.cell 1;obtain ⟨rb,Hrb⟩:=nm (h.testBit vn);rw [Hrb.out] at hb8 ⊢;have HB8:=h_ hb8;have hvn64:vn<64:=by omega
 clear hb8 hb;unfold pp;go_enter Tryz.func133,Tryz.ntmps133;go_wp2_with fail
 go_ret;exact ⟨by show Ending.returned (Value.int .u8 _)=_;rw [HB8.out],rfl⟩
structure AU (w:World) (F:Nat→Prop) (m:Nat) (r:Rl) (a:RlA) (L R:Nat) (GA:Option Addr) (gc:Nat) (gs:List Nat):Prop where
 blk:Blk w m 129 #[.string r.name,.int .i64 r.l.v,.int .i64 r.l.op,.int .i64 r.l.imm,.int .i64 r.l.iv,.slice a.la r.l.kids.length a.lc,.int .i64 r.r.v,.int .i64 r.r.op,.int .i64 r.r.imm,.int .i64 r.r.iv,.slice a.ra r.r.kids.length a.rc,.slice a.ca r.conds.length a.cc,.int .i64 r.vars,.int .i64 r.imms,pp L,pp R,.slice GA gs.length gc,.int .i64 ((bN r.l+bN r.r:Nat):Int),.int .i64 ((stN r:Nat):Int)]
 inF:F m
 cds:CondsV w F a.ca r.conds
 tl:OsT w F r.l 0 L
 tr:OsT w F r.r (bN r.l) R
 gds:Sl w F GA (gs.map pp)
theorem b8s_one (l:List Bool):∀v∈b8s l,v.oneCell'=true:=fun v hv=>by
 unfold b8s at hv;obtain ⟨b,_,rfl⟩:=List.mem_map.1 hv;rfl
structure NxOk (r:Rl):Prop where
 hl:supF r.l=true∧WfP 64 r.l∧r.l.size≤1000000
 hr:supF r.r=true∧WfP 64 r.r∧r.r.size≤1000000
 hc:∀c∈r.conds,(1≤c.kind∧c.kind≤4)∧1≤c.a∧c.a≤64∧(c.kind=4→1≤c.b∧c.b≤64)
theorem succF_pos {k:Nat} {ins:Nat→Bool} {r:Rl} (hr:NxOk r) {old:List Bool} (hl:old.length=stN r) :
  succF k ins r old=(nP k ins old r.l 0++nP k ins old r.r (bN r.l))++List.zipWith (cdBit k ins) r.conds (old.drop (bN r.l+bN r.r))++[old.getD (bN r.l+bN r.r+r.conds.length) false || (vP k ins old r.l 0 ^^ vP k ins old r.r (bN r.l))]:=by
 unfold stN at hl;have h1:=(bitP_pos (k:=k) (ins:=ins) (O:=old) hr.hl.1 (a:=0) (by omega)).1;have h2:=(bitP_pos (k:=k) (ins:=ins) (O:=old) hr.hr.1 (a:=bN r.l) (by omega)).1;rw [List.drop_zero,Nat.zero_add] at h1;unfold succF;rw [h1,h2]
 congr 3
 rw [List.getD_eq_getElem?_getD,List.getElem?_drop,List.getD_eq_getElem?_getD]
theorem spl_full {old m:List Bool} {i:Nat} (hm:m.length=i) (hl:old.length=i+1) (b:Bool):(spl old 0 m).set i b=m++[b]:=by
 unfold spl;rw [List.take_zero,List.nil_append,Nat.zero_add,List.set_append_right _ _ (by omega),hm,Nat.sub_self,List.drop_eq_getElem_cons (by omega),List.set_cons_zero,List.drop_of_length_le (by omega)]
set_option maxRecDepth 100000 in
set_option maxHeartbeats 16000000 in
theorem aNext_c {w:World} {F G:Nat→Prop} {m:Nat} {r:Rl} {a:RlA} {L R:Nat} {GA:Option Addr} {gc:Nat} {gs:List Nat} (hA:AU w F m r a L R GA gc gs) (hr:NxOk r) (hn:stN r≤100000)
  {BA:Option Addr} {bc k h:Nat} {old:List Bool} (hB:Sl w G BA (b8s old)) (hbl:old.length=stN r) (hbc:old.length≤bc) (hk:k<64) (hh:h<18446744073709551616) :
  Calls Tryz.prog 72 #[pp m,.slice BA old.length bc,.int .i64 k,.int .i64 h] w fun e w'=>∃A c,e=.returned (.slice A (stN r) c)∧Own w' 5 1 A (stN r) c (b8s (succF k h.testBit r old))∧(∀i,At A i→w.heap.size≤i)∧Upd Non w w':=by
 have hst:stN r=bN r.l+bN r.r+r.conds.length+1:=rfl;obtain ⟨n,Hn⟩:=nm (stN r);rw [Hn.out] at hn hbl hst;have hbl2:(b8s old).length=n * 1:=by rw [b8s_len,hbl];omega
 have HA:=h_ hA;have HB:=h_ hB;have HB1:=h_ (b8s_one old);have hn12:n≤100000:=hn;rw [hbl,Hn.out];rw [hbl] at hbc;have HBL:=h_ hbl;have HB2:=h_ hbl2;have HST:=h_ hst;clear hbl hbl2 hB hA hst hn;go_enter Tryz.func72,Tryz.ntmps72;unfold pp
 go_wp2_with (at_builtin;refine wpList_app rfl rfl T_u8s rfl Own.none_ rfl HB.out HB2.out HB1.out (by simp only [maxLen];omega) (by omega) ?_)
 intro A8 c8 w8 ho8 hu8 hat8;have hn0:0<n:=by have:=HST.out;omega
 obtain ⟨g,rfl⟩:=ho8.some_ (by omega)
 have hgw:w.heap.size≤g:=by
  rcases hat8 g (At.some_.2 rfl) with q | q
  ·exact absurd q At.none_
  ·omega
 have hg8:g<w8.heap.size:=ho8.lt (At.some_.2 rfl);have u8':Upd Non w w8:=hu8.mono (fun _ _ q=>(At.none_ q).elim);obtain ⟨W,HW⟩:=nm (w8.alloc (.cells #[.int .i64 (k:Int),.int .i64 (h:Int),.slice BA n bc,.slice (some ⟨g,0,none⟩) n c8] 186));obtain ⟨s,hs⟩:∃s,w8.heap.size=s:=⟨_,rfl⟩;have u1:Upd Non w8 W:=by rw [←HW.out];exact Upd.refl.alloc _
 have hsb:Blk W s 186 #[.int .i64 (k:Int),.int .i64 (h:Int),.slice BA n bc,.slice (some ⟨g,0,none⟩) n c8]:=by rw [←HW.out,←hs];exact Blk.new _ _ _
 have e0:=HW.out;have uW:Upd Non w W:=u8'.then_non u1
 have HT:Hid (TrS W (fun i=>i<w.heap.size) s k h BA bc g c8 old old):=by
  have e:=HBL.out;refine ⟨?_,((HB.out.mono (G:=fun i=>i<w.heap.size) (fun i hi _=>hi)).upd uW (fun _ _ _ f=>f)),?_,rfl,fun i hi e=>by omega,by rw [e];exact hbc⟩
  ·rw [e];exact hsb
  ·rw [e];exact ho8.upd u1 (fun _ _ f=>f)
 have HAW:Hid (AU W (fun i=>i<w.heap.size) m r a L R GA gc gs):=by
  obtain ⟨a1,a2,a3,a4,a5,a6⟩:=HA.out;exact ⟨a1.upd uW (fun f=>f),a1.lt,(a3.mono (G:=fun i=>i<w.heap.size) (fun i hi _=>hi)).upd uW (fun _ _ _ f=>f),OsT.upd uW (fun _ _ _ f=>f) (fun i hi _=>hi) _ _ _ a4,OsT.upd uW (fun _ _ _ f=>f) (fun i hi _=>hi) _ _ _ a5,(a6.mono (G:=fun i=>i<w.heap.size) (fun i hi _=>hi)).upd uW (fun _ _ _ f=>f)⟩
 have hws:w.heap.size≤s:=by rw [←hs];exact u8'.size
 have hsz8:=uW.size;have hnl:=(bitP_pos (k:=k) (ins:=h.testBit) (O:=old) hr.hl.1 (a:=0) (by have:=HBL.out;have:=HST.out;omega)).2;have hnr:=(bitP_pos (k:=k) (ins:=h.testBit) (O:=old) hr.hr.1 (a:=bN r.l) (by have:=HBL.out;have:=HST.out;omega)).2;have hsg:s≠g:=by omega
 have C1:=h_ (fun (W':World) (u:Upd Non W W')=>aTBit_c (F:=fun i=>i<w.heap.size) hk hh (by have:=HBL.out;omega) (show ¬s<w.heap.size by omega) r.l W' old 0 L hr.hl.1 hr.hl.2.1 hr.hl.2.2 (OsT.upd u (fun _ _ _ f=>f) (fun _ _ q=>q) _ _ _ HAW.out.tl) (HT.out.upd u (fun f=>f) (fun f=>f) (fun _ _ _ f=>f)) (fun i hi=>by have:=u.size;omega) (by have:=HBL.out;have:=HST.out;omega) (fun _ _ _=>rfl))
 have C2:=h_ (fun (W':World) (u:Upd (·=g) W W') (T:TrS W' (fun i=>i<w.heap.size) s k h BA bc g c8 old (spl old 0 (nP k h.testBit old r.l 0)))=>aTBit_c (F:=fun i=>i<w.heap.size) hk hh (by have:=HBL.out;omega) (show ¬s<w.heap.size by omega) r.r W' _ (bN r.l) R hr.hr.1 hr.hr.2.1 hr.hr.2.2 (OsT.upd u (fun i _ hi e=>by omega) (fun _ _ q=>q) _ _ _ HAW.out.tr) T (fun i hi=>by have:=u.size;omega) (by have:=HBL.out;have:=HST.out;omega) (fun i hi _=>by rw [spl_at (by rw [hnl];have:=HBL.out;have:=HST.out;omega) (.inr (by omega))]))
 have x14:=HAW.out.blk.cell 14;have x15:=HAW.out.blk.cell 15;have HLT:Hid (∀x,x<w.heap.size→x≠g):=fun x hx e=>by omega
 have HM:Hid (m<w.heap.size):=HAW.out.inF;have HU:=h_ uW;unfold pp at C1 C2 x14 x15;clear hu8 hat8 ho8 u8' u1 hsb HW uW HB HA HB1 HB2;go_wp2_with fail
 obtain ⟨wD,HwD⟩:=nm W.drew;have uD:Upd Non W wD:=by rw [←HwD.out];exact Upd.refl.drew
 refine wp_region_held_drew (S:=fun w'=>w'.cell? ⟨m,14,none⟩=some (.pointer (some ⟨L,0,none⟩))∧w'.cell? ⟨m,15,none⟩=some (.pointer (some ⟨R,0,none⟩))) (by kernel_rfl) ⟨x14,x15⟩ (fun hHeld=>?_)
 rw [HwD.out] at hHeld ⊢;refine wpT 0 ?_;(try simp only [y_,z_]);refine wpT 1 ?_;(try simp only [y_,z_]);refine wpT 2 ?_;(try simp only [y_,z_]);refine wpT 3 ?_;(try simp only [y_,z_]);refine wpT 4 ?_;(try simp only [y_,z_]);refine wpT 6 ?_;(try simp only [y_,z_]);refine wpT 7 ?_;(try simp only [y_,z_]);refine wpT 8 ?_;(try simp only [y_,z_]);refine wpT 9 ?_;(try simp only [y_,z_]);refine wpT 10 ?_;(try simp only [y_,z_]);refine aR_ (rs:=[5]) (by kernel_rfl) (by simp) ?_;refine aC_ rfl (fun K hK=>?_) aN_;go_simp;refine (C1.out wD uD).mono ?_;rintro e w3 ⟨rfl,T3,U3⟩;have uD3:Upd (·=g) W w3:=(uD.mono (fun _ _ f=>f.elim)).trans U3 (fun _ _ q=>q);have HT3:=h_ T3;have HU3:=h_ uD3;clear T3 U3;unfold b8;go_wp2_with fail
 refine hK.out _ _ ?_ (fun hHeld=>?_)
 ·exact ⟨u_ (S:=(·=g)) x14 HU3.out (HLT.out m HM.out),u_ (S:=(·=g)) x15 HU3.out (HLT.out m HM.out)⟩
 clear hK K;(try simp only [y_,z_]);refine aR_ (rs:=[11]) (by kernel_rfl) (by simp) ?_;refine aC_ rfl (fun K hK=>?_) aN_;go_simp;refine (C2.out w3 HU3.out HT3.out).mono ?_;rintro e w4 ⟨rfl,T4,U4⟩;have HT4:=h_ T4;have HU4:Hid (Upd (·=g) W w4):=uD3.trans U4 (fun _ _ q=>q);clear T4 U4 uD3;unfold b8;go_wp2_with fail
 refine hK.out _ _ ?_ (fun hHeld=>?_)
 ·exact ⟨u_ (S:=(·=g)) x14 HU4.out (HLT.out m HM.out),u_ (S:=(·=g)) x15 HU4.out (HLT.out m HM.out)⟩
 clear hK K;(try simp only [y_,z_]);refine wpT 12 ?_;(try simp only [y_,z_]);refine wpT 13 ?_;(try simp only [y_,z_]);refine aD_ (by kernel_rfl) ?_ _
 have hsp:spl (spl old 0 (nP k h.testBit old r.l 0)) (bN r.l) (nP k h.testBit old r.r (bN r.l))=spl old 0 (nP k h.testBit old r.l 0++nP k h.testBit old r.r (bN r.l)):=by
  have e:=spl_spl (N:=old) (a:=0) (m1:=nP k h.testBit old r.l 0) (m2:=nP k h.testBit old r.r (bN r.l)) (by have:=HBL.out;have:=HST.out;omega);rw [hnl,Nat.zero_add] at e;exact e
 rw [hsp] at HT4;obtain ⟨N2,HN2⟩:=nm (nP k h.testBit old r.l 0++nP k h.testBit old r.r (bN r.l));have hN2:N2.length=bN r.l+bN r.r:=by rw [←HN2.out,List.length_append,hnl,hnr]
 rw [HN2.out] at HT4;obtain ⟨bl,Hbl⟩:=nm (vP k h.testBit old r.l 0);obtain ⟨br,Hbr⟩:=nm (vP k h.testBit old r.r (bN r.l));rw [Hbl.out,Hbr.out];have HM4:=h_ (HAW.out.blk.upd HU4.out (HLT.out m HM.out));have x11:=HM4.out.cell 11;have HM17:=h_ (HM4.out.cell 17);have HM18:=h_ (HM4.out.cell 18);have HCD:=h_ (HAW.out.cds.upd HU4.out (fun i hi hi2=>HLT.out i hi2));obtain ⟨CA,hCA⟩:∃x,a.ca=x:=⟨_,rfl⟩;rw [hCA] at x11 HCD;clear hCA;obtain ⟨nc,Hnc⟩:=nm r.conds.length;rw [Hnc.out] at x11;obtain ⟨cn,hcn⟩:∃c,bN r.l+bN r.r=c:=⟨_,rfl⟩;rw [hcn] at HM17 hN2;rw [Hn.out] at HM18;have HSN:Hid (n=cn+nc+1):=by have:=HST.out;rw [Hnc.out,hcn] at this;exact this
 obtain ⟨CL,HCL⟩:=nm (List.zipWith (cdBit k h.testBit) r.conds (old.drop cn));have hCL:CL.length=nc:=by rw [←HCL.out,List.length_zipWith,List.length_drop,Hnc.out];have:=HBL.out;have:=HSN.out;omega
 have HCG:Hid (∀j (hj:j<r.conds.length),CL.take (j+1)=CL.take j++[cdBit k h.testBit r.conds[j] (old.getD (cn+j) false)]):=fun j hj=>by
  have hj2:j<CL.length:=by rw [hCL,←Hnc.out];exact hj
  have hj3:cn+j<old.length:=by have:=HBL.out;have:=HSN.out;have:=Hnc.out;omega
  rw [List.take_succ_eq_append_getElem hj2]
  congr 2
  simp only [←HCL.out,List.getElem_zipWith,List.getElem_drop];rw [List.getD_eq_getElem?_getD,List.getElem?_eq_getElem hj3];rfl
 have HCN:=h_ hCL;have HN2L:=h_ hN2;clear C1 C2 x14 x15 hHeld hsp uD hN2 hCL hnl hnr;have hcn12:cn+nc+1≤100000:=by have:=HSN.out;omega
 go_wp2_with fail
 go_loopg [12,13,14,40] nc (fun gg _ _ _ i wr=>∃j:Nat,Hid (gg=nc - j)∧j≤nc∧i=.int .i64 j∧Hid (TrS wr (fun i=>i<w.heap.size) s k h BA bc g c8 old (spl old 0 (N2++CL.take j)))∧Hid (Upd (·=g) w4 wr))
 case atStart=>exact ⟨0,rfl,by omega,rfl,by rw [List.take_zero,List.append_nil];exact HT4.out,Upd.refl⟩
 case round =>
  obtain ⟨j,Hg,hj,rfl,HTr,HUr⟩:=hrel;by_cases hlt:j<nc
  ·have hjl:j<r.conds.length:=by rw [Hnc.out];exact hlt
   obtain ⟨b,o,rfl,_,hbw,c0,c1,c2,c3⟩:=(HCD.out.upd HUr.out (fun i hi hi2=>HLT.out i hi2)).at_ hjl;have hst:=HCG.out j hjl;have hcc:=hr.hc _ (List.getElem_mem hjl);generalize r.conds[j]=c at *;have HST2:=h_ hst;obtain ⟨cb,hcb⟩:∃b,wr.heap.size=b:=⟨_,rfl⟩;obtain ⟨W5,HW5⟩:=nm (wr.alloc (.cells #[.int .i64 c.kind,.int .i64 c.a,.int .i64 c.b,.int .i64 c.n] 102));have u5:Upd Non wr W5:=by rw [←HW5.out];exact Upd.refl.alloc _
   have b5:Blk W5 cb 102 #[.int .i64 c.kind,.int .i64 c.a,.int .i64 c.b,.int .i64 c.n]:=by rw [←HW5.out,←hcb];exact Blk.new _ _ _
   have e5:=HW5.out;have HT5:=h_ (HTr.out.upd u5 (fun f=>f) (fun f=>f) (fun _ _ _ f=>f));have HM5:=h_ ((HM4.out.upd HUr.out (HLT.out m HM.out)).upd u5 (fun f=>f));have HU5:Hid (Upd (·=g) w4 W5):=HUr.out.trans u5 (fun _ _ f=>f.elim);have hlenJ:(N2++CL.take j).length=cn+j:=by rw [List.length_append,List.length_take,HN2L.out,HCN.out];omega
   have hbnd:0+(N2++CL.take j).length≤old.length:=by rw [hlenJ];have:=HBL.out;have:=HSN.out;omega
   obtain ⟨Nj,HNj⟩:=nm (spl old 0 (N2++CL.take j));have hNjl:Nj.length=n:=by rw [←HNj.out,spl_len hbnd];exact HBL.out
   have hNjg:Nj.getD (cn+j) false=old.getD (cn+j) false:=by rw [←HNj.out,spl_at hbnd (.inr (by omega))]
   have HST3:Hid (spl old 0 (N2++CL.take (j+1))=Nj.set (cn+j) (cdBit k h.testBit c (old.getD (cn+j) false))):=by
    show _=_;rw [hst,spl_one _ (by rw [hNjl];have:=HSN.out;omega),←HNj.out];have e:=spl_spl (N:=old) (a:=0) (m1:=N2++CL.take j) (m2:=[cdBit k h.testBit c (old.getD (cn+j) false)]) (by rw [hlenJ,List.length_singleton];have:=HBL.out;have:=HSN.out;omega)
    rw [hlenJ,Nat.zero_add] at e;rw [e,List.append_assoc]
   rw [HNj.out] at HT5;obtain ⟨om,Hom⟩:=nm (old.getD (cn+j) false);rw [Hom.out] at hNjg HST3
   have hcg:W5.cell? ⟨g,cn+j,none⟩=some (.int .u8 (bW om)):=by
    have hl:cn+j<Nj.length:=by rw [hNjl];have:=HSN.out;omega
    rw [HT5.out.own.cell_ (i:=cn+j) (by rw [b8s_len];exact hl)];have:=b8s_get (l:=Nj) (i:=cn+j) hl;rw [List.getElem?_eq_getElem (by rw [b8s_len];exact hl),hNjg] at this;exact this
   have hfg:=HT5.out.own.frozen_ (cn+j);have hbs:Blk W5 s 186 #[.int .i64 (k:Int),.int .i64 (h:Int),.slice BA n bc,.slice (some ⟨g,0,none⟩) n c8]:=by have:=HT5.out.blk;rw [HBL.out,hNjl] at this;exact this
   have x3:=hbs.cell 3;have y17:=HM5.out.cell 17;rw [hcn] at y17;have HB5:=h_ b5;have z0:=b5.cell 0;have z1:=b5.cell 1;have z2:=b5.cell 2;have z3:=b5.cell 3;have j0:(0:Int)≤(j:Int):=by omega
   have jn:(j:Int)<(nc:Int):=by omega
   have q1:IntKind.i64.wrap ((cn:Int)+(j:Int))=(cn:Int)+(j:Int):=i64w_of (by unfold I64;omega);have q2:(0:Int)≤(cn:Int)+(j:Int):=by omega
   have q3:(cn:Int)+(j:Int)<(n:Int):=by have:=HSN.out;omega
   have q4:((cn:Int)+(j:Int)).toNat=cn+j:=by omega
   have hsb:=hbs;have A8:=and8;have O8:=or8;have X8:=xor8;have HA1:=h_ hcc.2.1;have HA2:=h_ hcc.2.2.1;have HA3:=h_ hcc.2.2.2;have hkk:c.kind=1∨c.kind=2∨c.kind=3∨c.kind=4:=by have:=hcc.1;omega
   have CV1:=h_ (fun (W:World) (q:Blk W s 186 #[.int .i64 (k:Int),.int .i64 (h:Int),.slice BA n bc,.slice (some ⟨g,0,none⟩) n c8])=>aVarBit_c q hh HA1.out HA2.out)
   have CB:=h_ (fun W=>aBit_c c.n k hk W);obtain ⟨ra,Hra⟩:=nm (h.testBit (c.a - 1).toNat);rw [Hra.out] at CV1;obtain ⟨rn,Hrn⟩:=nm (bI c.n k);rw [Hrn.out] at CB;clear hst hlenJ hbnd hNjl hNjg b5 u5 hcc;rcases hkk with e | e | e | e
   ·obtain ⟨nb,Hnb⟩:=nm (om || ra);have HCB:Hid (cdBit k h.testBit c om=nb):=by show _=_;rw [←Hnb.out,←Hra.out];unfold cdBit;rw [if_pos e]
    rw [e] at z0 e5;have hnb:=Hnb.out;go_wp2_with fail
    refine wp_region_held_drew (S:=fun w'=>w'.cell? ⟨s,3,none⟩=some (.slice (some ⟨g,0,none⟩) n c8)∧w'.cell? ⟨m,17,none⟩=some (.int .i64 (cn:Int))) (by kernel_rfl) ⟨x3,y17⟩ (fun hHeld=>?_)
    refine wpT 0 ?_;(try simp only [y_,z_]);refine wpT 1 ?_;(try simp only [y_,z_]);refine wpT 2 ?_;(try simp only [y_,z_]);refine wpT 3 ?_;(try simp only [y_,z_]);refine wpT 4 ?_;(try simp only [y_,z_]);refine wpT 5 ?_;(try simp only [y_,z_]);refine wpT 6 ?_;(try simp only [y_,z_]);refine wpT 7 ?_;(try simp only [y_,z_]);refine wpT 8 ?_;(try simp only [y_,z_]);refine wpT 9 ?_;(try simp only [y_,z_]);refine wpT 10 ?_;(try simp only [y_,z_]);refine wpT 11 ?_;(try simp only [y_,z_]);refine aD_ (by kernel_rfl) ?_ _;clear hHeld;go_wp2_with fail
    have uS:=updCell W5 g (cn+j) (b8 nb);have hcbg:cb≠g:=by have:=HTr.out.own.lt (At.some_.2 rfl);omega
    have SB:=h_ (hsb.upd uS hsg);have Z1:=h_ (u_ (S:=(·=g)) z1 uS hcbg);have Z2:=h_ (u_ (S:=(·=g)) z2 uS hcbg);have Z3:=h_ (u_ (S:=(·=g)) z3 uS hcbg);refine wp_region_held_drew (S:=fun w'=>Blk w' s 186 #[.int .i64 (k:Int),.int .i64 (h:Int),.slice BA n bc,.slice (some ⟨g,0,none⟩) n c8]∧w'.cell? ⟨cb,1,none⟩=some (.int .i64 c.a)∧w'.cell? ⟨cb,2,none⟩=some (.int .i64 c.b)∧w'.cell? ⟨cb,3,none⟩=some (.int .i64 c.n)) (by kernel_rfl) ⟨hsb,z1,z2,z3⟩ (fun hHeld=>?_)
    refine wpT 0 ?_;(try simp only [y_,z_]);refine wpT 1 ?_;(try simp only [y_,z_]);refine wpT 3 ?_;(try simp only [y_,z_]);refine wpT 4 ?_;(try simp only [y_,z_]);refine wpT 5 ?_;(try simp only [y_,z_]);refine wpAnyH_takeC (i:=6) (v:=?v1) rfl (by kernel_rfl) (by kernel_rfl) (by kernel_rfl) (fun _ _ _ h=>h) ⟨by rfl,?f1,?a1,?r1,?c1⟩ (by assumption) ?m1
    case r1=>intro w;go_simp;constructor <;> with_reducible rfl
    case c1=>intro W hSw;refine (CV1.out W hSw.1).mono ?_;rintro e w' ⟨rfl,rfl⟩;constructor <;> with_reducible rfl
    (try simp only [y_,z_]);refine wpAnyH_takeM (fun w'=>w'.cell? ⟨g,cn+j,none⟩=some (.int .u8 (bW om))) (calm_cell _ _) [7,8,9] (i:=2) (v:=?_) rfl (by kernel_rfl) (by kernel_rfl) (by kernel_rfl) (by kernel_rfl) (fun _ _ _ h=>h) (Or.inl ⟨by rfl,?_⟩) (hcg) (by assumption) ?_
    rotate_left
    ·intro w hSw;(try dsimp only at hSw);go_simp;try with_reducible rfl
    (try simp only [y_,z_]);refine wpT 7 ?_;(try simp only [y_,z_]);refine wpT 8 ?_;(try simp only [y_,z_]);refine aR_ (rs:=[9]) (by kernel_rfl) (by simp) ?_;refine aC_ rfl (fun K hK=>?_) aN_;go_simp;refine hK.out _ _ ?_ (fun hHeld=>?_)
    ·exact ⟨SB.out,Z1.out,Z2.out,Z3.out⟩
    clear hK K;(try simp only [y_,z_]);refine aD_ (by kernel_rfl) ?_ _;go_wp2_with fail
    go_roundg (nc - (j+1))
    case measure=>rw [Hg.out];omega
    case rel=>exact ⟨j+1,rfl,by omega,by go_num,by rw [HST3.out,HCB.out];exact (HT5.out.set (cn+j) nb).upd (S:=Non) (Upd.refl.drewN 2) (fun f=>f) (fun f=>f) (fun _ _ _ f=>f),(HU5.out.trans uS (fun _ _ q=>q)).drewN 2⟩
   ·obtain ⟨nb,Hnb⟩:=nm (ordB om rn ra (decide (k=63)));have HCB:Hid (cdBit k h.testBit c om=nb):=by show _=_;rw [←Hnb.out,←Hra.out,←Hrn.out];unfold cdBit;rw [if_neg (by omega),if_neg (by omega),if_pos e]
    rw [e] at z0 e5;have CO:=h_ (fun W=>aOrderFlag_c om rn ra (decide (k=63)) W);rw [Hnb.out] at CO;have T63:Hid (((k:Int)==63)=decide (k=63)):=by show _=_;rw [Bool.eq_iff_iff];simp;omega
    go_wp2_with fail
    refine wp_region_held_drew (S:=fun w'=>w'.cell? ⟨s,3,none⟩=some (.slice (some ⟨g,0,none⟩) n c8)∧w'.cell? ⟨m,17,none⟩=some (.int .i64 (cn:Int))) (by kernel_rfl) ⟨x3,y17⟩ (fun hHeld=>?_)
    refine wpT 0 ?_;(try simp only [y_,z_]);refine wpT 1 ?_;(try simp only [y_,z_]);refine wpT 2 ?_;(try simp only [y_,z_]);refine wpT 3 ?_;(try simp only [y_,z_]);refine wpT 4 ?_;(try simp only [y_,z_]);refine wpT 5 ?_;(try simp only [y_,z_]);refine wpT 6 ?_;(try simp only [y_,z_]);refine wpT 7 ?_;(try simp only [y_,z_]);refine wpT 8 ?_;(try simp only [y_,z_]);refine wpT 9 ?_;(try simp only [y_,z_]);refine wpT 10 ?_;(try simp only [y_,z_]);refine wpT 11 ?_;(try simp only [y_,z_]);refine aD_ (by kernel_rfl) ?_ _;clear hHeld;go_wp2_with fail
    have uS:=updCell W5 g (cn+j) (b8 nb);have hcbg:cb≠g:=by have:=HTr.out.own.lt (At.some_.2 rfl);omega
    have SB:=h_ (hsb.upd uS hsg);have Z1:=h_ (u_ (S:=(·=g)) z1 uS hcbg);have Z2:=h_ (u_ (S:=(·=g)) z2 uS hcbg);have Z3:=h_ (u_ (S:=(·=g)) z3 uS hcbg);refine wp_region_held_drew (S:=fun w'=>Blk w' s 186 #[.int .i64 (k:Int),.int .i64 (h:Int),.slice BA n bc,.slice (some ⟨g,0,none⟩) n c8]∧w'.cell? ⟨cb,1,none⟩=some (.int .i64 c.a)∧w'.cell? ⟨cb,2,none⟩=some (.int .i64 c.b)∧w'.cell? ⟨cb,3,none⟩=some (.int .i64 c.n)) (by kernel_rfl) ⟨hsb,z1,z2,z3⟩ (fun hHeld=>?_)
    refine wpT 0 ?_;(try simp only [y_,z_]);refine wpT 1 ?_;(try simp only [y_,z_]);refine wpT 2 ?_;(try simp only [y_,z_]);refine wpT 4 ?_;(try simp only [y_,z_]);refine wpT 5 ?_;(try simp only [y_,z_]);refine wpT 6 ?_;(try simp only [y_,z_]);refine wpT 8 ?_;(try simp only [y_,z_]);refine wpT 9 ?_;(try simp only [y_,z_]);refine wpT 10 ?_;(try simp only [y_,z_]);refine wpAnyH_takeC (i:=7) (v:=?v2) rfl (by kernel_rfl) (by kernel_rfl) (by kernel_rfl) (fun _ _ _ h=>h) ⟨by rfl,?f2,?a2,?r2,?c2⟩ (by assumption) ?m2
    case r2=>intro w;go_simp;constructor <;> with_reducible rfl
    case c2=>intro W hSw;refine (CB.out W).mono ?_;rintro e w' ⟨rfl,rfl⟩;constructor <;> with_reducible rfl
    (try simp only [y_,z_]);refine wpAnyH_takeC (i:=11) (v:=?v3) rfl (by kernel_rfl) (by kernel_rfl) (by kernel_rfl) (fun _ _ _ h=>h) ⟨by rfl,?f3,?a3,?r3,?c3⟩ (by assumption) ?m3
    case r3=>intro w;go_simp;constructor <;> with_reducible rfl
    case c3=>intro W hSw;refine (CV1.out W hSw.1).mono ?_;rintro e w' ⟨rfl,rfl⟩;constructor <;> with_reducible rfl
    (try simp only [y_,z_]);refine wpT 12 ?_;(try simp only [y_,z_]);have t63:=T63.out;refine wpT 13 ?_;(try simp only [y_,z_]);clear t63;refine wpAnyH_takeM (fun w'=>w'.cell? ⟨g,cn+j,none⟩=some (.int .u8 (bW om))) (calm_cell _ _) [14,15,16] (i:=3) (v:=?_) rfl (by kernel_rfl) (by kernel_rfl) (by kernel_rfl) (by kernel_rfl) (fun _ _ _ h=>h) (Or.inl ⟨by rfl,?_⟩) (hcg) (by assumption) ?_
    rotate_left
    ·intro w hSw;(try dsimp only at hSw);go_simp;try with_reducible rfl
    (try simp only [y_,z_]);refine aR_ (rs:=[14]) (by kernel_rfl) (by simp) ?_;refine aC_ rfl (fun K hK=>?_) aN_;go_simp;refine (CO.out _).mono ?_;rintro e w' ⟨rfl,rfl⟩;go_wp2_with fail
    refine hK.out _ _ ?_ (fun hHeld=>?_)
    ·exact hHeld
    clear hK K;(try simp only [y_,z_]);refine wpT 15 ?_;(try simp only [y_,z_]);refine aR_ (rs:=[16]) (by kernel_rfl) (by simp) ?_;refine aC_ rfl (fun K hK=>?_) aN_;go_simp;refine hK.out _ _ ?_ (fun hHeld=>?_)
    ·exact ⟨SB.out,Z1.out,Z2.out,Z3.out⟩
    clear hK K;(try simp only [y_,z_]);refine aD_ (by kernel_rfl) ?_ _;go_wp2_with fail
    go_roundg (nc - (j+1))
    case measure=>rw [Hg.out];omega
    case rel=>exact ⟨j+1,rfl,by omega,by go_num,by rw [HST3.out,HCB.out];exact (HT5.out.set (cn+j) nb).upd (S:=Non) (Upd.refl.drewN 2) (fun f=>f) (fun f=>f) (fun _ _ _ f=>f),(HU5.out.trans uS (fun _ _ q=>q)).drewN 2⟩
   ·obtain ⟨nb,Hnb⟩:=nm (ordB om ra rn (decide (k=63)));have HCB:Hid (cdBit k h.testBit c om=nb):=by show _=_;rw [←Hnb.out,←Hra.out,←Hrn.out];unfold cdBit;rw [if_neg (by omega),if_neg (by omega),if_neg (by omega),if_pos e]
    rw [e] at z0 e5;have CO:=h_ (fun W=>aOrderFlag_c om ra rn (decide (k=63)) W);rw [Hnb.out] at CO;have T63:Hid (((k:Int)==63)=decide (k=63)):=by show _=_;rw [Bool.eq_iff_iff];simp;omega
    go_wp2_with fail
    refine wp_region_held_drew (S:=fun w'=>w'.cell? ⟨s,3,none⟩=some (.slice (some ⟨g,0,none⟩) n c8)∧w'.cell? ⟨m,17,none⟩=some (.int .i64 (cn:Int))) (by kernel_rfl) ⟨x3,y17⟩ (fun hHeld=>?_)
    refine wpT 0 ?_;(try simp only [y_,z_]);refine wpT 1 ?_;(try simp only [y_,z_]);refine wpT 2 ?_;(try simp only [y_,z_]);refine wpT 3 ?_;(try simp only [y_,z_]);refine wpT 4 ?_;(try simp only [y_,z_]);refine wpT 5 ?_;(try simp only [y_,z_]);refine wpT 6 ?_;(try simp only [y_,z_]);refine wpT 7 ?_;(try simp only [y_,z_]);refine wpT 8 ?_;(try simp only [y_,z_]);refine wpT 9 ?_;(try simp only [y_,z_]);refine wpT 10 ?_;(try simp only [y_,z_]);refine wpT 11 ?_;(try simp only [y_,z_]);refine aD_ (by kernel_rfl) ?_ _;clear hHeld;go_wp2_with fail
    have uS:=updCell W5 g (cn+j) (b8 nb);have hcbg:cb≠g:=by have:=HTr.out.own.lt (At.some_.2 rfl);omega
    have SB:=h_ (hsb.upd uS hsg);have Z1:=h_ (u_ (S:=(·=g)) z1 uS hcbg);have Z2:=h_ (u_ (S:=(·=g)) z2 uS hcbg);have Z3:=h_ (u_ (S:=(·=g)) z3 uS hcbg);refine wp_region_held_drew (S:=fun w'=>Blk w' s 186 #[.int .i64 (k:Int),.int .i64 (h:Int),.slice BA n bc,.slice (some ⟨g,0,none⟩) n c8]∧w'.cell? ⟨cb,1,none⟩=some (.int .i64 c.a)∧w'.cell? ⟨cb,2,none⟩=some (.int .i64 c.b)∧w'.cell? ⟨cb,3,none⟩=some (.int .i64 c.n)) (by kernel_rfl) ⟨hsb,z1,z2,z3⟩ (fun hHeld=>?_)
    refine wpT 0 ?_;(try simp only [y_,z_]);refine wpT 1 ?_;(try simp only [y_,z_]);refine wpT 2 ?_;(try simp only [y_,z_]);refine wpT 4 ?_;(try simp only [y_,z_]);refine wpT 5 ?_;(try simp only [y_,z_]);refine wpT 6 ?_;(try simp only [y_,z_]);refine wpT 8 ?_;(try simp only [y_,z_]);refine wpT 9 ?_;(try simp only [y_,z_]);refine wpT 10 ?_;(try simp only [y_,z_]);refine wpAnyH_takeC (i:=7) (v:=?v4) rfl (by kernel_rfl) (by kernel_rfl) (by kernel_rfl) (fun _ _ _ h=>h) ⟨by rfl,?f4,?a4,?r4,?c4⟩ (by assumption) ?m4
    case r4=>intro w;go_simp;constructor <;> with_reducible rfl
    case c4=>intro W hSw;refine (CV1.out W hSw.1).mono ?_;rintro e w' ⟨rfl,rfl⟩;constructor <;> with_reducible rfl
    (try simp only [y_,z_]);refine wpAnyH_takeC (i:=11) (v:=?v5) rfl (by kernel_rfl) (by kernel_rfl) (by kernel_rfl) (fun _ _ _ h=>h) ⟨by rfl,?f5,?a5,?r5,?c5⟩ (by assumption) ?m5
    case r5=>intro w;go_simp;constructor <;> with_reducible rfl
    case c5=>intro W hSw;refine (CB.out W).mono ?_;rintro e w' ⟨rfl,rfl⟩;constructor <;> with_reducible rfl
    (try simp only [y_,z_]);refine wpT 12 ?_;(try simp only [y_,z_]);have t63:=T63.out;refine wpT 13 ?_;(try simp only [y_,z_]);clear t63;refine wpAnyH_takeM (fun w'=>w'.cell? ⟨g,cn+j,none⟩=some (.int .u8 (bW om))) (calm_cell _ _) [14,15,16] (i:=3) (v:=?_) rfl (by kernel_rfl) (by kernel_rfl) (by kernel_rfl) (by kernel_rfl) (fun _ _ _ h=>h) (Or.inl ⟨by rfl,?_⟩) (hcg) (by assumption) ?_
    rotate_left
    ·intro w hSw;(try dsimp only at hSw);go_simp;try with_reducible rfl
    (try simp only [y_,z_]);refine aR_ (rs:=[14]) (by kernel_rfl) (by simp) ?_;refine aC_ rfl (fun K hK=>?_) aN_;go_simp;refine (CO.out _).mono ?_;rintro e w' ⟨rfl,rfl⟩;go_wp2_with fail
    refine hK.out _ _ ?_ (fun hHeld=>?_)
    ·exact hHeld
    clear hK K;(try simp only [y_,z_]);refine wpT 15 ?_;(try simp only [y_,z_]);refine aR_ (rs:=[16]) (by kernel_rfl) (by simp) ?_;refine aC_ rfl (fun K hK=>?_) aN_;go_simp;refine hK.out _ _ ?_ (fun hHeld=>?_)
    ·exact ⟨SB.out,Z1.out,Z2.out,Z3.out⟩
    clear hK K;(try simp only [y_,z_]);refine aD_ (by kernel_rfl) ?_ _;go_wp2_with fail
    go_roundg (nc - (j+1))
    case measure=>rw [Hg.out];omega
    case rel=>exact ⟨j+1,rfl,by omega,by go_num,by rw [HST3.out,HCB.out];exact (HT5.out.set (cn+j) nb).upd (S:=Non) (Upd.refl.drewN 2) (fun f=>f) (fun f=>f) (fun _ _ _ f=>f),(HU5.out.trans uS (fun _ _ q=>q)).drewN 2⟩
   ·have CV2:=h_ (fun (W:World) (q:Blk W s 186 #[.int .i64 (k:Int),.int .i64 (h:Int),.slice BA n bc,.slice (some ⟨g,0,none⟩) n c8])=>aVarBit_c q hh (HA3.out e).1 (HA3.out e).2)
    obtain ⟨rb,Hrb⟩:=nm (h.testBit (c.b - 1).toNat);rw [Hrb.out] at CV2;obtain ⟨nb,Hnb⟩:=nm (om || (ra ^^ rb));have HCB:Hid (cdBit k h.testBit c om=nb):=by show _=_;rw [←Hnb.out,←Hra.out,←Hrb.out];unfold cdBit;rw [if_neg (by omega),if_pos e]
    rw [e] at z0 e5;have hnb:=Hnb.out;have hnb2:(om || (ra != rb))=nb:=by rw [←hnb]
    go_wp2_with fail
    refine wp_region_held_drew (S:=fun w'=>w'.cell? ⟨s,3,none⟩=some (.slice (some ⟨g,0,none⟩) n c8)∧w'.cell? ⟨m,17,none⟩=some (.int .i64 (cn:Int))) (by kernel_rfl) ⟨x3,y17⟩ (fun hHeld=>?_)
    refine wpT 0 ?_;(try simp only [y_,z_]);refine wpT 1 ?_;(try simp only [y_,z_]);refine wpT 2 ?_;(try simp only [y_,z_]);refine wpT 3 ?_;(try simp only [y_,z_]);refine wpT 4 ?_;(try simp only [y_,z_]);refine wpT 5 ?_;(try simp only [y_,z_]);refine wpT 6 ?_;(try simp only [y_,z_]);refine wpT 7 ?_;(try simp only [y_,z_]);refine wpT 8 ?_;(try simp only [y_,z_]);refine wpT 9 ?_;(try simp only [y_,z_]);refine wpT 10 ?_;(try simp only [y_,z_]);refine wpT 11 ?_;(try simp only [y_,z_]);refine aD_ (by kernel_rfl) ?_ _;clear hHeld;go_wp2_with fail
    have uS:=updCell W5 g (cn+j) (b8 nb);have hcbg:cb≠g:=by have:=HTr.out.own.lt (At.some_.2 rfl);omega
    have SB:=h_ (hsb.upd uS hsg);have Z1:=h_ (u_ (S:=(·=g)) z1 uS hcbg);have Z2:=h_ (u_ (S:=(·=g)) z2 uS hcbg);have Z3:=h_ (u_ (S:=(·=g)) z3 uS hcbg);refine wp_region_held_drew (S:=fun w'=>Blk w' s 186 #[.int .i64 (k:Int),.int .i64 (h:Int),.slice BA n bc,.slice (some ⟨g,0,none⟩) n c8]∧w'.cell? ⟨cb,1,none⟩=some (.int .i64 c.a)∧w'.cell? ⟨cb,2,none⟩=some (.int .i64 c.b)∧w'.cell? ⟨cb,3,none⟩=some (.int .i64 c.n)) (by kernel_rfl) ⟨hsb,z1,z2,z3⟩ (fun hHeld=>?_)
    refine wpT 0 ?_;(try simp only [y_,z_]);refine wpT 1 ?_;(try simp only [y_,z_]);refine wpT 3 ?_;(try simp only [y_,z_]);refine wpT 4 ?_;(try simp only [y_,z_]);refine wpT 5 ?_;(try simp only [y_,z_]);refine wpT 7 ?_;(try simp only [y_,z_]);refine wpT 8 ?_;(try simp only [y_,z_]);refine wpT 9 ?_;(try simp only [y_,z_]);refine wpAnyH_takeC (i:=6) (v:=?v6) rfl (by kernel_rfl) (by kernel_rfl) (by kernel_rfl) (fun _ _ _ h=>h) ⟨by rfl,?f6,?a6,?r6,?c6⟩ (by assumption) ?m6
    case r6=>intro w;go_simp;constructor <;> with_reducible rfl
    case c6=>intro W hSw;refine (CV1.out W hSw.1).mono ?_;rintro e w' ⟨rfl,rfl⟩;constructor <;> with_reducible rfl
    (try simp only [y_,z_]);refine wpAnyH_takeC (i:=10) (v:=?v7) rfl (by kernel_rfl) (by kernel_rfl) (by kernel_rfl) (fun _ _ _ h=>h) ⟨by rfl,?f7,?a7,?r7,?c7⟩ (by assumption) ?m7
    case r7=>intro w;go_simp;constructor <;> with_reducible rfl
    case c7=>intro W hSw;refine (CV2.out W hSw.1).mono ?_;rintro e w' ⟨rfl,rfl⟩;constructor <;> with_reducible rfl
    (try simp only [y_,z_]);refine wpT 11 ?_;(try simp only [y_,z_]);refine wpAnyH_takeM (fun w'=>w'.cell? ⟨g,cn+j,none⟩=some (.int .u8 (bW om))) (calm_cell _ _) [12,13,14] (i:=2) (v:=?_) rfl (by kernel_rfl) (by kernel_rfl) (by kernel_rfl) (by kernel_rfl) (fun _ _ _ h=>h) (Or.inl ⟨by rfl,?_⟩) (hcg) (by assumption) ?_
    rotate_left
    ·intro w hSw;(try dsimp only at hSw);go_simp;try with_reducible rfl
    (try simp only [y_,z_]);refine wpT 12 ?_;(try simp only [y_,z_]);refine wpT 13 ?_;(try simp only [y_,z_]);refine aR_ (rs:=[14]) (by kernel_rfl) (by simp) ?_;refine aC_ rfl (fun K hK=>?_) aN_;go_simp;refine hK.out _ _ ?_ (fun hHeld=>?_)
    ·exact ⟨SB.out,Z1.out,Z2.out,Z3.out⟩
    clear hK K;(try simp only [y_,z_]);refine aD_ (by kernel_rfl) ?_ _;go_wp2_with fail
    go_roundg (nc - (j+1))
    case measure=>rw [Hg.out];omega
    case rel=>exact ⟨j+1,rfl,by omega,by go_num,by rw [HST3.out,HCB.out];exact (HT5.out.set (cn+j) nb).upd (S:=Non) (Upd.refl.drewN 2) (fun f=>f) (fun f=>f) (fun _ _ _ f=>f),(HU5.out.trans uS (fun _ _ q=>q)).drewN 2⟩
  ·obtain rfl:nc=j:=by omega
   have hfull:CL.take nc=CL:=List.take_of_length_le (by rw [HCN.out];exact Nat.le_refl _);rw [hfull] at HTr;have hlenJ:(N2++CL).length=cn+nc:=by rw [List.length_append,HN2L.out,HCN.out]
   have hbnd:0+(N2++CL).length≤old.length:=by rw [hlenJ];have:=HBL.out;have:=HSN.out;omega
   obtain ⟨om,Hom⟩:=nm (old.getD (cn+nc) false);obtain ⟨nb,Hnb⟩:=nm (om || (bl ^^ br))
   have HEND:Hid ((spl old 0 (N2++CL)).set (cn+nc) nb=succF k h.testBit r old):=by
    show _=_;rw [succF_pos (ins:=h.testBit) hr (by rw [HBL.out,Hn.out]),hcn,Hnc.out,HCL.out,Hom.out,Hbl.out,Hbr.out,Hnb.out,HN2.out];exact spl_full hlenJ (by rw [HBL.out];exact HSN.out) nb
   obtain ⟨Nj,HNj⟩:=nm (spl old 0 (N2++CL));have hNjl:Nj.length=n:=by rw [←HNj.out,spl_len hbnd];exact HBL.out
   have hNjg:Nj.getD (cn+nc) false=om:=by rw [←HNj.out,spl_at hbnd (.inr (by omega))];exact Hom.out
   rw [HNj.out] at HTr HEND
   have hcg:wr.cell? ⟨g,cn+nc,none⟩=some (.int .u8 (bW om)):=by
    have hl:cn+nc<Nj.length:=by rw [hNjl];have:=HSN.out;omega
    rw [HTr.out.own.cell_ (i:=cn+nc) (by rw [b8s_len];exact hl)];have:=b8s_get (l:=Nj) (i:=cn+nc) hl;rw [List.getElem?_eq_getElem (by rw [b8s_len];exact hl),hNjg] at this;exact this
   have hfg:=HTr.out.own.frozen_ (cn+nc);have hbs:Blk wr s 186 #[.int .i64 (k:Int),.int .i64 (h:Int),.slice BA n bc,.slice (some ⟨g,0,none⟩) n c8]:=by have:=HTr.out.blk;rw [HBL.out,hNjl] at this;exact this
   have x3:=hbs.cell 3;have HMr:=h_ (HM4.out.upd HUr.out (HLT.out m HM.out));have y18:=HMr.out.cell 18;rw [Hn.out] at y18;have uS:=updCell wr g (cn+nc) (b8 nb);have X3:=h_ (u_ (S:=(·=g)) x3 uS hsg);have Y18:=h_ (u_ (S:=(·=g)) y18 uS (HLT.out m HM.out))
   have HTF:Hid (TrS (wr.setCell ⟨g,cn+nc,none⟩ (b8 nb)) (fun i=>i<w.heap.size) s k h BA bc g c8 old (succF k h.testBit r old)):=by
    show TrS _ _ _ _ _ _ _ _ _ _ _;rw [←HEND.out];exact HTr.out.set _ _
   have A8:=and8;have O8:=or8;have X8:=xor8;have hnb:=Hnb.out;have hnb2:(om || (bl != br))=nb:=by rw [←hnb]
   have q1:IntKind.i64.wrap ((n:Int) - 1)=(n:Int) - 1:=i64w_of (by unfold I64;omega);have q2:(0:Int)≤(n:Int) - 1:=by omega
   have q3:(n:Int) - 1<(n:Int):=by omega
   have q4:((n:Int) - 1).toNat=cn+nc:=by have:=HSN.out;omega
   have q5:(1:Int)≤(n:Int):=by omega
   have q6:n - 1=cn+nc:=by have:=HSN.out;omega
   have HUF:Hid (Upd (·=g) w4 (wr.setCell ⟨g,cn+nc,none⟩ (b8 nb))):=HUr.out.trans uS (fun _ _ q=>q);clear hfull hlenJ hbnd hNjl hNjg uS;go_wp2_with fail
   refine wp_region_held_drew (S:=fun w'=>w'.cell? ⟨s,3,none⟩=some (.slice (some ⟨g,0,none⟩) n c8)∧w'.cell? ⟨m,18,none⟩=some (.int .i64 (n:Int))) (by kernel_rfl) ⟨x3,y18⟩ (fun hHeld=>?_)
   refine wpT 0 ?_;(try simp only [y_,z_]);refine wpT 1 ?_;(try simp only [y_,z_]);refine wpT 2 ?_;(try simp only [y_,z_]);refine wpT 3 ?_;(try simp only [y_,z_]);refine wpT 4 ?_;(try simp only [y_,z_]);refine wpT 5 ?_;(try simp only [y_,z_]);refine wpT 6 ?_;(try simp only [y_,z_]);refine wpT 7 ?_;(try simp only [y_,z_]);refine wpT 8 ?_;(try simp only [y_,z_]);refine wpT 9 ?_;(try simp only [y_,z_]);refine wpT 11 ?_;(try simp only [y_,z_]);refine wpT 12 ?_;(try simp only [y_,z_]);refine wpT 13 ?_;(try simp only [y_,z_]);refine wpAnyH_takeM (fun w'=>w'.cell? ⟨g,cn+nc,none⟩=some (.int .u8 (bW om))) (calm_cell _ _) [14,15,16] (i:=10) (v:=?_) rfl (by kernel_rfl) (by kernel_rfl) (by kernel_rfl) (by kernel_rfl) (fun _ _ _ h=>h) (Or.inl ⟨by rfl,?_⟩) (hcg) (by assumption) ?_
   rotate_left
   ·intro w hSw;(try dsimp only at hSw);go_simp;try with_reducible rfl
   (try simp only [y_,z_]);refine wpT 14 ?_;(try simp only [y_,z_]);refine wpT 15 ?_;(try simp only [y_,z_]);refine aR_ (rs:=[16]) (by kernel_rfl) (by simp) ?_;refine aC_ rfl (fun K hK=>?_) aN_;go_simp;refine hK.out _ _ ?_ (fun hHeld=>?_)
   ·exact ⟨X3.out,Y18.out⟩
   clear hK K;(try simp only [y_,z_]);refine aD_ (by kernel_rfl) ?_ _;have x3':=X3.out;go_wp2_with fail
   go_ret;have hln:=HTF.out.len;rw [HBL.out] at hln;refine ⟨some ⟨g,0,none⟩,c8,rfl,?_,fun i hi=>by rw [At.some_] at hi;omega,?_⟩
   ·have:=HTF.out.own;rw [hln] at this;exact this.drewN 1
   ·exact ((HU.out.trans HU4.out (fun i hi e=>by omega)).trans HUF.out (fun i hi e=>by omega)).drewN 1
def iP (p:Pt):List Bool:=inP (fun _=>false) p 0
def iL:List Pt→List Bool
 | []=>[]
 | q::qs=>iP q++iL qs
theorem inL_const {l:List Pt} (h:∀q∈l,∀i,inP (fun _=>false) q i=iP q):∀i,inL (fun _=>false) l i=iL l:=by
 induction l with
 | nil=>intro _;rfl
 | cons q qs ih=>intro i;rw [inL,iL,h q (by simp),ih (fun x hx=>h x (by simp [hx]))]
theorem inP_const (p:Pt):∀i,inP (fun _=>false) p i=iP p:=by
 induction p using Pt.ind with
 | h p ih =>
  intro i;unfold iP;rw [inP_iff,inP_iff]
  split
  ·rfl
  ·rw [inL_const (fun q hq=>ih q hq),inL_const (fun q hq=>ih q hq)]
theorem iP_iff (p:Pt):iP p=if 0<p.v then [] else inO p.op (ownN p.op p.kids) false++iL p.kids:=by
 unfold iP;rw [inP_iff,inL_const (fun q _=>inP_const q)]
theorem iP_len (p:Pt):(iP p).length=bN p:=inP_len _ _ _
theorem iL_len:∀l:List Pt,(iL l).length=bL l
 | []=>rfl
 | q::qs=>by rw [iL,List.length_append,iP_len,iL_len qs];rfl
theorem iL_app:∀l m:List Pt,iL (l++m)=iL l++iL m
 | [],_=>rfl
 | q::qs,m=>by rw [List.cons_append,iL,iL,iL_app qs m,List.append_assoc]
theorem spl_zero {N:List Bool} {a:Nat}:∀(n:Nat),a+n≤N.length→(∀i,a≤i→i<a+n→N.getD i false=false)→spl N a (List.replicate n false)=N:=by
 intro n hl h;refine List.ext_getElem? fun i=>?_
 rw [spl_get (by rw [List.length_replicate];exact hl),List.length_replicate]
 split
 ·rename_i hi;have:=h i hi.1 hi.2;rw [List.getD_eq_getElem?_getD,List.getElem?_eq_getElem (by omega)] at this;rw [List.getElem?_replicate,if_pos (by omega),List.getElem?_eq_getElem (by omega)];exact congrArg some this.symm
 ·rfl
set_option maxRecDepth 100000 in
set_option maxHeartbeats 16000000 in
theorem aInitialize_c {F:Nat→Prop} {g n c m:Nat} (hl:n≤1000000) (hFg:∀i,F i→i≠g) (p:Pt) :
  ∀(w:World) (N:List Bool) (a x:Nat),supF p=true→WfP 64 p→OsT w F p a x→Own w 5 1 (some ⟨g,0,none⟩) n c (b8s N)→N.length=n→a+bN p≤n→(∀i,a≤i→i<a+bN p→N.getD i false=false) →
  Calls Tryz.prog 131 #[pp m,pp x,.slice (some ⟨g,0,none⟩) n c] w fun e w'=>e=.returned (.tuple #[])∧Own w' 5 1 (some ⟨g,0,none⟩) n c (b8s (spl N a (iP p)))∧Upd (·=g) w w':=by
 induction p using Pt.ind with
 | h p ih =>
  intro w N a x hs hw hos hO hNl ha hz;have hosF:F x:=(OsT.iff.1 hos).1;obtain ⟨_,KA,kc,CA,cc,gs,hb,hgl,hCA,hL⟩:=OsT.iff.1 hos;have hxg:x≠g:=hFg x hosF;have hw':=(WfP.iff 64 p).1 hw;by_cases hv:0<p.v
  ·have HR:Hid (spl N a (iP p)=N):=by show _=_;rw [iP_iff,if_pos hv,spl_nil]
   have hg0:gs.length=0:=by rw [hgl];unfold osN;rw [if_pos hv]
   have y0:=hb.cell 0;have y5:=hb.cell 5;rw [hg0] at y5;have t0:(p.v==0)=false:=by simp;omega
   have HO:=h_ hO;clear hb hw' hw ih hL hCA hos hO hz ha hgl hg0;unfold pp;go_enter Tryz.func131,Tryz.ntmps131;go_wp2_with fail
   go_loopg [7,43] 0 (fun _ _ i wr=>i=.int .i64 0∧wr=w)
   case atStart=>exact ⟨rfl,rfl⟩
   case round =>
    obtain ⟨rfl,rfl⟩:=hrel;go_wp2_with fail
    go_end0
    exact ⟨rfl,by rw [HR.out];exact HO.out,Upd.refl⟩
  ·have hs':supO p.op p.kids=true∧p.kids.all supF=true:=by have:=hs;rw [supF_op hv,Bool.and_eq_true] at this;exact this
   have hsk:∀q∈p.kids,supF q=true:=List.all_eq_true.1 hs'.2;have hlen:p.kids.length=(oSortsF p.op).1.length:=hw'.2.2.1 (by omega);obtain ⟨own,hown⟩:∃n,ownN p.op p.kids=n:=⟨_,rfl⟩;have hosw:osOwn p.v p.op p.kids=own:=by unfold osOwn;rw [if_neg hv,hown]
   have hbn:bN p=own+bL p.kids:=by rw [bN_iff,if_neg hv,hown]
   obtain ⟨nk,hn⟩:∃n,osN p.v p.op p.kids.length=n:=⟨_,rfl⟩;have hn':nk=if p.op=12 then min 1 p.kids.length else p.kids.length:=by rw [←hn];unfold osN;rw [if_neg hv]
   have hnk:nk≤p.kids.length:=by rw [hn'];split <;> omega
   have hn3:nk≤3:=by
    have : p.kids.length≤3:=by
     rw [hlen];rcases supO_ops hs'.1 with e | e | e | e | e | e | e | e | e | e | e | e | e | e | e <;> rw [e] <;> decide
    omega
   have hbl:∀j,bL (p.kids.take j)≤bL p.kids:=fun j=>bL_take_le _ _
   rw [hosw] at hL hb
   have HK:Hid (∀j,j<nk→∃(q:Pt) (y:Nat),q∈p.kids∧gs[j]?=some y∧OsT w F q (a+own+bL (p.kids.take j)) y∧bL (p.kids.take (j+1))=bL (p.kids.take j)+bN q∧p.kids.take (j+1)=p.kids.take j++[q]):=fun j hj=>by
    have h1:j<p.kids.length:=by omega
    have h2:j<gs.length:=by rw [hgl,hn];exact hj
    exact ⟨p.kids[j],gs[j],List.getElem_mem h1,List.getElem?_eq_getElem h2,hL.at_ h1 h2,bL_take h1,List.take_succ_eq_append_getElem h1⟩
   have HFULL:Hid (iL (p.kids.take nk)=iL p.kids):=by
    show _=_;by_cases h12:p.op=12
    ·have h2:p.kids.length=2:=by rw [hlen,h12];rfl
     obtain ⟨k0,k1,ek⟩:∃k0 k1,p.kids=[k0,k1]:=by
      match p.kids,h2 with
      | [x,y],_=>exact ⟨x,y,rfl⟩
     have ho:k1.op=1:=by
      have:=hs'.1;unfold supO at this;have:=of_decide_eq_true this;rw [h12,ek] at this;simp [kid] at this;omega
     have w1:=(WfP.iff 64 k1).1 (hw'.2.2.2 k1 (by rw [ek];simp))
     have hz1:iP k1=[]:=by
      rw [iP_iff];by_cases hv1:0<k1.v
      ·rw [if_pos hv1]
      ·have hk0:k1.kids=[]:=List.length_eq_zero_iff.1 (by rw [w1.2.2.1 (by omega),ho];rfl);rw [if_neg hv1,hk0,ho];rfl
     have hn1:nk=1:=by rw [hn',if_pos h12,ek];rfl
     rw [hn1,ek];simp [iL,hz1]
    ·have : nk=p.kids.length:=by rw [hn',if_neg h12]
     rw [this,List.take_length]
   obtain ⟨o0,ho0⟩:∃l,inO p.op own false=l:=⟨_,rfl⟩;have hol:o0.length=own:=by rw [←ho0,←hown];exact inO_len _ _ _
   have HIP:Hid (iP p=o0++iL p.kids):=by show _=_;rw [iP_iff,if_neg hv,hown,ho0]
   obtain ⟨N1,hN1⟩:∃l,spl N a o0=l:=⟨_,rfl⟩;have hN1l:N1.length=n:=by rw [←hN1,spl_len (by rw [hol,hNl];have:=hbn;omega)];exact hNl
   have HN1z:Hid (∀i,a+own≤i→i<a+bN p→N1.getD i false=false):=fun i h1 h2=>by
    rw [←hN1,spl_at (by rw [hol,hNl];omega) (.inr (by rw [hol];exact h1))];exact hz i (by omega) h2
   have y0:=hb.cell 0;have y1:=hb.cell 1;have y5:=hb.cell 5;have y6:=hb.cell 6;have t0:(p.v==0)=true:=by have:=hw'.1;simp;omega
   rw [hgl,hn] at y5;have HI:=h_ (fun q (hq:q∈p.kids)=>ih q hq);have HWF:=h_ hw'.2.2.2;have HSK:=h_ hsk;have HBN:=h_ hbn;have HA:=h_ ha;have HCA:=h_ hCA;have HN1:=h_ hN1;have HN1l:=h_ hN1l;have HNl:=h_ hNl;have HOL:=h_ hol;have HGS:Hid (gs.length=nk):=hgl.trans hn;have hsup:=hs'.1;have hO0:=hO;have HZ:=h_ hz;have hfz:=hO.frozen_
   have hcl:∀i,i<n→w.cell? ⟨g,i,none⟩=some (b8 (N.getD i false)):=fun i hi=>by
    rw [hO.cell_ (i:=i) (by rw [b8s_len,hNl];exact hi)];have:=b8s_get (l:=N) (i:=i) (by rw [hNl];exact hi);rw [List.getElem?_eq_getElem (by rw [b8s_len,hNl];exact hi)] at this;exact this
   have HOWN:=h_ hown;have HO0:=h_ ho0;clear ih hw hw' hsk hos hL hb hbl hlen hs hs' hz hbn ha hCA hosw hn' hN1 hN1l hol hO hown ho0 hv hgl;unfold pp;have hgrp:(p.op=1∨p.op=4∨p.op=5∨p.op=9∨p.op=10∨p.op=11∨p.op=12∨p.op=17∨p.op=19∨p.op=21∨p.op=22)∨p.op=20∨(p.op=15∨p.op=16∨p.op=18):=by have:=supO_ops hsup;omega
   rcases hgrp with hg | hg | hg
   ·have hN:N1=N:=by
     have e:o0=List.replicate own false:=by
      rw [←HO0.out,←HOWN.out];rcases hg with e | e | e | e | e | e | e | e | e | e | e <;> rw [e] <;> rfl
     rw [←HN1.out,e];exact spl_zero own (by rw [HNl.out];have:=HBN.out;have:=HA.out;omega) (fun i h1 h2=>HZ.out i h1 (by have:=HBN.out;omega))
    have HO1:Hid (Own w 5 1 (some ⟨g,0,none⟩) n c (b8s N1)):=by rw [hN];exact hO0
    have HU1:Hid (Upd (·=g) w w):=Upd.refl;clear hN hcl hfz hO0 HZ;rcases hg with e | e | e | e | e | e | e | e | e | e | e
    all_goals
     rw [e] at y1;clear e;go_enter Tryz.func131,Tryz.ntmps131;go_wp2_with fail
     go_loopg [7,43] nk (fun gg _ i wr=>∃j:Nat,Hid (gg=nk - j)∧j≤nk∧i=.int .i64 j∧Hid (Own wr 5 1 (some ⟨g,0,none⟩) n c (b8s (spl N1 (a+own) (iL (p.kids.take j)))))∧Hid (Upd (·=g) w wr))
     case atStart=>exact ⟨0,rfl,by omega,rfl,by rw [List.take_zero];show Own _ _ _ _ _ _ (b8s (spl N1 _ []));rw [spl_nil];exact HO1.out,HU1.out⟩
     case round =>
      obtain ⟨j,Hg,hj,rfl,HO,HU⟩:=hrel;by_cases hlt:j<nk
      ·obtain ⟨q,y,hqm,hgy,hOq,hbl1,htk⟩:=HK.out j hlt;have hle:bL (p.kids.take (j+1))≤bL p.kids:=bL_take_le _ _;have hln:=iL_len (p.kids.take j);have hbn':=HBN.out;have ha':=HA.out;have hl1:=HN1l.out;have hlq:=iP_len q;have hsa:=fun i hi=>spl_at (N:=N1) (a:=a+own) (m:=iL (p.kids.take j)) (by omega) (i:=i) (.inr hi)
       have C1:=h_ (HI.out q hqm wr _ (a+own+bL (p.kids.take j)) y (HSK.out q hqm) (HWF.out q hqm) (OsT.upd HU.out (fun i _ hi=>hFg i hi) (fun _ _ q=>q) q _ _ hOq) HO.out (by rw [spl_len (by omega)];exact hl1) (by omega) (fun i hi1 hi2=>by
        rw [hsa i (by omega)]
        exact HN1z.out i (by omega) (by omega)))
       have e:=spl_spl (N:=N1) (a:=a+own) (m1:=iL (p.kids.take j)) (m2:=iP q) (by omega);rw [hln] at e
       have HS:Hid (spl (spl N1 (a+own) (iL (p.kids.take j))) (a+own+bL (p.kids.take j)) (iP q)=spl N1 (a+own) (iL (p.kids.take (j+1)))):=by
        show _=_;rw [e,htk,iL_app];simp [iL]
       rw [HS.out] at C1;obtain ⟨cb,co,eC,hFc,hcb,hcc⟩:=HCA.out.at_ (k:=j) (by rw [List.length_map,HGS.out];exact hlt)
       have hcc2:wr.cell? ⟨cb,co+j,none⟩=some (.pointer (some ⟨y,0,none⟩)):=by
        have h1:=u_ hcc HU.out (hFg _ hFc);rw [h1];have h2:(gs.map pp)[j]?=some (pp y):=by rw [List.getElem?_map,hgy];rfl
        rw [List.getElem?_eq_getElem (by rw [List.length_map,HGS.out];exact hlt)] at h2;exact h2
       subst eC;have j0:(0:Int)≤(j:Int):=by omega
       have jn:(j:Int)<(nk:Int):=by omega
       unfold pp at C1;clear hOq hgy hle hln hbn' ha' hl1 hlq hsa hcc e hbl1;go_wp2_with fail
       refine C1.out.mono ?_;rintro e w4 ⟨rfl,O4,U4⟩;go_wp2_with fail
       go_roundg (nk - (j+1))
       case measure=>rw [Hg.out];omega
       case rel=>exact ⟨j+1,rfl,by omega,by go_num,O4,HU.out.trans U4 (fun _ _ q=>q)⟩
      ·obtain rfl:nk=j:=by omega
       have HEND:Hid (spl N1 (a+own) (iL (p.kids.take nk))=spl N a (iP p)):=by
        show _=_;have e:=spl_spl (N:=N) (a:=a) (m1:=o0) (m2:=iL p.kids) (by rw [HOL.out,iL_len,HNl.out];have:=HBN.out;have:=HA.out;omega);rw [HFULL.out,HIP.out,←e,HOL.out,HN1.out]
       go_wp2_with fail
       go_end0
       exact ⟨rfl,by rw [←HEND.out];exact HO.out,HU.out⟩
   ·have how:own=1:=by rw [←HOWN.out,hg];rfl
    have han:a<n:=by have:=HBN.out;have:=HA.out;omega
    have hN:N1=N.set a true:=by
     have e:o0=[true]:=by rw [←HO0.out,hg];rfl
     rw [←HN1.out,e,spl_one true (by rw [HNl.out];exact han)]
    have HO1:Hid (Own (w.setCell ⟨g,a,none⟩ (b8 true)) 5 1 (some ⟨g,0,none⟩) n c (b8s N1)):=by
     show Own _ _ _ _ _ _ _;rw [hN,←b8s_set];exact hO0.set_ _ _
    have HU1:Hid (Upd (·=g) w (w.setCell ⟨g,a,none⟩ (b8 true))):=updCell w g a (b8 true);have hca:=hcl a han;have hfa:=hfz a;have ai0:(0:Int)≤(a:Int):=by omega
    have ai1:(a:Int)<(n:Int):=by omega
    have hgx:g≠x:=fun e=>hxg e.symm
    rw [hg] at y1;clear hN hcl hfz hO0 HZ how hg;go_enter Tryz.func131,Tryz.ntmps131;go_wp2_with fail
    go_loopg [7,43] nk (fun gg _ i wr=>∃j:Nat,Hid (gg=nk - j)∧j≤nk∧i=.int .i64 j∧Hid (Own wr 5 1 (some ⟨g,0,none⟩) n c (b8s (spl N1 (a+own) (iL (p.kids.take j)))))∧Hid (Upd (·=g) w wr))
    case atStart=>exact ⟨0,rfl,by omega,rfl,by rw [List.take_zero];show Own _ _ _ _ _ _ (b8s (spl N1 _ []));rw [spl_nil];exact HO1.out,HU1.out⟩
    case round =>
     obtain ⟨j,Hg,hj,rfl,HO,HU⟩:=hrel;by_cases hlt:j<nk
     ·obtain ⟨q,y,hqm,hgy,hOq,hbl1,htk⟩:=HK.out j hlt;have hle:bL (p.kids.take (j+1))≤bL p.kids:=bL_take_le _ _;have hln:=iL_len (p.kids.take j);have hbn':=HBN.out;have ha':=HA.out;have hl1:=HN1l.out;have hlq:=iP_len q;have hsa:=fun i hi=>spl_at (N:=N1) (a:=a+own) (m:=iL (p.kids.take j)) (by omega) (i:=i) (.inr hi)
      have C1:=h_ (HI.out q hqm wr _ (a+own+bL (p.kids.take j)) y (HSK.out q hqm) (HWF.out q hqm) (OsT.upd HU.out (fun i _ hi=>hFg i hi) (fun _ _ q=>q) q _ _ hOq) HO.out (by rw [spl_len (by omega)];exact hl1) (by omega) (fun i hi1 hi2=>by
       rw [hsa i (by omega)]
       exact HN1z.out i (by omega) (by omega)))
      have e:=spl_spl (N:=N1) (a:=a+own) (m1:=iL (p.kids.take j)) (m2:=iP q) (by omega);rw [hln] at e
      have HS:Hid (spl (spl N1 (a+own) (iL (p.kids.take j))) (a+own+bL (p.kids.take j)) (iP q)=spl N1 (a+own) (iL (p.kids.take (j+1)))):=by
       show _=_;rw [e,htk,iL_app];simp [iL]
      rw [HS.out] at C1;obtain ⟨cb,co,eC,hFc,hcb,hcc⟩:=HCA.out.at_ (k:=j) (by rw [List.length_map,HGS.out];exact hlt)
      have hcc2:wr.cell? ⟨cb,co+j,none⟩=some (.pointer (some ⟨y,0,none⟩)):=by
       have h1:=u_ hcc HU.out (hFg _ hFc);rw [h1];have h2:(gs.map pp)[j]?=some (pp y):=by rw [List.getElem?_map,hgy];rfl
       rw [List.getElem?_eq_getElem (by rw [List.length_map,HGS.out];exact hlt)] at h2;exact h2
      subst eC;have j0:(0:Int)≤(j:Int):=by omega
      have jn:(j:Int)<(nk:Int):=by omega
      unfold pp at C1;clear hOq hgy hle hln hbn' ha' hl1 hlq hsa hcc e hbl1;go_wp2_with fail
      refine C1.out.mono ?_;rintro e w4 ⟨rfl,O4,U4⟩;go_wp2_with fail
      go_roundg (nk - (j+1))
      case measure=>rw [Hg.out];omega
      case rel=>exact ⟨j+1,rfl,by omega,by go_num,O4,HU.out.trans U4 (fun _ _ q=>q)⟩
     ·obtain rfl:nk=j:=by omega
      have HEND:Hid (spl N1 (a+own) (iL (p.kids.take nk))=spl N a (iP p)):=by
       show _=_;have e:=spl_spl (N:=N) (a:=a) (m1:=o0) (m2:=iL p.kids) (by rw [HOL.out,iL_len,HNl.out];have:=HBN.out;have:=HA.out;omega);rw [HFULL.out,HIP.out,←e,HOL.out,HN1.out]
      go_wp2_with fail
      go_end0
      exact ⟨rfl,by rw [←HEND.out];exact HO.out,HU.out⟩
   ·have how:own=2:=by rw [←HOWN.out];rcases hg with e | e | e <;> rw [e] <;> rfl
    have han:a+1<n:=by have:=HBN.out;have:=HA.out;omega
    have hN:N1=N.set (a+1) true:=by
     have e:o0=[false,true]:=by rw [←HO0.out];rcases hg with e | e | e <;> rw [e] <;> rfl
     rw [←HN1.out,e,spl_two (by rw [HNl.out];exact han) (HZ.out a (Nat.le_refl _) (by have:=HBN.out;omega))]
    have HO1:Hid (Own (w.setCell ⟨g,a+1,none⟩ (b8 true)) 5 1 (some ⟨g,0,none⟩) n c (b8s N1)):=by
     show Own _ _ _ _ _ _ _;rw [hN,←b8s_set];exact hO0.set_ _ _
    have HU1:Hid (Upd (·=g) w (w.setCell ⟨g,a+1,none⟩ (b8 true))):=updCell w g (a+1) (b8 true);have hca:=hcl (a+1) han;have hfa:=hfz (a+1);have ai0:(0:Int)≤(a:Int)+1:=by omega
    have ai1:(a:Int)+1<(n:Int):=by omega
    have hgx:g≠x:=fun e=>hxg e.symm
    clear hN hcl hfz hO0 HZ how;rcases hg with e | e | e
    all_goals
     rw [e] at y1;clear e;go_enter Tryz.func131,Tryz.ntmps131;go_wp2_with fail
     go_loopg [7,43] nk (fun gg _ i wr=>∃j:Nat,Hid (gg=nk - j)∧j≤nk∧i=.int .i64 j∧Hid (Own wr 5 1 (some ⟨g,0,none⟩) n c (b8s (spl N1 (a+own) (iL (p.kids.take j)))))∧Hid (Upd (·=g) w wr))
     case atStart=>exact ⟨0,rfl,by omega,rfl,by rw [List.take_zero];show Own _ _ _ _ _ _ (b8s (spl N1 _ []));rw [spl_nil];exact HO1.out,HU1.out⟩
     case round =>
      obtain ⟨j,Hg,hj,rfl,HO,HU⟩:=hrel;by_cases hlt:j<nk
      ·obtain ⟨q,y,hqm,hgy,hOq,hbl1,htk⟩:=HK.out j hlt;have hle:bL (p.kids.take (j+1))≤bL p.kids:=bL_take_le _ _;have hln:=iL_len (p.kids.take j);have hbn':=HBN.out;have ha':=HA.out;have hl1:=HN1l.out;have hlq:=iP_len q;have hsa:=fun i hi=>spl_at (N:=N1) (a:=a+own) (m:=iL (p.kids.take j)) (by omega) (i:=i) (.inr hi)
       have C1:=h_ (HI.out q hqm wr _ (a+own+bL (p.kids.take j)) y (HSK.out q hqm) (HWF.out q hqm) (OsT.upd HU.out (fun i _ hi=>hFg i hi) (fun _ _ q=>q) q _ _ hOq) HO.out (by rw [spl_len (by omega)];exact hl1) (by omega) (fun i hi1 hi2=>by
        rw [hsa i (by omega)]
        exact HN1z.out i (by omega) (by omega)))
       have e:=spl_spl (N:=N1) (a:=a+own) (m1:=iL (p.kids.take j)) (m2:=iP q) (by omega);rw [hln] at e
       have HS:Hid (spl (spl N1 (a+own) (iL (p.kids.take j))) (a+own+bL (p.kids.take j)) (iP q)=spl N1 (a+own) (iL (p.kids.take (j+1)))):=by
        show _=_;rw [e,htk,iL_app];simp [iL]
       rw [HS.out] at C1;obtain ⟨cb,co,eC,hFc,hcb,hcc⟩:=HCA.out.at_ (k:=j) (by rw [List.length_map,HGS.out];exact hlt)
       have hcc2:wr.cell? ⟨cb,co+j,none⟩=some (.pointer (some ⟨y,0,none⟩)):=by
        have h1:=u_ hcc HU.out (hFg _ hFc);rw [h1];have h2:(gs.map pp)[j]?=some (pp y):=by rw [List.getElem?_map,hgy];rfl
        rw [List.getElem?_eq_getElem (by rw [List.length_map,HGS.out];exact hlt)] at h2;exact h2
       subst eC;have j0:(0:Int)≤(j:Int):=by omega
       have jn:(j:Int)<(nk:Int):=by omega
       unfold pp at C1;clear hOq hgy hle hln hbn' ha' hl1 hlq hsa hcc e hbl1;go_wp2_with fail
       refine C1.out.mono ?_;rintro e w4 ⟨rfl,O4,U4⟩;go_wp2_with fail
       go_roundg (nk - (j+1))
       case measure=>rw [Hg.out];omega
       case rel=>exact ⟨j+1,rfl,by omega,by go_num,O4,HU.out.trans U4 (fun _ _ q=>q)⟩
      ·obtain rfl:nk=j:=by omega
       have HEND:Hid (spl N1 (a+own) (iL (p.kids.take nk))=spl N a (iP p)):=by
        show _=_;have e:=spl_spl (N:=N) (a:=a) (m1:=o0) (m2:=iL p.kids) (by rw [HOL.out,iL_len,HNl.out];have:=HBN.out;have:=HA.out;omega);rw [HFULL.out,HIP.out,←e,HOL.out,HN1.out]
       go_wp2_with fail
       go_end0
       exact ⟨rfl,by rw [←HEND.out];exact HO.out,HU.out⟩
mutual
def gpos:Pt→Nat→List (Int×Nat)
 | .mk v op _ _ kids,a=>if 0<v then [] else (if isG op then [(op,a)] else [])++gposL kids (a+ownN op kids)
def gposL:List Pt→Nat→List (Int×Nat)
 | [],_=>[]
 | q::qs,a=>gpos q a++gposL qs (a+bN q)
end
theorem gpos_iff (p:Pt) (a:Nat):gpos p a=if 0<p.v then [] else (if isG p.op then [(p.op,a)] else [])++gposL p.kids (a+ownN p.op p.kids):=by
 obtain ⟨v,op,imm,iv,kids⟩:=p;rw [gpos];rfl
theorem gposL_app:∀(l m:List Pt) (a:Nat),gposL (l++m) a=gposL l a++gposL m (a+bL l)
 | [],_,_=>rfl
 | q::qs,m,a=>by rw [List.cons_append,gposL,gposL,gposL_app qs m,bL,List.append_assoc,Nat.add_assoc]
def gAt (b:List Bool) (q:Int×Nat):Bool:=if q.1=16 then b.getD q.2 false != b.getD (q.2+1) false else b.getD q.2 false==b.getD (q.2+1) false
theorem isG_own {op:Int} (kids:List Pt) (h:isG op=true):ownN op kids=2:=by
 unfold isG at h;have h:=of_decide_eq_true h;have : op=15∨op=16∨op=17∨op=18∨op=19∨op=22:=by omega
 rcases this with rfl | rfl | rfl | rfl | rfl | rfl <;> rfl
theorem getD_take_drop (b:List Bool) (a i n:Nat) (h:i<n):((b.drop a).take n).getD i false=b.getD (a+i) false:=by
 rw [List.getD_eq_getElem?_getD,List.getElem?_take,if_pos h,List.getElem?_drop,List.getD_eq_getElem?_getD]
theorem gRP_pos (b:List Bool) (p:Pt):∀a,(gRP p (b.drop a)).1=(gpos p a).all (gAt b):=by
 induction p using Pt.ind with
 | h p ih =>
  intro a;rw [gRP_iff,gpos_iff];by_cases hv:0<p.v
  ·rw [if_pos hv,if_pos hv];rfl
  ·rw [if_neg hv,if_neg hv,List.all_append,List.drop_drop]
   have hl:∀(l:List Pt),(∀q∈l,q∈p.kids)→∀a,(gRL l (b.drop a)).1=(gposL l a).all (gAt b):=by
    intro l
    induction l with
    | nil=>intro _ a;rfl
    | cons q qs ihl =>
     intro hq a;rw [gRL,gposL,List.all_append,ih q (hq q (by simp)),gRP_rest,List.drop_drop,ihl (fun x hx=>hq x (by simp [hx]))]
   show (gOk p.op _&&(gRL p.kids _).1)=_;rw [hl _ (fun q h=>h)]
   congr 1
   unfold gOk
   cases hg:isG p.op with
   | false=>rfl
   | true =>
    rw [isG_own p.kids hg,getD_take_drop _ _ _ _ (by decide),getD_take_drop _ _ _ _ (by decide)];simp [gAt]
def gposR (r:Rl):List (Int×Nat):=gpos r.l 0++gpos r.r (bN r.l)
theorem safe_pos {r:Rl} {b:List Bool}:safeF r b=!((gposR r).all (gAt b)&&((b.drop (bN r.l+bN r.r)).take r.conds.length).all id&&b.getD (bN r.l+bN r.r+r.conds.length) false):=by
 have h1:=gRP_pos b r.l 0;have h2:=gRP_pos b r.r (bN r.l);rw [List.drop_zero] at h1;unfold safeF gposR;rw [gRP_rest,gRP_rest,List.drop_drop,h1,h2,List.all_append]
 congr 2
 rw [List.getD_eq_getElem?_getD,List.getElem?_drop,List.getD_eq_getElem?_getD]
theorem gpos_len (p:Pt):∀a,(gpos p a).length=gN p:=by
 induction p using Pt.ind with
 | h p ih =>
  intro a;rw [gpos_iff,gN_iff]
  split
  ·rfl
  ·have hl:∀(l:List Pt),(∀q∈l,q∈p.kids)→∀a,(gposL l a).length=gL l:=by
    intro l
    induction l with
    | nil=>intro _ a;rfl
    | cons q qs ihl=>intro hq a;rw [gposL,List.length_append,ih q (hq q (by simp)),ihl (fun x hx=>hq x (by simp [hx]))];rfl
   rw [List.length_append,hl _ (fun q h=>h)];cases isG p.op <;> rfl
theorem gpos_lt (p:Pt):∀a,∀q∈gpos p a,a≤q.2∧q.2+1<a+bN p:=by
 induction p using Pt.ind with
 | h p ih =>
  intro a q hq;rw [gpos_iff] at hq;rw [bN_iff];by_cases hv:0<p.v
  ·rw [if_pos hv] at hq;cases hq
  ·rw [if_neg hv] at hq ⊢
   have hl:∀(l:List Pt),(∀x∈l,x∈p.kids)→∀a,∀q∈gposL l a,a≤q.2∧q.2+1<a+bL l:=by
    intro l
    induction l with
    | nil=>intro _ a q hq;cases hq
    | cons x xs ihl =>
     intro hx a q hq;rw [gposL,List.mem_append] at hq;rw [bL];rcases hq with hq | hq
     ·have:=ih x (hx x (by simp)) a q hq;omega
     ·have:=ihl (fun y hy=>hx y (by simp [hy])) (a+bN x) q hq;omega
   rcases List.mem_append.1 hq with hq | hq
   ·cases hg:isG p.op with
    | false=>rw [hg] at hq;cases hq
    | true =>
     rw [hg,if_pos rfl,List.mem_singleton] at hq;subst hq;rw [isG_own p.kids hg];exact ⟨Nat.le_refl _,by show a+1<_;omega⟩
   ·have:=hl p.kids (fun x h=>h) _ q hq;omega
theorem gposR_lt {r:Rl}:∀q∈gposR r,q.2+1<stN r:=fun q hq=>by
 unfold gposR at hq;unfold stN;rcases List.mem_append.1 hq with hq | hq
 ·have:=gpos_lt _ _ q hq;omega
 ·have:=gpos_lt _ _ q hq;omega
def setG (g:Nat→Bool):List (Int×Nat)→Nat→List Bool→List Bool
 | [],_,b=>b
 | q::qs,i,b=>setG g qs (i+1) (b.set q.2 (g i))
theorem setG_app (g:Nat→Bool):∀(l m:List (Int×Nat)) (i:Nat) (b:List Bool),setG g (l++m) i b=setG g m (i+l.length) (setG g l i b)
 | [],_,_,_=>rfl
 | q::qs,m,i,b=>by rw [List.cons_append,setG,setG,setG_app g qs m,List.length_cons,Nat.add_assoc,Nat.add_comm 1]
theorem setG_len (g:Nat→Bool):∀(l:List (Int×Nat)) (i:Nat) (b:List Bool),(setG g l i b).length=b.length
 | [],_,_=>rfl
 | q::qs,i,b=>by rw [setG,setG_len g qs,List.length_set]
theorem setG_pre (g:Nat→Bool):∀(l:List (Int×Nat)) (i:Nat) (b rest:List Bool),(∀q∈l,q.2<b.length)→setG g l i (b++rest)=setG g l i b++rest
 | [],_,_,_,_=>rfl
 | q::qs,i,b,rest,h=>by
  rw [setG,setG,List.set_append_left _ _ (h q (by simp)),setG_pre g qs _ _ _ (fun x hx=>by rw [List.length_set];exact h x (by simp [hx]))]
theorem inO_set {op:Int} (n:Nat) (h:isG op=true) (g:Bool):(inO op n false).set 0 g=inO op n g:=by
 unfold isG at h;have h:=of_decide_eq_true h;have : op=15∨op=16∨op=17∨op=18∨op=19∨op=22:=by omega
 rcases this with rfl | rfl | rfl | rfl | rfl | rfl <;> rfl
theorem inO_no {op:Int} (n:Nat) (h:isG op=false) (g:Bool):inO op n false=inO op n g:=by
 unfold inO;rw [h];rfl
theorem setG_inP (g:Nat→Bool) (p:Pt):∀(i:Nat) (pre:List Bool),setG g (gpos p pre.length) i (pre++iP p)=pre++inP g p i:=by
 induction p using Pt.ind with
 | h p ih =>
  intro i pre;rw [gpos_iff,inP_iff,iP_iff];by_cases hv:0<p.v
  ·rw [if_pos hv,if_pos hv,if_pos hv];rfl
  ·rw [if_neg hv,if_neg hv,if_neg hv,setG_app]
   have hl:∀(l:List Pt),(∀x∈l,x∈p.kids)→∀(i:Nat) (pre:List Bool),setG g (gposL l pre.length) i (pre++iL l)=pre++inL g l i:=by
    intro l
    induction l with
    | nil=>intro _ i pre;rfl
    | cons x xs ihl =>
     intro hx i pre;rw [gposL,setG_app,iL,inL,←List.append_assoc,setG_pre g _ _ _ _ (fun q hq=>by have:=gpos_lt x _ q hq;rw [List.length_append,iP_len];omega),ih x (hx x (by simp)),gpos_len]
     have e:=ihl (fun y hy=>hx y (by simp [hy])) (i+gN x) (pre++inP g x i);rw [List.length_append,inP_len] at e;rw [e,List.append_assoc]
   have e1:setG g (if isG p.op=true then [(p.op,pre.length)] else []) i (pre++(inO p.op (ownN p.op p.kids) false++iL p.kids))=(pre++inO p.op (ownN p.op p.kids) (g i))++iL p.kids:=by
    cases hg:isG p.op with
    | false=>rw [if_neg (by decide),←inO_no _ hg (g i),List.append_assoc];rfl
    | true =>
     rw [if_pos rfl];show (pre++(inO p.op (ownN p.op p.kids) false++iL p.kids)).set pre.length (g i)=_;rw [List.set_append_right _ _ (Nat.le_refl _),Nat.sub_self,List.set_append_left _ _ (by rw [inO_len,isG_own p.kids hg];decide),inO_set _ hg,List.append_assoc]
   have e2:(if isG p.op=true then [(p.op,pre.length)] else []).length=(isG p.op).toNat:=by cases isG p.op <;> rfl
   rw [e1,e2];have e:=hl p.kids (fun x h=>h) (i+(isG p.op).toNat) (pre++inO p.op (ownN p.op p.kids) (g i));rw [List.length_append,inO_len] at e;rw [e,List.append_assoc]
def initZ (r:Rl):List Bool:=iP r.l++iP r.r++r.conds.map cdIn++[false]
theorem setG_init (g:Nat→Bool) (r:Rl):setG g (gposR r) 0 (initZ r)=initF g r:=by
 unfold gposR initZ initF;have h1:=setG_inP g r.l 0 [];rw [List.nil_append,List.nil_append,List.length_nil] at h1;have h2:=setG_inP g r.r (0+gN r.l) (inP g r.l 0);rw [inP_len] at h2
 rw [setG_app,gpos_len,List.append_assoc,List.append_assoc,setG_pre g _ _ _ _ (fun q hq=>by have:=gpos_lt r.l _ q hq;rw [iP_len];omega),h1,←List.append_assoc,
  setG_pre g _ _ _ _ (fun q hq=>by have:=gpos_lt r.r _ q hq;rw [List.length_append,inP_len,iP_len];omega),h2,Nat.zero_add]
 simp only [List.append_assoc]
mutual
def NkP:Pt→Prop
 | .mk v _ _ _ kids=>(v≠0→kids=[])∧NkL kids
def NkL:List Pt→Prop
 | []=>True
 | k::ks=>NkP k∧NkL ks
end
theorem NkL.iff:∀l:List Pt,NkL l↔∀k∈l,NkP k
 | []=>by simp [NkL]
 | k::ks=>by simp [NkL,NkL.iff ks]
theorem NkP.iff (p:Pt):NkP p↔(p.v≠0→p.kids=[])∧∀k∈p.kids,NkP k:=by
 obtain ⟨v,op,imm,iv,kids⟩:=p;rw [NkP,NkL.iff];rfl
theorem nk_of_vPt (p:Pt):∀(s m:Int) (vs:List Int),(vPt p s m vs).1=true→NkP p:=by
 induction p using Pt.ind with
 | h p ih =>
  intro s m vs h;rw [NkP.iff];by_cases hv:p.v=0
  ·rw [vPt_op hv] at h
   split at h
   ·refine ⟨fun q=>absurd hv q,?_⟩
    suffices ∀(ks:List Pt) (ss:List Int) (us:List Int),us.length=vs.length→(∀k∈ks,k∈p.kids)→(vKids ks ss m us).1=true→∀k∈ks,NkP k from this _ _ _ rfl (fun k hk=>hk) h
    intro ks
    induction ks with
    | nil=>intro ss us _ _ _ k hk;simp at hk
    | cons k ks ihk =>
     intro ss us hu hm hk;simp only [vKids] at hk
     split at hk
     ·rename_i hk1;intro k' hk';rcases List.mem_cons.1 hk' with rfl | hk'
      ·exact ih _ (hm _ (by simp)) _ _ _ hk1
      ·exact ihk _ _ (by rw [vPt_len];exact hu) (fun x hx=>hm x (by simp [hx])) hk k' hk'
     ·exact absurd hk (by simp)
   ·simp at h
  ·rw [vPt_var hv] at h
   split at h
   ·simp at h
   ·rename_i hc;have h0:p.kids=[]:=List.length_eq_zero_iff.1 (by omega);refine ⟨fun _=>h0,?_⟩;rw [h0];intro k hk;simp at hk
theorem applF_nk {r:Rl} (h:implF r=true):NkP r.l∧NkP r.r:=by
 unfold implF at h;simp only [Bool.and_eq_true,decide_eq_true_eq] at h;obtain ⟨⟨⟨⟨⟨_,hl⟩,hr⟩,_⟩,_⟩,_⟩:=h;unfold validF at hl hr;rw [Bool.and_eq_true] at hl hr;exact ⟨nk_of_vPt _ _ _ _ hl.2,nk_of_vPt _ _ _ _ hr.2⟩
theorem gposR_len (r:Rl):(gposR r).length=gR r:=by
 unfold gposR gR;rw [List.length_append,gpos_len,gpos_len]
theorem gposL_take {l:List Pt} {i a:Nat} (h:i<l.length):gposL (l.take (i+1)) a=gposL (l.take i) a++gpos l[i] (a+bL (l.take i)):=by
 rw [List.take_succ_eq_append_getElem h,gposL_app];simp [gposL]
def mC (cs:Array Value) (a b:Value):Array Value:=(cs.setIfInBounds 16 a).setIfInBounds 18 b
theorem mC_16 {cs:Array Value} (h:cs.size=19) (a b:Value):(mC cs a b)[16]?=some a:=by
 unfold mC;rw [Array.getElem?_setIfInBounds_ne (by decide),Array.getElem?_setIfInBounds_self_of_lt (by omega)]
theorem mC_18 {cs:Array Value} (h:cs.size=19) (a b:Value):(mC cs a b)[18]?=some b:=by
 unfold mC;rw [Array.getElem?_setIfInBounds_self_of_lt (by rw [Array.size_setIfInBounds];omega)]
theorem mC_s16 (cs:Array Value) (a b c:Value):(mC cs a b).setIfInBounds 16 c=mC cs c b:=by
 unfold mC;rw [Array.setIfInBounds_comm _ _ (by decide),Array.setIfInBounds_setIfInBounds]
theorem mC_s18 (cs:Array Value) (a b c:Value):(mC cs a b).setIfInBounds 18 c=mC cs a c:=by
 unfold mC;rw [Array.setIfInBounds_setIfInBounds]
structure LyM (w:World) (m:Nat) (cs:Array Value) (sz:Nat) (GA:Option Addr) (gc:Nat) (gs:List Nat):Prop where
 blk:Blk w m 129 (mC cs (.slice GA gs.length gc) (.int .i64 (sz:Int)))
 own:Own w 126 1 GA gs.length gc (gs.map pp)
 cs:cs.size=19
theorem LyM.ne {w:World} {m:Nat} {cs:Array Value} {sz:Nat} {GA:Option Addr} {gc:Nat} {gs:List Nat} (h:LyM w m cs sz GA gc gs):¬At GA m:=h.own.ne_blk h.blk (by decide)
theorem LyM.upd {w w':World} {S:Nat→Prop} {m:Nat} {cs:Array Value} {sz:Nat} {GA:Option Addr} {gc:Nat} {gs:List Nat} (h:LyM w m cs sz GA gc gs) (u:Upd S w w') (hm:¬S m) (hg:∀i,At GA i→¬S i):LyM w' m cs sz GA gc gs :=
 ⟨h.blk.upd u hm,h.own.upd u hg,h.cs⟩
def GsX (w:World) (ns:List Nat) (ps:List (Int×Nat)):Prop:=ns.length=ps.length∧∀i (h1:i<ns.length) (h2:i<ps.length),OpX w ns[i] ps[i].1 ps[i].2 2
theorem GsX.nil {w:World}:GsX w [] []:=⟨rfl,fun _ h=>absurd h (Nat.not_lt_zero _)⟩
theorem GsX.app {w:World} {ns ms:List Nat} {ps qs:List (Int×Nat)} (h:GsX w ns ps) (k:GsX w ms qs):GsX w (ns++ms) (ps++qs):=by
 refine ⟨by rw [List.length_append,List.length_append,h.1,k.1],fun i h1 h2=>?_⟩;have hl:=h.1;by_cases hi:i<ns.length
 ·rw [List.getElem_append_left hi,List.getElem_append_left (by omega)];exact h.2 i hi (by omega)
 ·rw [List.getElem_append_right (by omega),List.getElem_append_right (by omega)];rw [List.length_append] at h1 h2;have:=k.2 (i - ns.length) (by omega) (by omega);simpa [hl] using this
theorem GsX.upd {w w':World} {S:Nat→Prop} {ns:List Nat} {ps:List (Int×Nat)} (h:GsX w ns ps) (u:Upd S w w') (d:∀g cs,Blk w g 183 cs→¬S g):GsX w' ns ps:=by
 refine ⟨h.1,fun i h1 h2=>?_⟩;obtain ⟨v,imm,iv,K,C,hb⟩:=(h.2 i h1 h2).blk;exact ⟨v,imm,iv,K,C,hb.upd u (d _ _ hb)⟩
theorem GsX.set5 {w:World} {ns:List Nat} {ps:List (Int×Nat)} (h:GsX w ns ps) (x:Nat) (u:Value):GsX (w.setCell ⟨x,5,none⟩ u) ns ps:=by
 refine ⟨h.1,fun i h1 h2=>?_⟩;obtain ⟨v,imm,iv,K,C,hb⟩:=(h.2 i h1 h2).blk;by_cases e:ns[i]=x
 ·rw [e] at hb ⊢;exact ⟨v,imm,iv,K,u,by simpa using hb.set_ 5 u⟩
 ·exact ⟨v,imm,iv,K,C,hb.far (p:=⟨x,5,none⟩) e u⟩
structure LyR (w w':World) (m:Nat) (cs:Array Value) (p:Pt) (a:Nat) (GA:Option Addr) (gs:List Nat) (x:Nat) (GA':Option Addr) (gc':Nat) (ns:List Nat):Prop where
 st:LyM w' m cs (a+bN p) GA' gc' (gs++ns)
 os:OsT w' (fun i=>w.heap.size≤i∧¬At GA' i) p a x
 gx:GsX w' ns (gpos p a)
 ga:∀i,At GA' i→At GA i∨w.heap.size≤i
 upd:Upd (fun i=>i=m∨At GA i) w w'
def gp1 (p:Pt) (a:Nat):List (Int×Nat):=if 0<p.v then [] else if isG p.op then [(p.op,a)] else []
def laN (p:Pt):Nat:=osN p.v p.op p.kids.length
def laO (p:Pt):Nat:=osOwn p.v p.op p.kids
theorem lay_facts {p:Pt} (hnk:NkP p) (hs:supF p=true) (hw:WfP 64 p):laN p≤p.kids.length∧laO p<64∧bN p=laO p+bL (p.kids.take (laN p))∧∀a,gpos p a=gp1 p a++gposL (p.kids.take (laN p)) (a+laO p):=by
 have hnk':=(NkP.iff p).1 hnk;have hw':=(WfP.iff 64 p).1 hw;unfold laN laO osN osOwn gp1;by_cases hv:0<p.v
 ·have hk:p.kids=[]:=hnk'.1 (by omega);rw [if_pos hv,if_pos hv];refine ⟨Nat.zero_le _,by decide,by rw [bN_iff,if_pos hv,hk];rfl,fun a=>by rw [gpos_iff,if_pos hv,if_pos hv,hk];rfl⟩
 ·rw [supF_op hv,Bool.and_eq_true] at hs;rw [if_neg hv,if_neg hv];refine ⟨by split <;> omega,ownN_lt _ _,?_,fun a=>?_⟩
  all_goals
   by_cases h12:p.op=12
   ·have h2:p.kids.length=2:=by rw [hw'.2.2.1 (by omega),h12];rfl
    obtain ⟨k0,k1,ek⟩:∃k0 k1,p.kids=[k0,k1]:=by
     match p.kids,h2 with
     | [x,y],_=>exact ⟨x,y,rfl⟩
    have ho:k1.op=1:=by
     have:=hs.1;unfold supO at this;have:=of_decide_eq_true this;rw [h12,ek] at this;simp [kid] at this;omega
    have w1:=(WfP.iff 64 k1).1 (hw'.2.2.2 k1 (by rw [ek];simp))
    have hb1:bN k1=0:=by
     rw [bN_iff];by_cases hv1:0<k1.v
     ·rw [if_pos hv1]
     ·have hk0:k1.kids=[]:=List.length_eq_zero_iff.1 (by rw [w1.2.2.1 (by omega),ho];rfl);rw [if_neg hv1,hk0,ho];rfl
    have hg1:∀a,gpos k1 a=[]:=fun a=>by
     rw [gpos_iff];by_cases hv1:0<k1.v
     ·rw [if_pos hv1]
     ·have hk0:k1.kids=[]:=List.length_eq_zero_iff.1 (by rw [w1.2.2.1 (by omega),ho];rfl);rw [if_neg hv1,hk0,ho];rfl
    first
    | (rw [bN_iff,if_neg hv,if_pos h12,ek];simp [bL,hb1])
    | (rw [gpos_iff,if_neg hv,if_neg hv,if_pos h12,ek];simp [gposL,hg1])
   ·first
    | (rw [bN_iff,if_neg hv,if_neg h12,List.take_length])
    | (rw [gpos_iff,if_neg hv,if_neg hv,if_neg h12,List.take_length])
theorem lay_bounds {l:List Pt} {n j a:Nat} (hj:j<n) (hjl:j<l.length):bL (l.take j)+bN l[j]≤bL (l.take n)∧(gposL (l.take j) a).length+gN l[j]≤(gposL (l.take n) a).length:=by
 have e:l.take n=l.take (j+1)++(l.take n).drop (j+1):=by
  have h:=List.take_append_drop (j+1) (l.take n);rw [List.take_take,Nat.min_eq_left (by omega)] at h;exact h.symm
 have h1:=bL_take hjl;have h2:=gposL_take (a:=a) hjl;refine ⟨?_,?_⟩
 ·rw [e,bL_app];omega
 ·rw [e,gposL_app,List.length_append,h2,List.length_append,gpos_len];omega
structure LyL (w wr:World) (m:Nat) (cs:Array Value) (p:Pt) (a:Nat) (KA:Option Addr) (kc:Nat) (GA:Option Addr) (gs:List Nat) (x j:Nat) (GA1:Option Addr) (gc1:Nat) (ns:List Nat) (CA:Option Addr) (cc:Nat) (ks:List Nat):Prop where
 st:LyM wr m cs (a+laO p+bL (p.kids.take j)) GA1 gc1 (gs++ns)
 gx:GsX wr ns (gp1 p a++gposL (p.kids.take j) (a+laO p))
 xb:Blk wr x 183 #[.int .i64 p.v,.int .i64 p.op,.int .i64 p.imm,.int .i64 p.iv,.slice KA p.kids.length kc,.slice CA ks.length cc,.int .i64 (a:Int),.int .i64 (laO p:Int)]
 kl:ks.length=j
 ko:Own wr 126 1 CA ks.length cc (ks.map pp)
 kt:∀i (h1:i<p.kids.length) (h2:i<ks.length),OsT wr (fun i=>w.heap.size≤i∧¬At GA1 i∧¬At CA i∧i≠x) p.kids[i] (a+laO p+bL (p.kids.take i)) ks[i]
 kf:∀i,At CA i→w.heap.size≤i∧¬At GA1 i
 ga:∀i,At GA1 i→At GA i∨w.heap.size≤i
 upd:Upd (fun i=>i=m∨At GA i) w wr
 mw:m<w.heap.size
 xw:w.heap.size≤x
 gaw:∀i,At GA i→i<w.heap.size
section
variable {w wr:World} {m:Nat} {cs:Array Value} {p:Pt} {a:Nat} {KA:Option Addr} {kc:Nat} {GA:Option Addr} {gs:List Nat} {x j:Nat} {GA1:Option Addr} {gc1:Nat} {ns:List Nat} {CA:Option Addr} {cc:Nat} {ks:List Nat}
theorem LyL.xm (h:LyL w wr m cs p a KA kc GA gs x j GA1 gc1 ns CA cc ks):x≠m:=h.xb.ne_ h.st.blk (by decide)
theorem LyL.xg (h:LyL w wr m cs p a KA kc GA gs x j GA1 gc1 ns CA cc ks):¬At GA1 x:=h.st.own.ne_blk h.xb (by decide)
theorem LyL.xc (h:LyL w wr m cs p a KA kc GA gs x j GA1 gc1 ns CA cc ks):¬At CA x:=h.ko.ne_blk h.xb (by decide)
theorem LyL.mc (h:LyL w wr m cs p a KA kc GA gs x j GA1 gc1 ns CA cc ks):¬At CA m:=h.ko.ne_blk h.st.blk (by decide)
theorem LyL.non (h:LyL w wr m cs p a KA kc GA gs x j GA1 gc1 ns CA cc ks) {wD:World} (u:Upd Non wr wD):LyL w wD m cs p a KA kc GA gs x j GA1 gc1 ns CA cc ks :=
 ⟨h.st.upd u (fun f=>f) (fun _ _ f=>f),h.gx.upd u (fun _ _ _ f=>f),h.xb.upd u (fun f=>f),h.kl,h.ko.upd u (fun _ _ f=>f),fun i h1 h2=>OsT.upd u (fun _ _ _ f=>f) (fun _ _ q=>q) _ _ _ (h.kt i h1 h2),h.kf,h.ga,h.upd.then_non u,h.mw,h.xw,h.gaw⟩
theorem LyL.step (h:LyL w wr m cs p a KA kc GA gs x j GA1 gc1 ns CA cc ks) (hj:j<p.kids.length) {w4 w5 w6:World} {y:Nat} {GA2:Option Addr} {gc2:Nat} {ns2:List Nat}
  (hR:LyR wr w4 m cs p.kids[j] (a+laO p+bL (p.kids.take j)) GA1 (gs++ns) y GA2 gc2 ns2) (u5:Upd Non w4 w5) {CA':Option Addr} {cc':Nat}
  (ho:Own w6 126 1 CA' (ks.length+1) cc' (ks.map pp++[pp y])) (u6:Upd (At CA) w5 w6) (hat:∀k,At CA' k→At CA k∨k=w5.heap.size) :
  LyL w (w6.setCell ⟨x,5,none⟩ (.slice CA' (ks.length+1) cc')) m cs p a KA kc GA gs x (j+1) GA2 gc2 (ns++ns2) CA' cc' (ks++[y]):=by
 have hxb4:=h.xb.upd hR.upd (fun e=>e.elim h.xm h.xg);have hxb5:=hxb4.upd u5 (fun f=>f);have hxb6:=hxb5.upd u6 h.xc;have s4:=hR.upd.size;have s5:=u5.size;have s6:=u6.size;have hst5:=hR.st.upd u5 (fun f=>f) (fun _ _ f=>f);have hCw:∀i,At CA i→i<wr.heap.size:=fun i hi=>h.ko.lt hi
 have hGC:∀i,At GA2 i→¬At CA i:=fun i hi hc=>by
  rcases hR.ga i hi with q | q
  ·exact (h.kf i hc).2 q
  ·have:=hCw i hc;omega
 have hst6:=hst5.upd u6 h.mc hGC;have uS:=updCell w6 x 5 (.slice CA' (ks.length+1) cc');have hxm:=h.xm;have hxG2:¬At GA2 x:=hst6.own.ne_blk hxb6 (by decide);have hst7:=hst6.upd uS (fun e=>hxm e.symm) (fun i hi e=>hxG2 (e ▸ hi));have hxC':¬At CA' x:=ho.ne_blk hxb6 (by decide)
 have uA:Upd (fun i=>i=m∨At GA1 i∨At CA i∨i=x) wr (w6.setCell ⟨x,5,none⟩ (.slice CA' (ks.length+1) cc')) :=
  (((hR.upd.mono (T:=fun i=>i=m∨At GA1 i∨At CA i∨i=x) (fun i _ q=>q.elim .inl (fun q=>.inr (.inl q)))).trans u5 (fun _ _ f=>f.elim)).trans u6 (fun _ _ q=>.inr (.inr (.inl q)))).trans uS (fun _ _ q=>.inr (.inr (.inr q)))
 have u46:Upd (At CA) w4 w6:=(u5.mono (fun _ _ f=>f.elim)).trans u6 (fun _ _ q=>q);have u4E:Upd (fun i=>At CA i∨i=x) w4 (w6.setCell ⟨x,5,none⟩ (.slice CA' (ks.length+1) cc')):=(u46.mono (fun _ _ q=>.inl q)).trans uS (fun _ _ q=>.inr q)
 have uA6:Upd (fun i=>i=m∨At GA1 i∨At CA i) wr w6:=(hR.upd.mono (fun i _ q=>q.elim .inl (fun q=>.inr (.inl q)))).trans u46 (fun _ _ q=>.inr (.inr q))
 have hxl:=h.xb.lt;have hsw:=h.upd.size;refine ⟨?_,?_,?_,by rw [List.length_append,h.kl];rfl,?_,?_,?_,?_,?_,h.mw,h.xw,h.gaw⟩
 ·rw [bL_take hj,←Nat.add_assoc,←List.append_assoc];exact hst7
 ·rw [gposL_take hj,←List.append_assoc];refine GsX.set5 (GsX.app (h.gx.upd uA6 ?_) (hR.gx.upd u46 ?_)) x _
  ·intro g c hb q;rcases q with q | q | q
   ·subst q;exact hb.ne_ h.st.blk (by decide) rfl
   ·exact h.st.own.ne_blk hb (by decide) q
   ·exact h.ko.ne_blk hb (by decide) q
  ·intro g c hb q;have hb':=hb.lt;have hl:=hCw g q;have hko4:=h.ko.upd hR.upd (fun i hi e=>e.elim (fun e=>h.mc (e ▸ hi)) (fun e=>(h.kf i hi).2 e));exact hko4.ne_blk hb (by decide) q
 ·have:=hxb6.set_ 5 (.slice CA' (ks.length+1) cc');rw [List.length_append];simpa using this
 ·rw [List.length_append,List.map_append];exact ho.upd uS (fun i hi e=>hxC' (e ▸ hi))
 ·intro i h1 h2;rw [List.length_append,List.length_singleton] at h2;by_cases hi:i<ks.length
  ·rw [List.getElem_append_left hi];refine OsT.upd uA (fun i hi hF=>?_) (fun i hi hF=>⟨hF.1,fun q=>?_,fun q=>?_,hF.2.2.2⟩) _ _ _ (h.kt i h1 hi)
   ·rintro (q | q | q | q)
    ·have:=h.mw;omega
    ·exact hF.2.1 q
    ·exact hF.2.2.1 q
    ·exact hF.2.2.2 q
   ·rcases hR.ga i q with q | q
    ·exact hF.2.1 q
    ·omega
   ·rcases hat i q with q | q
    ·exact hF.2.2.1 q
    ·omega
  ·have e:i=j:=by have:=h.kl;omega
   subst e;have : (ks++[y])[i]=y:=by rw [List.getElem_append_right (by omega)];simp
   rw [this];refine OsT.upd u4E (fun k hk hF=>?_) (fun k hk hF=>⟨by have:=hF.1;omega,hF.2,fun q=>?_,?_⟩) _ _ _ hR.os
   ·rintro (q | q)
    ·have:=hCw k q;have:=hF.1;omega
    ·have:=hF.1;omega
   ·rcases hat k q with q | q
    ·have:=hCw k q;have:=hF.1;omega
    ·omega
   ·have:=hF.1;omega
 ·intro i hi;rcases hat i hi with q | q
  ·exact ⟨(h.kf i q).1,fun z=>hGC i z q⟩
  ·refine ⟨by omega,fun z=>?_⟩;have:=hR.st.own.lt z;omega
 ·intro i hi;rcases hR.ga i hi with q | q
  ·exact h.ga i q
  ·exact .inr (by omega)
 ·refine h.upd.trans uA (fun i hi q=>?_);rcases q with q | q | q | q
  ·exact .inl q
  ·rcases h.ga i q with z | z
   ·exact .inr z
   ·omega
  ·have:=(h.kf i q).1;omega
  ·have:=h.xw;omega
theorem LyL.done (h:LyL w wr m cs p a KA kc GA gs x j GA1 gc1 ns CA cc ks) (hf:bN p=laO p+bL (p.kids.take (laN p))∧∀a,gpos p a=gp1 p a++gposL (p.kids.take (laN p)) (a+laO p)) (hj:j=laN p):LyR w wr m cs p a GA gs x GA1 gc1 ns:=by
 subst hj;refine ⟨?_,?_,?_,h.ga,h.upd⟩
 ·rw [hf.1,←Nat.add_assoc];exact h.st
 ·rw [OsT.iff];refine ⟨⟨h.xw,h.xg⟩,KA,kc,CA,cc,ks,h.xb,h.kl,(h.ko.sl.mono (fun i _ q=>h.kf i q)),OsL.of fun i h1 h2=>OsT.upd (Upd.refl (S:=Non)) (fun _ _ _ f=>f) (fun _ _ q=>⟨q.1,q.2.1⟩) _ _ _ (h.kt i h1 h2)⟩
 ·rw [hf.2];exact h.gx
end
end Go.Proofs.YtifhejahbbnkiaaGreat
