/-
  Lemmas and walks that the claim rests on, part 6 (packed by a program).
-/
import Derived.Test.YtifhejahbbnkiaaGreatC5
import Derived.Test.YtifhejahbbnkiaaGreatC1
import Derived.Deep.RegionHeld3
namespace Go.Proofs.YtifhejahbbnkiaaGreat
open Go.RowKit
theorem gR6_of {r:Rl} (h:applF r=true):gR r≤6∧implF r=true∧r.imms=0:=by
 unfold applF at h;simp only [Bool.and_eq_true,decide_eq_true_eq] at h;exact ⟨h.1.2,h.1.1.1.1.1,h.1.1.1.1.2⟩
theorem AU.upd {w w':World} {S F G:Nat→Prop} {m:Nat} {r:Rl} {a:RlA} {L R:Nat} {GA:Option Addr} {gc:Nat} {gs:List Nat} (h:AU w F m r a L R GA gc gs) (u:Upd S w w') (d:∀i,i<w.heap.size→F i→¬S i) (hG:∀i,i<w.heap.size→F i→G i):AU w' G m r a L R GA gc gs:=by
 obtain ⟨a1,a2,a3,a4,a5,a6⟩:=h;have hm:=a1.lt;exact ⟨a1.upd u (d m hm a2),hG m hm a2,(a3.mono (G:=fun i=>F i∧G i) (fun i hi q=>⟨q,hG i hi q⟩)).upd u (fun i hi q=>d i hi q.1) |>.mono (fun _ _ q=>q.2),OsT.upd u d hG _ _ _ a4,OsT.upd u d hG _ _ _ a5,(a6.mono (G:=fun i=>F i∧G i) (fun i hi q=>⟨q,hG i hi q⟩)).upd u (fun i hi q=>d i hi q.1) |>.mono (fun _ _ q=>q.2)⟩
theorem sl8_upd {w w':World} {S:Nat→Prop} {A RA:Option Addr} {cs:List Value} (h:Sl w (fun i=>U8B w i∧¬At A i) RA cs) (u:Upd S w w') (d8:∀i z,Blk w i 5 z→¬S i):Sl w' (fun i=>U8B w' i∧¬At A i) RA cs:=by
 have d:∀i,i<w.heap.size→U8B w i∧¬At A i→¬S i:=fun i _ q=>by obtain ⟨z,hb⟩:=q.1;exact d8 i z hb
 refine (h.mono (G:=fun i=>(U8B w i∧¬At A i)∧U8B w' i) (fun i hi q=>⟨q,q.1.upd u (d i hi q)⟩)).upd u (fun i hi q=>d i hi q.1) |>.mono (fun i _ q=>⟨q.2,q.1.2⟩)
set_option maxRecDepth 100000 in
set_option maxHeartbeats 16000000 in
theorem aProve_c (r:Rl) (a:RlA) (F:Nat→Prop) (w:World) (hk:RlK w F r a) (hz:RlSz r) :
  Calls Tryz.prog 34 #[rlv r a] w fun e w'=>PvP r w e w':=by
 obtain ⟨W,HW⟩:=nm (w.alloc (.cells (rlCells r a) 41));have hU:Upd Non w W:=by rw [←HW.out];exact Upd.refl.alloc _
 obtain ⟨rb,hrb⟩:∃b,w.heap.size=b:=⟨_,rfl⟩;have hb:Blk W rb 41 (rlCells r a):=by rw [←HW.out,←hrb];exact Blk.new _ _ _
 have e0:=HW.out;have hK:=(hk.mono (G:=fun k=>k<w.heap.size) (fun _ h _=>h)).upd hU (fun _ _ _ f=>f);have hc0:=rl_cells hb;obtain ⟨c0,c1,c2,c3,c4,c5,c6,c7,c8,c9,c10,c11,c12,c13⟩:=hc0;have CB:=h_ (aBuild_c r a _ W hK hz);have HU:=h_ hU;have HRB:Hid (rb<W.heap.size):=hb.lt;clear hk hz hK hb hU;unfold rlv at CB ⊢;unfold rlCells at CB e0 ⊢;go_enter Tryz.func34,Tryz.ntmps34;go_wp2_with fail
 refine CB.out.mono ?_;rintro e w2 ⟨v,rfl,u2,hB⟩;obtain ⟨ap,Hap⟩:=nm (applF r);rw [Hap.out] at hB ⊢;have HU2:=h_ (HU.out.then_non u2);have c12':=u_ c12 u2 (fun f=>f);have HRB2:Hid (rb<w2.heap.size):=Nat.lt_of_lt_of_le HRB.out u2.size;clear c0 c1 c2 c3 c4 c5 c6 c7 c8 c9 c10 c11 c12 c13 u2 e0 CB
 cases ap with
 | false =>
  clear hB;go_wp2_with fail
  go_ret2;exact ⟨HU2.out,.inr ⟨autF_not Hap.out,rfl⟩⟩
 | true =>
  obtain ⟨m,L,R,GA,gc,gs,rfl,hm,hA,hG⟩:=hB rfl;have hap:=Hap.out;obtain ⟨hg6,him,_⟩:=gR6_of hap;have hi:=imok_of him;have hr:=nxok_of hap;have hst:=stN_le hi;have HST:=h_ hst;have CI:=h_ (aInitStates_c hA hG hr (by omega) hg6 hi.cn);have HA:=h_ (hA.upd (S:=Non) (G:=fun i=>i<w2.heap.size) Upd.refl (fun _ _ _ f=>f) (fun i h _=>h));have HG:=h_ hG;have HR:=h_ hr;have HI:=h_ hi;obtain ⟨vn,hvn⟩:∃n:Nat,r.vars=(n:Int):=⟨r.vars.toNat,by have:=hi.v0;omega⟩;rw [hvn] at c12';have HVN:Hid (r.vars.toNat=vn):=by show _=_;omega
  have hv6:vn≤6:=by have:=hi.v6;omega
  obtain ⟨H,HH⟩:=nm (2 ^ vn);have hH:H≤64:=by rw [←HH.out];exact Nat.le_trans (Nat.pow_le_pow_right (by decide) hv6) (by decide)
  have hsh:wrap64 ((2:Int) ^ vn)=(H:Int):=by
   have e:((2:Int) ^ vn)=((2 ^ vn:Nat):Int):=by push_cast;rfl
   rw [e,HH.out];exact wrap64_of (by unfold I64;omega)
  obtain ⟨sn,Hsn⟩:=nm (stN r);have hsn:sn≤4000:=by rw [←Hsn.out];exact hst
  clear hvn hst;clear hA hG hr hB hap him;unfold pp at CI ⊢;go_wp2_with fail
  refine CI.out.mono ?_;rintro e w3 ⟨A0,c0,rfl,hE0,hA0,u3⟩;obtain ⟨n0,Hn0⟩:=nm (2 ^ gR r);rw [Hn0.out] at hE0 ⊢;have hn0:n0≤64:=by rw [←Hn0.out];exact Nat.le_trans (Nat.pow_le_pow_right (by decide) hg6) (by decide)
  obtain ⟨W4,HW4⟩:=nm (w3.alloc (.cells #[.slice A0 n0 c0] 118));obtain ⟨RB,hRB⟩:∃b,w3.heap.size=b:=⟨_,rfl⟩;have u4:Upd Non w3 W4:=by rw [←HW4.out];exact Upd.refl.alloc _
  have hrow:Blk W4 RB 118 #[.slice A0 n0 c0]:=by rw [←HW4.out,←hRB];exact Blk.new _ _ _
  obtain ⟨B,hBB⟩:∃b,w2.heap.size=b:=⟨_,rfl⟩;have h23:=u3.size;have h34:=u4.size
  have hS:PvS w2 W4 B RB 0 r A0 n0 c0 none 0 0 (initsF r):=by
   refine ⟨hrow,hE0.u8 elRow u4 (fun _ _ f=>f) (fun _ _ _ f=>f),ElO.none_,(u3.then_non u4).mono (fun _ _ f=>f.elim),by omega,fun i hi=>by have:=hA0 i hi;omega,fun i hi=>(At.none_ hi).elim,by omega,fun _=>⟨initsF_nodup r,fun x=>lvl_init.symm⟩,by omega,(show ([]:List (Nat×List Bool)).length≤4096 by decide),fun h=>by omega⟩
  have HS:=h_ hS;have hR4:W4.cell? ⟨RB,0,none⟩=some (.slice A0 n0 c0):=hrow.cell 0;have e4:=HW4.out;clear hS hrow hE0 hA0 u3 u4 CI;go_wp2_with fail
  go_loopg [6,8,9,10,12,13,14,35] 65 (fun gg s6 s8 _ _ _ _ _ _ wr=>∃(k:Nat) (A:Option Addr) (n c:Nat) (OA:Option Addr) (on oc:Nat) (T:List (List Bool)),Hid (gg=65 - k)∧k≤65∧s8=.int .i64 k∧s6=.slice OA on oc∧Hid (PvS w2 wr B RB k r A n c OA on oc T))
  case atStart=>exact ⟨0,A0,n0,c0,none,0,0,initsF r,rfl,by omega,rfl,rfl,HS.out⟩
  case round =>
   clear HS hR4 e4 hn0;obtain ⟨k,A,n,c,OA,on,oc,T,Hg,hk,rfl,rfl,HS⟩:=hrel;by_cases hlt:k<65
   ·have hrc:=HS.out.row.cell 0;have hk0:decide ((k:Int)≤64)=true:=dT_ (by omega)
    have CS:=h_ (aSort_c HS.out.el hrc (fun z=>by
     obtain ⟨_,cs_,hAo,_⟩:=HS.out.el
     exact hAo.ne_blk HS.out.row (by decide) z) (by have:=HS.out.tn;omega))
    go_wp2_with fail
    refine CS.out.mono ?_;rintro e w5 ⟨rfl,L',hp,hs,he,u5⟩;obtain ⟨w6,H6⟩:=nm (w5.alloc (.map #[] 0));have hR6:=HS.out.sorted (by omega) Upd.refl hp hs he u5 H6.out;obtain ⟨mb,hmb⟩:∃b,w5.heap.size=b:=⟨_,rfl⟩;obtain ⟨tb,htb⟩:∃b,w6.heap.size=b:=⟨_,rfl⟩;rw [hmb,htb] at hR6;have HR6:=h_ hR6;have hnl:n=(lvl r k).length:=by have:=hR6.el.1;rw [List.length_map] at this;exact this
    have HNL:=h_ hnl;have hon0:on≤4096:=by have h1:=HS.out.out.1;rw [List.length_map] at h1;have h2:=HS.out.le;omega
    have hrow6:=hR6.row.cell 0;have hmm:=@run_makeMap Tryz.prog;have e6:=H6.out;have htn0:=HS.out.tn;clear hR6 hp hs he u5 CS hnl hrc hk0;go_wp2_with fail
    go_loopg [6,10,12,13,14,35] n (fun gg s6 s10 _ _ _ s35 wr=>∃(j:Nat) (OA:Option Addr) (on oc:Nat) (TA:Option Addr) (tn tc:Nat) (T:List (List Bool)),Hid (gg=n - j)∧j≤n∧s35=.int .i64 j∧s6=.slice OA on oc∧s10=.slice TA tn tc∧Hid (PvR w2 wr B RB tb mb k r A n c OA on oc TA tn tc (lvls r k++((lvl r k).take j).map fun b=>(k,b)) T)∧Hid (T.Nodup∧∀x,x∈T↔k<64∧∃a∈(lvl r k).take j,x∈succsF r k a)∧tn≤j * 64∧on≤4096∧Hid (k=64→∀b∈(lvl r k).take j,safeF r b=true))
    case atStart=>exact ⟨0,OA,on,oc,none,0,0,[],rfl,by omega,rfl,rfl,rfl,by rw [List.take_zero,List.map_nil,List.append_nil];exact HR6.out,⟨List.nodup_nil,fun x=>by rw [List.take_zero];simp⟩,by omega,hon0,fun _ b hb=>by rw [List.take_zero] at hb;cases hb⟩
    case round =>
     clear HS HR6 e6 hrow6 hon0 hmm hmb htb;obtain ⟨j,OA,on,oc,TA,tn,tc,T,Hg2,hj,rfl,rfl,rfl,HRr,HT,htn,hon,HSF⟩:=hrel;obtain ⟨wj,rfl⟩:∃x:World,x=wr:=⟨_,rfl⟩;by_cases hjn:j<n
     ·have hjl:j<(lvl r k).length:=by rw [←HNL.out];exact hjn
      obtain ⟨g,RA,rc,rfl,hcell,hrc,hsl⟩:=rows_at HRr.out.el (i:=j) (by rw [List.length_map];exact hjl);rw [List.getElem_map] at hcell hrc hsl;have hbm:=List.getElem_mem hjl;have htk:=List.take_succ_eq_append_getElem hjl;generalize (lvl r k)[j]=b at *;have hsup:=applF_sup Hap.out;have hbl:b.length=sn:=by rw [←Hsn.out];exact lvl_len hsup.1 hsup.2 k b hbm
      have hbb:(bbs b).length=sn:=by unfold bbs;rw [List.length_map,hbl]
      rw [hbb] at hcell hrc;obtain ⟨hoL,cs,hoO,hcO⟩:=HRr.out.out;have HCO:=h_ hcO;have HOO:=h_ hoO;have HSL:=h_ hsl;have HBM:=h_ hbm;have HTK:Hid ((lvl r k).take (j+1)=(lvl r k).take j++[b]):=htk;have HBL:=h_ hbl;have HRC:=h_ hrc;have hj0:(0:Int)≤(j:Int):=by omega
      have hjn':(j:Int)<(n:Int):=by omega
      have HADD:Hid (∀{w3 w4:World} (u3:Upd Non wj w3) {OA':Option Addr} {oc':Nat} (ho:Own w4 122 2 OA' (on+1) oc' (cs++[.int .i64 (k:Int),.slice RA sn rc])) (u4:Upd (At OA) w3 w4) (hat:∀i,At OA' i→At OA i∨i=w3.heap.size),PvR w2 w4 B RB tb mb k r (some ⟨g,0,none⟩) n c OA' (on+1) oc' TA tn tc (lvls r k++((lvl r k).take (j+1)).map fun b=>(k,b)) T):=fun u3 _ _ ho u4 hat=>by
       have:=HRr.out.addO (x:=(k,b)) u3 HOO.out HCO.out (by rw [HBL.out];exact HRC.out) HSL.out (by show Own _ _ _ _ _ _ (cs++[.int .i64 (k:Int),.slice RA b.length rc]);rw [HBL.out];exact ho) u4 hat
       rw [HTK.out,List.map_append,←List.append_assoc];exact this
      have HNO:Hid (autF r=none→∀w',Upd (B≤·) w2 w'→PvP r w (.returned (.tuple #[.slice none 0 0,.bool false])) w'):=fun h w' uu=>⟨HU2.out.trans uu (fun i hi q=>by have h1:=HU2.out.size;have : B≤i:=q;omega),.inr ⟨h,rfl⟩⟩
      have HOL:Hid (on=(lvls r k++((lvl r k).take j).map fun b=>(k,b)).length):=by show _=_;rw [hoL,List.length_map]
      clear hcO hoL hsl hbm htk hbl hbb hrc hsup hjl
      have hlen1:(lvls r k++((lvl r k).take (j+1)).map fun b=>(k,b)).length=on+1:=by
       have:=HOL.out;rw [HTK.out,List.map_append,←List.append_assoc,List.length_append,←this];rfl
      have HLN:=h_ hlen1;clear hlen1;have hk64:k≤64:=by omega
      by_cases hlong:4096<on+1
      ·have tl:decide ((on:Int)+1 > 4096)=true:=dT_ (by omega)
       go_wp2_with (at_builtin;refine wpList_app rfl rfl T_AStates rfl (hoO.alloc _) rfl (Sl.new _ _ _) rfl (by simp [Value.oneCell']) (by simp only [maxLen];omega) (by omega) ?_;intro A8 c8 w8 ho8 hu8 hat8)
       go_ret2;refine HNO.out (autF_long hk64 (P:=lvls r k++((lvl r k).take (j+1)).map fun b=>(k,b)) ?_ (by rw [HLN.out];exact hlong)) _ (HADD.out (Upd.refl.alloc _) ho8 hu8 hat8).upd
       rw [lvls_succ];exact List.Sublist.append_left ((List.take_sublist _ _).map _) _
      ·have tl:decide ((on:Int)+1 > 4096)=false:=dF_ (by omega);by_cases h64:k=64
       ·subst h64;have t64:((64:Nat):Int)==64:=by decide
        go_wp2_with (at_builtin;refine wpList_app rfl rfl T_AStates rfl (hoO.alloc _) rfl (Sl.new _ _ _) rfl (by simp [Value.oneCell']) (by simp only [maxLen];omega) (by omega) ?_;intro A8 c8 w8 ho8 hu8 hat8)
        have hR8:=HADD.out (Upd.refl.alloc _) ho8 hu8 hat8;have HR8:=h_ hR8;have hA8:=HA.out.upd (G:=fun i=>i<w2.heap.size) hR8.upd (fun i _ hi q=>by have : B≤i:=q;omega) (fun _ _ q=>q);have hG8:=HG.out.upd hR8.upd (fun i z hb q=>by have h1:=hb.lt;have : B≤i:=q;omega)
        have hs8:Sl w8 (fun i=>U8B w8 i∧¬At (some ⟨g,0,none⟩) i) RA (b8s b):=by
         rw [b8s_u8s];exact sl8_upd (sl8_upd HSL.out (Upd.refl.alloc (S:=Non) (.cells #[.int .i64 64,.slice RA sn rc] 122)) (fun _ _ _ f=>f)) hu8 (fun i z hb=>(HOO.out.alloc _).ne_blk hb (by decide))
        have CS:=h_ (aSafe_c (bc:=rc) hA8 (by have:=hG8.1;rw [gposR_len] at this;have:=(gR6_of Hap.out).1;omega) hG8.1 hG8.2 (by rw [Hsn.out];omega) hs8 (by rw [HBL.out,Hsn.out]) (fun q hq=>by rw [HBL.out,←Hsn.out];exact gposR_lt q hq))
        rw [HBL.out] at CS;unfold pp at CS;obtain ⟨sf,Hsf⟩:=nm (safeF r b);rw [Hsf.out] at CS;clear hR8 hA8 hG8 hs8 ho8 hu8 hat8;go_wp2_with fail
        refine CS.out.mono ?_;rintro e w9 ⟨rfl,uu9⟩;have HR9:=h_ (HR8.out.non uu9)
        cases sf with
        | false =>
         go_wp2_with fail
         go_ret2;exact HNO.out (autF_bad HBM.out Hsf.out) _ HR9.out.upd
        | true =>
         have HSF2:Hid (∀b'∈(lvl r 64).take (j+1),safeF r b'=true):=fun b' hb'=>by
          rw [HTK.out,List.mem_append,List.mem_singleton] at hb';rcases hb' with hb' | rfl
          ·exact HSF.out (by first | rfl | trivial) b' hb'
          ·exact Hsf.out
         have HT2:Hid (T.Nodup∧∀x,x∈T↔64<64∧∃a∈(lvl r 64).take (j+1),x∈succsF r 64 a):=⟨HT.out.1,fun x=>by rw [HT.out.2 x];constructor <;> (intro q;have:=q.1;omega)⟩
         go_wp2_with fail
         go_loopg [10,13,14] 0 (fun _ s10 s13 _ wr=>s10=.slice TA tn tc∧s13=.int .i64 0∧wr=w9)
         case atStart=>exact ⟨rfl,rfl,rfl⟩
         case round =>
          obtain ⟨rfl,rfl,rfl⟩:=hrel;go_wp2_with fail
          go_roundg (n - (j+1))
          case measure=>rw [Hg2.out];omega
          case rel=>exact ⟨j+1,A8,on+1,c8,TA,tn,tc,T,rfl,by omega,by go_num,rfl,rfl,HR9.out,HT2.out,by omega,by omega,fun _=>HSF2.out⟩
       ·have t64:((k:Int)==64)=false:=by simp;omega
        go_wp2_with (at_builtin;refine wpList_app rfl rfl T_AStates rfl (hoO.alloc _) rfl (Sl.new _ _ _) rfl (by simp [Value.oneCell']) (by simp only [maxLen];omega) (by omega) ?_;intro A8 c8 w8 ho8 hu8 hat8)
        have hR8:=HADD.out (Upd.refl.alloc _) ho8 hu8 hat8;have HR8:=h_ hR8;have HS8:Hid (Sl w8 (fun i=>U8B w8 i∧¬At (some ⟨g,0,none⟩) i) RA (u8s (bbs b))):=sl8_upd (sl8_upd HSL.out (Upd.refl.alloc (S:=Non) (.cells #[.int .i64 (k:Int),.slice RA sn rc] 122)) (fun _ _ _ f=>f)) hu8 (fun i z hb=>(HOO.out.alloc _).ne_blk hb (by decide))
        obtain ⟨O2,HO2⟩:=nm (lvls r k++((lvl r k).take (j+1)).map fun b=>(k,b));rw [HO2.out] at HR8;clear hR8 ho8 hu8 hat8 HADD HSL HOO HCO hoO hcell;have hklt:k<64:=by omega
        have t3:decide ((k:Int)<64)=true:=dT_ (by omega)
        go_loopg [10,13,14] H (fun gg s10 s13 _ wr=>∃(h:Nat) (TA:Option Addr) (tn tc:Nat) (T2:List (List Bool)),Hid (gg=H - h)∧h≤H∧s13=.int .i64 h∧s10=.slice TA tn tc∧Hid (PvR w2 wr B RB tb mb k r (some ⟨g,0,none⟩) n c A8 (on+1) c8 TA tn tc O2 T2)∧Hid (Sl wr (fun i=>U8B wr i∧¬At (some ⟨g,0,none⟩) i) RA (u8s (bbs b)))∧Hid (T2.Nodup∧∀x,x∈T2↔(∃a∈(lvl r k).take j,x∈succsF r k a)∨x∈(succsF r k b).take h)∧tn≤j * 64+h)
        case atStart=>exact ⟨0,TA,tn,tc,T,rfl,by omega,rfl,rfl,HR8.out,HS8.out,⟨HT.out.1,fun x=>by rw [HT.out.2 x,List.take_zero];simp [hklt]⟩,by omega⟩
        case round =>
         clear HS8 HR8 HRr;obtain ⟨h,TA,tn,tc,T2,Hg3,hh,rfl,rfl,HRh,HSh,HT2,htn2⟩:=hrel;obtain ⟨wh,rfl⟩:∃x:World,x=wr:=⟨_,rfl⟩;have cv:=u_ c12' HRh.out.upd (by have:=HRB2.out;omega);by_cases hlth:h<H
         ·have th:(h:Int)<(H:Int):=by omega
          have hAh:=HA.out.upd (G:=fun i=>i<w2.heap.size) HRh.out.upd (fun i _ hi q=>by have : B≤i:=q;omega) (fun _ _ q=>q);have hsh8:=HSh.out;rw [←b8s_u8s] at hsh8;have CN:=h_ (aNext_c (bc:=rc) (k:=k) (h:=h) hAh HR.out (by rw [Hsn.out];omega) hsh8 (by rw [HBL.out,Hsn.out]) (by rw [HBL.out];exact HRC.out) hklt (by omega))
          rw [HBL.out,Hsn.out] at CN;unfold pp at CN;clear hAh hsh8;go_wp2_with fail
          refine CN.out.mono ?_;rintro e w9 ⟨AX,cX,rfl,hoX,hatX,uX⟩;have hsn0:0<sn:=by rw [←Hsn.out];unfold stN;omega
          obtain ⟨q,rfl⟩:=hoX.some_ hsn0;have hqh:wh.heap.size≤q:=hatX q (At.some_.2 rfl);have HR9:=h_ (HRh.out.non uX);obtain ⟨x,Hx⟩:=nm (succF k h.testBit r b);rw [Hx.out] at hoX;have hsup:=applF_sup Hap.out;have hxl:x.length=sn:=by rw [←Hx.out,←Hsn.out];exact succF_len hsup.1 hsup.2 k _ (by rw [HBL.out,Hsn.out])
          have hxb:(bbs x).length=sn:=by unfold bbs;rw [List.length_map,hxl]
          have hcv:=run_rowstr (n:=sn) (c:=cX) (l:=bbs x) (by have:=hoX.sl;rw [b8s_u8s] at this;exact this) hxb.symm;have hlk:=SMap.look1 (P:=Tryz.prog) (t:=87) Tryz.underlying87 Tryz.underlying9 (z:=.bool false) (by kernel_rfl) HR9.out.seen (kstr (bbs x));rw [seenV_get] at hlk;have HSX:=h_ (sl8_upd HSh.out uX (fun _ _ _ f=>f))
          have HTK3:Hid ((succsF r k b).take (h+1)=(succsF r k b).take h++[x]):=by
           show _=_;have hl:h<(succsF r k b).length:=by rw [succsF_len,HVN.out,HH.out];exact hlth
           rw [List.take_succ_eq_append_getElem hl,←Hx.out]
           congr 2
           simp [succsF]
          have HOX:=h_ hoX;have HXL:=h_ hxl;clear hxl hxb hsup hoX uX hatX CN;by_cases hin:x∈T2
          ·have HT3:Hid (T2.Nodup∧∀y,y∈T2↔(∃a∈(lvl r k).take j,y∈succsF r k a)∨y∈(succsF r k b).take (h+1)):=⟨HT2.out.1,fun y=>by
            rw [HT2.out.2 y,HTK3.out,List.mem_append,List.mem_singleton];constructor
            ·rintro (z | z)
             ·exact .inl z
             ·exact .inr (.inl z)
            ·rintro (z | z | z)
             ·exact .inl z
             ·exact .inr z
             ·subst z;exact (HT2.out.2 y).1 hin⟩
           rw [dT_ hin] at hlk;go_wp2_with fail
           go_roundg (H - (h+1))
           case measure=>rw [Hg3.out];omega
           case rel=>exact ⟨h+1,TA,tn,tc,T2,rfl,by omega,by go_num,rfl,HR9.out,HSX.out,HT3.out,by omega⟩
          ·have HT3:Hid ((T2++[x]).Nodup∧∀y,y∈T2++[x]↔(∃a∈(lvl r k).take j,y∈succsF r k a)∨y∈(succsF r k b).take (h+1)):=⟨List.nodup_append.2 ⟨HT2.out.1,by simp,fun y hy z hz=>by rw [List.mem_singleton] at hz;rintro rfl;subst hz;exact hin hy⟩,fun y=>by
            rw [List.mem_append,HT2.out.2 y,HTK3.out,List.mem_append,or_assoc]⟩
           rw [dF_ hin] at hlk;obtain ⟨w10,hst,hs10,hu10⟩:=SMap.store (P:=Tryz.prog) (t:=87) Tryz.underlying87 Tryz.underlying9 HR9.out.seen (kstr (bbs x)) (.bool true);obtain ⟨htL,ts,htO,htC⟩:=HR9.out.thn;have htO10:=htO.upd hu10 (fun i hi e=>HR9.out.seen.ne_own htO (e ▸ hi));have HTC:=h_ htC;have HTO:=h_ htO;have HS10:=h_ hs10;have HU10:=h_ hu10;have htn3:tn≤300000:=by have h1:=HOL.out;rw [List.length_append,List.length_map,List.length_take,←HNL.out,Nat.min_eq_left (by omega)] at h1;omega
           have hqA:¬At TA q:=fun z=>by
            obtain ⟨_,_,hto,_⟩:=HRh.out.thn;have:=hto.lt z;omega
           clear hs10 hu10 htC htO hin htL
           go_wp2_with (at_builtin;refine wpList_app rfl rfl T_rows rfl (htO10.alloc _) rfl (Sl.new _ _ _) rfl (by simp [Value.oneCell']) (by simp only [maxLen];omega) (by omega) ?_;intro A11 c11 w11 ho11 hu11 hat11)
           go_roundg (H - (h+1))
           case measure=>rw [Hg3.out];omega
           case rel =>
            have uR:=Upd.refl.alloc (w:=w10) (S:=Non) (.cells #[.slice (some ⟨q,0,none⟩) sn cX] 84);have hR11:=HR9.out.addT HU10.out HS10.out uR HTO.out HTC.out HOX.out HXL.out hqA ho11 hu11 hat11;have hs11:=sl8_upd (sl8_upd (sl8_upd HSX.out HU10.out (fun i z hb=>HR9.out.seen.ne_blk hb)) uR (fun _ _ _ f=>f)) hu11 (fun i z hb=>(htO10.alloc _).ne_blk hb (by decide))
            exact ⟨h+1,A11,tn+1,c11,T2++[x],rfl,by omega,by go_num,rfl,hR11,hs11,HT3.out,by omega⟩
         ·obtain rfl:H=h:=by omega
          have hfull:(succsF r k b).take H=succsF r k b:=List.take_of_length_le (by rw [succsF_len,HVN.out,HH.out];exact Nat.le_refl _)
          have HT3:Hid (T2.Nodup∧∀y,y∈T2↔k<64∧∃a∈(lvl r k).take (j+1),y∈succsF r k a):=⟨HT2.out.1,fun y=>by
           rw [HT2.out.2 y,hfull,HTK.out];constructor
           ·rintro (⟨a,ha,z⟩ | z)
            ·exact ⟨hklt,a,List.mem_append_left _ ha,z⟩
            ·exact ⟨hklt,b,by simp,z⟩
           ·rintro ⟨_,a,ha,z⟩;rw [List.mem_append,List.mem_singleton] at ha;rcases ha with ha | rfl
            ·exact .inl ⟨a,ha,z⟩
            ·exact .inr z⟩
          rw [←HO2.out] at HRh;clear hfull;go_wp2_with fail
          go_roundg (n - (j+1))
          case measure=>rw [Hg2.out];omega
          case rel=>exact ⟨j+1,A8,on+1,c8,TA,tn,tc,T2,rfl,by omega,by go_num,rfl,rfl,HRh.out,HT3.out,by omega,by omega,fun e=>by omega⟩
     ·obtain rfl:n=j:=by omega
      have hfull:(lvl r k).take n=lvl r k:=List.take_of_length_le (by rw [←HNL.out];exact Nat.le_refl _);rw [hfull] at HRr HT HSF
      have hnon:n≤4096:=by
       have h1:=HRr.out.out.1;rw [List.length_map,List.length_append,List.length_map,←HNL.out] at h1;omega
      have HS2:=h_ (HRr.out.next HT.out.1 HT.out.2 (by omega) hon HSF.out);have hrj:=HRr.out.row.cell 0;have hfj:=HRr.out.row.frozen 0;clear hfull;go_wp2_with fail
      go_roundg (65 - (k+1))
      case measure=>rw [Hg.out];omega
      case rel=>exact ⟨k+1,TA,tn,tc,OA,on,oc,T,rfl,by omega,by go_num,rfl,HS2.out⟩
   ·obtain rfl:k=65:=by omega
    go_wp2_with fail
    go_ret2;refine ⟨HU2.out.trans HS.out.upd (fun i hi q=>by have h1:=HU2.out.size;have : B≤i:=q;omega),.inl ⟨lvls r 65,OA,on,oc,autF_some.2 ⟨Hap.out,HS.out.le,HS.out.sf rfl,rfl⟩,rfl,HS.out.out,fun i hi=>?_⟩⟩
    have h1:=HU2.out.size;have h2:=HS.out.b3 i hi;omega
def seenA (P:List AS) (i:Nat) (s:ByteArray):Option Value:=if (P.any fun x=>decide (x.at_=(i:Int))&&decide (s=kstr x.bits))=true then some (.bool true) else none
theorem seenA_nil (i:Nat):seenA [] i=fun _=>none:=by funext s;rfl
theorem seenA_same (P:List AS) {x:AS} {i:Nat} (h:x.at_=(i:Int)):(fun s=>if s=kstr x.bits then some (.bool true) else seenA P i s)=seenA (P++[x]) i:=by
 funext s
 unfold seenA;rw [List.any_append];by_cases hs:s=kstr x.bits
 ·rw [if_pos hs,if_pos (by simp [hs,h])]
 ·rw [if_neg hs];simp [hs]
theorem seenA_other (P:List AS) {x:AS} {i:Nat} (h:x.at_≠(i:Int)):seenA (P++[x]) i=seenA P i:=by
 funext s
 unfold seenA;rw [List.any_append];simp [h]
theorem seenA_get (P:List AS) (i:Nat) (y:Bs):(seenA P i (kstr y)).getD (.bool false)=.bool (decide ((⟨(i:Int),y⟩:AS)∈P)):=by
 unfold seenA
 have e:(P.any fun x=>decide (x.at_=(i:Int))&&decide (kstr y=kstr x.bits))=decide ((⟨(i:Int),y⟩:AS)∈P):=by
  rw [Bool.eq_iff_iff,List.any_eq_true,decide_eq_true_eq];constructor
  ·rintro ⟨x,hx,q⟩;rw [Bool.and_eq_true,decide_eq_true_eq,decide_eq_true_eq,kstr_inj] at q;obtain ⟨xa,xb⟩:=x;obtain ⟨q1,q2⟩:=q;subst q1 q2;exact hx
  ·intro h;exact ⟨_,h,by simp⟩
 rw [e];cases decide ((⟨(i:Int),y⟩:AS)∈P) <;> rfl
def arrM (ib j:Nat):Array Value:=((List.range 65).map fun i=>if i<j then Value.map (some (ib+1+i)) else Value.map none).toArray
theorem arrM_get {ib j i:Nat} (h:i<65):(arrM ib j)[i]?=some (if i<j then Value.map (some (ib+1+i)) else Value.map none):=by
 unfold arrM;rw [List.getElem?_toArray,List.getElem?_map,List.getElem?_range h];rfl
theorem arrM_set {ib j:Nat} (h:j<65):(arrM ib j).setIfInBounds j (.map (some (ib+1+j)))=arrM ib (j+1):=by
 have hs:∀k,(arrM ib k).size=65:=fun k=>by unfold arrM;simp
 refine Array.ext_getElem? fun i=>?_
 rw [Array.getElem?_setIfInBounds];by_cases hi:i<65
 ·rw [arrM_get hi,arrM_get hi,hs];by_cases e:j=i
  ·subst e;rw [if_pos rfl,if_pos hi,if_pos (by omega)]
  ·rw [if_neg e];by_cases hij:i<j
   ·rw [if_pos hij,if_pos (by omega)]
   ·rw [if_neg hij,if_neg (by omega)]
 ·rw [if_neg (by omega),Array.getElem?_eq_none (by rw [hs];omega),Array.getElem?_eq_none (by rw [hs];omega)]
structure CkI (w2 wr:World) (B ib j:Nat):Prop where
 arr:Blk wr ib 125 (arrM ib j)
 mp:∀i,i<j→SMap wr (ib+1+i) (fun _=>none)
 upd:Upd (B≤·) w2 wr
 bi:B≤ib
 sz:wr.heap.size=ib+1+j
structure CkS (w2 wr:World) (B ib:Nat) (P:List AS):Prop where
 arr:Blk wr ib 125 (arrM ib 65)
 mp:∀i,i<65→SMap wr (ib+1+i) (seenA P i)
 upd:Upd (B≤·) w2 wr
 bi:B≤ib
section
variable {w2 wr:World} {B ib:Nat} {P:List AS}
theorem CkI.step {j:Nat} (h:CkI w2 wr B ib j) (hj:j<65):CkI w2 ((wr.setCell ⟨ib,j,none⟩ (.map (some wr.heap.size))).alloc (.map #[] 0)) B ib (j+1):=by
 have uS:=updCell wr ib j (.map (some wr.heap.size));have u1:Upd Non (wr.setCell ⟨ib,j,none⟩ (.map (some wr.heap.size))) ((wr.setCell ⟨ib,j,none⟩ (.map (some wr.heap.size))).alloc (.map #[] 0)):=Upd.refl.alloc _
 have hlt:=h.arr.lt;have hsz:(wr.setCell ⟨ib,j,none⟩ (.map (some wr.heap.size))).heap.size=ib+1+j:=by rw [←h.sz];simp [World.setCell]
 refine ⟨?_,fun i hi=>?_,(h.upd.trans uS (fun i _ e=>by have:=h.bi;show B≤i;omega)).then_non u1,h.bi,?_⟩
 ·have:=h.arr.set_ j (.map (some wr.heap.size));rw [h.sz,arrM_set hj,←h.sz] at this;exact this.upd u1 (fun f=>f)
 ·by_cases hij:i<j
  ·exact ((h.mp i hij).upd uS (by omega)).upd u1 (fun f=>f)
  ·have e:i=j:=by omega
   subst e;have hn:=SMap.new (wr.setCell ⟨ib,i,none⟩ (.map (some wr.heap.size)));rw [hsz] at hn;exact hn
 ·show ((wr.setCell ⟨ib,j,none⟩ (.map (some wr.heap.size))).heap.push _).size=_;rw [Array.size_push,hsz];omega
theorem CkI.done (h:CkI w2 wr B ib 65):CkS w2 wr B ib []:=⟨h.arr,fun i hi=>by rw [seenA_nil];exact h.mp i hi,h.upd,h.bi⟩
theorem CkS.non (h:CkS w2 wr B ib P) {w':World} (u:Upd Non wr w'):CkS w2 w' B ib P:=⟨h.arr.upd u (fun f=>f),fun i hi=>(h.mp i hi).upd u (fun f=>f),h.upd.then_non u,h.bi⟩
theorem CkS.put (h:CkS w2 wr B ib P) {x:AS} {k:Nat} (hk:k<65) (hx:x.at_=(k:Int)) {w':World} (hs:SMap w' (ib+1+k) (fun s=>if s=kstr x.bits then some (.bool true) else seenA P k s)) (u:Upd (·=ib+1+k) wr w'):CkS w2 w' B ib (P++[x]):=by
 refine ⟨h.arr.upd u (by omega),fun i hi=>?_,h.upd.trans u (fun i _ e=>by have:=h.bi;show B≤i;omega),h.bi⟩;by_cases e:i=k
 ·subst e;rw [←seenA_same P hx];exact hs
 ·rw [seenA_other P (by omega)];exact (h.mp i hi).upd u (by omega)
end
theorem chF_not {r:Rl} {L:List AS} (h:applF r=false):chF r L=false:=by unfold chF;rw [h];rfl
theorem chF_long {r:Rl} {L:List AS} (h:4096<L.length):chF r L=false:=by
 rw [Bool.eq_false_iff];intro q;have:=(chF_iff.1 q).2.1;omega
theorem chF_bad {r:Rl} {L:List AS} {s:AS} (hs:s∈L) (h:okS r s=false):chF r L=false:=by
 rw [Bool.eq_false_iff];intro q;have:=(chF_iff.1 q).2.2.1 s hs;rw [h] at this;cases this
theorem chF_init {r:Rl} {L:List AS} {b:List Bool} (hb:b∈initsF r) (h:(⟨0,bbs b⟩:AS) ∉ L):chF r L=false:=by
 rw [Bool.eq_false_iff];intro q;exact h ((chF_iff.1 q).2.2.2.1 b hb)
theorem chF_next {r:Rl} {L:List AS} {s:AS} (hs:s∈L) (h:nextS r L s=false):chF r L=false:=by
 rw [Bool.eq_false_iff];intro q;have:=(chF_iff.1 q).2.2.2.2 s hs;rw [h] at this;cases this
theorem okS_at {r:Rl} {s:AS} (h:okS r s=true):(0≤s.at_∧s.at_≤64∧s.bits.length=stN r)∧∀x∈s.bits,x.toNat≤1:=by
 unfold okS at h;rw [Bool.and_eq_true,decide_eq_true_eq] at h;exact ⟨h.1,fun x hx=>of_decide_eq_true (List.all_eq_true.1 h.2 x hx)⟩
theorem okS_of {r:Rl} {s:AS} (h:0≤s.at_∧s.at_≤64∧s.bits.length=stN r) (h2:∀x∈s.bits,x.toNat≤1):okS r s=true:=by
 unfold okS;rw [dT_ h,Bool.true_and];exact List.all_eq_true.2 fun x hx=>dT_ (h2 x hx)
theorem okS_no {r:Rl} {s:AS} (h:¬(0≤s.at_∧s.at_≤64∧s.bits.length=stN r)):okS r s=false:=by
 unfold okS;rw [dF_ h];rfl
theorem okS_big {r:Rl} {s:AS} {x:UInt8} (hx:x∈s.bits) (h:¬x.toNat≤1):okS r s=false:=by
 rw [Bool.eq_false_iff];intro q;exact h ((okS_at q).2 x hx)
theorem zero65 (ib:Nat):Tryz.zeroCells125=arrM ib 0:=by
 have h1:Tryz.zeroCells125=Array.replicate 65 (.map none):=by kernel_rfl
 rw [h1];refine Array.ext_getElem? fun i=>?_
 by_cases hi:i<65
 ·rw [arrM_get hi,if_neg (Nat.not_lt_zero _)];simp [hi]
 ·rw [Array.getElem?_eq_none (by simp;omega),Array.getElem?_eq_none (by unfold arrM;simp;omega)]
set_option maxRecDepth 100000 in
set_option maxHeartbeats 16000000 in
theorem aCheck_c (r:Rl) (a:RlA) (F:Nat→Prop) (w:World) (hk:RlK w F r a) (hz:RlSz r) {G:Nat→Prop} {LA:Option Addr} {lc:Nat} {L:List AS} (hL:ElV ElAS 2 w G LA L) (hLn:L.length≤10000000000000) :
  Calls Tryz.prog 29 #[rlv r a,.slice LA L.length lc] w fun e w'=>e=.returned (.bool (chF r L))∧Upd Non w w':=by
 obtain ⟨W,HW⟩:=nm (w.alloc (.cells (rlCells r a) 41));have hU:Upd Non w W:=by rw [←HW.out];exact Upd.refl.alloc _
 obtain ⟨rb,hrb⟩:∃b,w.heap.size=b:=⟨_,rfl⟩;have hb:Blk W rb 41 (rlCells r a):=by rw [←HW.out,←hrb];exact Blk.new _ _ _
 have e0:=HW.out;have hK:=(hk.mono (G:=fun k=>k<w.heap.size) (fun _ h _=>h)).upd hU (fun _ _ _ f=>f);have hc0:=rl_cells hb;obtain ⟨c0,c1,c2,c3,c4,c5,c6,c7,c8,c9,c10,c11,c12,c13⟩:=hc0;have CB:=h_ (aBuild_c r a _ W hK hz);have HU:=h_ hU;have HRB:Hid (rb<W.heap.size):=hb.lt;have HL0:=h_ ((hL.mono elAS (G:=fun i=>i<w.heap.size) (fun i hi _=>hi)).upd elAS hU (fun _ _ _ f=>f));obtain ⟨n,Hn⟩:=nm L.length;rw [Hn.out] at hLn ⊢;clear hk hz hK hb hU hL;unfold rlv at CB ⊢;unfold rlCells at CB e0 ⊢;go_enter Tryz.func29,Tryz.ntmps29;go_wp2_with fail
 refine CB.out.mono ?_;rintro e w2 ⟨v,rfl,uu2,hB⟩;obtain ⟨ap,Hap⟩:=nm (applF r);rw [Hap.out] at hB ⊢;have HU2:=h_ (HU.out.then_non uu2);have HLV:=h_ (HL0.out.upd elAS uu2 (fun _ _ _ f=>f));have c12':=u_ c12 uu2 (fun f=>f);have HRB2:Hid (rb<w2.heap.size):=Nat.lt_of_lt_of_le HRB.out uu2.size;clear c0 c1 c2 c3 c4 c5 c6 c7 c8 c9 c10 c11 c12 c13 uu2 e0 CB
 cases ap with
 | false =>
  clear hB;go_wp2_with fail
  go_ret;exact ⟨by rw [chF_not Hap.out];rfl,HU2.out⟩
 | true =>
  by_cases hlong:4096<n
  ·have tl:decide ((n:Int) > 4096)=true:=dT_ (by omega);clear hB;go_wp2_with fail
   go_ret;exact ⟨by rw [chF_long (by rw [Hn.out];exact hlong)];rfl,HU2.out⟩
  ·have tl:decide ((n:Int) > 4096)=false:=dF_ (by omega);obtain ⟨m,Lf,R,GA,gc,gs,rfl,hm,hA,hG⟩:=hB rfl;have hap:=Hap.out;obtain ⟨hg6,him,_⟩:=gR6_of hap;have hi:=imok_of him;have hr:=nxok_of hap;have hst:=stN_le hi;have CI:=h_ (fun (w':World) (u:Upd (fun i=>w2.heap.size≤i) w2 w')=>aInitStates_c (hA.upd (F:=fun i=>(i<w.heap.size)∧i<W.heap.size∨W.heap.size≤i) u (fun i hi _ q=>by omega) (G:=fun i=>i<w2.heap.size) (fun i h _=>h)) (hG.upd u (fun i z hb q=>by have:=hb.lt;omega)) hr (by omega) hg6 hi.cn)
   have HA:=h_ (hA.upd (S:=Non) (G:=fun i=>i<w2.heap.size) Upd.refl (fun _ _ _ f=>f) (fun i h _=>h));have HG:=h_ hG;have HR:=h_ hr;have HI:=h_ hi;obtain ⟨vn,hvn⟩:∃n:Nat,r.vars=(n:Int):=⟨r.vars.toNat,by have:=hi.v0;omega⟩;rw [hvn] at c12';have HVN:Hid (r.vars.toNat=vn):=by show _=_;omega
   have hv6:vn≤6:=by have:=hi.v6;omega
   obtain ⟨H,HH⟩:=nm (2 ^ vn);have hH:H≤64:=by rw [←HH.out];exact Nat.le_trans (Nat.pow_le_pow_right (by decide) hv6) (by decide)
   have hsh:wrap64 ((2:Int) ^ vn)=(H:Int):=by
    have e:((2:Int) ^ vn)=((2 ^ vn:Nat):Int):=by push_cast;rfl
    rw [e,HH.out];exact wrap64_of (by unfold I64;omega)
   obtain ⟨sn,Hsn⟩:=nm (stN r);have hsn:sn≤4000:=by rw [←Hsn.out];exact hst
   obtain ⟨B,hBB⟩:∃b,w2.heap.size=b:=⟨_,rfl⟩;have hWB:w.heap.size≤B:=by have:=HU2.out.size;omega
   have x18:=HA.out.blk.cell 18;rw [Hsn.out] at x18;clear hvn hst hA hG hr hB hap him;unfold pp at CI ⊢;obtain ⟨W3,HW3⟩:=nm (w2.alloc (.cells Tryz.zeroCells125 125))
   have hI0:CkI w2 W3 B B 0:=by
    refine ⟨?_,fun i hi=>absurd hi (Nat.not_lt_zero _),?_,by omega,?_⟩
    ·rw [←zero65 B,←HW3.out,←hBB];exact Blk.new _ _ _
    ·rw [←HW3.out];exact Upd.refl.alloc _
    ·rw [←HW3.out,←hBB];simp
   have HI0:=h_ hI0;have hmm:=@run_makeMap Tryz.prog
   go_upto_region 5 with fail
   rw [HW3.out];clear hI0;go_wp2_with fail
   go_loopg [8,30] 65 (fun gg _ s30 wr=>∃j:Nat,Hid (gg=65 - j)∧j≤65∧s30=.int .i64 j∧Hid (CkI w2 wr B B j))
   case atStart=>exact ⟨0,rfl,by omega,rfl,HI0.out⟩
   case round =>
    obtain ⟨j,Hg,hj,rfl,HIj⟩:=hrel;by_cases hlt:j<65
    ·have hcj:wr.cell? ⟨B,j,none⟩=some (.map none):=by
      rw [HIj.out.arr.cell,arrM_get hlt,if_neg (Nat.lt_irrefl _)]
     have hfj:=HIj.out.arr.frozen j;have hBl:=HIj.out.arr.lt;have hj0:(0:Int)≤(j:Int):=by omega
     have hj1:(j:Int)<65:=by omega
     go_wp2_with fail
     go_roundg (65 - (j+1))
     case measure=>rw [Hg.out];omega
     case rel=>exact ⟨j+1,rfl,by omega,by go_num,HIj.out.step hlt⟩
    ·obtain rfl:j=65:=by omega
     have HS0:=h_ HIj.out.done;clear HIj hmm;go_wp2_with fail
     go_loopg [10,12,39,64] n (fun gg _ _ s39 _ wr=>∃j:Nat,Hid (gg=n - j)∧j≤n∧s39=.int .i64 j∧Hid (CkS w2 wr B B (L.take j))∧Hid (∀s∈L.take j,okS r s=true))
     case atStart=>exact ⟨0,rfl,by omega,rfl,by rw [List.take_zero];exact HS0.out,fun s hs=>(by rw [List.take_zero] at hs;cases hs)⟩
     case round =>
      clear HS0;obtain ⟨j,Hg,hj,rfl,HSj,HOK⟩:=hrel;obtain ⟨wj,rfl⟩:∃x:World,x=wr:=⟨_,rfl⟩;have HLJ:=h_ (HLV.out.upd elAS HSj.out.upd (fun i _ hi q=>by have h1:i<w.heap.size:=hi;have h2:B≤i:=q;omega));by_cases hjn:j<n
      ·have hjl:j<L.length:=by rw [Hn.out];exact hjn
       obtain ⟨b,off,el,rfl,_,_,hce,RA,rc,e1,e2,e3⟩:=HLJ.out.at_ (by decide) hjl;have k0:=hce 0 (by decide);have k1:=hce 1 (by decide);rw [e1] at k0 k1;rw [Nat.add_zero] at k0;rw [←Nat.add_assoc] at k1;have k0':wj.cell? ⟨b,off+j * 2,none⟩=some (.int .i64 L[j].at_):=k0;have k1':wj.cell? ⟨b,off+j * 2+1,none⟩=some (.slice RA L[j].bits.length rc):=k1;have hmem:=List.getElem_mem hjl;have htk:=List.take_succ_eq_append_getElem hjl;clear hce k0 k1 e1;generalize L[j]=s at *;obtain ⟨bn,Hbn⟩:=nm s.bits.length;rw [Hbn.out] at k1' e2;obtain ⟨at_,Hat⟩:=nm s.at_;rw [Hat.out] at k0';obtain ⟨cb,hcb⟩:∃c,wj.heap.size=c:=⟨_,rfl⟩;obtain ⟨W5,HW5⟩:=nm (wj.alloc (.cells #[.int .i64 at_,.slice RA bn rc] 122));have uu5:Upd Non wj W5:=by rw [←HW5.out];exact Upd.refl.alloc _
       have hb5:Blk W5 cb 122 #[.int .i64 at_,.slice RA bn rc]:=by rw [←HW5.out,←hcb];exact Blk.new _ _ _
       have HS5:=h_ (HSj.out.non uu5);have z0:=hb5.cell 0;have z1:=hb5.cell 1;have z18:=u_ x18 HS5.out.upd (by have:=HA.out.inF;omega);have hj0:(0:Int)≤(j:Int):=by omega
       have hjn':(j:Int)<(n:Int):=by omega
       have HSL:=h_ (e3.upd uu5 (fun _ _ _ f=>f));have HB5:=h_ hb5;have HMM:=h_ hmem;have HTK:Hid (L.take (j+1)=L.take j++[s]):=htk;clear hmem htk e3 hb5 uu5 hjl;by_cases h1:at_<0
       ·have t1:decide (at_<0)=true:=dT_ h1;have HNO:Hid (chF r L=false):=chF_bad HMM.out (okS_no (by rw [Hat.out];omega))
        go_upto_region 13 with fail
        rw [HW5.out];refine wp_region_held_drew (S:=fun w'=>w'.cell? ⟨cb,0,none⟩=some (.int .i64 at_)∧w'.cell? ⟨cb,1,none⟩=some (.slice RA bn rc)∧w'.cell? ⟨m,18,none⟩=some (.int .i64 (sn:Int))) (by kernel_rfl) ⟨z0,z1,z18⟩ (fun hHeld=>?_)
        refine wpT 0 ?_;(try simp only [y_,z_]);refine wpT 1 ?_;(try simp only [y_,z_]);refine wpT 2 ?_;(try simp only [y_,z_]);refine wpT 3 ?_;(try simp only [y_,z_]);refine wpU 4 ?_;(try simp only [y_,z_]);refine wpU 5 ?_;(try simp only [y_,z_]);refine wpU 6 ?_;(try simp only [y_,z_]);refine wpT 7 ?_;(try simp only [y_,z_]);refine wpT 8 ?_;(try simp only [y_,z_]);refine wpU 9 ?_;(try simp only [y_,z_]);refine wpU 10 ?_;(try simp only [y_,z_]);refine wpU 11 ?_;(try simp only [y_,z_]);refine wpU 12 ?_;(try simp only [y_,z_]);refine wpU 13 ?_;(try simp only [y_,z_]);refine wpU 14 ?_;(try simp only [y_,z_]);refine wpU 15 ?_;(try simp only [y_,z_]);refine wpU 16 ?_;(try simp only [y_,z_]);refine wpT 17 ?_;(try simp only [y_,z_]);refine aD_ (by kernel_rfl) ?_ _;go_wp2_with fail
        go_ret;exact ⟨by rw [HNO.out];rfl,(HU2.out.trans HS5.out.upd (fun i hi q=>by have h1:=HU2.out.size;have : B≤i:=q;omega)).drewN 1⟩
       ·have t1:decide (at_<0)=false:=dF_ h1;by_cases h2:64<at_
        ·have t2:decide (at_ > 64)=true:=dT_ h2;have HNO:Hid (chF r L=false):=chF_bad HMM.out (okS_no (by rw [Hat.out];omega))
         go_upto_region 13 with fail
         rw [HW5.out];refine wp_region_held_drew (S:=fun w'=>w'.cell? ⟨cb,0,none⟩=some (.int .i64 at_)∧w'.cell? ⟨cb,1,none⟩=some (.slice RA bn rc)∧w'.cell? ⟨m,18,none⟩=some (.int .i64 (sn:Int))) (by kernel_rfl) ⟨z0,z1,z18⟩ (fun hHeld=>?_)
         refine wpT 0 ?_;(try simp only [y_,z_]);refine wpT 1 ?_;(try simp only [y_,z_]);refine wpT 2 ?_;(try simp only [y_,z_]);refine wpT 3 ?_;(try simp only [y_,z_]);refine wpT 4 ?_;(try simp only [y_,z_]);refine wpT 5 ?_;(try simp only [y_,z_]);refine wpT 6 ?_;(try simp only [y_,z_]);refine wpT 7 ?_;(try simp only [y_,z_]);refine wpT 8 ?_;(try simp only [y_,z_]);refine wpU 9 ?_;(try simp only [y_,z_]);refine wpU 10 ?_;(try simp only [y_,z_]);refine wpU 11 ?_;(try simp only [y_,z_]);refine wpU 12 ?_;(try simp only [y_,z_]);refine wpU 13 ?_;(try simp only [y_,z_]);refine wpU 14 ?_;(try simp only [y_,z_]);refine wpU 15 ?_;(try simp only [y_,z_]);refine wpU 16 ?_;(try simp only [y_,z_]);refine wpT 17 ?_;(try simp only [y_,z_]);refine aD_ (by kernel_rfl) ?_ _;go_wp2_with fail
         go_ret;exact ⟨by rw [HNO.out];rfl,(HU2.out.trans HS5.out.upd (fun i hi q=>by have h1:=HU2.out.size;have : B≤i:=q;omega)).drewN 1⟩
        ·have t2:decide (at_ > 64)=false:=dF_ h2;by_cases h3:bn=sn
         ·have h3':sn=bn:=h3.symm;subst h3'
          go_upto_region 13 with fail
          rw [HW5.out];refine wp_region_held_drew (S:=fun w'=>w'.cell? ⟨cb,0,none⟩=some (.int .i64 at_)∧w'.cell? ⟨cb,1,none⟩=some (.slice RA sn rc)∧w'.cell? ⟨m,18,none⟩=some (.int .i64 (sn:Int))) (by kernel_rfl) ⟨z0,z1,z18⟩ (fun hHeld=>?_)
          refine wpT 0 ?_;(try simp only [y_,z_]);refine wpT 1 ?_;(try simp only [y_,z_]);refine wpT 2 ?_;(try simp only [y_,z_]);refine wpT 3 ?_;(try simp only [y_,z_]);refine wpT 4 ?_;(try simp only [y_,z_]);refine wpT 5 ?_;(try simp only [y_,z_]);refine wpT 6 ?_;(try simp only [y_,z_]);refine wpT 7 ?_;(try simp only [y_,z_]);refine wpT 8 ?_;(try simp only [y_,z_]);refine wpT 9 ?_;(try simp only [y_,z_]);refine wpT 10 ?_;(try simp only [y_,z_]);refine wpT 11 ?_;(try simp only [y_,z_]);refine wpT 12 ?_;(try simp only [y_,z_]);refine wpT 13 ?_;(try simp only [y_,z_]);refine wpT 14 ?_;(try simp only [y_,z_]);refine wpT 15 ?_;(try simp only [y_,z_]);refine wpT 16 ?_;(try simp only [y_,z_]);refine wpT 17 ?_;(try simp only [y_,z_]);refine aD_ (by kernel_rfl) ?_ _;clear hHeld;obtain ⟨k,hk⟩:∃k:Nat,at_=(k:Int):=⟨at_.toNat,by omega⟩;subst hk;have hk65:k<65:=by omega
          obtain ⟨W6,HW6⟩:=nm W5.drew;have uu6:Upd Non W5 W6:=by rw [←HW6.out];exact Upd.refl.drew
          have y0:=u_ z0 uu6 (fun f=>f);have y1:=u_ z1 uu6 (fun f=>f);have HS6:=h_ (HS5.out.non uu6);have HSL6:=h_ (HSL.out.upd uu6 (fun _ _ _ f=>f));rw [HW6.out];clear z0 z1 z18 uu6 HSL HB5;go_wp2_with fail
          go_loopg [12,64] sn (fun gg _ s64 wr=>∃i:Nat,Hid (gg=sn - i)∧i≤sn∧s64=.int .i64 i∧Hid (∀x∈s.bits.take i,x.toNat≤1)∧wr=W6)
          case atStart=>exact ⟨0,rfl,by omega,rfl,fun x hx=>(by rw [List.take_zero] at hx;cases hx),rfl⟩
          case round =>
           obtain ⟨i,Hg2,hi,rfl,HTB,rfl⟩:=hrel;by_cases hin:i<sn
           ·have hib:i<s.bits.length:=by rw [Hbn.out];exact hin
            obtain ⟨b',o',rfl,_,_,hcc⟩:=HSL6.out.at_ (k:=i) (by unfold u8s;rw [List.length_map];exact hib);have hcc':wr.cell? ⟨b',o'+i,none⟩=some (.int .u8 (s.bits[i].toNat:Int)):=by rw [hcc];unfold u8s;rw [List.getElem_map]
            have hxm:=List.getElem_mem hib;have htk2:=List.take_succ_eq_append_getElem hib;generalize s.bits[i]=x at *;have hi0:(0:Int)≤(i:Int):=by omega
            have hi1:(i:Int)<(sn:Int):=by omega
            clear hcc;by_cases hx1:x.toNat≤1
            ·have tx:decide ((x.toNat:Int) > 1)=false:=dF_ (by omega)
             have HTB2:Hid (∀y∈s.bits.take (i+1),y.toNat≤1):=fun y hy=>by
              rw [htk2,List.mem_append,List.mem_singleton] at hy;rcases hy with hy | rfl
              ·exact HTB.out y hy
              ·exact hx1
             clear hxm htk2 hx1;go_wp2_with fail
             go_roundg (sn - (i+1))
             case measure=>rw [Hg2.out];omega
             case rel=>exact ⟨i+1,rfl,by omega,by go_num,HTB2.out,rfl⟩
            ·have tx:decide ((x.toNat:Int) > 1)=true:=dT_ (by omega);have HNO:Hid (chF r L=false):=chF_bad HMM.out (okS_big hxm hx1);clear hxm htk2 hx1;go_wp2_with fail
             go_ret;exact ⟨by rw [HNO.out];rfl,HU2.out.trans HS6.out.upd (fun i hi q=>by have h1:=HU2.out.size;have : B≤i:=q;omega)⟩
           ·obtain rfl:sn=i:=by omega
            have HAL:Hid (∀x∈s.bits,x.toNat≤1):=by have:=HTB.out;rw [List.take_of_length_le (by rw [Hbn.out];exact Nat.le_refl _)] at this;exact this
            have HOKS:Hid (okS r s=true):=okS_of ⟨by rw [Hat.out];omega,by rw [Hat.out];omega,by rw [Hbn.out,Hsn.out]⟩ HAL.out;obtain ⟨wD,HwD⟩:=nm wr.drew;have uD:Upd Non wr wD:=by rw [←HwD.out];exact Upd.refl.drew
            have HSD:=h_ (HS6.out.non uD);have q0:=u_ y0 uD (fun f=>f);have q1:=u_ y1 uD (fun f=>f);have qa:wD.cell? ⟨B,k,none⟩=some (.map (some (B+1+k))):=by rw [HSD.out.arr.cell,arrM_get hk65,if_pos hk65]
            have hslD:=HSL6.out.upd uD (fun _ _ _ f=>f);have hcv:=run_rowstr (n:=sn) (c:=rc) hslD Hbn.out.symm;obtain ⟨w10,hst,hs10,hu10⟩:=SMap.store (P:=Tryz.prog) (t:=87) Tryz.underlying87 Tryz.underlying9 (HSD.out.mp k hk65) (kstr s.bits) (.bool true);have HP:=h_ (HSD.out.put hk65 Hat.out hs10 hu10)
            have hcbn:¬cb=B+1+k:=fun e=>by
             have h1:=HSD.out.mp k hk65;have h2:=World.block_lt_of_cell? wD _ q0;rw [←e] at h1;obtain ⟨es,ck,h3,_⟩:=h1;have h4:=q0;simp [World.cell?,h3] at h4
            have HQ:Hid (w10.cell? ⟨cb,0,none⟩=some (.int .i64 (k:Int))∧w10.cell? ⟨cb,1,none⟩=some (.slice RA sn rc)∧w10.cell? ⟨B,k,none⟩=some (.map (some (B+1+k)))∧(convert 84 9 (.slice RA sn rc)).run Tryz.prog w10=.ok (.string (kstr s.bits)) w10):=⟨u_ (S:=(·=B+1+k)) q0 hu10 hcbn,u_ (S:=(·=B+1+k)) q1 hu10 hcbn,u_ (S:=(·=B+1+k)) qa hu10 (by omega),run_rowstr (n:=sn) (c:=rc) (hslD.upd hu10 (fun i _ hi e=>by have h1:i<w.heap.size:=hi;omega)) Hbn.out.symm⟩
            have hk0:(0:Int)≤(k:Int):=by omega
            have hk1:(k:Int)<65:=by omega
            clear hs10 hu10 hslD uD y0 y1 hcbn;go_wp2_with fail
            refine wp_region_held_drew (S:=fun w'=>w'.cell? ⟨cb,0,none⟩=some (.int .i64 (k:Int))∧w'.cell? ⟨cb,1,none⟩=some (.slice RA sn rc)∧w'.cell? ⟨B,k,none⟩=some (.map (some (B+1+k)))∧(convert 84 9 (.slice RA sn rc)).run Tryz.prog w'=.ok (.string (kstr s.bits)) w') (by kernel_rfl) (by rw [HwD.out];exact ⟨q0,q1,qa,hcv⟩) (fun hHeld=>?_)
            rw [HwD.out] at hHeld ⊢;refine wpT 0 ?_;(try simp only [y_,z_]);refine wpT 1 ?_;(try simp only [y_,z_]);refine wpT 2 ?_;(try simp only [y_,z_]);refine wpT 3 ?_;(try simp only [y_,z_]);refine wpT 4 ?_;(try simp only [y_,z_]);refine wpT 5 ?_;(try simp only [y_,z_]);refine wpT 6 ?_;(try simp only [y_,z_]);refine aR_ (rs:=[7]) (by kernel_rfl) (by simp) ?_;refine aC_ rfl (fun K hK=>?_) aN_;go_simp;refine hK.out _ _ ?_ (fun hHeld=>?_)
            ·exact HQ.out
            clear hK K;(try simp only [y_,z_]);refine aD_ (by kernel_rfl) ?_ _;clear hHeld;go_wp2_with fail
            go_roundg (n - (j+1))
            case measure=>rw [Hg.out];omega
            case rel=>exact ⟨j+1,rfl,by omega,by go_num,by rw [HTK.out];exact HP.out,fun s' hs'=>by
             rw [HTK.out,List.mem_append,List.mem_singleton] at hs';rcases hs' with hs' | rfl
             ·exact HOK.out s' hs'
             ·exact HOKS.out⟩
         ·have t3:((bn:Int) != (sn:Int))=true:=by simp;omega
          have HNO:Hid (chF r L=false):=chF_bad HMM.out (okS_no (by rw [Hbn.out,Hsn.out];omega))
          go_upto_region 13 with fail
          rw [HW5.out];refine wp_region_held_drew (S:=fun w'=>w'.cell? ⟨cb,0,none⟩=some (.int .i64 at_)∧w'.cell? ⟨cb,1,none⟩=some (.slice RA bn rc)∧w'.cell? ⟨m,18,none⟩=some (.int .i64 (sn:Int))) (by kernel_rfl) ⟨z0,z1,z18⟩ (fun hHeld=>?_)
          refine wpT 0 ?_;(try simp only [y_,z_]);refine wpT 1 ?_;(try simp only [y_,z_]);refine wpT 2 ?_;(try simp only [y_,z_]);refine wpT 3 ?_;(try simp only [y_,z_]);refine wpT 4 ?_;(try simp only [y_,z_]);refine wpT 5 ?_;(try simp only [y_,z_]);refine wpT 6 ?_;(try simp only [y_,z_]);refine wpT 7 ?_;(try simp only [y_,z_]);refine wpT 8 ?_;(try simp only [y_,z_]);refine wpT 9 ?_;(try simp only [y_,z_]);refine wpT 10 ?_;(try simp only [y_,z_]);refine wpT 11 ?_;(try simp only [y_,z_]);refine wpT 12 ?_;(try simp only [y_,z_]);refine wpT 13 ?_;(try simp only [y_,z_]);refine wpT 14 ?_;(try simp only [y_,z_]);refine wpT 15 ?_;(try simp only [y_,z_]);refine wpT 16 ?_;(try simp only [y_,z_]);refine wpT 17 ?_;(try simp only [y_,z_]);refine aD_ (by kernel_rfl) ?_ _;go_wp2_with fail
          go_ret;exact ⟨by rw [HNO.out];rfl,(HU2.out.trans HS5.out.upd (fun i hi q=>by have h1:=HU2.out.size;have : B≤i:=q;omega)).drewN 1⟩
      ·obtain rfl:n=j:=by omega
       have hfull:L.take n=L:=List.take_of_length_le (by rw [Hn.out];exact Nat.le_refl _);rw [hfull] at HSj HOK;have CIj:=h_ (CI.out wj (hBB ▸ HSj.out.upd));clear hfull CI HLJ;go_wp2_with fail
       refine CIj.out.mono ?_;rintro e w4 ⟨A0,c0,rfl,hE0,_,uu4⟩;obtain ⟨n0,Hn0⟩:=nm (2 ^ gR r);rw [Hn0.out] at hE0 ⊢;have HE0:=h_ hE0;have HS4:=h_ (HSj.out.non uu4);have hn0:n0=(initsF r).length:=by rw [initsF_len,Hn0.out]
       have HN0:=h_ hn0;have hn064:n0≤64:=by rw [←Hn0.out];exact Nat.le_trans (Nat.pow_le_pow_right (by decide) hg6) (by decide)
       have qa0:w4.cell? ⟨B,0,none⟩=some (.map (some (B+1))):=by rw [HS4.out.arr.cell,arrM_get (by decide),if_pos (by decide)]
       have HM0:Hid (SMap w4 (B+1) (seenA L 0)):=HS4.out.mp 0 (by decide);clear hE0 uu4 hn0 HSj CIj;go_wp2_with fail
       go_loopg [14,82] n0 (fun gg _ s82 wr=>∃j:Nat,Hid (gg=n0 - j)∧j≤n0∧s82=.int .i64 j∧Hid (∀b∈(initsF r).take j,(⟨0,bbs b⟩:AS)∈L)∧wr=w4)
       case atStart=>exact ⟨0,rfl,by omega,rfl,fun b hb=>(by rw [List.take_zero] at hb;cases hb),rfl⟩
       case round =>
        obtain ⟨j,Hg2,hj2,rfl,HIN,rfl⟩:=hrel;by_cases hjn2:j<n0
        ·have hjl:j<(initsF r).length:=by rw [←HN0.out];exact hjn2
         obtain ⟨g,RA,rc,rfl,hcell,_,hsl⟩:=rows_at HE0.out (i:=j) (by rw [List.length_map];exact hjl);rw [List.getElem_map] at hcell hsl;have hbm:=List.getElem_mem hjl;have htk:=List.take_succ_eq_append_getElem hjl;generalize (initsF r)[j]=b at *;obtain ⟨bl,Hbl⟩:=nm (bbs b).length;rw [Hbl.out] at hcell;have hcv:=run_rowstr (n:=bl) (c:=rc) hsl Hbl.out.symm;have hlk:=SMap.look1 (P:=Tryz.prog) (t:=87) Tryz.underlying87 Tryz.underlying9 (z:=.bool false) (by kernel_rfl) HM0.out (kstr (bbs b));rw [seenA_get] at hlk;have hj0:(0:Int)≤(j:Int):=by omega
         have hj1:(j:Int)<(n0:Int):=by omega
         by_cases hin:(⟨((0:Nat):Int),bbs b⟩:AS)∈L
         ·rw [dT_ hin] at hlk
          have HIN2:Hid (∀b∈(initsF r).take (j+1),(⟨0,bbs b⟩:AS)∈L):=fun b' hb'=>by
           rw [htk,List.mem_append,List.mem_singleton] at hb';rcases hb' with hb' | rfl
           ·exact HIN.out b' hb'
           ·exact hin
          clear hbm htk hin hsl;go_wp2_with fail
          go_roundg (n0 - (j+1))
          case measure=>rw [Hg2.out];omega
          case rel=>exact ⟨j+1,rfl,by omega,by go_num,HIN2.out,rfl⟩
         ·rw [dF_ hin] at hlk;have HNO:Hid (chF r L=false):=chF_init hbm hin;clear hbm htk hin hsl;go_wp2_with fail
          go_ret;exact ⟨by rw [HNO.out];rfl,HU2.out.trans HS4.out.upd (fun i hi q=>by have h1:=HU2.out.size;have : B≤i:=q;omega)⟩
        ·obtain rfl:n0=j:=by omega
         obtain ⟨w4,rfl⟩:∃x:World,x=wr:=⟨_,rfl⟩
         have HINI:Hid (∀b∈initsF r,(⟨0,bbs b⟩:AS)∈L):=by
          have:=HIN.out;rw [List.take_of_length_le (by rw [←HN0.out];exact Nat.le_refl _)] at this;exact this
         clear HIN qa0 HM0 HE0;go_wp2_with fail
         go_loopg [16,17,95] n (fun gg _ _ s95 wr=>∃j:Nat,Hid (gg=n - j)∧j≤n∧s95=.int .i64 j∧Hid (CkS w2 wr B B L)∧Hid (∀s∈L.take j,nextS r L s=true))
         case atStart=>exact ⟨0,rfl,by omega,rfl,HS4.out,fun s hs=>(by rw [List.take_zero] at hs;cases hs)⟩
         case round =>
          clear HS4;obtain ⟨j,Hg3,hj3,rfl,HSj,HNX⟩:=hrel;obtain ⟨wj,rfl⟩:∃x:World,x=wr:=⟨_,rfl⟩;have HLJ:=h_ (HLV.out.upd elAS HSj.out.upd (fun i _ hi q=>by have h1:i<w.heap.size:=hi;have h2:B≤i:=q;omega));by_cases hjn3:j<n
          ·have hjl:j<L.length:=by rw [Hn.out];exact hjn3
           obtain ⟨b,off,el,rfl,_,_,hce,RA,rc,e1,e2,e3⟩:=HLJ.out.at_ (by decide) hjl;have k0:=hce 0 (by decide);have k1:=hce 1 (by decide);rw [e1] at k0 k1;rw [Nat.add_zero] at k0;rw [←Nat.add_assoc] at k1;have k0':wj.cell? ⟨b,off+j * 2,none⟩=some (.int .i64 L[j].at_):=k0;have k1':wj.cell? ⟨b,off+j * 2+1,none⟩=some (.slice RA L[j].bits.length rc):=k1;have hmem:=List.getElem_mem hjl;have hok:=okS_at (HOK.out _ hmem);have htk:=List.take_succ_eq_append_getElem hjl;clear hce k0 k1 e1;generalize L[j]=s at *;obtain ⟨⟨ha0,ha1,hbl⟩,hbb⟩:=hok;obtain ⟨k,hk⟩:∃k:Nat,s.at_=(k:Int):=⟨s.at_.toNat,by omega⟩;have hbl2:s.bits.length=sn:=by rw [hbl,Hsn.out]
           rw [hbl2] at k1' e2;rw [hk] at k0';have hk64:k≤64:=by omega
           obtain ⟨ob,Hob⟩:=nm (ubs s.bits);have hob:bbs ob=s.bits:=by rw [←Hob.out];exact bbs_ubs hbb
           have hol:ob.length=sn:=by rw [←hbl2,←hob];unfold bbs;rw [List.length_map]
           have HNS:Hid (nextS r L s=if k=64 then safeF r ob else (succsF r k ob).all fun b=>decide (⟨((k+1:Nat):Int),bbs b⟩∈L)):=by
            show _=_;unfold nextS;rw [Hob.out,hk,Int.toNat_natCast];by_cases e:k=64
            ·rw [if_pos e,if_pos (by omega)]
            ·rw [if_neg e,if_neg (by omega)];rfl
           obtain ⟨cb,hcb⟩:∃c,wj.heap.size=c:=⟨_,rfl⟩;obtain ⟨W5,HW5⟩:=nm (wj.alloc (.cells #[.int .i64 (k:Int),.slice RA sn rc] 122));have uu5:Upd Non wj W5:=by rw [←HW5.out];exact Upd.refl.alloc _
           have hb5:Blk W5 cb 122 #[.int .i64 (k:Int),.slice RA sn rc]:=by rw [←HW5.out,←hcb];exact Blk.new _ _ _
           have HS5:=h_ (HSj.out.non uu5);have z0:=hb5.cell 0;have z1:=hb5.cell 1;have hj0:(0:Int)≤(j:Int):=by omega
           have hjn':(j:Int)<(n:Int):=by omega
           have HSL:Hid (Sl W5 (fun i=>i<w.heap.size) RA (b8s ob)):=by show Sl _ _ _ _;rw [b8s_u8s,hob];exact e3.upd uu5 (fun _ _ _ f=>f)
           have HMM:=h_ hmem;have HTK:Hid (L.take (j+1)=L.take j++[s]):=htk;have HOL:=h_ hol;have HRC:=h_ e2;have HNO:Hid (nextS r L s=false→∀w',Upd (B≤·) w2 w'→chF r L=false∧Upd Non w w'):=fun h w' uu=>⟨chF_next hmem h,HU2.out.trans uu (fun i hi q=>by have h1:=HU2.out.size;have : B≤i:=q;omega)⟩
           have HYES:Hid (nextS r L s=true→∀s'∈L.take (j+1),nextS r L s'=true):=fun h s' hs'=>by
            rw [htk,List.mem_append,List.mem_singleton] at hs';rcases hs' with hs' | rfl
            ·exact HNX.out s' hs'
            ·exact h
           clear hmem htk e3 hb5 uu5 hjl hob hol e2 hbl hbl2 hbb ha0 ha1 hk
           go_upto_region 32 with fail
           rw [HW5.out];by_cases h64:k=64
           ·subst h64;have HNS2:Hid (nextS r L s=safeF r ob):=by show _=_;rw [HNS.out,if_pos rfl]
            have hA5:=HA.out.upd (G:=fun i=>i<w2.heap.size) HS5.out.upd (fun i _ hi q=>by have : B≤i:=q;omega) (fun _ _ q=>q);have hG5:=HG.out.upd HS5.out.upd (fun i z hb q=>by have h1:=hb.lt;have : B≤i:=q;omega);have CS:=h_ (aSafe_c (bc:=rc) hA5 (by have h1:=hG5.1;rw [gposR_len] at h1;have h2:=(gR6_of Hap.out).1;omega) hG5.1 hG5.2 (by rw [Hsn.out];omega) HSL.out (by rw [HOL.out,Hsn.out]) (fun q hq=>by rw [HOL.out,←Hsn.out];exact gposR_lt q hq))
            rw [HOL.out] at CS;unfold pp at CS;obtain ⟨sf,Hsf⟩:=nm (safeF r ob);rw [Hsf.out] at CS HNS2;clear hA5 hG5 HNS;go_wp2_with fail
            refine CS.out.mono ?_;rintro e w9 ⟨rfl,uu9⟩;have HS9:=h_ (HS5.out.non uu9);have z0':=u_ z0 uu9 (fun f=>f)
            cases sf with
            | false =>
             go_wp2_with fail
             go_ret;obtain ⟨h1,h2⟩:=HNO.out HNS2.out _ HS9.out.upd;exact ⟨by rw [h1];rfl,h2⟩
            | true =>
             have HY:=h_ (HYES.out HNS2.out);go_wp2_with fail
             go_loopg [17] 0 (fun _ s17 wr=>s17=.int .i64 0∧wr=w9)
             case atStart=>exact ⟨rfl,rfl⟩
             case round =>
              obtain ⟨rfl,rfl⟩:=hrel;go_wp2_with fail
              go_roundg (n - (j+1))
              case measure=>rw [Hg3.out];omega
              case rel=>exact ⟨j+1,rfl,by omega,by go_num,HS9.out,HY.out⟩
           ·have hk6:k<64:=by omega
            have HNS2:Hid (nextS r L s=(succsF r k ob).all fun b=>decide (⟨((k+1:Nat):Int),bbs b⟩∈L)):=by show _=_;rw [HNS.out,if_neg h64]
            have tk:((k:Int)==64)=false:=by simp;omega
            have tk2:decide ((k:Int)<64)=true:=dT_ (by omega);clear HNS;go_wp2_with fail
            go_loopg [17] H (fun gg s17 wr=>∃h:Nat,Hid (gg=H - h)∧h≤H∧s17=.int .i64 h∧Hid (∀b∈(succsF r k ob).take h,(⟨((k+1:Nat):Int),bbs b⟩:AS)∈L)∧Hid (CkS w2 wr B B L)∧Hid (Upd Non W5 wr))
            case atStart=>exact ⟨0,rfl,by omega,rfl,fun b hb=>(by rw [List.take_zero] at hb;cases hb),HS5.out,Upd.refl⟩
            case round =>
             obtain ⟨h,Hg4,hh,rfl,HIN,HSh,HUh⟩:=hrel;obtain ⟨wh,rfl⟩:∃x:World,x=wr:=⟨_,rfl⟩;have y0:=u_ z0 HUh.out (fun f=>f);have y1:=u_ z1 HUh.out (fun f=>f);have cv:=u_ c12' HSh.out.upd (by have:=HRB2.out;omega);by_cases hlth:h<H
             ·have th:(h:Int)<(H:Int):=by omega
              obtain ⟨wD,HwD⟩:=nm wh.drew;have uD:Upd Non wh wD:=by rw [←HwD.out];exact Upd.refl.drew
              have HSD:=h_ (HSh.out.non uD);have hAh:=HA.out.upd (G:=fun i=>i<w2.heap.size) HSD.out.upd (fun i _ hi q=>by have : B≤i:=q;omega) (fun _ _ q=>q);have CN:=h_ (aNext_c (bc:=rc) (k:=k) (h:=h) hAh HR.out (by rw [Hsn.out];omega) (HSL.out.upd (HUh.out.then_non uD) (fun _ _ _ f=>f)) (by rw [HOL.out,Hsn.out]) (by rw [HOL.out];exact HRC.out) hk6 (by omega))
              rw [HOL.out,Hsn.out] at CN;unfold pp at CN;have ya:wh.cell? ⟨B,k+1,none⟩=some (.map (some (B+1+(k+1)))):=by rw [HSh.out.arr.cell,arrM_get (by omega),if_pos (by omega)]
              have q1:IntKind.i64.wrap ((k:Int)+1)=(k:Int)+1:=i64w_of (by unfold I64;omega);have q2:(0:Int)≤(k:Int)+1:=by omega
              have q3:(k:Int)+1<65:=by omega
              have q4:((k:Int)+1).toNat=k+1:=by omega
              clear hAh
              go_upto_region 37 with fail
              refine wp_region_held_drew (S:=fun w'=>w'.cell? ⟨cb,0,none⟩=some (.int .i64 (k:Int))∧w'.cell? ⟨cb,1,none⟩=some (.slice RA sn rc)∧w'.cell? ⟨B,k+1,none⟩=some (.map (some (B+1+(k+1))))) (by kernel_rfl) ⟨y0,y1,ya⟩ (fun hHeld=>?_)
              rw [HwD.out] at hHeld ⊢;refine wpT 0 ?_;(try simp only [y_,z_]);refine wpT 1 ?_;(try simp only [y_,z_]);refine wpT 2 ?_;(try simp only [y_,z_]);refine wpT 3 ?_;(try simp only [y_,z_]);refine wpT 4 ?_;(try simp only [y_,z_]);refine wpT 5 ?_;(try simp only [y_,z_]);refine wpT 6 ?_;(try simp only [y_,z_]);refine wpT 7 ?_;(try simp only [y_,z_]);refine wpT 8 ?_;(try simp only [y_,z_]);refine wpT 9 ?_;(try simp only [y_,z_]);refine wpT 10 ?_;(try simp only [y_,z_]);refine aR_ (rs:=[11]) (by kernel_rfl) (by simp) ?_;refine aC_ rfl (fun K hK=>?_) aN_;go_simp;refine CN.out.mono ?_;rintro e w9 ⟨AX,cX,rfl,hoX,hatX,uX⟩;go_wp2_with fail
              refine hK.out _ _ ?_ (fun hHeld=>?_)
              ·exact ⟨u_ (S:=Non) hHeld.1 uX (fun f=>f),u_ (S:=Non) hHeld.2.1 uX (fun f=>f),u_ (S:=Non) hHeld.2.2 uX (fun f=>f)⟩
              clear hK K;(try simp only [y_,z_]);have HS9:=h_ (HSD.out.non uX);obtain ⟨x,Hx⟩:=nm (succF k h.testBit r ob);rw [Hx.out] at hoX;have hsup:=applF_sup Hap.out;have hxl:x.length=sn:=by rw [←Hx.out,←Hsn.out];exact succF_len hsup.1 hsup.2 k _ (by rw [HOL.out,Hsn.out])
              have hxb:(bbs x).length=sn:=by unfold bbs;rw [List.length_map,hxl]
              have hcv:=run_rowstr (n:=sn) (c:=cX) (l:=bbs x) (by have:=hoX.sl;rw [b8s_u8s] at this;exact this) hxb.symm;have hlk:=SMap.look1 (P:=Tryz.prog) (t:=87) Tryz.underlying87 Tryz.underlying9 (z:=.bool false) (by kernel_rfl) (HS9.out.mp (k+1) (by omega)) (kstr (bbs x))
              rw [seenA_get] at hlk
              have HTK3:Hid ((succsF r k ob).take (h+1)=(succsF r k ob).take h++[x]):=by
               show _=_;have hl:h<(succsF r k ob).length:=by rw [succsF_len,HVN.out,HH.out];exact hlth
               rw [List.take_succ_eq_append_getElem hl,←Hx.out]
               congr 2
               simp [succsF]
              have hxm:x∈succsF r k ob:=by
               rw [←Hx.out];unfold succsF;rw [List.mem_map];exact ⟨h,by rw [List.mem_range,HVN.out,HH.out];exact hlth,rfl⟩
              have HU9:Hid (Upd Non W5 w9):=(HUh.out.then_non uD).then_non uX;have HXM:=h_ hxm;clear hoX hatX uX hsup hxl hxb hxm CN uD;refine aR_ (rs:=[12]) (by kernel_rfl) (by simp) ?_;refine aC_ rfl (fun K hK=>?_) aN_;go_simp;refine hK.out _ _ ?_ (fun hHeld=>?_)
              ·exact hHeld
              clear hK K;(try simp only [y_,z_]);by_cases hin:(⟨((k+1:Nat):Int),bbs x⟩:AS)∈L
              ·rw [dT_ hin] at hlk
               have HIN2:Hid (∀b∈(succsF r k ob).take (h+1),(⟨((k+1:Nat):Int),bbs b⟩:AS)∈L):=fun b' hb'=>by
                rw [HTK3.out,List.mem_append,List.mem_singleton] at hb';rcases hb' with hb' | rfl
                ·exact HIN.out b' hb'
                ·exact hin
               clear hin;refine aR_ (rs:=[13]) (by kernel_rfl) (by simp) ?_;refine aC_ rfl (fun K hK=>?_) aN_;go_simp;refine hK.out _ _ ?_ (fun hHeld=>?_)
               ·exact hHeld
               clear hK K;(try simp only [y_,z_]);refine wpT 14 ?_;(try simp only [y_,z_]);refine aD_ (by kernel_rfl) ?_ _;clear hHeld;go_wp2_with fail
               go_roundg (H - (h+1))
               case measure=>rw [Hg4.out];omega
               case rel=>exact ⟨h+1,rfl,by omega,by go_num,HIN2.out,HS9.out,HU9.out⟩
              ·rw [dF_ hin] at hlk
               have HF:Hid (nextS r L s=false):=by
                show _=_;rw [HNS2.out,Bool.eq_false_iff];intro q;rw [List.all_eq_true] at q;exact hin (of_decide_eq_true (q x HXM.out))
               clear hin;refine aR_ (rs:=[13]) (by kernel_rfl) (by simp) ?_;refine aC_ rfl (fun K hK=>?_) aN_;go_simp;refine hK.out _ _ ?_ (fun hHeld=>?_)
               ·exact hHeld
               clear hK K;(try simp only [y_,z_]);refine wpT 14 ?_;(try simp only [y_,z_]);refine aD_ (by kernel_rfl) ?_ _;clear hHeld;go_wp2_with fail
               go_ret;obtain ⟨h1,h2⟩:=HNO.out HF.out _ HS9.out.upd;exact ⟨by rw [h1];rfl,h2⟩
             ·obtain rfl:H=h:=by omega
              have hfull:(succsF r k ob).take H=succsF r k ob:=List.take_of_length_le (by rw [succsF_len,HVN.out,HH.out];exact Nat.le_refl _);have HY:=h_ (HYES.out (by rw [HNS2.out,List.all_eq_true];intro b hb;exact dT_ (HIN.out b (by rw [hfull];exact hb))));clear hfull;go_wp2_with fail
              go_roundg (n - (j+1))
              case measure=>rw [Hg3.out];omega
              case rel=>exact ⟨j+1,rfl,by omega,by go_num,HSh.out,HY.out⟩
          ·obtain rfl:n=j:=by omega
           have HYES:Hid (chF r L=true):=chF_iff.2 ⟨Hap.out,by rw [Hn.out];omega,HOK.out,HINI.out,by have:=HNX.out;rw [List.take_of_length_le (by rw [Hn.out];exact Nat.le_refl _)] at this;exact this⟩
           go_wp2_with fail
           go_ret;exact ⟨by rw [HYES.out];rfl,HU2.out.trans HSj.out.upd (fun i hi q=>by have h1:=HU2.out.size;have : B≤i:=q;omega)⟩
def qv (n:Int):Pt:=.mk n 0 0 0 []
def q2 (k:Int) (a b:Pt):Pt:=.mk 0 k 0 0 [a,b]
def q1c (n:Int):Pt:=.mk 0 1 n 0 []
def exL1:Pt:=q2 4 (qv 1) (qv 2)
def exR1:Pt:=q2 4 (q2 11 (qv 1) (qv 2)) (q2 12 (q2 9 (qv 1) (qv 2)) (q1c 1))
def exA:Rl:=⟨⟨#[114]⟩,exL1,exR1,[],2,0⟩
def exB:Rl:=⟨⟨#[102]⟩,exL1,q2 10 (qv 1) (qv 2),[],2,0⟩
def exS:List (List Bool):=[[false,false,false,false],[true,false,true,false],[true,true,false,false]]
theorem exA_appl:applF exA=true:=by decide +kernel
theorem exB_appl:applF exB=true:=by decide +kernel
theorem exA_closed:∀k,k<64→∀b∈exS,∀h,h<4→succF k h.testBit exA b∈exS:=by decide +kernel
theorem exA_init:∀b∈initsF exA,b∈exS:=by decide +kernel
theorem exA_safe:∀b∈exS,safeF exA b=true:=by decide +kernel
theorem exA_lvl:∀k,k≤64→∀b∈lvl exA k,b∈exS
 | 0,_,b,hb=>exA_init b (lvl_init.1 hb)
 | k+1,hk,b,hb=>by
  obtain ⟨a,ha,hb⟩:=lvl_succ.1 hb;have h1:=exA_lvl k (by omega) a ha;unfold succsF at hb;obtain ⟨h,hh,rfl⟩:=List.mem_map.1 hb;exact exA_closed k (by omega) a h1 h (by have:=List.mem_range.1 hh;exact this)
theorem nodup_len:∀{l S:List (List Bool)},l.Nodup→(∀x∈l,x∈S)→l.length≤S.length
 | [],_,_,_=>Nat.zero_le _
 | a::l,S,h,hs=>by
  rw [List.nodup_cons] at h;have h1:=nodup_len (S:=S.erase a) h.2 (fun x hx=>(List.mem_erase_of_ne (show x≠a from fun e=>h.1 (e ▸ hx))).2 (hs x (by simp [hx])));have h2:=hs a (by simp);rw [List.length_erase_of_mem h2] at h1;have h3:=List.length_pos_of_mem h2;rw [List.length_cons];omega
theorem exA_len:∀n,n≤65→n≤(lvls exA n).length∧(lvls exA n).length≤3 * n
 | 0,_=>⟨Nat.zero_le _,Nat.le_refl _⟩
 | n+1,hn=>by
  obtain ⟨h1,h2⟩:=exA_len n (by omega);rw [lvls_succ,List.length_append,List.length_map];have h3:(lvl exA n).length≤3:=nodup_len (S:=exS) (srt_nodup (lvl_srt exA n)) (fun b hb=>exA_lvl n (by omega) b hb);have h4:0<(lvl exA n).length:=List.length_pos_iff.2 (lvl_ne exA n);omega
theorem exA_aut:autF exA=some (lvls exA 65)∧64<(lvls exA 65).length∧(lvls exA 65).length≤4096:=by
 obtain ⟨h1,h2⟩:=exA_len 65 (Nat.le_refl _);exact ⟨autF_some.2 ⟨exA_appl,by omega,fun b hb=>exA_safe b (exA_lvl 64 (Nat.le_refl _) b hb),rfl⟩,by omega,by omega⟩
theorem exB_aut:autF exB=none:=by
 have h:(lvl exB 64).all (safeF exB)=false:=by decide +kernel
 unfold autF;rw [if_neg];rintro ⟨_,_,q⟩;rw [h] at q;cases q
theorem exA_check:chF exA ((lvls exA 65).map asE)=true:=ch_aut exA_aut.1 (fun _=>Iff.rfl) exA_aut.2.2
theorem exA_none:chF exA []=false:=by decide +kernel
end Go.Proofs.YtifhejahbbnkiaaGreat
namespace Go.Proofs.YtifhejahbbnkiaaGreat
open Go
section
variable {P:Program} {ops:Array Oper} {Q:Exit→Act→World→Prop} {md:Region.Mode} {S:World→Prop}
def mkA (a:Act) (ds:List Nat) (g:Nat→Value):Act:={ a with tmps:=ds.foldl (fun x t=>x.setIfInBounds t (g t)) a.tmps }
theorem fold_get (g:Nat→Value):∀(ds:List Nat) (x:Array Value) (t:Nat),(ds.foldl (fun x t=>x.setIfInBounds t (g t)) x)[t]?=if t∈ds∧t<x.size then some (g t) else x[t]?
 | [],x,t=>by simp
 | d::ds,x,t=>by
  rw [List.foldl_cons,fold_get g ds];by_cases h:t<x.size
  ·by_cases h1:t∈ds
   ·rw [if_pos ⟨h1,by simpa using h⟩,if_pos ⟨by simp [h1],h⟩]
   ·rw [if_neg (fun q=>h1 q.1)];by_cases e:d=t
    ·subst e;rw [if_pos ⟨by simp,h⟩];simp [h]
    ·rw [if_neg (fun q=>by simp [Ne.symm e,h1] at q),Array.getElem?_setIfInBounds_ne e]
  ·rw [if_neg (fun q=>h (by simpa using q.2)),if_neg (fun q=>h q.2),Array.getElem?_eq_none (by simp;omega),Array.getElem?_eq_none (by omega)]
theorem mkA_eq {a a0:Act} {ds:List Nat} (h1:a.defers=a0.defers) (h2:a.tmps.size=a0.tmps.size) (h3:∀t,t ∉ ds→a.tmps[t]?=a0.tmps[t]?):a=mkA a0 ds (fun t=>a.tmps.getD t undef):=by
 obtain ⟨tm,df⟩:=a;obtain ⟨tm0,df0⟩:=a0;dsimp only at h1 h2 h3;subst h1;unfold mkA
 congr 1
 refine Array.ext_getElem? fun t=>?_
 rw [fold_get];by_cases h:t∈ds∧t<tm0.size
 ·rw [if_pos h];have : t<tm.size:=by omega
  simp [this]
 ·rw [if_neg h];by_cases q:t∈ds
  ·have : ¬t<tm0.size:=fun r=>h ⟨q,r⟩
   simp only [] at *;rw [Array.getElem?_eq_none (by omega),Array.getElem?_eq_none (by omega)]
  ·exact h3 t q
def depsOf (md:Region.Mode) (opens:List Nat) (o:Oper):List Nat:=((o.after.toList.filter (Region.binds md)).map (·.on)).filter opens.contains
def updG (g:Nat→Value) (d:Option Nat) (v:Value):Nat→Value:=fun t=>if some t=d then v else g t
def StepF (P:Program) (md:Region.Mode) (ops:Array Oper) (Q:Exit→Act→World→Prop) (S:World→Prop) (a0:Act) (w0:World) (opens ds:List Nat) (R:World→World→Prop) (V:Nat→(Nat→Value)→World→Prop) (own:Nat→(Nat→Value)→Nat→Prop) (i:Nat):Prop :=
 ∀o,ops[i]?=some o→∀g w,R w0 w→S w→(∀j,(depsOf md opens o).contains j=true→V j g w)→∀K:Act→World→Prop,
  Shut (∀v w',R w w'→S w'→V i (updG g o.dst v) w'→(∀k,own i (updG g o.dst v) k→w.heap.size≤k∧k<w'.heap.size)→K ((mkA a0 ds g).put o.dst v) w')→if Region.wanted o (yielded ops (mkA a0 ds g).tmps)=true then Oper.wp P o (mkA a0 ds g) w K Q else K ((mkA a0 ds g).put o.dst undef) w
theorem StepF.of {a0:Act} {w0:World} {opens ds:List Nat} {R:World→World→Prop} {V:Nat→(Nat→Value)→World→Prop} {own:Nat→(Nat→Value)→Nat→Prop} {i:Nat} {o:Oper} (ho:ops[i]?=some o)
  (h:∀g w,R w0 w→S w→(∀j,(depsOf md opens o).contains j=true→V j g w)→∀K:Act→World→Prop,
   Shut (∀v w',R w w'→S w'→V i (updG g o.dst v) w'→(∀k,own i (updG g o.dst v) k→w.heap.size≤k∧k<w'.heap.size)→K ((mkA a0 ds g).put o.dst v) w')→if Region.wanted o (yielded ops (mkA a0 ds g).tmps)=true then Oper.wp P o (mkA a0 ds g) w K Q else K ((mkA a0 ds g).put o.dst undef) w) :
  StepF P md ops Q S a0 w0 opens ds R V own i:=fun o' ho'=>by
 rw [ho] at ho';injection ho' with ho'
 subst ho';exact h
def reachB (md:Region.Mode) (ops:Array Oper) (opens:List Nat):Nat→Nat→Nat→Bool
 | 0,r,i=>match ops[r]? with
  | none=>false
  | some o=>(depsOf md opens o).contains i
 | n+1,r,i=>match ops[r]? with
  | none=>false
  | some o=>(depsOf md opens o).contains i || (depsOf md opens o).any fun j=>reachB md ops opens n j i
def okF (md:Region.Mode) (ops:Array Oper) (listed:Array Bool) (n:Nat) (opens ds:List Nat) (sl:Nat→List Nat):Bool :=
 decide (listed.size=ops.size)&&opens.all (fun i=>decide (i<ops.size)&&!listed.getD i true) &&
 (List.range ops.size).all (fun i=>listed.getD i true || opens.contains i || (match ops[i]? with | none=>false | some o=>o.after.toList.any fun e=>Region.binds md e&&!listed.getD e.on false&&!opens.contains e.on) || opens.all (reachB md ops opens opens.length i)) &&
 opens.all (fun i=>match ops[i]? with
  | none=>false
  | some o=>(match o.dst with | none=>true | some d=>ds.contains d&&decide (d<n))&&(depsOf md opens o).all (fun j=>decide (j<i))&&(o.after.toList.all fun e=>!Region.binds md e || opens.contains e.on || listed.getD e.on false) &&
   opens.all (fun j=>i==j || (match ops[j]? with
    | none=>false
    | some o'=>match o'.dst with
     | none=>true
     | some d=>!(sl i).contains d || (depsOf md opens o).contains j)))
theorem reach_listed {opens:List Nat} {listed:Array Bool} (hdep:∀i∈opens,∀o,ops[i]?=some o→listed.getD i false=true→∀j,(depsOf md opens o).contains j=true→listed.getD j false=true) :
  ∀(n r i:Nat),(∀o,ops[r]?=some o→∀j,(depsOf md opens o).contains j=true→listed.getD j false=true)→reachB md ops opens n r i=true→listed.getD i false=true
 | 0,r,i,hr,h=>by
  unfold reachB at h
  cases ho:ops[r]? with
  | none=>rw [ho] at h;cases h
  | some o=>rw [ho] at h;exact hr o ho i h
 | n+1,r,i,hr,h=>by
  unfold reachB at h
  cases ho:ops[r]? with
  | none=>rw [ho] at h;cases h
  | some o =>
   rw [ho] at h;simp only [Bool.or_eq_true,List.any_eq_true] at h;rcases h with h | ⟨j,hj,h⟩
   ·exact hr o ho i h
   ·have hjc:(depsOf md opens o).contains j=true:=by simpa using hj
    have hjo:j∈opens:=by unfold depsOf at hj;simp at hj;exact hj.2
    exact reach_listed hdep n j i (fun o' ho' k hk=>hdep j hjo o' ho' (hr o ho j hjc) k hk) h
theorem wpAnyH_facts {a0:Act} {w0:World} {listed0:Array Bool} {fuel:Nat} (opens ds:List Nat) (sl:Nat→List Nat) (R:World→World→Prop) (V:Nat→(Nat→Value)→World→Prop) (own:Nat→(Nat→Value)→Nat→Prop)
  (hok:okF md ops listed0 a0.tmps.size opens ds sl=true) (hnd:opens.Nodup) (hS:S w0) (Rr:R w0 w0) (Rt:∀w w',R w0 w→R w w'→R w0 w')
  (stable:∀i∈opens,∀g g' w w',R w0 w→R w w'→(∀t∈sl i,g' t=g t)→V i g w→V i g' w')
  (Rsz:∀w w',R w w'→w.heap.size≤w'.heap.size) (ostable:∀i∈opens,∀g g',(∀t∈sl i,g' t=g t)→∀k,own i g' k→own i g k)
  (step:∀i∈opens,StepF P md ops Q S a0 w0 opens ds R V own i)
  (fin:∀g w,R w0 w→S w→(∀i∈opens,V i g w)→(∀i∈opens,∀j∈opens,i≠j→∀k,own i g k→¬own j g k)→wpAnyH P md ops Q S fuel (opens.foldl (fun l i=>l.setIfInBounds i true) listed0) (mkA a0 ds g) w):wpAnyH P md ops Q S (fuel+opens.length) listed0 a0 w0:=by
 unfold okF at hok;simp only [Bool.and_eq_true,decide_eq_true_eq,List.all_eq_true,List.mem_range] at hok;obtain ⟨⟨⟨hsz,hop⟩,hrest⟩,hop2⟩:=hok;have hlt:∀i∈opens,i<ops.size:=fun i hi=>(hop i hi).1
 suffices ∀(n:Nat) (listed:Array Bool) (a:Act) (w:World),listed.size=ops.size→(∀i,i ∉ opens→listed[i]?=listed0[i]?)→(opens.filter fun i=>!listed.getD i false).length=n →
   a.defers=a0.defers→a.tmps.size=a0.tmps.size→(∀t,t ∉ ds→a.tmps[t]?=a0.tmps[t]?)→R w0 w→S w→(∀i∈opens,listed.getD i false=true→V i (fun t=>a.tmps.getD t undef) w) →
   (∀i∈opens,listed.getD i false=true→∀k,own i (fun t=>a.tmps.getD t undef) k→k<w.heap.size)→(∀i∈opens,∀j∈opens,listed.getD i false=true→listed.getD j false=true→i≠j→∀k,own i (fun t=>a.tmps.getD t undef) k→¬own j (fun t=>a.tmps.getD t undef) k) →
   (∀i∈opens,∀o,ops[i]?=some o→listed.getD i false=true→∀j,(depsOf md opens o).contains j=true→listed.getD j false=true)→wpAnyH P md ops Q S (fuel+n) listed a w by
  have hun0:∀i∈opens,listed0.getD i false=false:=fun i hi=>by
   have:=(hop i hi).2;have h2:=hlt i hi;simp [hsz,h2] at this ⊢;exact this
  refine this opens.length listed0 a0 w0 hsz (fun _ _=>rfl) ?_ rfl rfl (fun _ _=>rfl) Rr hS (fun i hi h=>?_) (fun i hi h=>?_) (fun i hi j _ h=>?_) (fun i hi o _ h=>?_)
  ·rw [List.filter_eq_self.2 fun i hi=>by simp [hun0 i hi]]
  ·rw [hun0 i hi] at h;cases h
  ·rw [hun0 i hi] at h;cases h
  ·rw [hun0 i hi] at h;cases h
  ·rw [hun0 i hi] at h;cases h
 intro n
 induction n with
 | zero =>
  intro listed a w hs hl hf hd ht hold hR hS hV hO hD hdep
  have hall:∀i∈opens,listed.getD i false=true:=fun i hi=>by
   have:=List.eq_nil_of_length_eq_zero hf;have:=List.filter_eq_nil_iff.1 this i hi;simpa using this
  have hfold:∀(l:List Nat) (x:Array Bool) (i:Nat),(l.foldl (fun l i=>l.setIfInBounds i true) x)[i]?=if i∈l∧i<x.size then some true else x[i]?:=by
   intro l
   induction l with
   | nil=>intro x i;simp
   | cons d l ihl =>
    intro x i;rw [List.foldl_cons,ihl];by_cases h:i<x.size
    ·by_cases h1:i∈l
     ·rw [if_pos ⟨h1,by simpa using h⟩,if_pos ⟨by simp [h1],h⟩]
     ·rw [if_neg (fun q=>h1 q.1)];by_cases e:d=i
      ·subst e;rw [if_pos ⟨by simp,h⟩];simp [h]
      ·rw [if_neg (fun q=>by simp [Ne.symm e,h1] at q),Array.getElem?_setIfInBounds_ne e]
    ·rw [if_neg (fun q=>h (by simpa using q.2)),if_neg (fun q=>h q.2),Array.getElem?_eq_none (by simp;omega),Array.getElem?_eq_none (by omega)]
  have heq:listed=opens.foldl (fun l i=>l.setIfInBounds i true) listed0:=by
   refine Array.ext_getElem? fun i=>?_
   rw [hfold];by_cases h:i∈opens
   ·have h1:=hall i h;have h2:=hlt i h;rw [if_pos ⟨h,by omega⟩];have : i<listed.size:=by omega
    simp [this] at h1 ⊢;exact h1
   ·rw [if_neg (fun q=>h q.1)];exact hl i h
  rw [heq,mkA_eq hd ht hold];exact fin _ w hR hS (fun i hi=>hV i hi (hall i hi)) (fun i hi j hj=>hD i hi j hj (hall i hi) (hall j hj))
 | succ n ih =>
  intro listed a w hs hl hf hd ht hold hR hS hV hO hD hdep
  have hl':∀i,i ∉ opens→∀d,listed.getD i d=listed0.getD i d:=fun i hi d=>by
   have:=hl i hi;simp only [Array.getD_eq_getD_getElem?,this]
  have hrdy:∀i∈opens,listed.getD i false≠true→∃k,k∈Region.ready md ops listed:=by
   suffices ∀m i,i≤m→i∈opens→listed.getD i false≠true→∃k,k∈Region.ready md ops listed from fun i hi hn=>this i i (Nat.le_refl _) hi hn
   intro m
   induction m with
   | zero =>
    intro i him hi hn;have hb:=hop2 i hi
    cases ho:ops[i]? with
    | none=>rw [ho] at hb;simp at hb
    | some o =>
     rw [ho] at hb;simp only [Bool.and_eq_true,List.all_eq_true,decide_eq_true_eq] at hb;refine ⟨i,mem_ready.2 ⟨?_,o,ho,fun e he hbi=>?_⟩⟩
     ·have:=hlt i hi;simp [hs,this] at hn ⊢;exact hn
     ·by_cases q:e.on∈opens
      ·have:=hb.1.1.2 e.on (by unfold depsOf;simp;exact ⟨⟨e,⟨he,hbi⟩,rfl⟩,q⟩);omega
      ·have h3:=hb.1.2 e (by simpa using he);rw [hl' _ q];simpa [hbi,q] using h3
   | succ m ihm =>
    intro i him hi hn;have hb:=hop2 i hi
    cases ho:ops[i]? with
    | none=>rw [ho] at hb;simp at hb
    | some o =>
     rw [ho] at hb;simp only [Bool.and_eq_true,List.all_eq_true,decide_eq_true_eq] at hb;by_cases hex:∃j,(depsOf md opens o).contains j=true∧listed.getD j false≠true
     ·obtain ⟨j,hj,hjn⟩:=hex;have hjm:j∈depsOf md opens o:=by simpa using hj
      have h4:=hb.1.1.2 j hjm;exact ihm j (by omega) (by unfold depsOf at hjm;simp at hjm;exact hjm.2) hjn
     ·refine ⟨i,mem_ready.2 ⟨?_,o,ho,fun e he hbi=>?_⟩⟩
      ·have:=hlt i hi;simp [hs,this] at hn ⊢;exact hn
      ·by_cases q:e.on∈opens
       ·exact Decidable.byContradiction fun hne=>hex ⟨e.on,by unfold depsOf;simp;exact ⟨⟨e,⟨he,hbi⟩,rfl⟩,q⟩,hne⟩
       ·have h3:=hb.1.2 e (by simpa using he);rw [hl' _ q];simpa [hbi,q] using h3
  have hleft:∃i∈opens,listed.getD i false≠true:=by
   have hne:(opens.filter fun i=>!listed.getD i false)≠[]:=fun q=>by rw [q] at hf;simp at hf
   obtain ⟨i,hi⟩:=List.exists_mem_of_ne_nil _ hne;have:=List.mem_filter.1 hi;exact ⟨i,this.1,by simpa using this.2⟩
  obtain ⟨i0,hi0,hn0⟩:=hleft;refine ⟨fun hr=>?_,fun i hi=>?_⟩
  ·obtain ⟨k,hk⟩:=hrdy i0 hi0 hn0;rw [hr] at hk;cases hk
  ·obtain ⟨h1,o,ho,hall⟩:=mem_ready.1 hi
   have hi2:i<ops.size:=by
    rcases Nat.lt_or_ge i ops.size with q | q
    ·exact q
    ·rw [Array.getElem?_eq_none q] at ho;cases ho
   have hun:listed.getD i false=false:=by simp [hs,hi2] at h1 ⊢;exact h1
   have hdl:∀j,(depsOf md opens o).contains j=true→listed.getD j false=true:=fun j hj=>by
    unfold depsOf at hj;simp at hj;obtain ⟨⟨e,⟨he,hb⟩,rfl⟩,_⟩:=hj;exact hall e (by simpa using he) hb
   have hio:i∈opens:=Decidable.byContradiction fun q=>by
    have h3:=hrest i hi2;have h4:listed0.getD i true=false:=by rw [←hl' i q];exact h1
    simp only [h4,Bool.false_or,Bool.or_eq_true,List.all_eq_true] at h3;rcases h3 with (h3 | h3) | h3
    ·exact q (by simpa using h3)
    ·rw [ho] at h3;simp only [List.any_eq_true,Bool.and_eq_true,Bool.not_eq_true'] at h3;obtain ⟨e,he,⟨hb,h5⟩,h6⟩:=h3;have h7:=hall e (by simpa using he) hb;rw [hl' e.on (by simpa using h6),h5] at h7;cases h7
    ·exact hn0 (reach_listed hdep opens.length i i0 (fun o' ho'=>by rw [ho] at ho';injection ho' with ho';subst ho';exact hdl) (h3 i0 hi0))
   have hdo:∀j,(depsOf md opens o).contains j=true→j∈opens:=fun j hj=>by
    unfold depsOf at hj;simp at hj;exact hj.2
   have hb:=hop2 i hio;rw [ho] at hb;simp only [Bool.and_eq_true,List.all_eq_true,decide_eq_true_eq] at hb;have hmk:=mkA_eq hd ht hold;refine wpOp_step ho fun K' hK=>?_
   have hst:=step i hio o ho (fun t=>a.tmps.getD t undef) w hR hS (fun j hj=>hV j (hdo j hj) (hdl j hj)) K' (fun v w' hRw hSw hVi hOi=>?_)
   ·rw [←hmk] at hst;exact hst
   ·rw [←hmk];refine hK _ _ ⟨hSw,?_⟩;have hR2:=Rt w w' hR hRw
    have hsame:∀t,some t≠o.dst→(a.put o.dst v).tmps[t]?=a.tmps[t]?:=fun t h=>by
     cases hod:o.dst with
     | none=>rfl
     | some d=>exact Array.getElem?_setIfInBounds_ne (by rintro rfl;exact h hod.symm)
    have hget:(fun t=>(a.put o.dst v).tmps.getD t undef)=updG (fun t=>a.tmps.getD t undef) o.dst v:=by
     funext t
     unfold updG;by_cases q:some t=o.dst
     ·rw [if_pos q];have hb2:=hb.1.1.1;rw [←q] at hb2;simp only [Bool.and_eq_true,decide_eq_true_eq] at hb2;rw [←q];have : t<a.tmps.size:=by rw [ht];exact hb2.2
      show (a.tmps.setIfInBounds t v).getD t undef=v;simp [this]
     ·rw [if_neg q];have:=hsame t q;simp only [Array.getD_eq_getD_getElem?,this]
    have hsl:∀j∈opens,i≠j→listed.getD j false=true→∀t∈sl j,updG (fun t=>a.tmps.getD t undef) o.dst v t=(fun t=>a.tmps.getD t undef) t:=fun j hj q hjl t htj=>by
     unfold updG;by_cases r:some t=o.dst
     ·exfalso
      have hbj:=hop2 j hj
      cases hoj:ops[j]? with
      | none=>rw [hoj] at hbj;simp at hbj
      | some oj =>
       rw [hoj] at hbj;simp only [Bool.and_eq_true,List.all_eq_true] at hbj;have h5:=hbj.2 i hio;rw [ho] at h5;simp only [←r] at h5;have hne:(j==i)=false:=by simp [Ne.symm q]
       have hc:(sl j).contains t=true:=by simpa using htj
       rw [hne,hc] at h5;simp only [Bool.false_or,Bool.not_true] at h5;have:=hdep j hj oj hoj hjl i h5;rw [this] at hun;cases hun
     ·rw [if_neg r]
    refine ih (listed.setIfInBounds i true) (a.put o.dst v) w' (by simpa using hs) (fun j hj=>?_) ?_ ?_ ?_ (fun t ht2=>?_) hR2 hSw (fun j hj hjl=>?_) (fun j hj hjl k hk=>?_) (fun j hj m hm hjl hml hjm k hk hk2=>?_) (fun j hj o' ho' hjl k hk=>?_)
    ·rw [Array.getElem?_setIfInBounds_ne (fun q=>hj (by rw [←q];exact hio))];exact hl j hj
    ·have hsub:(opens.filter fun j=>!(listed.setIfInBounds i true).getD j false)=((opens.filter fun j=>!listed.getD j false).erase i):=by
      rw [List.Nodup.erase_eq_filter (hnd.filter _),List.filter_filter];refine List.filter_congr fun j hj=>?_
      by_cases q:i=j
      ·subst q;simp [hs,hi2]
      ·rw [getD_set_ne false q];simp [Ne.symm q]
     rw [hsub];have hm:i∈(opens.filter fun j=>!listed.getD j false):=List.mem_filter.2 ⟨hio,by simp [hun]⟩;rw [List.length_erase_of_mem hm,hf];rfl
    ·cases o.dst <;> exact hd
    ·cases o.dst with
     | none=>exact ht
     | some d=>simpa [Act.put] using ht
    ·rw [hsame t (fun q=>?_)]
     ·exact hold t ht2
     ·have hb2:=hb.1.1.1;rw [←q] at hb2;simp only [Bool.and_eq_true] at hb2;exact ht2 (by simpa using hb2.1)
    ·rw [hget];by_cases q:i=j
     ·subst q;exact hVi
     ·rw [getD_set_ne false q] at hjl;exact stable j hj _ _ w w' hR hRw (hsl j hj q hjl) (hV j hj hjl)
    ·rw [hget] at hk;by_cases q:i=j
     ·subst q;exact (hOi k hk).2
     ·rw [getD_set_ne false q] at hjl;exact Nat.lt_of_lt_of_le (hO j hj hjl k (ostable j hj _ _ (hsl j hj q hjl) k hk)) (Rsz w w' hRw)
    ·rw [hget] at hk hk2;by_cases q:i=j
     ·subst q;rw [getD_set_ne false hjm] at hml;have h1:=(hOi k hk).1;have h2:=hO m hm hml k (ostable m hm _ _ (hsl m hm hjm hml) k hk2);omega
     ·rw [getD_set_ne false q] at hjl;have hk3:=ostable j hj _ _ (hsl j hj q hjl) k hk;by_cases q2:i=m
      ·subst q2;have h1:=(hOi k hk2).1;have h2:=hO j hj hjl k hk3;omega
      ·rw [getD_set_ne false q2] at hml;exact hD j hj m hm hjl hml hjm k hk3 (ostable m hm _ _ (hsl m hm q2 hml) k hk2)
    ·by_cases q:i=j
     ·subst q;rw [ho] at ho';injection ho' with ho'
      subst ho';exact getD_set_true (hdl k hk)
     ·rw [getD_set_ne false q] at hjl;exact getD_set_true (hdep j hj o' ho' hjl k hk)
end
end Go.Proofs.YtifhejahbbnkiaaGreat
namespace Go.Proofs.YtifhejahbbnkiaaGreat
open Go.RowKit
def set14 (w:World) (g:Nat) (a b c d e f g1 h i j k l m n:Value):World:=(((((((((set5 w g a b c d e).setCell ⟨g,5,none⟩ f).setCell ⟨g,6,none⟩ g1).setCell ⟨g,7,none⟩ h).setCell ⟨g,8,none⟩ i).setCell ⟨g,9,none⟩ j).setCell ⟨g,10,none⟩ k).setCell ⟨g,11,none⟩ l).setCell ⟨g,12,none⟩ m).setCell ⟨g,13,none⟩ n
theorem set14_blk {w:World} {g:Nat} {t:TypeId} {x0 x1 x2 x3 x4 x5 x6 x7 x8 x9 x10 x11 x12 x13:Value} (h:Blk w g t #[x0,x1,x2,x3,x4,x5,x6,x7,x8,x9,x10,x11,x12,x13]) (a b c d e f g1 i j k l m n o:Value):Blk (set14 w g a b c d e f g1 i j k l m n o) g t #[a,b,c,d,e,f,g1,i,j,k,l,m,n,o]:=by
 unfold set14 set5;simpa using (((((((((((((h.set_ 0 a).set_ 1 b).set_ 2 c).set_ 3 d).set_ 4 e).set_ 5 f).set_ 6 g1).set_ 7 i).set_ 8 j).set_ 9 k).set_ 10 l).set_ 11 m).set_ 12 n).set_ 13 o
theorem set14_upd (w:World) (g:Nat) (a b c d e f g1 i j k l m n o:Value):Upd (·=g) w (set14 w g a b c d e f g1 i j k l m n o):=by
 have s:∀(w:World) (i:Nat) (v:Value),Upd (·=g) w (w.setCell ⟨g,i,none⟩ v):=fun w i v=>updCell _ _ _ _
 have t:∀{a b c:World},Upd (·=g) a b→Upd (·=g) b c→Upd (·=g) a c:=fun h k=>h.trans k (fun _ _ h=>h)
 exact t (t (t (t (t (t (t (t (t (set5_upd _ _ _ _ _ _ _) (s _ _ _)) (s _ _ _)) (s _ _ _)) (s _ _ _)) (s _ _ _)) (s _ _ _)) (s _ _ _)) (s _ _ _)) (s _ _ _)
theorem set14_eq (w:World) (g:Nat) (a b c d e f g1 h i j k l m n:Value):(((((((((((((w.setCell ⟨g,0,none⟩ a).setCell ⟨g,1,none⟩ b).setCell ⟨g,2,none⟩ c).setCell ⟨g,3,none⟩ d).setCell ⟨g,4,none⟩ e).setCell ⟨g,5,none⟩ f).setCell ⟨g,6,none⟩ g1).setCell ⟨g,7,none⟩ h).setCell ⟨g,8,none⟩ i).setCell ⟨g,9,none⟩ j).setCell ⟨g,10,none⟩ k).setCell ⟨g,11,none⟩ l).setCell ⟨g,12,none⟩ m).setCell ⟨g,13,none⟩ n=set14 w g a b c d e f g1 h i j k l m n:=rfl
def setRt (w:World) (g:Nat) (a b c d e:Value):World:=((((w.setCell ⟨g,6,none⟩ a).setCell ⟨g,7,none⟩ b).setCell ⟨g,8,none⟩ c).setCell ⟨g,9,none⟩ d).setCell ⟨g,10,none⟩ e
theorem setRt_blk {w:World} {g:Nat} {t:TypeId} {x0 x1 x2 x3 x4 x5 x6 x7 x8 x9 x10 x11 x12 x13:Value} (h:Blk w g t #[x0,x1,x2,x3,x4,x5,x6,x7,x8,x9,x10,x11,x12,x13]) (a b c d e:Value):Blk (setRt w g a b c d e) g t #[x0,x1,x2,x3,x4,x5,a,b,c,d,e,x11,x12,x13]:=by
 unfold setRt;simpa using ((((h.set_ 6 a).set_ 7 b).set_ 8 c).set_ 9 d).set_ 10 e
theorem setRt_upd (w:World) (g:Nat) (a b c d e:Value):Upd (·=g) w (setRt w g a b c d e):=by
 have s:∀(w:World) (i:Nat) (v:Value),Upd (·=g) w (w.setCell ⟨g,i,none⟩ v):=fun w i v=>updCell _ _ _ _
 have t:∀{a b c:World},Upd (·=g) a b→Upd (·=g) b c→Upd (·=g) a c:=fun h k=>h.trans k (fun _ _ h=>h)
 exact t (t (t (t (s _ _ _) (s _ _ _)) (s _ _ _)) (s _ _ _)) (s _ _ _)
theorem setRt_eq (w:World) (g:Nat) (a b c d e:Value):((((w.setCell ⟨g,6,none⟩ a).setCell ⟨g,7,none⟩ b).setCell ⟨g,8,none⟩ c).setCell ⟨g,9,none⟩ d).setCell ⟨g,10,none⟩ e=setRt w g a b c d e:=rfl
theorem aApplicable_c (r:Rl) (a:RlA) (F:Nat→Prop) (w:World) (hk:RlK w F r a) (hz:RlSz r):Calls Tryz.prog 22 #[rlv r a] w fun e w'=>e=.returned (.bool (applF r))∧Upd Non w w':=by
 obtain ⟨W,HW⟩:=nm (w.alloc (.cells (rlCells r a) 41));have hU:Upd Non w W:=by rw [←HW.out];exact Upd.refl.alloc _
 have hb:Blk W w.heap.size 41 (rlCells r a):=by rw [←HW.out];exact Blk.new _ _ _
 have e0:=HW.out;have hK:=(hk.mono (G:=fun k=>k<w.heap.size) (fun _ h _=>h)).upd hU (fun _ _ _ f=>f);have hc0:=rl_cells hb;obtain ⟨c0,c1,c2,c3,c4,c5,c6,c7,c8,c9,c10,c11,c12,c13⟩:=hc0;have CB:=h_ (aBuild_c r a _ W hK hz);have HU:=h_ hU;clear hk hz hK hb hU;unfold rlv at CB ⊢;unfold rlCells at CB e0 ⊢;go_enter Tryz.func22,Tryz.ntmps22;go_wp2_with fail
 refine CB.out.mono ?_;rintro e w2 ⟨v,rfl,u2,hB⟩;have u3:=HU.out.then_non u2;clear hB;go_wp2_with fail
 go_ret;exact ⟨rfl,u3⟩
def PB (w:World) (i:Nat):Prop:=∃cs,Blk w i 38 cs
def IsQ (w:World) (p:Pt) (v:Value):Prop:=∃KA kc,v=pv p KA kc∧PtK w (PB w) p KA kc
theorem PtK.pb {w w':World} {S:Nat→Prop} {p:Pt} {KA:Option Addr} {kc:Nat} (h:PtK w (PB w) p KA kc) (u:Upd S w w') (d:∀i cs,Blk w i 38 cs→¬S i):PtK w' (PB w') p KA kc:=by
 have h1:=PtK.mono (G:=fun i=>PB w i∧PB w' i) (fun i _ q=>⟨q,by obtain ⟨cs,hb⟩:=q;exact ⟨cs,hb.upd u (d i cs hb)⟩⟩) p KA kc h;exact PtK.mono (fun i _ q=>q.2) p KA kc (PtK.upd u (fun i _ q=>by obtain ⟨cs,hb⟩:=q.1;exact d i cs hb) p KA kc h1)
theorem IsQ.upd {w w':World} {S:Nat→Prop} {p:Pt} {v:Value} (h:IsQ w p v) (u:Upd S w w') (d:∀i cs,Blk w i 38 cs→¬S i):IsQ w' p v:=by
 obtain ⟨KA,kc,h1,h2⟩:=h;exact ⟨KA,kc,h1,h2.pb u d⟩
set_option maxRecDepth 100000 in
set_option maxHeartbeats 4000000 in
theorem pair19_c (w:World) (k:Int) (a b:Pt) {v u:Value} (hv:IsQ w a v) (hu:IsQ w b u):Calls Tryz.prog 65 #[.int .i64 k,v,u] w fun e w'=>∃KA kc,e=.returned (pv (q2 k a b) KA kc)∧PtK w' (PB w') (q2 k a b) KA kc∧Upd Non w w':=by
 obtain ⟨KA,ka,rfl,ha⟩:=hv;obtain ⟨KB,kb,rfl,hb⟩:=hu;go_enter Tryz.func65,Tryz.ntmps65;unfold pv;go_wp2_with fail
 refine bodyPost_ret (results_cell_row rfl _ _ (w.heap.size+1+1) 38 #[.int .i64 0,.int .i64 k,.int .i64 0,.int .i64 0,.slice (some ⟨w.heap.size+1+1+1,0,none⟩) 2 2] (0,0) _ rfl ((Blk.new' (by simp)).alloc _) Tryz.underlying38 rfl (by kernel_rfl)) rfl ?_
 obtain ⟨W1,HW1⟩:=nm ((((w.alloc (.cells #[.int .i64 a.v,.int .i64 a.op,.int .i64 a.imm,.int .i64 a.iv,.slice KA a.kids.length ka] 38)).alloc (.cells #[.int .i64 b.v,.int .i64 b.op,.int .i64 b.imm,.int .i64 b.iv,.slice KB b.kids.length kb] 38)).alloc (.cells #[.int .i64 0,.int .i64 k,.int .i64 0,.int .i64 0,.slice (some ⟨w.heap.size+1+1+1,0,none⟩) 2 2] 38)).alloc (.cells #[.int .i64 a.v,.int .i64 a.op,.int .i64 a.imm,.int .i64 a.iv,.slice KA a.kids.length ka,.int .i64 b.v,.int .i64 b.op,.int .i64 b.imm,.int .i64 b.iv,.slice KB b.kids.length kb] 38))
 rw [HW1.out];have hU:Upd Non w W1:=by rw [←HW1.out];exact (((Upd.refl.alloc _).alloc _).alloc _).alloc _
 have hk:Blk W1 (w.heap.size+1+1+1) 38 #[.int .i64 a.v,.int .i64 a.op,.int .i64 a.imm,.int .i64 a.iv,.slice KA a.kids.length ka,.int .i64 b.v,.int .i64 b.op,.int .i64 b.imm,.int .i64 b.iv,.slice KB b.kids.length kb]:=by rw [←HW1.out];exact Blk.new' (by simp)
 refine ⟨_,_,rfl,?_,hU⟩;exact PtK.two _ _ _ _ hk (ha.pb hU (fun _ _ _ f=>f)) (hb.pb hU (fun _ _ _ f=>f)) ⟨_,hk⟩ (by omega)
theorem updG_at {g:Nat→Value} {d:Nat} {v:Value}:updG g (some d) v d=v:=if_pos rfl
def zero14:Array Value:=#[.string ⟨#[]⟩,.int .i64 0,.int .i64 0,.int .i64 0,.int .i64 0,.slice none 0 0,.int .i64 0,.int .i64 0,.int .i64 0,.int .i64 0,.slice none 0 0,.slice none 0 0,.int .i64 0,.int .i64 0]
def IsVarR (n:Nat) (w:World) (v:Value):Prop:=∃b,v=.pointer (some ⟨b,0,none⟩)∧n≤b∧Blk w b 41 zero14
def IsRl (r:Rl) (w:World) (v:Value):Prop:=∃a,v=rlv r a∧RlK w (PB w) r a
theorem RlK.pb {w w':World} {S:Nat→Prop} {r:Rl} {a:RlA} (hc:r.conds=[]) (h:RlK w (PB w) r a) (u:Upd S w w') (d:∀i cs,Blk w i 38 cs→¬S i):RlK w' (PB w') r a:=⟨h.l.pb u d,h.r.pb u d,.inl hc,h.le⟩
def eqv (n:Int):Value:=.agg #[.int .i64 n,.int .i64 0,.int .i64 0,.int .i64 0,.slice none 0 0]
theorem isQ_v (w:World) (n:Int):IsQ w (qv n) (eqv n):=⟨none,0,rfl,PtK.leaf⟩
theorem isQ_c (w:World) (n:Int):IsQ w (q1c n) (.agg #[.int .i64 0,.int .i64 1,.int .i64 n,.int .i64 0,.slice none 0 0]):=⟨none,0,rfl,PtK.leaf⟩
def eV3 (n:Nat) (i:Nat) (g:Nat→Value) (w:World):Prop :=
 match i with
 | 2=>IsQ w exL1 (g 15)
 | 5=>IsQ w (q2 11 (qv 1) (qv 2)) (g 18)
 | 8=>IsQ w (q2 9 (qv 1) (qv 2)) (g 21)
 | 10=>IsQ w (q2 12 (q2 9 (qv 1) (qv 2)) (q1c 1)) (g 23)
 | 11=>IsQ w exR1 (g 24)
 | 12=>IsRl exA w (g 25)
 | 13=>IsVarR n w (g 4)
 | _=>True
def eV5 (n:Nat) (i:Nat) (g:Nat→Value) (w:World):Prop :=
 match i with
 | 2=>IsQ w exL1 (g 33)
 | 5=>IsQ w (q2 10 (qv 1) (qv 2)) (g 36)
 | 6=>IsRl exB w (g 37)
 | 7=>IsVarR n w (g 7)
 | _=>True
def eS5 (i:Nat):List Nat :=
 match i with
 | 2=>[33]
 | 5=>[36]
 | 6=>[37]
 | 7=>[7]
 | _=>[]
def eS3 (i:Nat):List Nat :=
 match i with
 | 2=>[15]
 | 5=>[18]
 | 8=>[21]
 | 10=>[23]
 | 11=>[24]
 | 12=>[25]
 | 13=>[4]
 | _=>[]
set_option maxRecDepth 100000 in
set_option maxHeartbeats 16000000 in
theorem auExamples_c (w:World):Calls Tryz.prog 26 #[] w fun e w'=>e=.returned (.bool true)∧Upd Non w w':=by
 go_enter Tryz.func26,Tryz.ntmps26
 go_upto_region 3 with fail
 obtain ⟨W0,HW0⟩:=nm (((w.alloc (.cells #[.int .i64 1,.int .i64 0,.int .i64 0,.int .i64 0,.slice none 0 0] 38)).alloc (.cells #[.int .i64 2,.int .i64 0,.int .i64 0,.int .i64 0,.slice none 0 0] 38)).alloc (.cells #[.int .i64 0,.int .i64 1,.int .i64 1,.int .i64 0,.slice none 0 0] 38))
 rw [HW0.out];have hU0:Upd Non w W0:=by rw [←HW0.out];exact ((Upd.refl.alloc _).alloc _).alloc _
 have hb1:Blk W0 w.heap.size 38 #[.int .i64 1,.int .i64 0,.int .i64 0,.int .i64 0,.slice none 0 0]:=by rw [←HW0.out];exact ((Blk.new' rfl).alloc _).alloc _
 have hb2:Blk W0 (w.heap.size+1) 38 #[.int .i64 2,.int .i64 0,.int .i64 0,.int .i64 0,.slice none 0 0]:=by rw [←HW0.out];exact (Blk.new' (by simp)).alloc _
 have hb3:Blk W0 (w.heap.size+1+1) 38 #[.int .i64 0,.int .i64 1,.int .i64 1,.int .i64 0,.slice none 0 0]:=by rw [←HW0.out];exact Blk.new' (by simp)
 have hs1:=hb1.lt;have hs2:=hb2.lt;have hs3:=hb3.lt;obtain ⟨a1,ha1⟩:∃n,w.heap.size=n:=⟨_,rfl⟩;obtain ⟨a2,ha2⟩:∃n,w.heap.size+1=n:=⟨_,rfl⟩;obtain ⟨a3,ha3⟩:∃n,w.heap.size+1+1=n:=⟨_,rfl⟩;rw [ha1] at hb1 hs1;rw [ha2] at hb2 hs2;rw [ha3] at hb3 hs3;rw [ha3,ha2,ha1]
 have HSS:Hid (∀(S:Nat→Prop) (w':World),Upd S W0 w'→(∀i cs,Blk W0 i 38 cs→¬S i)→w'.cell? ⟨a1,0,none⟩=some (.int .i64 1)∧w'.cell? ⟨a1,1,none⟩=some (.int .i64 0)∧w'.cell? ⟨a1,2,none⟩=some (.int .i64 0)∧w'.cell? ⟨a1,3,none⟩=some (.int .i64 0)∧w'.cell? ⟨a1,4,none⟩=some (.slice none 0 0) ∧
   w'.cell? ⟨a2,0,none⟩=some (.int .i64 2)∧w'.cell? ⟨a2,1,none⟩=some (.int .i64 0)∧w'.cell? ⟨a2,2,none⟩=some (.int .i64 0)∧w'.cell? ⟨a2,3,none⟩=some (.int .i64 0)∧w'.cell? ⟨a2,4,none⟩=some (.slice none 0 0) ∧
   w'.cell? ⟨a3,0,none⟩=some (.int .i64 0)∧w'.cell? ⟨a3,1,none⟩=some (.int .i64 1)∧w'.cell? ⟨a3,2,none⟩=some (.int .i64 1)∧w'.cell? ⟨a3,3,none⟩=some (.int .i64 0)∧w'.cell? ⟨a3,4,none⟩=some (.slice none 0 0)):=fun S w' u d=>by
  have h1:=hb1.upd u (d _ _ hb1);have h2:=hb2.upd u (d _ _ hb2);have h3:=hb3.upd u (d _ _ hb3);exact ⟨h1.cell 0,h1.cell 1,h1.cell 2,h1.cell 3,h1.cell 4,h2.cell 0,h2.cell 1,h2.cell 2,h2.cell 3,h2.cell 4,h3.cell 0,h3.cell 1,h3.cell 2,h3.cell 3,h3.cell 4⟩
 have HU0:=h_ hU0;clear hb1 hb2 hb3 hs1 hs2 hs3 hU0 ha1 ha2 ha3;obtain ⟨wD,HwD⟩:=nm W0.drew;have uD:Upd Non W0 wD:=by rw [←HwD.out];exact Upd.refl.drew
 refine wp_region_held_drew (S:=fun w'=>w'.cell? ⟨a1,0,none⟩=some (.int .i64 1)∧w'.cell? ⟨a1,1,none⟩=some (.int .i64 0)∧w'.cell? ⟨a1,2,none⟩=some (.int .i64 0)∧w'.cell? ⟨a1,3,none⟩=some (.int .i64 0)∧w'.cell? ⟨a1,4,none⟩=some (.slice none 0 0)∧w'.cell? ⟨a2,0,none⟩=some (.int .i64 2)∧w'.cell? ⟨a2,1,none⟩=some (.int .i64 0)∧w'.cell? ⟨a2,2,none⟩=some (.int .i64 0)∧w'.cell? ⟨a2,3,none⟩=some (.int .i64 0)∧w'.cell? ⟨a2,4,none⟩=some (.slice none 0 0)∧w'.cell? ⟨a3,0,none⟩=some (.int .i64 0)∧w'.cell? ⟨a3,1,none⟩=some (.int .i64 1)∧w'.cell? ⟨a3,2,none⟩=some (.int .i64 1)∧w'.cell? ⟨a3,3,none⟩=some (.int .i64 0)∧w'.cell? ⟨a3,4,none⟩=some (.slice none 0 0)) (by kernel_rfl) (by rw [HwD.out];exact HSS.out Non wD uD (fun _ _ _ f=>f)) (fun hHeld=>?_)
 rw [HwD.out] at hHeld ⊢;refine wpT 0 ?_;(try simp only [y_,z_]);refine wpT 1 ?_;(try simp only [y_,z_]);refine wpT 3 ?_;(try simp only [y_,z_]);refine wpT 4 ?_;(try simp only [y_,z_]);refine wpT 6 ?_;(try simp only [y_,z_]);refine wpT 7 ?_;(try simp only [y_,z_]);refine wpT 9 ?_;(try simp only [y_,z_]);refine wpAnyH_facts (fuel:=1) [2,5,8,10,11,12,13] [15,18,21,23,24,25,4] eS3 (fun w w'=>Upd Non w w') (eV3 W0.heap.size) (fun _ _ _=>False) (by kernel_rfl) (by decide) hHeld Upd.refl (fun _ _ h k=>h.then_non k) ?_ (fun _ _ h=>h.size) (fun _ _ _ _ _ _ h=>h) ?_ ?_
 ·intro i hi g g' w1 w2 _ hR hs hV;simp only [List.mem_cons,List.not_mem_nil,or_false] at hi;rcases hi with rfl | rfl | rfl | rfl | rfl | rfl | rfl <;> simp only [eS3,List.mem_cons,List.not_mem_nil,or_false,forall_eq] at hs <;> simp only [eV3,hs] at hV ⊢
  ·exact hV.upd hR (fun _ _ _ f=>f)
  ·exact hV.upd hR (fun _ _ _ f=>f)
  ·exact hV.upd hR (fun _ _ _ f=>f)
  ·exact hV.upd hR (fun _ _ _ f=>f)
  ·exact hV.upd hR (fun _ _ _ f=>f)
  ·obtain ⟨a,h1,h2⟩:=hV;exact ⟨a,h1,h2.pb rfl hR (fun _ _ _ f=>f)⟩
  ·obtain ⟨b,h1,h2,h3⟩:=hV;exact ⟨b,h1,h2,h3.upd hR (fun f=>f)⟩
 ·intro i hi;simp only [List.mem_cons,List.not_mem_nil,or_false] at hi;rcases hi with rfl | rfl | rfl | rfl | rfl | rfl | rfl
  ·refine StepF.of rfl (fun g w1 hR hS hd K hK=>?_);simp only [y_] at hK ⊢;clear hd;simp only [mkA,List.foldl_cons,List.foldl_nil,z_] at hK ⊢;go_simp;refine (pair19_c w1 4 (qv 1) (qv 2) (isQ_v _ 1) (isQ_v _ 2)).mono ?_;rintro e w2 ⟨KA,kc,rfl,hk,hu⟩;go_wp2_with fail
   refine hK.out _ _ hu (HSS.out Non w2 ((uD.then_non hR).then_non hu) (fun _ _ _ f=>f)) ?_ (fun _ h=>h.elim);show IsQ w2 _ _;rw [updG_at];exact ⟨KA,kc,rfl,hk⟩
  ·refine StepF.of rfl (fun g w1 hR hS hd K hK=>?_);simp only [y_] at hK ⊢;clear hd;simp only [mkA,List.foldl_cons,List.foldl_nil,z_] at hK ⊢;go_simp;refine (pair19_c w1 11 (qv 1) (qv 2) (isQ_v _ 1) (isQ_v _ 2)).mono ?_;rintro e w2 ⟨KA,kc,rfl,hk,hu⟩;go_wp2_with fail
   refine hK.out _ _ hu (HSS.out Non w2 ((uD.then_non hR).then_non hu) (fun _ _ _ f=>f)) ?_ (fun _ h=>h.elim);show IsQ w2 _ _;rw [updG_at];exact ⟨KA,kc,rfl,hk⟩
  ·refine StepF.of rfl (fun g w1 hR hS hd K hK=>?_);simp only [y_] at hK ⊢;clear hd;simp only [mkA,List.foldl_cons,List.foldl_nil,z_] at hK ⊢;go_simp;refine (pair19_c w1 9 (qv 1) (qv 2) (isQ_v _ 1) (isQ_v _ 2)).mono ?_;rintro e w2 ⟨KA,kc,rfl,hk,hu⟩;go_wp2_with fail
   refine hK.out _ _ hu (HSS.out Non w2 ((uD.then_non hR).then_non hu) (fun _ _ _ f=>f)) ?_ (fun _ h=>h.elim);show IsQ w2 _ _;rw [updG_at];exact ⟨KA,kc,rfl,hk⟩
  ·refine StepF.of rfl (fun g w1 hR hS hd K hK=>?_);simp only [y_] at hK ⊢;obtain ⟨K8,k8,e8,h8⟩:IsQ w1 (q2 9 (qv 1) (qv 2)) (g 21):=hd 8 (by kernel_rfl);unfold pv at e8;clear hd;simp only [mkA,List.foldl_cons,List.foldl_nil,z_,e8] at hK ⊢;go_simp;refine (pair19_c w1 12 (q2 9 (qv 1) (qv 2)) (q1c 1) ⟨K8,k8,rfl,h8⟩ (isQ_c _ 1)).mono ?_;rintro e w2 ⟨KA,kc,rfl,hk,hu⟩;go_wp2_with fail
   refine hK.out _ _ hu (HSS.out Non w2 ((uD.then_non hR).then_non hu) (fun _ _ _ f=>f)) ?_ (fun _ h=>h.elim);show IsQ w2 _ _;rw [updG_at];exact ⟨KA,kc,rfl,hk⟩
  ·refine StepF.of rfl (fun g w1 hR hS hd K hK=>?_);simp only [y_] at hK ⊢;obtain ⟨K5,k5,e5,h5⟩:IsQ w1 (q2 11 (qv 1) (qv 2)) (g 18):=hd 5 (by kernel_rfl);obtain ⟨K10,k10,e10,h10⟩:IsQ w1 (q2 12 (q2 9 (qv 1) (qv 2)) (q1c 1)) (g 23):=hd 10 (by kernel_rfl);unfold pv at e5 e10;clear hd;simp only [mkA,List.foldl_cons,List.foldl_nil,z_,e5,e10] at hK ⊢;go_simp;refine (pair19_c w1 4 (q2 11 (qv 1) (qv 2)) (q2 12 (q2 9 (qv 1) (qv 2)) (q1c 1)) ⟨K5,k5,rfl,h5⟩ ⟨K10,k10,rfl,h10⟩).mono ?_;rintro e w2 ⟨KA,kc,rfl,hk,hu⟩;go_wp2_with fail
   refine hK.out _ _ hu (HSS.out Non w2 ((uD.then_non hR).then_non hu) (fun _ _ _ f=>f)) ?_ (fun _ h=>h.elim);show IsQ w2 _ _;rw [updG_at];exact ⟨KA,kc,rfl,hk⟩
  ·refine StepF.of rfl (fun g w1 hR hS hd K hK=>?_);simp only [y_] at hK ⊢;obtain ⟨K2,k2,e2,h2⟩:IsQ w1 exL1 (g 15):=hd 2 (by kernel_rfl);obtain ⟨K11,k11,e11,h11⟩:IsQ w1 exR1 (g 24):=hd 11 (by kernel_rfl);unfold pv at e2 e11;clear hd;simp only [mkA,List.foldl_cons,List.foldl_nil,z_,e2,e11] at hK ⊢;go_simp;refine hK.out _ _ Upd.refl hS ?_ (fun _ h=>h.elim);show IsRl exA w1 _;rw [updG_at];exact ⟨⟨K2,k2,K11,k11,none,0⟩,rfl,⟨h2,h11,.inl rfl,Nat.le_refl _⟩⟩
  ·refine StepF.of rfl (fun g w1 hR hS hd K hK=>?_);simp only [y_] at hK ⊢;clear hd;simp only [mkA,List.foldl_cons,List.foldl_nil,z_] at hK ⊢;go_simp;refine hK.out _ _ (Upd.refl.alloc _) (HSS.out Non _ ((uD.then_non hR).alloc _) (fun _ _ _ f=>f)) ?_ (fun _ h=>h.elim);show IsVarR _ _ _;rw [updG_at];exact ⟨w1.heap.size,rfl,by have h1:=uD.size;have h2:=hR.size;omega,Blk.new _ _ _⟩
 ·intro g w1 hR hS hV _;obtain ⟨aA,e25,hkA⟩:IsRl exA w1 (g 25):=hV 12 (by simp);obtain ⟨b4,e4,hb4n,hb4⟩:IsVarR W0.heap.size w1 (g 4):=hV 13 (by simp);clear hV;unfold rlv rlCells at e25;simp only [mkA,List.foldl_cons,List.foldl_nil,z_,e25,e4];clear e25 e4;generalize g 15=g15;generalize g 18=g18;generalize g 21=g21;generalize g 23=g23;generalize g 24=g24;clear g;unfold zero14 at hb4;have hN:∀i cs,Blk w1 i 38 cs→¬i=b4:=fun i cs hb e=>by subst e;exact hb.ne_ hb4 (by decide) rfl
  have hN0:∀i cs,Blk W0 i 38 cs→¬i=b4:=fun i cs hb e=>hN i cs (hb.upd (uD.then_non hR) (fun f=>f)) e
  have q0:=hb4.cell 0;have q1:=hb4.cell 1;have q2:=hb4.cell 2;have q3:=hb4.cell 3;have q4:=hb4.cell 4;have q5:=hb4.cell 5;have q6:=hb4.cell 6;have q7:=hb4.cell 7;have q8:=hb4.cell 8;have q9:=hb4.cell 9;have q10:=hb4.cell 10;have q11:=hb4.cell 11;have q12:=hb4.cell 12;have q13:=hb4.cell 13;have f0:=hb4.frozen;refine aR_ (rs:=[14]) (by kernel_rfl) (by simp) ?_;refine aC_ rfl (fun K hK=>?_) aN_;go_simp;obtain ⟨X1,HX1⟩:=nm (set14 w1 b4 (.string exA.name) (.int .i64 exA.l.v) (.int .i64 exA.l.op) (.int .i64 exA.l.imm) (.int .i64 exA.l.iv) (.slice aA.la exA.l.kids.length aA.lc) (.int .i64 exA.r.v) (.int .i64 exA.r.op) (.int .i64 exA.r.imm) (.int .i64 exA.r.iv) (.slice aA.ra exA.r.kids.length aA.rc) (.slice aA.ca exA.conds.length aA.cc) (.int .i64 exA.vars) (.int .i64 exA.imms))
  have uX:Upd (·=b4) w1 X1:=by rw [←HX1.out];exact set14_upd _ _ _ _ _ _ _ _ _ _ _ _ _ _ _ _
  have hX:Blk X1 b4 41 (rlCells exA aA):=by rw [←HX1.out];exact set14_blk hb4 _ _ _ _ _ _ _ _ _ _ _ _ _ _
  have hkX:=hkA.pb rfl uX hN;have uWX:Upd (·=b4) W0 X1:=((uD.then_non hR).mono (fun _ _ f=>f.elim)).trans uX (fun _ _ q=>q);have hSX:=HSS.out (·=b4) X1 uWX hN0;rw [←HX1.out] at hSX;refine hK.out _ _ ?_ (fun hHeld=>?_)
  ·exact hSX
  clear hK K;(try simp only [y_,z_]);rw [set14_eq,HX1.out];clear q0 q1 q2 q3 q4 q5 q6 q7 q8 q9 q10 q11 q12 q13 f0 hb4 hSX hkA hN hHeld;have HUX:=h_ uWX;have HN0:=h_ hN0;have HXB:=h_ hX;have HKX:=h_ hkX;have hzA:RlSz exA:=⟨by decide +kernel,by decide +kernel,by decide +kernel,by decide +kernel⟩;have hzB:RlSz exB:=⟨by decide +kernel,by decide +kernel,by decide +kernel,by decide +kernel⟩;have HZA:=h_ hzA;have HZB:=h_ hzB;have CP:=h_ (aProve_c exA aA _ X1 hkX hzA);unfold rlv rlCells at CP;obtain ⟨c0,c1,c2,c3,c4,c5,c6,c7,c8,c9,c10,c11,c12,c13⟩:=rl_cells hX;clear uX hX hkX hzA hzB hN0 uWX hS hR uD HX1 HwD HW0;refine aD_ (by kernel_rfl) ?_ _;go_wp2_with fail
  refine CP.out.mono ?_;rintro e w3 ⟨u3,hP⟩
  have hP2:∃OA on oc,e=.returned (.tuple #[.slice OA on oc,.bool true])∧ElO ElAS 2 122 w3 (U8B w3) OA on oc ((lvls exA 65).map asE):=by
   rcases hP with ⟨l,OA,on,oc,hl,he,hO,_⟩ | ⟨hno,_⟩
   ·rw [exA_aut.1] at hl;injection hl with hl
    subst hl;exact ⟨OA,on,oc,he,hO⟩
   ·rw [exA_aut.1] at hno;cases hno
  obtain ⟨OA,on,oc,rfl,hO⟩:=hP2;have hon:((lvls exA 65).map asE).length=on:=hO.1.symm;have hon64:64<on:=by rw [←hon,List.length_map];exact exA_aut.2.1
  have ton:decide ((on:Int) > 64)=true:=dT_ (by omega);have HON:=h_ hon;have HO:=h_ hO;have HU3:Hid (Upd (·=b4) W0 w3):=HUX.out.then_non u3;have HX3:=h_ (HXB.out.upd u3 (fun f=>f));have HK3:=h_ (HKX.out.pb rfl u3 (fun _ _ _ f=>f));clear hP hon hO c0 c1 c2 c3 c4 c5 c6 c7 c8 c9 c10 c11 c12 c13 CP u3;obtain ⟨wD,HwD⟩:=nm w3.drew;have uD:Upd Non w3 wD:=by rw [←HwD.out];exact Upd.refl.drew
  go_wp2_with fail
  refine wp_region_held_drew (S:=fun w'=>w'.cell? ⟨a1,0,none⟩=some (.int .i64 1)∧w'.cell? ⟨a1,1,none⟩=some (.int .i64 0)∧w'.cell? ⟨a1,2,none⟩=some (.int .i64 0)∧w'.cell? ⟨a1,3,none⟩=some (.int .i64 0)∧w'.cell? ⟨a1,4,none⟩=some (.slice none 0 0)∧w'.cell? ⟨a2,0,none⟩=some (.int .i64 2)∧w'.cell? ⟨a2,1,none⟩=some (.int .i64 0)∧w'.cell? ⟨a2,2,none⟩=some (.int .i64 0)∧w'.cell? ⟨a2,3,none⟩=some (.int .i64 0)∧w'.cell? ⟨a2,4,none⟩=some (.slice none 0 0)∧w'.cell? ⟨a3,0,none⟩=some (.int .i64 0)∧w'.cell? ⟨a3,1,none⟩=some (.int .i64 1)∧w'.cell? ⟨a3,2,none⟩=some (.int .i64 1)∧w'.cell? ⟨a3,3,none⟩=some (.int .i64 0)∧w'.cell? ⟨a3,4,none⟩=some (.slice none 0 0)) (by kernel_rfl) (by rw [HwD.out];exact HSS.out _ wD (HU3.out.then_non uD) HN0.out) (fun hHeld=>?_)
  rw [HwD.out] at hHeld ⊢;refine wpT 0 ?_;(try simp only [y_,z_]);refine wpT 1 ?_;(try simp only [y_,z_]);refine wpT 3 ?_;(try simp only [y_,z_]);refine wpT 4 ?_;(try simp only [y_,z_]);refine wpAnyH_facts (fuel:=1) [2,5,6,7] [33,36,37,7] eS5 (fun w w'=>Upd Non w w') (eV5 w3.heap.size) (fun _ _ _=>False) (by kernel_rfl) (by decide) hHeld Upd.refl (fun _ _ h k=>h.then_non k) ?_ (fun _ _ h=>h.size) (fun _ _ _ _ _ _ h=>h) ?_ ?_
  ·intro i hi g g' w1 w2 _ hR hs hV;simp only [List.mem_cons,List.not_mem_nil,or_false] at hi;rcases hi with rfl | rfl | rfl | rfl <;> simp only [eS5,List.mem_cons,List.not_mem_nil,or_false,forall_eq] at hs <;> simp only [eV5,hs] at hV ⊢
   ·exact hV.upd hR (fun _ _ _ f=>f)
   ·exact hV.upd hR (fun _ _ _ f=>f)
   ·obtain ⟨a,h1,h2⟩:=hV;exact ⟨a,h1,h2.pb rfl hR (fun _ _ _ f=>f)⟩
   ·obtain ⟨b,h1,h2,h3⟩:=hV;exact ⟨b,h1,h2,h3.upd hR (fun f=>f)⟩
  ·intro i hi;simp only [List.mem_cons,List.not_mem_nil,or_false] at hi;rcases hi with rfl | rfl | rfl | rfl
   ·refine StepF.of rfl (fun g w1 hR hS hd K hK=>?_);simp only [y_] at hK ⊢;clear hd;simp only [mkA,List.foldl_cons,List.foldl_nil,z_] at hK ⊢;go_simp;refine (pair19_c w1 4 (qv 1) (qv 2) (isQ_v _ 1) (isQ_v _ 2)).mono ?_;rintro e w2 ⟨KA,kc,rfl,hk,hu⟩;go_wp2_with fail
    refine hK.out _ _ hu (HSS.out _ w2 (((HU3.out.then_non uD).then_non hR).then_non hu) HN0.out) ?_ (fun _ h=>h.elim);show IsQ w2 _ _;rw [updG_at];exact ⟨KA,kc,rfl,hk⟩
   ·refine StepF.of rfl (fun g w1 hR hS hd K hK=>?_);simp only [y_] at hK ⊢;clear hd;simp only [mkA,List.foldl_cons,List.foldl_nil,z_] at hK ⊢;go_simp;refine (pair19_c w1 10 (qv 1) (qv 2) (isQ_v _ 1) (isQ_v _ 2)).mono ?_;rintro e w2 ⟨KA,kc,rfl,hk,hu⟩;go_wp2_with fail
    refine hK.out _ _ hu (HSS.out _ w2 (((HU3.out.then_non uD).then_non hR).then_non hu) HN0.out) ?_ (fun _ h=>h.elim);show IsQ w2 _ _;rw [updG_at];exact ⟨KA,kc,rfl,hk⟩
   ·refine StepF.of rfl (fun g w1 hR hS hd K hK=>?_);simp only [y_] at hK ⊢;obtain ⟨K2,k2,e2,h2⟩:IsQ w1 exL1 (g 33):=hd 2 (by kernel_rfl);obtain ⟨K5,k5,e5,h5⟩:IsQ w1 (q2 10 (qv 1) (qv 2)) (g 36):=hd 5 (by kernel_rfl);unfold pv at e2 e5;clear hd;simp only [mkA,List.foldl_cons,List.foldl_nil,z_,e2,e5] at hK ⊢;go_simp;refine hK.out _ _ Upd.refl hS ?_ (fun _ h=>h.elim);show IsRl exB w1 _;rw [updG_at];exact ⟨⟨K2,k2,K5,k5,none,0⟩,rfl,⟨h2,h5,.inl rfl,Nat.le_refl _⟩⟩
   ·refine StepF.of rfl (fun g w1 hR hS hd K hK=>?_);simp only [y_] at hK ⊢;clear hd;simp only [mkA,List.foldl_cons,List.foldl_nil,z_] at hK ⊢;go_simp;refine hK.out _ _ (Upd.refl.alloc _) (HSS.out _ _ (((HU3.out.then_non uD).then_non hR).alloc _) HN0.out) ?_ (fun _ h=>h.elim);show IsVarR _ _ _;rw [updG_at];exact ⟨w1.heap.size,rfl,by have h1:=uD.size;have h2:=hR.size;omega,Blk.new _ _ _⟩
  ·intro g w1 hR hS hV _;obtain ⟨aB,e37,hkB⟩:IsRl exB w1 (g 37):=hV 6 (by simp);obtain ⟨b7,e7,hb7n,hb7⟩:IsVarR w3.heap.size w1 (g 7):=hV 7 (by simp);clear hV;unfold rlv rlCells at e37;simp only [mkA,List.foldl_cons,List.foldl_nil,z_,e37,e7];clear e37 e7;generalize g 33=g33;generalize g 36=g36;clear g;unfold zero14 at hb7;have hN:∀i cs,Blk w1 i 38 cs→¬i=b7:=fun i cs hb e=>by subst e;exact hb.ne_ hb7 (by decide) rfl
   have hu31:=uD.then_non hR;have hb47:b4≠b7:=by have:=HX3.out.lt;omega
   have q0:=hb7.cell 0;have q1:=hb7.cell 1;have q2:=hb7.cell 2;have q3:=hb7.cell 3;have q4:=hb7.cell 4;have q5:=hb7.cell 5;have q6:=hb7.cell 6;have q7:=hb7.cell 7;have q8:=hb7.cell 8;have q9:=hb7.cell 9;have q10:=hb7.cell 10;have q11:=hb7.cell 11;have q12:=hb7.cell 12;have q13:=hb7.cell 13;have f0:=hb7.frozen;refine aR_ (rs:=[8]) (by kernel_rfl) (by simp) ?_;refine aC_ rfl (fun K hK=>?_) aN_;go_simp;obtain ⟨X2,HX2⟩:=nm (set14 w1 b7 (.string exB.name) (.int .i64 exB.l.v) (.int .i64 exB.l.op) (.int .i64 exB.l.imm) (.int .i64 exB.l.iv) (.slice aB.la exB.l.kids.length aB.lc) (.int .i64 exB.r.v) (.int .i64 exB.r.op) (.int .i64 exB.r.imm) (.int .i64 exB.r.iv) (.slice aB.ra exB.r.kids.length aB.rc) (.slice aB.ca exB.conds.length aB.cc) (.int .i64 exB.vars) (.int .i64 exB.imms))
   have uX:Upd (·=b7) w1 X2:=by rw [←HX2.out];exact set14_upd _ _ _ _ _ _ _ _ _ _ _ _ _ _ _ _
   have hX:Blk X2 b7 41 (rlCells exB aB):=by rw [←HX2.out];exact set14_blk hb7 _ _ _ _ _ _ _ _ _ _ _ _ _ _
   have hkX:=hkB.pb rfl uX hN;have u3X:Upd (·=b7) w3 X2:=(hu31.mono (fun _ _ f=>f.elim)).trans uX (fun _ _ q=>q);have uWX:Upd (fun i=>i=b4∨i=b7) W0 X2:=(HU3.out.mono (fun _ _ q=>.inl q)).trans u3X (fun _ _ q=>.inr q)
   have hN7:∀i cs,Blk W0 i 38 cs→¬(i=b4∨i=b7):=fun i cs hb e=>by
    rcases e with e | e
    ·exact HN0.out i cs hb e
    ·have h1:=hb.lt;have h2:=HU3.out.size;omega
   have hSX:=HSS.out _ X2 uWX hN7;rw [←HX2.out] at hSX;refine hK.out _ _ ?_ (fun hHeld=>?_)
   ·exact hSX
   clear hK K;(try simp only [y_,z_]);rw [set14_eq,HX2.out];have HX4:=h_ (HX3.out.upd u3X hb47);have HK4:=h_ (HK3.out.pb rfl u3X (fun i cs hb e=>by have:=hb.lt;omega));have HO4:=h_ (HO.out.u8 elAS u3X (fun i hi e=>by obtain ⟨_,_,ho,_⟩:=HO.out;have:=ho.lt hi;omega) (fun i cs hb e=>by have:=hb.lt;omega))
   have HKB:=h_ hkX;have HXB7:=h_ hX
   have HUF:Hid (Upd Non w X2):=HU0.out.trans uWX (fun i hi q=>by
    have hs:=HU0.out.size;rcases q with q | q
    ·omega
    ·have h2:=HU3.out.size;omega)
   have CP:=h_ (aProve_c exB aB _ X2 hkX HZB.out);unfold rlv rlCells at CP;obtain ⟨c0,c1,c2,c3,c4,c5,c6,c7,c8,c9,c10,c11,c12,c13⟩:=rl_cells hX;clear q0 q1 q2 q3 q4 q5 q6 q7 q8 q9 q10 q11 q12 q13 f0 hb7 hSX hkB hN hHeld uX hX hkX u3X uWX hN7 hS hR uD HX2 HwD hu31;refine aD_ (by kernel_rfl) ?_ _;go_wp2_with fail
   refine CP.out.mono ?_;rintro e w5 ⟨u5,hP⟩
   have hP2:e=.returned (.tuple #[.slice none 0 0,.bool false]):=by
    rcases hP with ⟨l,_,_,_,hl,_⟩ | ⟨_,he⟩
    ·rw [exB_aut] at hl;cases hl
    ·exact he
   subst hP2;have hX5:=HX4.out.upd u5 (fun f=>f);have hX57:=HXB7.out.upd u5 (fun f=>f);have hk5:=HK4.out.pb rfl u5 (fun _ _ _ f=>f);have hkb5:=HKB.out.pb rfl u5 (fun _ _ _ f=>f);have hO5:=HO4.out.u8 elAS u5 (fun _ _ f=>f) (fun _ _ _ f=>f);have CC:=h_ (aCheck_c exA aA _ w5 hk5 HZA.out (lc:=oc) (hO5.view elAS (F:=fun _=>True) (fun _ _=>trivial) (fun _ _ _=>trivial)) (by rw [List.length_map];have:=exA_aut.2.2;omega))
   rw [HON.out,exA_check] at CC;have CA:=h_ (fun (w':World) (u:Upd Non w5 w')=>aApplicable_c exB aB _ w' (hkb5.pb rfl u (fun _ _ _ f=>f)) HZB.out);rw [exB_appl] at CA;have CN:=h_ (fun (w':World) (u:Upd Non w5 w')=>aCheck_c exA aA _ w' (hk5.pb rfl u (fun _ _ _ f=>f)) HZA.out (lc:=0) (G:=fun _=>True) (LA:=none) (L:=[]) ElV.nil (by decide))
   rw [exA_none] at CN;have HX5:=h_ hX5;have HX57:=h_ hX57;have HU5:=h_ (HUF.out.then_non u5);unfold rlv rlCells at CC CA CN;obtain ⟨d0,d1,d2,d3,d4,d5,d6,d7,d8,d9,d10,d11,d12,d13⟩:=rl_cells hX5;clear hP hX5 hX57 hk5 hkb5 hO5 u5 c0 c1 c2 c3 c4 c5 c6 c7 c8 c9 c10 c11 c12 c13 CP;go_wp2_with fail
   refine CC.out.mono ?_;rintro e w6 ⟨rfl,u6⟩;obtain ⟨c0,c1,c2,c3,c4,c5,c6,c7,c8,c9,c10,c11,c12,c13⟩:=rl_cells (HX57.out.upd u6 (fun f=>f));clear d0 d1 d2 d3 d4 d5 d6 d7 d8 d9 d10 d11 d12 d13;go_wp2_with fail
   refine (CA.out w6 u6).mono ?_;rintro e w7 ⟨rfl,u7⟩;obtain ⟨d0,d1,d2,d3,d4,d5,d6,d7,d8,d9,d10,d11,d12,d13⟩:=rl_cells (HX5.out.upd (u6.then_non u7) (fun f=>f));clear c0 c1 c2 c3 c4 c5 c6 c7 c8 c9 c10 c11 c12 c13;go_wp2_with fail
   refine (CN.out w7 (u6.then_non u7)).mono ?_;rintro e w8 ⟨rfl,u8⟩;go_wp2_with fail
   go_ret;exact ⟨rfl,HU5.out.then_non ((u6.then_non u7).then_non u8)⟩
end Go.Proofs.YtifhejahbbnkiaaGreat
