/-
  Lemmas and walks that the claim rests on, part 11 (packed by a program).
-/
import Derived.Test.YtifhejahbbnkiaaGreatC10
import Derived.Test.YtifhejahbbnkiaaGreatC9
import Derived.Test.YtifhejahbbnkiaaGreatC8
import Derived.Test.YtifhejahbbnkiaaGreatC7
import Derived.Test.YtifhejahbbnkiaaGreatC2
import Derived.Test.YtifhejahbbnkiaaGreatC6
import Derived.Test.YtifhejahbbnkiaaGreatC1
import Derived.Test.YtifhejahbbnkiaaGreatRows
import Derived.ProofKit
import Derived.OpenShut
import Derived.SizedLaws
import Derived.Deep.Slices
import Derived.Test.YtifhejahbbnkiaaGreatC5
namespace Go.Proofs.YtifhejahbbnkiaaGreat
open Go.RowKit
theorem sortB_app (l m:List (List Bool)):sortB (l++m)=m.foldl (fun a x=>insB x a) (sortB l):=List.foldl_append
theorem sortB_snoc (l:List (List Bool)) (x:List Bool):sortB (l++[x])=insB x (sortB l):=sortB_app l [x]
theorem sortB_rinF (r:Rl):sortB (rinF r)=lvl r 0:=srt_ext (srt_sortB _) (lvl_srt r 0) (fun x=>by rw [mem_sortB,lvl_init,mem_rinF])
def nxB (r:Rl) (k i:Nat):List (List Bool):=if k<64 then ((lvl r k).take i).flatMap (succsF r k) else []
theorem nxB_succ {r:Rl} {k i:Nat} (hk:k<64) (hi:i<(lvl r k).length):nxB r k (i+1)=nxB r k i++succsF r k (lvl r k)[i]:=by
 unfold nxB;rw [if_pos hk,if_pos hk,List.take_succ_eq_append_getElem hi,List.flatMap_append];simp
theorem nxB_end (r:Rl) (i:Nat):nxB r 64 i=[]:=rfl
theorem nxB_all {r:Rl} {k:Nat} (hk:k<64):sortB (nxB r k (lvl r k).length)=lvl r (k+1):=by
 unfold nxB;rw [if_pos hk,List.take_length];rfl
structure RaM (w2 wr:World) (B:Nat) (A:Option Addr) (n c:Nat) (N:List (List Bool)) (OA:Option Addr) (on oc:Nat) (O:List (Nat×List Bool)):Prop where
 now:ElO ElRow 1 84 wr (U8B wr) A n c (N.map bbs)
 out:ElO ElAS 2 122 wr (U8B wr) OA on oc (O.map asE)
 upd:Upd Non w2 wr
 ob:∀i,At OA i→B≤i
 bs:B=w2.heap.size
section
variable {w2 wr w' w3 w4:World} {B n c on oc:Nat} {A OA:Option Addr} {N:List (List Bool)} {O:List (Nat×List Bool)}
theorem RaM.non (h:RaM w2 wr B A n c N OA on oc O) (u:Upd Non wr w'):RaM w2 w' B A n c N OA on oc O :=
 ⟨h.now.u8 elRow u (fun _ _ f=>f) (fun _ _ _ f=>f),h.out.u8 elAS u (fun _ _ f=>f) (fun _ _ _ f=>f),h.upd.then_non u,h.ob,h.bs⟩
theorem RaM.add (h:RaM w2 wr B A n c N OA on oc O) (u3:Upd Non wr w3) {cs:List Value} (hO:Own wr 122 2 OA on oc cs) (hC:ElCells ElAS 2 wr (fun i=>U8B wr i∧¬At OA i) cs (O.map asE)) {x:Nat×List Bool} {RA:Option Addr} {rc:Nat} (hrc:x.2.length≤rc) (hR:Sl wr (U8B wr) RA (u8s (bbs x.2)))
  {OA':Option Addr} {oc':Nat} (ho:Own w4 122 2 OA' (on+1) oc' (cs++[.int .i64 (x.1:Int),.slice RA x.2.length rc])) (u4:Upd (At OA) w3 w4) (hat:∀i,At OA' i→At OA i∨i=w3.heap.size) :
  RaM w2 w4 B A n c N OA' (on+1) oc' (O++[x]):=by
 have h3:=h.non u3;have hO3:=hO.upd u3 (fun _ _ f=>f);have d8:∀i q,Blk w3 i 5 q→¬At OA i:=fun i q hb=>hO3.ne_blk hb (by decide)
 obtain ⟨_,_,hAo,_⟩:=h3.now;have hbl:(bbs x.2).length=x.2.length:=by unfold bbs;rw [List.length_map]
 refine ⟨h3.now.u8 elRow u4 (fun i hi=>hAo.ne_type hO3 (by decide) hi) d8,?_,h3.upd.trans u4 (fun i hi q=>by have:=h.ob i q;have:=h.bs;omega),fun i hi=>?_,h.bs⟩
 ·rw [List.map_append];refine ElO.snoc8 elAS (by decide) h.out.1 hC u3 hO3 ?_ ho u4 hat;refine ⟨RA,rc,?_,?_,?_⟩
  ·show _=[Value.int .i64 ((x.1:Nat):Int),.slice RA (bbs x.2).length rc];rw [hbl]
  ·show (bbs x.2).length≤rc;rw [hbl];exact hrc
  ·refine (hR.mono (G:=fun i=>U8B wr i∧¬At OA i) (fun i _ q=>⟨q,?_⟩)).upd u3 (fun _ _ _ f=>f) |>.mono (fun i hi q=>⟨?_,q.2⟩)
   ·obtain ⟨z,hb⟩:=q;exact hO.ne_blk hb (by decide)
   ·exact q.1.upd u3 (fun f=>f)
 ·rcases hat i hi with q | q
  ·exact h.ob i q
  ·have h1:=h3.upd.size;have:=h.bs;omega
end
set_option maxRecDepth 100000 in
set_option maxHeartbeats 16000000 in
theorem rAutomaton_c (r:Rl) (a:RlA) (F:Nat→Prop) (w:World) (hk:RlK w F r a) (hz:RlSz r) (hI:RlI r) :
  Calls Tryz.prog 27 #[rlv r a] w fun e w'=>PvP r w e w':=by
 obtain ⟨W,HW⟩:=nm (w.alloc (.cells (rlCells r a) 41));have hU:Upd Non w W:=by rw [←HW.out];exact Upd.refl.alloc _
 obtain ⟨rb,hrb⟩:∃b,w.heap.size=b:=⟨_,rfl⟩;have hb:Blk W rb 41 (rlCells r a):=by rw [←HW.out,←hrb];exact Blk.new _ _ _
 have e0:=HW.out;have hK:=(hk.mono (G:=fun k=>k<w.heap.size) (fun _ h _=>h)).upd hU (fun _ _ _ f=>f);obtain ⟨c0,c1,c2,c3,c4,c5,c6,c7,c8,c9,c10,c11,c12,c13⟩:=rl_cells hb;have CB:=h_ (rApplicable_c r a _ W hK hz);have HU:=h_ hU;have HK:=h_ hK;have HBK:=h_ hb;clear hk hz hK hb hU;unfold rlv at CB ⊢;unfold rlCells at CB e0 ⊢;go_enter Tryz.func27,Tryz.ntmps27;go_wp2_with fail
 refine CB.out.mono ?_;rintro e w2 ⟨rfl,uu2⟩;obtain ⟨ap,Hap⟩:=nm (applF r);rw [Hap.out];have HU2:=h_ (HU.out.then_non uu2);have HB2:=h_ (HBK.out.upd uu2 (fun f=>f));have HK2:=h_ (HK.out.upd uu2 (fun _ _ _ f=>f));clear c0 c1 c2 c3 c4 c5 c6 c7 c8 c9 c10 c11 c12 c13 uu2 e0 CB HBK HK
 cases ap with
 | false =>
  go_wp2_with fail
  go_ret2;exact ⟨HU2.out,.inr ⟨autF_not Hap.out,rfl⟩⟩
 | true =>
  have hap:=Hap.out;obtain ⟨hg6,him⟩:=ub_sup hap;have hi:=imok_of him;have hst:=stN_le hi;have hsup:=applF_sup hap;have CI:=h_ (rInitStates_c r a _ w2 HK2.out hap);have HSP:=h_ hsup;have HRO:=h_ (rok_of hap hI);have HST:=h_ hst;have HI:=h_ hi;obtain ⟨sn,Hsn⟩:=nm (stN r);have hsn:sn≤4000:=by rw [←Hsn.out];exact hst
  have hsn0:0<sn:=by rw [←Hsn.out];unfold stN;omega
  have hv6:2 ^ r.vars.toNat≤64:=Nat.le_trans (Nat.pow_le_pow_right (by decide) (show r.vars.toNat≤6 by have:=hi.v6;omega)) (by decide);have HLL:Hid (∀k b,b∈lvl r k→b.length=sn):=fun k b h=>by rw [←Hsn.out];exact lvl_len hsup.1 hsup.2 k b h
  have HSL:Hid (∀k b,(succsF r k b).length=2 ^ r.vars.toNat):=succsF_len r
  have HSLN:Hid (∀k b,b.length=sn→∀x∈succsF r k b,x.length=sn):=fun k b hbl x hx=>by
   obtain ⟨h,_,rfl⟩:=List.mem_map.1 hx;rw [succF_len hsup.1 hsup.2 _ _ (by rw [hbl,Hsn.out]),Hsn.out]
  obtain ⟨H,HH⟩:=nm (2 ^ r.vars.toNat);rw [HH.out] at hv6 HSL;have hv0:=hi.v0;have hv6':r.vars.toNat≤6:=by have:=hi.v6;omega
  have HVV:Hid (0≤r.vars∧r.vars.toNat≤6):=⟨hv0,hv6'⟩;clear hsup hi hst him hap hv0 hv6';unfold rlv rlCells at CI;obtain ⟨c0,c1,c2,c3,c4,c5,c6,c7,c8,c9,c10,c11,c12,c13⟩:=rl_cells HB2.out;go_wp2_with fail
  refine CI.out.mono ?_;rintro e w3 ⟨FA,fn,fc,rfl,hF,_,u3⟩;clear c0 c1 c2 c3 c4 c5 c6 c7 c8 c9 c10 c11 c12 c13 CI;have hfn:fn=(rinF r).length:=by have:=hF.1;rw [List.length_map] at this;exact this
  have hfn6:fn≤64:=by rw [hfn,rinF_len];exact Nat.le_trans (Nat.pow_le_pow_right (by decide) hg6) (by decide)
  have HF:=h_ hF;have HFN:=h_ hfn;have HU3:=h_ u3;clear hF hfn u3 hg6;go_wp2_with fail
  go_loopg [4,6] fn (fun gg s4 s6 wr=>∃(i:Nat) (A:Option Addr) (n c:Nat),Hid (gg=fn - i)∧i≤fn∧s4=.slice A n c∧s6=.int .i64 i∧n≤i∧Hid (ElO ElRow 1 84 wr (U8B wr) A n c ((sortB ((rinF r).take i)).map bbs))∧Hid (Upd Non w3 wr))
  case atStart=>exact ⟨0,none,0,0,rfl,by omega,rfl,rfl,Nat.le_refl _,by rw [List.take_zero];exact ElO.none_,Upd.refl⟩
  case round =>
   obtain ⟨i,A,n,c,Hg,hi,rfl,rfl,hni,HN,HUr⟩:=hrel;obtain ⟨wi,rfl⟩:∃x:World,x=wr:=⟨_,rfl⟩;by_cases hlt:i<fn
   ·have hil:i<(rinF r).length:=by rw [←HFN.out];exact hlt
    obtain ⟨g,RA,rc,rfl,y0,hrc,hsl⟩:=rows_at (HF.out.u8 elRow HUr.out (fun _ _ f=>f) (fun _ _ _ f=>f)) (i:=i) (by rw [List.length_map];exact hil);rw [List.getElem_map] at y0 hrc hsl;have hbl:(bbs (rinF r)[i]).length=sn:=by unfold bbs;rw [List.length_map,rinF_rows r _ (List.getElem_mem hil),Hsn.out]
    rw [hbl] at y0 hrc;rw [←b8s_u8s] at hsl;have C1:=h_ (rInsert_c (bc:=rc) (m:=sn) HN.out (by omega) (hsl.mono (fun _ _ q=>q.1)) (by rw [←hbl];unfold bbs;rw [List.length_map]) hrc)
    have HTK:Hid (insB (rinF r)[i] (sortB ((rinF r).take i))=sortB ((rinF r).take (i+1))):=by
     show _=_;rw [List.take_succ_eq_append_getElem hil,sortB_snoc]
    rw [HTK.out] at C1;have ti:(i:Int)<(fn:Int):=by omega
    have ti0:(0:Int)≤(i:Int):=by omega
    clear hrc hsl hbl;go_wp2_with fail
    refine C1.out.mono ?_;rintro e w5 ⟨A5,n5,c5,rfl,hN5,_,hn5,u5⟩;have HN5:=h_ hN5;have HU5:=h_ (HUr.out.then_non u5);clear hN5 u5 C1 y0;go_wp2_with fail
    go_roundg (fn - (i+1))
    case measure=>rw [Hg.out];omega
    case rel=>exact ⟨i+1,A5,n5,c5,rfl,by omega,rfl,by go_num,by omega,HN5.out,HU5.out⟩
   ·obtain rfl:fn=i:=by omega
    have hN0:=HN.out;rw [HFN.out,List.take_length,sortB_rinF] at hN0;have HM:Hid (RaM wi wi wi.heap.size A n c (lvl r 0) none 0 0 (lvls r 0)):=⟨hN0,ElO.none_,Upd.refl,fun i h=>(At.none_ h).elim,rfl⟩;have HU4:=h_ (HU3.out.then_non HUr.out);have HB4:=h_ (HB2.out.upd HU4.out (fun f=>f));have HK4:=h_ (HK2.out.upd HU4.out (fun _ _ _ f=>f));obtain ⟨B,HBB⟩:=nm wi.heap.size;rw [HBB.out] at HM;have HSZ:Hid (w.heap.size≤wi.heap.size):=(HU2.out.then_non HU4.out).size;have HU24:=h_ (HU2.out.then_non HU4.out);clear hN0;go_wp2_with fail
    go_loopg [4,7,8,9,10,11,12] 65 (fun gg s4 s7 s8 _ _ _ _ wr=>∃(k:Nat) (A:Option Addr) (n c:Nat) (OA:Option Addr) (on oc:Nat) (N:List (List Bool)),Hid (gg=65 - k)∧k≤65∧s4=.slice A n c∧s7=.slice OA on oc∧s8=.int .i64 k∧on≤4096∧n≤300000∧Hid (k<65→N=lvl r k)∧Hid (k=65→∀b∈lvl r 64,safeF r b=true)∧Hid (RaM wi wr B A n c N OA on oc (lvls r k)))
    case atStart=>exact ⟨0,A,n,c,none,0,0,lvl r 0,rfl,by omega,rfl,rfl,rfl,by omega,by omega,fun _=>rfl,fun h=>by omega,HM.out⟩
    case round =>
     clear HM HN HF HFN HUr Hg;obtain ⟨k,A,n,c,OA,on,oc,N,Hg,hk,rfl,rfl,rfl,hon,hn3,HN0,HSF,HMr⟩:=hrel;obtain ⟨wk,rfl⟩:∃x:World,x=wr:=⟨_,rfl⟩;by_cases hlt:k<65
     ·have tk:decide ((k:Int)≤64)=true:=dT_ (by omega);obtain rfl:=HN0.out hlt;have HNL:Hid (n=(lvl r k).length):=by show _=_;have:=HMr.out.now.1;rw [List.length_map] at this;exact this
      go_wp2_with fail
      go_loopg [7,9,10,11,12] n (fun gg s7 s9 s10 _ _ wr=>∃(i:Nat) (OA:Option Addr) (on oc:Nat) (NA:Option Addr) (nn nc:Nat),Hid (gg=n - i)∧i≤n∧s7=.slice OA on oc∧s9=.slice NA nn nc∧s10=.int .i64 i∧on≤4096∧nn≤i * 64∧Hid (k=64→∀b∈(lvl r k).take i,safeF r b=true)∧Hid (RaM wi wr B A n c (lvl r k) OA on oc (lvls r k++((lvl r k).take i).map fun b=>(k,b)))∧Hid (ElO ElRow 1 84 wr (U8B wr) NA nn nc ((sortB (nxB r k i)).map bbs)))
      case atStart=>exact ⟨0,OA,on,oc,none,0,0,rfl,by omega,rfl,rfl,rfl,hon,by omega,(fun _ b hb=>by rw [List.take_zero] at hb;cases hb),by rw [List.take_zero,List.map_nil,List.append_nil];exact HMr.out,by unfold nxB;rw [List.take_zero];simp only [List.flatMap_nil,ite_self];exact ElO.none_⟩
      case round =>
       clear HMr;obtain ⟨i,OA,on,oc,NA,nn,nc,Hg2,hi,rfl,rfl,rfl,hon,hnn,HSF2,HMr,HNX⟩:=hrel;obtain ⟨wj,rfl⟩:∃x:World,x=wr:=⟨_,rfl⟩;by_cases hin:i<n
       ·have hil:i<(lvl r k).length:=by rw [←HNL.out];exact hin
        obtain ⟨g,RA,rc,rfl,y0,hrc,hsl⟩:=rows_at HMr.out.now (i:=i) (by rw [List.length_map];exact hil);rw [List.getElem_map] at y0 hrc hsl;have hbm:=List.getElem_mem hil;have htk:=List.take_succ_eq_append_getElem hil;have HNS:Hid (k<64→nxB r k (i+1)=nxB r k i++succsF r k (lvl r k)[i]):=fun h=>nxB_succ h hil
        have HAT:Hid (∀w',RaM wi w' B (some ⟨g,0,none⟩) n c (lvl r k) OA on oc []→True):=fun _ _=>trivial
        generalize hbe:(lvl r k)[i]=b at y0 hrc hsl hbm htk HNS;have hbl:b.length=sn:=HLL.out k b hbm;have hbb:(bbs b).length=sn:=by unfold bbs;rw [List.length_map,hbl]
        rw [hbb] at y0 hrc;obtain ⟨hoL,cs,hoO,hcO⟩:=HMr.out.out
        have HADD:Hid (∀{w3 w4:World} (u3:Upd Non wj w3) {OA':Option Addr} {oc':Nat} (ho:Own w4 122 2 OA' (on+1) oc' (cs++[.int .i64 (k:Int),.slice RA sn rc])) (u4:Upd (At OA) w3 w4) (hat:∀i,At OA' i→At OA i∨i=w3.heap.size),RaM wi w4 B (some ⟨g,0,none⟩) n c (lvl r k) OA' (on+1) oc' (lvls r k++((lvl r k).take (i+1)).map fun b=>(k,b))∧ElO ElRow 1 84 w4 (U8B w4) NA nn nc ((sortB (nxB r k i)).map bbs)):=fun {w3 w4} u3 {OA'} {oc'} ho u4 hat=>by
         have h1:=HMr.out.add (x:=(k,b)) u3 hoO hcO (by rw [hbl];exact hrc) (hsl.mono (fun _ _ q=>q.1)) (by show Own _ _ _ _ _ _ (cs++[.int .i64 (k:Int),.slice RA b.length rc]);rw [hbl];exact ho) u4 hat
         refine ⟨by rw [htk,List.map_append,←List.append_assoc];exact h1,?_⟩;have hO3:=hoO.upd u3 (fun _ _ f=>f);have h2:=HNX.out.u8 elRow u3 (fun _ _ f=>f) (fun _ _ _ f=>f);have h2':=h2;obtain ⟨_,_,hAo,_⟩:=h2';exact h2.u8 elRow u4 (fun i hi=>hAo.ne_type hO3 (by decide) hi) (fun i q hb=>hO3.ne_blk hb (by decide))
        have HOL:Hid (on=(lvls r k++((lvl r k).take i).map fun b=>(k,b)).length):=by show _=_;rw [hoL,List.length_map]
        have HBM:=h_ hbm;have HTK:Hid ((lvl r k).take (i+1)=(lvl r k).take i++[b]):=htk;have HBL:=h_ hbl;have HBE:=h_ hbe
        have hlen1:(lvls r k++((lvl r k).take (i+1)).map fun b=>(k,b)).length=on+1:=by
         rw [htk,List.map_append,←List.append_assoc,List.length_append,←HOL.out];rfl
        have HLN:=h_ hlen1;have ti0:(0:Int)≤(i:Int):=by omega
        have ti1:(i:Int)<(n:Int):=by omega
        have hi4:i≤4096:=by have:=HOL.out;rw [List.length_append,List.length_map,List.length_take] at this;omega
        have HNO:Hid (autF r=none→∀w',Upd Non wi w'→PvP r w (.returned (.tuple #[.slice none 0 0,.bool false])) w'):=fun h w' uu=>⟨HU24.out.then_non uu,.inr ⟨h,rfl⟩⟩
        clear hcO hoL hsl hbm htk hbl hbb hbe hrc hlen1
        go_wp2_with (at_builtin;refine wpList_app rfl rfl T_AStates rfl (hoO.alloc _) rfl (Sl.new _ _ _) rfl (by simp [Value.oneCell']) (by simp only [maxLen];omega) (by omega) ?_)
        intro A8 c8 w8 ho8 hu8 hat8;obtain ⟨hm8,hn8⟩:=HADD.out (Upd.refl.alloc _) ho8 hu8 (fun i q=>(hat8 i q).imp id (fun z=>by rw [z];simp));have HM8:=h_ hm8;have HN8:=h_ hn8;obtain ⟨o1,Ho1⟩:=nm (on+1);rw [Ho1.out] at HM8 HLN ⊢;clear hm8 hn8 ho8 hu8 hat8 HADD HMr HNX hoO y0;have hk64:k≤64:=by omega
        by_cases hlong:4096<o1
        ·have tl:decide ((o1:Int) > 4096)=true:=dT_ (by omega);have tln:decide (4096<o1)=true:=dT_ hlong
         go_upto_region 18 with fail
         refine wp_region_held_drew (S:=fun w'=>True) (by kernel_rfl) trivial (fun hHeld=>?_);refine wpT 0 ?_;(try simp only [y_,z_]);refine wpT 1 ?_;(try simp only [y_,z_]);refine wpT 2 ?_;(try simp only [y_,z_]);refine wpT 3 ?_;(try simp only [y_,z_]);refine wpU 4 ?_;(try simp only [y_,z_]);refine wpU 5 ?_;(try simp only [y_,z_]);refine wpU 6 ?_;(try simp only [y_,z_]);refine wpU 7 ?_;(try simp only [y_,z_]);refine wpU 8 ?_;(try simp only [y_,z_]);refine wpU 9 ?_;(try simp only [y_,z_]);refine wpU 10 ?_;(try simp only [y_,z_]);refine wpU 11 ?_;(try simp only [y_,z_]);refine wpU 12 ?_;(try simp only [y_,z_]);refine wpU 13 ?_;(try simp only [y_,z_]);refine wpU 14 ?_;(try simp only [y_,z_]);refine wpT 15 ?_;(try simp only [y_,z_]);refine aD_ (by kernel_rfl) ?_ _;clear hHeld;go_wp2_with fail
         go_ret2;refine HNO.out (autF_long hk64 (P:=lvls r k++((lvl r k).take (i+1)).map fun b=>(k,b)) ?_ (by rw [HLN.out];exact hlong)) _ (HM8.out.upd.drewN 1);rw [lvls_succ];exact List.Sublist.append_left ((List.take_sublist _ _).map _) _
        ·have tl:decide ((o1:Int) > 4096)=false:=dF_ (by omega);have tln:decide (4096<o1)=false:=dF_ hlong;obtain ⟨g8,RA8,rc8,eA8,y8,hrc8,hsl8⟩:=rows_at HM8.out.now (i:=i) (by rw [List.length_map];exact hil);injection eA8 with eA8
         injection eA8 with eA8
         subst eA8;rw [List.getElem_map,HBE.out] at y8 hrc8 hsl8;have hbb8:(bbs b).length=sn:=by unfold bbs;rw [List.length_map,HBL.out]
         rw [hbb8] at y8 hrc8;rw [←b8s_u8s] at hsl8;have HS8:Hid (∀w',Upd Non w8 w'→Sl w' (fun _=>True) RA8 (b8s b)):=fun w' u=>(hsl8.upd u (fun _ _ _ f=>f)).mono (fun _ _ _=>trivial)
         have HK8:Hid (∀w',Upd Non w8 w'→RlK w' (fun _=>True) r a):=fun w' u=>(HK4.out.upd (HM8.out.upd.then_non u) (fun _ _ _ f=>f)).mono (fun _ _ _=>trivial)
         have HRC8:=h_ hrc8;have HR8:=h_ (fun (w':World) (u:Upd Non w8 w')=>rl_cells (HB4.out.upd (HM8.out.upd.then_non u) (fun f=>f)));have HY8:=h_ (fun (w':World) (u:Upd Non w8 w')=>u_ (S:=Non) y8 u (fun f=>f));clear hbb8 hsl8 hrc8 y8;by_cases h64:k=64
         ·subst h64;have t64:((64:Nat):Int)==64:=by decide
          have CS:Hid (∀w',Upd Non w8 w'→Calls Tryz.prog 68 #[rlv r a,.slice RA8 sn rc8] w' fun e w''=>e=.returned (.bool (safeF r b))∧Upd Non w' w''):=fun w' u=>by
           have h:=rSafe_c r a HSP.out.1 HSP.out.2 HI.out.wl HI.out.wr HI.out.cn HST.out (b:=b) (bc:=rc8) (by rw [HBL.out,Hsn.out]) (HK8.out w' u) (HS8.out w' u) (by rw [HBL.out];exact HRC8.out)
           rwa [HBL.out] at h
          obtain ⟨sf,Hsf⟩:=nm (safeF r b);rw [Hsf.out] at CS;unfold rlv rlCells at CS;obtain ⟨W9,HW9⟩:=nm w8.drew;have u9:Upd Non w8 W9:=by rw [←HW9.out];exact Upd.refl.drew
          have HU9:=h_ u9;have hS9:=HR8.out W9 u9;have hy9:=HY8.out W9 u9;clear u9
          cases sf with
          | false =>
           go_upto_region 18 with fail
           refine wp_region_held_drew (S:=fun w'=>w'.cell? ⟨g,i,none⟩=some (.slice RA8 sn rc8)∧w'.cell? ⟨rb,0,none⟩=some (.string r.name)∧w'.cell? ⟨rb,1,none⟩=some (.int .i64 r.l.v)∧w'.cell? ⟨rb,2,none⟩=some (.int .i64 r.l.op)∧w'.cell? ⟨rb,3,none⟩=some (.int .i64 r.l.imm)∧w'.cell? ⟨rb,4,none⟩=some (.int .i64 r.l.iv)∧w'.cell? ⟨rb,5,none⟩=some (.slice a.la r.l.kids.length a.lc)∧w'.cell? ⟨rb,6,none⟩=some (.int .i64 r.r.v)∧w'.cell? ⟨rb,7,none⟩=some (.int .i64 r.r.op)∧w'.cell? ⟨rb,8,none⟩=some (.int .i64 r.r.imm)∧w'.cell? ⟨rb,9,none⟩=some (.int .i64 r.r.iv)∧w'.cell? ⟨rb,10,none⟩=some (.slice a.ra r.r.kids.length a.rc)∧w'.cell? ⟨rb,11,none⟩=some (.slice a.ca r.conds.length a.cc)∧w'.cell? ⟨rb,12,none⟩=some (.int .i64 r.vars)∧w'.cell? ⟨rb,13,none⟩=some (.int .i64 r.imms)) (by kernel_rfl) (by rw [HW9.out];exact ⟨hy9,hS9⟩) (fun hHeld=>?_)
           rw [HW9.out] at hHeld ⊢;refine wpT 0 ?_;(try simp only [y_,z_]);refine wpT 1 ?_;(try simp only [y_,z_]);refine wpT 2 ?_;(try simp only [y_,z_]);refine wpT 3 ?_;(try simp only [y_,z_]);refine wpT 4 ?_;(try simp only [y_,z_]);refine wpT 5 ?_;(try simp only [y_,z_]);refine wpT 6 ?_;(try simp only [y_,z_]);refine wpT 7 ?_;(try simp only [y_,z_]);refine wpT 8 ?_;(try simp only [y_,z_]);refine wpT 9 ?_;(try simp only [y_,z_]);refine wpT 10 ?_;(try simp only [y_,z_]);refine wpT 11 ?_;(try simp only [y_,z_]);refine aR_ (rs:=[12]) (by kernel_rfl) (by simp) ?_;refine aC_ rfl (fun K hK=>?_) aN_;go_simp;refine (CS.out W9 HU9.out).mono ?_;rintro e w10 ⟨rfl,u10⟩;refine hK.out _ _ ?_ (fun hHeld=>?_)
           ·exact ⟨HY8.out w10 (HU9.out.then_non u10),HR8.out w10 (HU9.out.then_non u10)⟩
           clear hK K;(try simp only [y_,z_]);refine wpT 13 ?_;(try simp only [y_,z_]);refine wpT 14 ?_;(try simp only [y_,z_]);refine wpT 15 ?_;(try simp only [y_,z_]);refine aD_ (by kernel_rfl) ?_ _;have HU10:=h_ (HU9.out.then_non u10);clear hHeld hy9 hS9 u10;go_wp2_with fail
           go_ret2;exact HNO.out (autF_bad HBM.out Hsf.out) _ (HM8.out.upd.then_non HU10.out)
          | true =>
           have HSF3:Hid (∀b'∈(lvl r 64).take (i+1),safeF r b'=true):=fun b' hb'=>by
            rw [HTK.out,List.mem_append,List.mem_singleton] at hb';rcases hb' with hb' | rfl
            ·exact HSF2.out (by first | rfl | trivial) b' hb'
            ·exact Hsf.out
           go_upto_region 18 with fail
           refine wp_region_held_drew (S:=fun w'=>w'.cell? ⟨g,i,none⟩=some (.slice RA8 sn rc8)∧w'.cell? ⟨rb,0,none⟩=some (.string r.name)∧w'.cell? ⟨rb,1,none⟩=some (.int .i64 r.l.v)∧w'.cell? ⟨rb,2,none⟩=some (.int .i64 r.l.op)∧w'.cell? ⟨rb,3,none⟩=some (.int .i64 r.l.imm)∧w'.cell? ⟨rb,4,none⟩=some (.int .i64 r.l.iv)∧w'.cell? ⟨rb,5,none⟩=some (.slice a.la r.l.kids.length a.lc)∧w'.cell? ⟨rb,6,none⟩=some (.int .i64 r.r.v)∧w'.cell? ⟨rb,7,none⟩=some (.int .i64 r.r.op)∧w'.cell? ⟨rb,8,none⟩=some (.int .i64 r.r.imm)∧w'.cell? ⟨rb,9,none⟩=some (.int .i64 r.r.iv)∧w'.cell? ⟨rb,10,none⟩=some (.slice a.ra r.r.kids.length a.rc)∧w'.cell? ⟨rb,11,none⟩=some (.slice a.ca r.conds.length a.cc)∧w'.cell? ⟨rb,12,none⟩=some (.int .i64 r.vars)∧w'.cell? ⟨rb,13,none⟩=some (.int .i64 r.imms)) (by kernel_rfl) (by rw [HW9.out];exact ⟨hy9,hS9⟩) (fun hHeld=>?_)
           rw [HW9.out] at hHeld ⊢;refine wpT 0 ?_;(try simp only [y_,z_]);refine wpT 1 ?_;(try simp only [y_,z_]);refine wpT 2 ?_;(try simp only [y_,z_]);refine wpT 3 ?_;(try simp only [y_,z_]);refine wpT 4 ?_;(try simp only [y_,z_]);refine wpT 5 ?_;(try simp only [y_,z_]);refine wpT 6 ?_;(try simp only [y_,z_]);refine wpT 7 ?_;(try simp only [y_,z_]);refine wpT 8 ?_;(try simp only [y_,z_]);refine wpT 9 ?_;(try simp only [y_,z_]);refine wpT 10 ?_;(try simp only [y_,z_]);refine wpT 11 ?_;(try simp only [y_,z_]);refine aR_ (rs:=[12]) (by kernel_rfl) (by simp) ?_;refine aC_ rfl (fun K hK=>?_) aN_;go_simp;refine (CS.out W9 HU9.out).mono ?_;rintro e w10 ⟨rfl,u10⟩;refine hK.out _ _ ?_ (fun hHeld=>?_)
           ·exact ⟨HY8.out w10 (HU9.out.then_non u10),HR8.out w10 (HU9.out.then_non u10)⟩
           clear hK K;(try simp only [y_,z_]);refine wpT 13 ?_;(try simp only [y_,z_]);refine wpT 14 ?_;(try simp only [y_,z_]);refine wpT 15 ?_;(try simp only [y_,z_]);refine aD_ (by kernel_rfl) ?_ _;have HU10:=h_ (HU9.out.then_non u10);clear hHeld hy9 hS9 u10;have HM10:=h_ (HM8.out.non HU10.out)
           have HN10:Hid (ElO ElRow 1 84 w10 (U8B w10) NA nn nc ((sortB (nxB r 64 (i+1))).map bbs)):=by
            have h:=HN8.out;rw [nxB_end] at h;rw [nxB_end];exact h.u8 elRow HU10.out (fun _ _ f=>f) (fun _ _ _ f=>f)
           go_wp2_with fail
           go_roundg (n - (i+1))
           case measure=>rw [Hg2.out];omega
           case rel=>exact ⟨i+1,A8,o1,c8,NA,nn,nc,rfl,by omega,rfl,rfl,by go_num,by omega,by omega,fun _=>HSF3.out,HM10.out,HN10.out⟩
         ·have t64:((k:Int)==64)=false:=by simp;omega
          have t64n:decide (k=64)=false:=dF_ h64;have t64m:(k==64)=false:=by simp;omega
          have hk6:k<64:=by omega
          have t65:decide ((k:Int)<64)=true:=dT_ (by omega)
          have CS:Hid (∀w',Upd Non w8 w'→Calls Tryz.prog 69 #[rlv r a,.int .i64 k,.slice RA8 sn rc8] w' fun e w''=>∃NA n nc,e=.returned (.slice NA n nc)∧ElO ElRow 1 84 w'' (U8B w'') NA n nc ((succsF r k b).map bbs)∧(∀i,At NA i→w'.heap.size≤i)∧Upd Non w' w''):=fun w' u=>by
           have h:=rSuccessors_c r a k hk6 b (oc:=rc8) HRO.out HVV.out.1 HVV.out.2 HI.out.cn HST.out (by rw [HBL.out,Hsn.out]) (HK8.out w' u) (HS8.out w' u) (by rw [HBL.out];exact HRC8.out)
           rwa [HBL.out] at h
          unfold rlv rlCells at CS;obtain ⟨W9,HW9⟩:=nm w8.drew;have HU9:Hid (Upd Non w8 W9):=by show Upd Non w8 W9;rw [←HW9.out];exact Upd.refl.drew
          obtain ⟨W10,HW10⟩:=nm W9.drew;have u10:Upd Non w8 W10:=by rw [←HW10.out];exact HU9.out.then_non Upd.refl.drew
          have HU10:=h_ u10;have hS10:=HR8.out W10 u10;have hy10:=HY8.out W10 u10;clear u10
          go_upto_region 18 with fail
          refine wp_region_held_drew (S:=fun w'=>True) (by kernel_rfl) trivial (fun hHeld=>?_);rw [HW9.out];refine wpT 0 ?_;(try simp only [y_,z_]);refine wpT 1 ?_;(try simp only [y_,z_]);refine wpT 2 ?_;(try simp only [y_,z_]);refine wpT 3 ?_;(try simp only [y_,z_]);refine wpT 4 ?_;(try simp only [y_,z_]);refine wpT 5 ?_;(try simp only [y_,z_]);refine wpT 6 ?_;(try simp only [y_,z_]);refine wpU 7 ?_;(try simp only [y_,z_]);refine wpU 8 ?_;(try simp only [y_,z_]);refine wpU 9 ?_;(try simp only [y_,z_]);refine wpU 10 ?_;(try simp only [y_,z_]);refine wpU 11 ?_;(try simp only [y_,z_]);refine wpU 12 ?_;(try simp only [y_,z_]);refine wpU 13 ?_;(try simp only [y_,z_]);refine wpT 14 ?_;(try simp only [y_,z_]);refine wpT 15 ?_;(try simp only [y_,z_]);refine aD_ (by kernel_rfl) ?_ _;clear hHeld
          go_upto_region 21 with fail
          refine wp_region_held_drew (S:=fun w'=>w'.cell? ⟨g,i,none⟩=some (.slice RA8 sn rc8)∧w'.cell? ⟨rb,0,none⟩=some (.string r.name)∧w'.cell? ⟨rb,1,none⟩=some (.int .i64 r.l.v)∧w'.cell? ⟨rb,2,none⟩=some (.int .i64 r.l.op)∧w'.cell? ⟨rb,3,none⟩=some (.int .i64 r.l.imm)∧w'.cell? ⟨rb,4,none⟩=some (.int .i64 r.l.iv)∧w'.cell? ⟨rb,5,none⟩=some (.slice a.la r.l.kids.length a.lc)∧w'.cell? ⟨rb,6,none⟩=some (.int .i64 r.r.v)∧w'.cell? ⟨rb,7,none⟩=some (.int .i64 r.r.op)∧w'.cell? ⟨rb,8,none⟩=some (.int .i64 r.r.imm)∧w'.cell? ⟨rb,9,none⟩=some (.int .i64 r.r.iv)∧w'.cell? ⟨rb,10,none⟩=some (.slice a.ra r.r.kids.length a.rc)∧w'.cell? ⟨rb,11,none⟩=some (.slice a.ca r.conds.length a.cc)∧w'.cell? ⟨rb,12,none⟩=some (.int .i64 r.vars)∧w'.cell? ⟨rb,13,none⟩=some (.int .i64 r.imms)) (by kernel_rfl) (by rw [HW10.out];exact ⟨hy10,hS10⟩) (fun hHeld=>?_)
          rw [HW10.out] at hHeld ⊢;refine wpT 0 ?_;(try simp only [y_,z_]);refine wpT 1 ?_;(try simp only [y_,z_]);refine wpT 2 ?_;(try simp only [y_,z_]);refine wpT 3 ?_;(try simp only [y_,z_]);refine wpT 4 ?_;(try simp only [y_,z_]);refine wpT 5 ?_;(try simp only [y_,z_]);refine aR_ (rs:=[6]) (by kernel_rfl) (by simp) ?_;refine aC_ rfl (fun K hK=>?_) aN_;go_simp;refine (CS.out W10 HU10.out).mono ?_;rintro e w11 ⟨SA,sm,sc,rfl,hSE,_,u11⟩;refine hK.out _ _ ?_ (fun hHeld=>?_)
          ·exact ⟨HY8.out w11 (HU10.out.then_non u11),HR8.out w11 (HU10.out.then_non u11)⟩
          clear hK K;(try simp only [y_,z_]);refine wpT 7 ?_;(try simp only [y_,z_]);refine aD_ (by kernel_rfl) ?_ _;have HU11:=h_ (HU10.out.then_non u11);have HSE:=h_ hSE;have hsm:sm=H:=by have:=hSE.1;rw [List.length_map,HSL.out] at this;exact this
          subst hsm;have HSR:Hid (∀x∈succsF r k b,x.length=sn):=HSLN.out k b HBL.out;have HN11:Hid (ElO ElRow 1 84 w11 (U8B w11) NA nn nc ((sortB (nxB r k i)).map bbs)):=HN8.out.u8 elRow HU11.out (fun _ _ f=>f) (fun _ _ _ f=>f);clear hHeld hy10 hS10 u11 hSE CS;go_wp2_with fail
          go_loopg [9,12] sm (fun gg s9 s12 wr=>∃(j:Nat) (NA:Option Addr) (nn nc:Nat),Hid (gg=sm - j)∧j≤sm∧s9=.slice NA nn nc∧s12=.int .i64 j∧nn≤i * 64+j∧Hid (ElO ElRow 1 84 wr (U8B wr) NA nn nc ((sortB (nxB r k i++(succsF r k b).take j)).map bbs))∧Hid (Upd Non w11 wr))
          case atStart=>exact ⟨0,NA,nn,nc,rfl,by omega,rfl,rfl,by omega,by rw [List.take_zero,List.append_nil];exact HN11.out,Upd.refl⟩
          case round =>
           clear HN11 HN8;obtain ⟨j,NA,nn,nc,Hg3,hj,rfl,rfl,hnn4,HNj,HUj⟩:=hrel;obtain ⟨wh,rfl⟩:∃x:World,x=wr:=⟨_,rfl⟩;by_cases hjs:j<sm
           ·have hjl:j<(succsF r k b).length:=by rw [HSL.out];exact hjs
            obtain ⟨gs,RS,rs,rfl,z0,hrs,hsl⟩:=rows_at (HSE.out.u8 elRow HUj.out (fun _ _ f=>f) (fun _ _ _ f=>f)) (i:=j) (by rw [List.length_map];exact hjl)
            rw [List.getElem_map] at z0 hrs hsl;have hbl:(bbs (succsF r k b)[j]).length=sn:=by unfold bbs;rw [List.length_map,HSR.out _ (List.getElem_mem hjl)]
            rw [hbl] at z0 hrs;rw [←b8s_u8s] at hsl;have C1:=h_ (rInsert_c (bc:=rs) (m:=sn) HNj.out (by omega) (hsl.mono (fun _ _ q=>q.1)) (by rw [←hbl];unfold bbs;rw [List.length_map]) hrs)
            have HTJ:Hid (insB (succsF r k b)[j] (sortB (nxB r k i++(succsF r k b).take j))=sortB (nxB r k i++(succsF r k b).take (j+1))):=by
             show _=_;rw [List.take_succ_eq_append_getElem hjl,←List.append_assoc,sortB_snoc]
            rw [HTJ.out] at C1;have tj:(j:Int)<(sm:Int):=by omega
            have tj0:(0:Int)≤(j:Int):=by omega
            clear hrs hsl hbl;go_wp2_with fail
            refine C1.out.mono ?_;rintro e w12 ⟨A12,n12,c12,rfl,hN12,_,hn12,u12⟩;have HN12:=h_ hN12;have HU12:=h_ (HUj.out.then_non u12);clear hN12 u12 C1 z0;go_wp2_with fail
            go_roundg (sm - (j+1))
            case measure=>rw [Hg3.out];omega
            case rel=>exact ⟨j+1,A12,n12,c12,rfl,by omega,rfl,by go_num,by omega,HN12.out,HU12.out⟩
           ·obtain rfl:sm=j:=by omega
            have HNF:Hid (ElO ElRow 1 84 wh (U8B wh) NA nn nc ((sortB (nxB r k (i+1))).map bbs)):=by
             have h:=HNj.out;rw [List.take_of_length_le (by rw [HSL.out];exact Nat.le_refl _),←HNS.out hk6] at h;exact h
            have HMF:=h_ (HM8.out.non (HU11.out.then_non HUj.out));go_wp2_with fail
            go_roundg (n - (i+1))
            case measure=>rw [Hg2.out];omega
            case rel=>exact ⟨i+1,A8,o1,c8,NA,nn,nc,rfl,by omega,rfl,rfl,by go_num,by omega,by omega,fun e=>absurd e h64,HMF.out,HNF.out⟩
       ·obtain rfl:n=i:=by omega
        have HNE:Hid (lvls r k++((lvl r k).take n).map (fun b=>(k,b))=lvls r (k+1)):=by show _=_;rw [HNL.out,List.take_length,lvls_succ]
        have hn4:n≤4096:=by have h:=HMr.out.out.1;rw [List.length_map,List.length_append,List.length_map,List.length_take,←HNL.out] at h;omega
        have HMF:Hid (RaM wi wj B NA nn nc (sortB (nxB r k n)) OA on oc (lvls r (k+1))):=by
         have h:=HMr.out;rw [HNE.out] at h;exact ⟨HNX.out,h.out,h.upd,h.ob,h.bs⟩
        have HNK:Hid (k+1<65→sortB (nxB r k n)=lvl r (k+1)):=fun h=>by rw [HNL.out];exact nxB_all (by omega)
        have HSK:Hid (k+1=65→∀b∈lvl r 64,safeF r b=true):=fun h b hb=>by
         have hk4:k=64:=by omega
         subst hk4;exact HSF2.out rfl b (by rw [HNL.out,List.take_length];exact hb)
        go_wp2_with fail
        go_roundg (65 - (k+1))
        case measure=>rw [Hg.out];omega
        case rel=>exact ⟨k+1,NA,nn,nc,OA,on,oc,_,rfl,by omega,rfl,rfl,by go_num,hon,by omega,HNK.out,HSK.out,HMF.out⟩
     ·obtain rfl:k=65:=by omega
      have HFIN:Hid (PvP r w (.returned (.tuple #[.slice OA on oc,.bool true])) wk):=by
       have h:=HMr.out.out.1;rw [List.length_map] at h;refine ⟨HU24.out.then_non HMr.out.upd,.inl ⟨lvls r 65,OA,on,oc,autF_some.2 ⟨Hap.out,by omega,HSF.out rfl,rfl⟩,rfl,HMr.out.out,fun i hi=>?_⟩⟩
       have h1:=HMr.out.ob i hi;have h2:=HSZ.out;have h3:=HBB.out;omega
      go_wp2_with fail
      go_ret2;exact HFIN.out
mutual
def GA (n:Int):Pt→Prop
 | .mk v op imm iv kids=>(0≤v∧v≤n∧(v=0→kids.length=(oSortsF op).1.length)∧I64 imm∧iv=0)∧GAL n kids
def GAL (n:Int):List Pt→Prop
 | []=>True
 | k::ks=>GA n k∧GAL n ks
end
theorem GAL.iff (n:Int):∀l:List Pt,GAL n l↔∀k∈l,GA n k
 | []=>by simp [GAL]
 | k::ks=>by simp [GAL,GAL.iff n ks]
theorem GA.iff (n:Int) (p:Pt):GA n p↔(0≤p.v∧p.v≤n∧(p.v=0→p.kids.length=(oSortsF p.op).1.length)∧I64 p.imm∧p.iv=0)∧∀k∈p.kids,GA n k:=by
 obtain ⟨v,op,imm,iv,kids⟩:=p;rw [GA,GAL.iff];rfl
theorem GA.wf {n:Int} {m:Nat} (hm:n≤m) (p:Pt):GA n p→WfP m p:=by
 induction p using Pt.ind with
 | h p ih =>
  intro h;rw [GA.iff] at h;exact (WfP.iff m p).2 ⟨h.1.1,by omega,h.1.2.2.1,fun k hk=>ih k hk (h.2 k hk)⟩
theorem GA.pi {n:Int} (p:Pt):GA n p→PI p:=by
 induction p using Pt.ind with
 | h p ih =>
  intro h;rw [GA.iff] at h;intro q hq
  have hl:∀l:List Pt,(∀k∈l,k∈p.kids)→q∈nodesL l→I64 q.imm:=by
   intro l
   induction l with
   | nil=>intro _ hq;simp [nodesL] at hq
   | cons k ks ihl =>
    intro hk hq;rw [nodesL,List.mem_append] at hq;rcases hq with hq | hq
    ·exact ih k (hk k (by simp)) (h.2 k (hk k (by simp))) q hq
    ·exact ihl (fun x hx=>hk x (by simp [hx])) hq
  obtain ⟨v,op,imm,iv,kids⟩:=p;rw [nodes,List.mem_cons] at hq;rcases hq with rfl | hq
  ·exact h.1.2.2.2.1
  ·exact hl kids (fun _ h=>h) hq
theorem ga_v {n v:Int} (h0:1≤v) (h:v≤n):GA n (.mk v 0 0 0 []):=⟨⟨by omega,h,fun e=>by omega,i64_zero,rfl⟩,trivial⟩
theorem ga_1 {n op:Int} (hn:0≤n) (ho:(oSortsF op).1.length=1) {a:Pt} (ha:GA n a):GA n (.mk 0 op 0 0 [a]):=⟨⟨by omega,hn,fun _=>by rw [ho];rfl,i64_zero,rfl⟩,ha,trivial⟩
theorem ga_q2 {n k:Int} {a b:Pt} (hn:0≤n) (hk:(oSortsF k).1.length=2) (ha:GA n a) (hb:GA n b):GA n (q2 k a b):=⟨⟨by omega,hn,fun _=>by rw [hk];rfl,i64_zero,rfl⟩,ha,hb,trivial⟩
theorem ga_q1c {n x:Int} (hn:0≤n) (hx:I64 x):GA n (q1c x):=⟨⟨by omega,hn,fun _=>rfl,hx,rfl⟩,trivial⟩
theorem os_two {k:Int} (h:4≤k∧k≤19):(oSortsF k).1.length=2:=by
 unfold oSortsF;rw [if_neg (by omega),if_neg (by omega),if_neg (by omega),if_neg (by omega),if_neg (by omega),if_pos (by omega),if_neg (by omega),if_neg (by omega)];rfl
theorem hd_i64 {xs:List Int} (h:∀x∈xs,I64 x):I64 (xs.headD 0):=by
 cases xs with
 | nil=>exact i64_zero
 | cons x xs=>exact h x (by simp)
theorem tl_i64 {xs:List Int} (h:∀x∈xs,I64 x):∀x∈xs.tail,I64 x:=fun x hx=>h x (List.mem_of_mem_tail hx)
theorem ga_leaf (vars:Int) (hv:1≤vars) {n:Int} (hn:I64 n):GA vars (lfA vars n):=by
 unfold lfA
 split
 ·exact ga_q1c (by omega) (wordF_i64 _ hn)
 ·have h1:=Int.emod_lt_of_pos (pM n) (show 0<vars by omega);have h2:=Int.emod_nonneg (pM n) (show vars≠0 by omega);exact ga_v (by omega) (by omega)
theorem patA_ga (vars:Int) (hv:1≤vars):∀(f:Nat) (t:Bool) (xs:List Int),(∀x∈xs,I64 x)→GA vars (patA vars f t xs).1∧∀x∈(patA vars f t xs).2,I64 x
 | 0,_,xs,hx=>⟨ga_leaf vars hv (hd_i64 hx),tl_i64 hx⟩
 | 1,_,xs,hx=>⟨ga_leaf vars hv (hd_i64 hx),tl_i64 hx⟩
 | f+2,t,xs,hx=>by
  have h1:=fun t ys h=>patA_ga vars hv (f+1) t ys h
  have h2:=fun ys h=>patA_ga vars hv f false ys h
  have h0:0≤vars:=by omega
  have hh:=hd_i64 hx;have ht:=tl_i64 hx;have hp:=Int.emod_nonneg ((xs.headD 0).tdiv 12) (show (1000:Int)≠0 by omega);have hp:0≤pM (xs.headD 0):=hp;show GA vars (patS vars _ t (patA vars (f+1)) (patA vars f false) xs).1∧∀x∈(patS vars _ t (patA vars (f+1)) (patA vars f false) xs).2,I64 x;unfold patS;simp only;by_cases c1:(decide (f=0)=true∧xs.headD 0 % 12<6)∨xs.headD 0 % 12<3
  ·rw [if_pos c1];exact ⟨ga_leaf vars hv hh,ht⟩
  ·rw [if_neg c1];by_cases c2:xs.headD 0 % 12<5
   ·rw [if_pos c2];exact ⟨ga_1 h0 (by split <;> rfl) (h1 t _ ht).1,(h1 t _ ht).2⟩
   ·rw [if_neg c2];by_cases c3:xs.headD 0 % 12<6
    ·rw [if_pos c3];exact ⟨ga_q2 h0 (os_two (by omega)) (h1 t _ ht).1 (ga_q1c h0 (by unfold I64;omega)),(h1 t _ ht).2⟩
    ·rw [if_neg c3];by_cases c4:xs.headD 0 % 12<7∧t=true
     ·rw [if_pos c4];have a:=h2 _ ht;have b:=h2 _ a.2;exact ⟨ga_q2 h0 (os_two (by omega)) a.1 b.1,b.2⟩
     ·rw [if_neg c4];by_cases c5:xs.headD 0 % 12<8∧t=true
      ·rw [if_pos c5];have a:=h1 false _ ht;have b:=h2 _ a.2;have c:=h2 _ b.2;exact ⟨⟨⟨by omega,h0,fun _=>rfl,i64_zero,rfl⟩,a.1,b.1,c.1,trivial⟩,c.2⟩
      ·rw [if_neg c5];have a:=h1 t _ ht;have b:=h1 t _ a.2;refine ⟨ga_q2 h0 (os_two ?_) a.1 b.1,b.2⟩;have h5:=Int.emod_lt_of_pos (pM (xs.headD 0)) (show (0:Int)<5 by omega);have h6:=Int.emod_nonneg (pM (xs.headD 0)) (show (5:Int)≠0 by omega);obtain ⟨m,hm⟩:=Int.eq_ofNat_of_zero_le h6;rw [hm] at h5 ⊢;have : m=0∨m=1∨m=2∨m=3∨m=4:=by omega
       rcases this with rfl | rfl | rfl | rfl | rfl <;> decide
theorem findG_lt:∀{vs:List Int} {x:Int} {k i:Nat},findG vs x k=some i→i<k+vs.length
 | [],_,_,_,h=>by cases h
 | y::l,x,k,i,h=>by
  rw [findG] at h;rw [List.length_cons]
  split at h
  ·injection h with h;omega
  ·have:=findG_lt h;omega
theorem numV_in {vs:List Int} {x:Int}:1≤(numV vs x).1∧(numV vs x).1≤((numV vs x).2.length:Int):=by
 unfold numV
 split
 ·rename_i i e;have:=findG_lt e;exact ⟨by show (1:Int)≤(i:Int)+1;omega,by show (i:Int)+1≤(vs.length:Int);omega⟩
 ·rw [List.length_append];exact ⟨by show (1:Int)≤(vs.length:Int)+1;omega,by show (vs.length:Int)+1≤_;simp⟩
mutual
theorem numF_ga:∀(p:Pt) (vs ms:List Int),GA 2 p→PV 2 p→VsN 2 vs→GA 2 (numF p vs ms).1
 | .mk v op imm iv kids,vs,ms,hg,hp,h=>by
  simp only [numF];obtain ⟨⟨g1,g2,g3,g4,g5⟩,g6⟩:=hg
  split
  ·rename_i hv;have h1:=numV_in (vs:=vs) (x:=v);have h2:=vsN_two (h.numV hv hp.1);exact ⟨⟨by omega,by omega,fun e=>by omega,g4,g5⟩,g6⟩
  ·subst g5;have e:numI ms 0=(0,ms):=by unfold numI;rw [if_neg (by omega)]
   rw [e];exact ⟨⟨g1,g2,fun e=>by rw [numL_len];exact g3 e,g4,rfl⟩,numL_ga kids vs _ g6 hp.2 h⟩
theorem numL_ga:∀(ks:List Pt) (vs ms:List Int),GAL 2 ks→PVL 2 ks→VsN 2 vs→GAL 2 (numL ks vs ms).1
 | [],_,_,_,_,_=>trivial
 | k::ks,vs,ms,hg,hp,h=>⟨numF_ga k vs ms hg.1 hp.1 h,numL_ga ks _ _ hg.2 hp.2 (numF_vs 2 k vs ms hp.1 h)⟩
end
theorem vsN_nil:VsN 2 []:=⟨List.nodup_nil,fun _ h=>absurd h (List.not_mem_nil)⟩
theorem GA.mono {m n:Int} (h:m≤n) (p:Pt):GA m p→GA n p:=by
 induction p using Pt.ind with
 | h p ih =>
  intro hp;rw [GA.iff] at hp ⊢;exact ⟨⟨hp.1.1,by omega,hp.1.2.2⟩,fun k hk=>ih k hk (hp.2 k hk)⟩
theorem aCondsF_i (n:Int) (nv:Nat):∀c∈aCondsF n nv,I64 c.n:=by
 have h7:I64 7:=by unfold I64;omega
 intro c hc;unfold aCondsF aCond5 at hc
 repeat' split at hc
 all_goals first | (rw [List.mem_singleton] at hc;subst hc;first | exact i64_zero | exact wordF_i64 _ h7) | (cases hc)
section
variable {xs:List Int} (hx:∀x∈xs,I64 x)
include hx
theorem aNumF_ga:GA 2 (aNumF xs).1:=numF_ga _ [] [] (patA_ga 2 (by omega) 4 true _ (tl_i64 hx)).1 (patA_pv 2 (by omega) 4 true xs.tail) vsN_nil
theorem aLeftF_ga:GA 2 (aLeftF xs):=by
 unfold aLeftF
 split
 ·exact ga_1 (by omega) rfl (aNumF_ga hx)
 ·exact aNumF_ga hx
theorem aRightF_ga:GA 2 (aRightF xs):=by
 unfold aRightF
 split
 ·rename_i h;have h2:=aNumF_len xs;exact GA.mono (by omega) _ (patA_ga _ (by omega) 3 true _ (patA_ga 2 (by omega) 4 true _ (tl_i64 hx)).2).1
 ·exact aLeftF_ga hx
theorem aRuleF_i:RlI (aRuleF xs):=⟨(aLeftF_ga hx).pi,(aRightF_ga hx).pi,fun c hc=>aCondsF_i _ _ c hc⟩
end
theorem lvl_bits {r:Rl} {L:List (Nat×List Bool)} (h:autF r=some L):∀s∈L.map asE,s.bits.length≤100000:=fun s hs=>by
 obtain ⟨x,hx,rfl⟩:=List.mem_map.1 hs;obtain ⟨hap,_,_,hL⟩:=autF_some.1 h;rw [hL] at hx;have h1:=mem_lvls.1 (show (x.1,x.2)∈lvls r 65 from hx);have h2:=lvl_len (applF_sup hap).1 (applF_sup hap).2 _ _ h1.2;have h3:=stN_le (imok_of (ub_sup hap).2);show (bbs x.2).length≤100000;unfold bbs;rw [List.length_map,h2];omega
end Go.Proofs.YtifhejahbbnkiaaGreat
namespace Go.Proofs.YtifhejahbbnkiaaGreat
open Go.RowKit Go.WideShapes Go.ChangeShapes
section
variable {H:Type} {enc:TypeId×Value→H} {P:Program}
theorem post_of_below {f:Func} {s:ChangeSpec} {apart fresh handsOn again:Bool} {W W':World} {args:Array Value} {v:Value} {ds gs:List (DataW H)} {before pa pv:List MemPlace}
  (hW:DataW.Whole enc P f.params.toList s.vars apart W args.toList ds gs before)
  (hres:∀(b:Nat) (sp:Nat→Bool) (hd:Bool),DataW.TrodAll enc P W' b sp hd f.resultTypes.toList (v.resultList f.resultTypes.size) (s.fn H (ds++gs)).results [])
  (hargs:∀sp:Nat→Bool,(∀p∈before,sp p.block=true)→DataW.TrodAll enc P W' 0 sp true f.params.toList args.toList (s.fn H (ds++gs)).args pa)
  (hvars:∀sp:Nat→Bool,(∀p∈before,sp p.block=true)→DataW.TrodVars enc P W' sp s.vars (s.fn H (ds++gs)).vars pv)
  (hps:before=pa++pv) (hb:Below W.heap.size W W')
  (hok:∀(j:Nat) (t:TypeId) (r:Value),f.resultTypes[j]?=some t→(v.resultList f.resultTypes.size)[j]?=some r→Value.okWide P W' .any 0 t r) :
  s.post enc P f apart fresh handsOn again W args v W':=by
 have hlt:∀p∈before,p.block<W.heap.size:=fun p hp=>hW.lt p hp
 have hold:∀p∈before,(fun b=>decide (b<W.heap.size)) p.block=true:=fun p hp=>by simpa using hlt p hp
 refine ⟨ds,gs,before,[],pa,pv,hW,hres _ _ _,hargs _ hold,hvars _ hold,World.keptBut_mono (fun p hp=>⟨hp,?_⟩) (hb.frame (·∈before)),fun _=>?_⟩
 ·rw [hps,List.mem_append] at hp;exact Or.inr hp
 ·obtain ⟨_,_,_,_,_,hz,hn⟩:=hW;refine ⟨hok,_,_,([]++pa)++pv,⟨[]++pa,pv,trodAll_append (hargs _ (fun _ _=>rfl)) (hres _ _ _),hvars _ (fun _ _=>rfl),rfl,?_,?_⟩,?_⟩
  ·intro b off hp;have hin:MemPlace.cell b off∈before:=by rw [hps];simpa using hp
   rw [hb.frozen (hlt _ hin)];exact hz b off hin
  ·intro ha;have:=hn ha;rw [hps] at this;simpa using this
  ·intro p hp _;rw [hps];simpa using hp
theorem trodAll_stays (hl:laidOutB P=true) {W W':World} {sp:Nat→Bool}:∀{ts:List TypeId} {vs:List Value} {ds:List (DataW H)} {ps:List MemPlace},
  (ts.all fun t=>P.readableRec t&&decide (t<P.types.size))=true→DataW.TrodAll enc P W 0 (fun _=>true) true ts vs ds ps→(∀p∈ps,W.sameAt W' p)→(∀p∈ps,sp p.block=true)→DataW.TrodAll enc P W' 0 sp true ts vs ds ps
 | [],vs,ds,ps,_,h,_,_=>by
  obtain ⟨rfl,rfl,rfl⟩:=trodAll_nil h;exact trodAll_mk0
 | t::ts,vs,ds,ps,ht,h,h1,h2=>by
  obtain ⟨v,vs',d,ds',p,q,rfl,rfl,rfl,hp,hq⟩:=trodAll_cons h;simp only [List.all_cons,Bool.and_eq_true,decide_eq_true_eq] at ht
  exact trodAll_cons_mk (WideElems.Trod_stays hl ht.1.1 ht.1.2 hp (fun x hx=>h1 x (by simp [hx])) (fun x hx=>h2 x (by simp [hx])))
   (trodAll_stays hl ht.2 hq (fun x hx=>h1 x (by simp [hx])) (fun x hx=>h2 x (by simp [hx])))
theorem law_post {f:Func} {s:ChangeSpec} {apart fresh handsOn again:Bool} {W W':World} {args:Array Value} {ds gs:List (DataW H)} {before:List MemPlace} {tb:TypeId}
  (hW:DataW.Whole enc P f.params.toList s.vars apart W args.toList ds gs before) (hl:laidOutB P=true) (hts:(f.params.toList.all fun t=>P.readableRec t&&decide (t<P.types.size))=true) (hv:s.vars=[])
  (hrt:f.resultTypes=#[tb]) (hbool:P.underlying tb=some .bool) (hs:s.fn H (ds++gs)={ results:=[.lit (.bool true)],args:=ds }) (hb:Below W.heap.size W W') :
  s.post enc P f apart fresh handsOn again W args (.bool true) W':=by
 have hW2:=hW;obtain ⟨p,q,hA,hV,rfl,hz,hn⟩:=hW;rw [hv] at hV;obtain ⟨rfl,rfl⟩:=trodVars_none hV;have hlt:∀x∈p,x.block<W.heap.size:=fun x hx=>hW2.lt x (by simpa using hx)
 refine post_of_below (pa:=p) (pv:=[]) hW2 (fun b sp hd=>?_) (fun sp hsp=>?_) (fun sp hsp=>?_) rfl hb ?_
 ·rw [hs,hrt];exact trodAll_mk1 (shut_bool hbool true)
 ·rw [hs];exact trodAll_stays hl hts hA (fun x hx=>hb.same (hlt x hx)) (fun x hx=>hsp x (by simpa using hx))
 ·rw [hs,hv];rfl
 ·intro j t r h1 h2;rw [hrt] at h1 h2
  match j,h1 with
  | 0,h1 =>
   simp at h1;subst h1;simp [Value.resultList] at h2;subst h2;exact okWide_bool_mk hbool true
end
theorem own_:ownKnob Tryz.prog.godebug=none:=by kernel_rfl
theorem laidOut_:laidOutB Tryz.prog=true:=by kernel_rfl
end Go.Proofs.YtifhejahbbnkiaaGreat
namespace Go.Proofs.YtifhejahbbnkiaaGreat
open Go.RowKit Go.WideShapes Go.ChangeShapes Go.ChangeAt
section
variable {H:Type} {enc:TypeId×Value→H} {P:Program} {w:World}
theorem i64_of_wf {n:Int} (h:(Lit.int .i64 n).wf=true):I64 n:=by
 have h1:IntKind.i64.min = -9223372036854775808:=rfl;have h2:IntKind.i64.max=9223372036854775807:=rfl;simp only [Lit.wf,Bool.and_eq_true,decide_eq_true_eq] at h;unfold I64;omega
theorem open_i64 {r:Reach} {b0 base:Nat} {sp:Nat→Bool} {held:Bool} {t:TypeId} {v:Value} {d:DataW H} {ps:List MemPlace} (ht:P.underlying t=some (.int .i64)) (hval:Value.okWide P w r b0 t v) (hd:DataW.Trod enc P w base sp held t v d ps) :
  ∃n,v=.int .i64 n∧I64 n:=by
 obtain ⟨n,h1,_,_,h2⟩:=open_int ht hval hd;exact ⟨n,h1,i64_of_wf h2⟩
theorem open_intsV {r:Reach} {b0 base:Nat} {sp:Nat→Bool} {held:Bool} {t e:TypeId} {v:Value} {d:DataW H} {ps:List MemPlace} (ht:P.underlying t=some (.slice e)) (he:P.underlying e=some (.int .i64)) (hc:P.cellsOf e=1) (hby:P.bytesOf e=8)
  (hval:Value.okWide P w r b0 t v) (hd:DataW.Trod enc P w base sp held t v d ps)
  {ts:List TypeId} {ds:List (DataW H)} (hsz:(DataW.weightsEach P ts ds).all (·≤reachBytes)=true) {j:Nat} (htj:ts[j]?=some t) (hdj:ds[j]?=some d) :
  ∃A c xs,v=.slice A xs.length c∧xs.length≤c∧Ints w (fun _=>True) A xs∧(∀x∈xs,I64 x)∧xs.length≤20000000000000:=by
 obtain ⟨a0,len,cap,rfl⟩:=okWide_slice ht hval;obtain ⟨fuel,hf⟩:=hd;rcases open_ints ht he hc hf with ⟨hcs,hx⟩ | ⟨a,len',cap',zs,hcs,_,hl,hm,hz,hx,hcell,hwz⟩
 ·simp [Value.cells] at hcs;obtain ⟨rfl,rfl,rfl⟩:=hcs;exact ⟨none,0,[],rfl,by simp,.inl rfl,by simp,by simp⟩
 ·simp [Value.cells] at hcs;obtain ⟨rfl,rfl,rfl⟩:=hcs;simp only [Prod.mk.injEq] at hx;obtain ⟨rfl,rfl⟩:=hx;have hzl:len≤zs.length:=by rw [hz];split <;> omega
  have hlen:(zs.take len).length=len:=by simp;omega
  refine ⟨some a,cap,zs.take len,by rw [hlen],by omega,?_,fun x hx=>i64_of_wf (hwz x (List.mem_of_mem_take hx)),?_⟩
  ·by_cases h0:len=0
   ·subst h0;exact .inl (by simp)
   ·obtain ⟨b,off,spot⟩:=a;have hspot:spot=none:=by simpa [Addr.add] using World.cell?_spot (hcell 0 (by omega))
    subst hspot;refine .inr ⟨b,off,rfl,trivial,fun k hk=>?_⟩;have hk':k<zs.length:=by simp at hk;omega
    have:=hcell k hk';rw [Addr.add_lit] at this;rw [this];simp [List.getD,hk']
  ·have:=sized_slice hsz htj hdj ht;rw [hby] at this;simp only [lits,List.length_map,List.length_take,List.length_drop,reachBytes] at this;rw [hlen];omega
end
theorem cells_int:Tryz.prog.cellsOf 3=1:=by kernel_rfl
theorem bytes_int:Tryz.prog.bytesOf 3=8:=by kernel_rfl
end Go.Proofs.YtifhejahbbnkiaaGreat
