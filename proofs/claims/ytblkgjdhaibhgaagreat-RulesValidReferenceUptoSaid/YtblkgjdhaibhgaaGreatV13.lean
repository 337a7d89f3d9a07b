/-
  Walks and lemmas that the claim rests on.
-/
import Derived.Test.YtblkgjdhaibhgaaGreatV9
import Derived.Test.YtblkgjdhaibhgaaGreatV10
import Derived.Test.YtblkgjdhaibhgaaGreatV11
import Derived.Test.YtblkgjdhaibhgaaGreatV6
import Derived.Test.YtblkgjdhaibhgaaGreatV12
namespace Go.Proofs.YtblkgjdhaibhgaaGreat
open Go.RowKit
theorem RlsV.take {w:World} {F:Nat→Prop} {A:Option Addr} {L:List Rl} (h:RlsV w F A L) (k:Nat):RlsV w F A (L.take k):=by
 rcases h with h | ⟨b,o,e,hF,h⟩
 ·subst h;exact .inl (by simp)
 ·refine .inr ⟨b,o,e,hF,fun i hi=>?_⟩;have hi2:i<L.length:=by rw [List.length_take] at hi;omega
  obtain ⟨a,h1,h2⟩:=h i hi2;rw [List.getElem_take];exact ⟨a,h1,h2⟩
def RlGs (L:List Rl):Prop:=∀r∈L,RlSz r∧RlI r
set_option maxRecDepth 100000 in
set_option maxHeartbeats 40000000 in
theorem RuValidReference_c (w:World) (F0 F1 F2:Nat→Prop) (A0 A1 A2:Option Addr) (c0 c1 c2:Nat) (L0:List Rl) (xs ys:List Int) (how at_:Int) (name:ByteArray)
  (hL:RlsV w F0 A0 L0) (hLc:L0.length≤c0) (hLg:RlGs L0) (hLn:L0.length≤2000000)
  (hx:Ints w F1 A1 xs) (hxc:xs.length≤c1) (hxI:∀x∈xs,I64 x) (hxn:xs.length≤100000000000000)
  (hy:Ints w F2 A2 ys) (hyc:ys.length≤c2) (hyI:∀x∈ys,I64 x) (hyn:ys.length≤100000000000000) :
  Calls Tryz.prog 5 #[.slice A0 L0.length c0,.slice A1 xs.length c1,.slice A2 ys.length c2,.int .i64 how,.int .i64 at_,.string name] w fun e w'=>e=.returned (.bool true)∧Upd Non w w':=by
 obtain ⟨n0,Hn0⟩:=nm L0.length;obtain ⟨n1,Hn1⟩:=nm xs.length;obtain ⟨n2,Hn2⟩:=nm ys.length;obtain ⟨k,hk⟩:∃k:Nat,k=min n0 4:=⟨_,rfl⟩;rw [Hn0.out] at hLc hLn;have hk1:(if (4:Int)<(n0:Int) then (4:Int) else (n0:Int))=(k:Int):=by split <;> omega
 have hk2:(if 4<n0 then (4:Int) else (n0:Int))=(k:Int):=by split <;> omega
 have hkc:k≤c0:=by omega
 have hk4:k≤4:=by omega
 have hkl:(L0.take k).length=k:=by rw [List.length_take,Hn0.out];omega
 have hA0:(if c0=0 then A0 else Option.map (fun a=>a.add 0) A0)=A0:=by
  split
  ·rfl
  ·cases A0 <;> simp [Addr.add]
 have CKa:=h_ (fun W (u:Upd Non w W)=>kRule_c W F1 A1 c1 xs (kstr [97]) (hx.upd u (fun _ _ _ f=>f)) hxc hxI hxn);have CMm:=h_ (fun W (u:Upd Non w W)=>l17Mutate_c W F2 A2 c2 ys how at_ (hy.upd u (fun _ _ _ f=>f)) hyc hyI hyn);have CMl:=h_ (fun W (u:Upd Non w W)=>l17Mutate_c W F1 A1 c1 xs how at_ (hx.upd u (fun _ _ _ f=>f)) hxc hxI hxn);have HG1:Hid (RlSz (kRuleF (kstr [97]) (xs.take 40))∧RlI (kRuleF (kstr [97]) (xs.take 40))):=⟨kRule_sz _ (by rw [kstr_size];decide) _,kRule_i _ _ (fun x hx=>hxI x (List.mem_of_mem_take hx))⟩
 obtain ⟨r1,Hr1⟩:=nm (kRuleF (kstr [97]) (xs.take 40));rw [Hr1.out,Hn1.out] at CKa;rw [Hr1.out] at HG1;rw [Hn1.out] at CMl;rw [Hn2.out] at CMm;rw [Hn0.out,Hn1.out,Hn2.out];have HG0:Hid (RlGs (L0.take k)):=fun r hr=>hLg r (List.mem_of_mem_take hr)
 have HV0:=h_ (hL.take k);obtain ⟨L,HL⟩:=nm (L0.take k);rw [HL.out] at HG0 HV0 hkl;have CE:=h_ (fun W=>RuExamples_c W);clear hL hLg hx hxc hxI hxn hy hyc hyI hyn hk hLn HL Hr1;obtain ⟨cs0,s1,s2,s3⟩:=HV0.out.cells;have HOW:Hid (Own (w.alloc (.cells #[] 43)) 43 14 (some ⟨w.heap.size,0,none⟩) 0 0 []):=Own.mk_ (Blk.new _ _ _) (Nat.le_refl _) (Nat.zero_le _) rfl rfl;have uA:Upd Non w (w.alloc (.cells #[] 43)):=Upd.refl.alloc _;have HSL:=h_ (s1.upd uA (fun _ _ _ f=>f));have HLN:Hid (cs0.length=k * 14):=by show _=_;rw [s2.1,hkl];omega
 have HS3:=h_ s3;have HC0:=h_ (s2.mono (K':=fun i=>i<w.heap.size) (Upd.refl (S:=Non)) (fun _ _ _ f=>f) (fun i hi _=>hi));have HUA:=h_ uA;clear s1 s2 s3 uA;go_enter Tryz.func5,Tryz.ntmps5
 go_wp2_with (at_builtin;refine wpList_app rfl rfl T_rules rfl HOW.out rfl HSL.out HLN.out HS3.out (by simp only [maxLen];omega) (by omega) ?_)
 intro A8 c8 w8 ho8 hu8 hat8;have HO8:=h_ ho8;have HU8:Hid (Upd Non w w8):=HUA.out.trans hu8 (fun i hi h=>by rw [At.some_] at h;omega)
 have HA8:Hid (∀i,At A8 i→w.heap.size≤i):=fun i h=>by
  rcases hat8 i h with h | h
  ·rw [At.some_] at h;omega
  ·omega
 clear ho8 hu8 hat8;go_wp2_with fail
 refine (CKa.out w8 HU8.out).mono ?_;rintro e w9 ⟨a1,rfl,hk9,u9⟩;have hu9:=HU8.out.then_non u9;go_wp2_with fail
 refine (CMm.out w9 hu9).mono ?_;rintro e w10 ⟨r2,a2,rfl,hk10,hsm2,hri2,u10⟩;have hu10:=hu9.then_non u10;go_wp2_with fail
 refine (CMl.out w10 hu10).mono ?_;rintro e w11 ⟨r3,a3,rfl,hk11,hsm3,hri3,u11⟩;have hu11:=hu10.then_non u11;have HO11:=h_ (HO8.out.upd ((u9.then_non u10).then_non u11) (fun _ _ f=>f));have h8lt:∀i,At A8 i→i<w8.heap.size:=fun i h=>HO8.out.lt h
 have hs8:=HU8.out.size;have hs9:=u9.size;have hs10:=u10.size;have hs11:=u11.size
 have hcs:RsCells w11 (fun i=>i<w.heap.size∨w8.heap.size≤i) (((cs0++(rlCells r1 a1).toList)++(rlCells r2 a2).toList)++(rlCells r3 a3).toList) (((L++[r1])++[r2])++[r3]) :=
  (((HC0.out.mono hu11 (fun _ _ _ f=>f) (fun i _ h=>.inl h)).snoc ((hk9.upd (u10.then_non u11) (fun _ _ _ f=>f)).mono (fun i _ h=>.inr h))).snoc ((hk10.upd u11 (fun _ _ _ f=>f)).mono (fun i _ h=>.inr (by omega)))).snoc (hk11.mono (fun i _ h=>.inr (by omega)))
 have HCS:=h_ hcs;have H8L:=h_ h8lt;have HU11:=h_ hu11
 have HG2:Hid (RlGs [r1,r2,r3]):=fun r hr=>by
  simp only [List.mem_cons,List.not_mem_nil,or_false] at hr;rcases hr with rfl | rfl | rfl
  ·exact HG1.out
  ·exact ⟨hsm2.sz,hri2⟩
  ·exact ⟨hsm3.sz,hri3⟩
 clear hcs h8lt hk9 hk10 hk11 hu9 hu10 hu11 u9 u10 u11 hsm2 hsm3 hri2 hri3 HC0 HO8 CKa CMm CMl;unfold rlv rlCells
 go_wp2_with (at_builtin;refine wpList_app rfl rfl T_rules rfl (HO11.out.alloc _) rfl (Sl.new _ _ _) rfl (by simp [Value.oneCell']) (by simp only [maxLen];omega) (by omega) ?_)
 intro A12 c12 w12 ho12 hu12 hat12;obtain ⟨ALL,HAE⟩:=nm (((L++[r1])++[r2])++[r3]);have hall:ALL.length=k+3:=by rw [←HAE.out];simp [hkl]
 have HGA:Hid (RlGs ALL):=fun r hr=>by
  rw [←HAE.out] at hr;simp only [List.mem_append,List.mem_singleton] at hr;rcases hr with ((hr | rfl) | rfl) | rfl
  ·exact HG0.out r hr
  ·exact HG2.out _ (by simp)
  ·exact HG2.out _ (by simp)
  ·exact HG2.out _ (by simp)
 have HRO:Hid (RlO w12 (fun _=>True) A12 ALL.length c12 ALL):=by
  refine ⟨rfl,((cs0++(rlCells r1 a1).toList)++(rlCells r2 a2).toList)++(rlCells r3 a3).toList,?_,?_⟩
  ·rw [hall];simpa [rlCells] using ho12
  ·rw [←HAE.out]
   exact (HCS.out.mono (Upd.refl.alloc (S:=Non) _) (fun _ _ _ f=>f) (fun i _ h=>h)).mono (K':=fun i=>True∧¬At A12 i) hu12 (fun i hi h e=>by
    have h1:=HA8.out i e;have h2:=H8L.out i e
    rcases h with h | h <;> omega) (fun i hi h=>⟨trivial,fun e=>by
    rcases hat12 i e with e | e
    ·have h1:=HA8.out i e;have h2:=H8L.out i e;rcases h with h | h <;> omega
    ·rw [e] at hi
     simp at hi⟩)
 have HA12:Hid (∀i,At A12 i→w.heap.size≤i):=fun i h=>by
  rcases hat12 i h with h | h
  ·exact HA8.out i h
  ·omega
 have HU12:Hid (Upd Non w w12):=(HU11.out.then_non (Upd.refl.alloc (S:=Non) _)).trans hu12 (fun i hi h=>by have:=HA8.out i h;omega);clear ho12 hu12 hat12 HCS H8L HO11 hs8 hs9 hs10 hs11;have hkl3:k+3≤7:=by omega
 obtain ⟨q0,hq0⟩:∃q:Nat,k+3=q:=⟨_,rfl⟩;rw [hq0] at hall;have CX:=h_ (rAxioms_c w12);rw [hall] at HRO;have CA:=h_ (fun (x:Bs×Bs) W=>rAxiom_c x.1 W);have CB:=h_ (fun (x:Bs×Bs) W=>xAxiom_c x.1 W);have CP:=h_ (fun W=>pick_c at_ 22 W (by omega) (by omega));obtain ⟨pk,hpk⟩:∃p:Nat,at_ % 22=(p:Int):=Int.eq_ofNat_of_zero_le (by omega);rw [hpk] at CP;rw [hq0];clear hpk;go_wp2_with fail
 refine CX.out.mono ?_;rintro e w13 ⟨AN,cn,rfl,hoN,hAN,u13⟩;obtain ⟨gN,rfl⟩:=hoN.some_ (by omega);have hcn:(22:Nat)≤cn:=hoN.le;have HON:=h_ hoN;have HRO13:=h_ (HRO.out.upd u13 (fun _ _ f=>f) (fun _ _ _ f=>f));have HU13:=h_ (HU12.out.then_non u13)
 have HN12:Hid (∀i,At A12 i→i≠gN):=fun i h=>by
  have h1:=HRO.out.lt h;have h2:=hAN gN (At.some_.2 rfl);omega
 have HGN:Hid (w12.heap.size≤gN):=hAN gN (At.some_.2 rfl);clear CX hoN hAN u13 HRO;go_wp2_with fail
 go_loopg [13,15,16,17,18,19,20,51] 22 (fun gg l _ _ _ _ _ _ i wr=>∃(j:Nat) (Q:List Rl) (AA:Option Addr) (cc:Nat),Hid (gg=22 - j)∧j≤22∧i=.int .i64 j∧l=.slice AA Q.length cc∧Q.length≤7+j∧Hid (RlGs Q)∧Hid (RlO wr (fun _=>True) AA Q.length cc Q)∧Hid (∀i,At AA i→w.heap.size≤i)∧Hid (∀i,At AA i→i≠gN)∧Hid (Upd Non w wr)∧Hid (Own wr 9 1 (some ⟨gN,0,none⟩) 22 cn (nmCs axL)))
 case atStart=>exact ⟨0,ALL,A12,c12,rfl,by omega,rfl,by rw [hall],by omega,HGA.out,by rw [hall];exact HRO13.out,HA12.out,HN12.out,HU13.out,HON.out⟩
 case round =>
  obtain ⟨j,Q,AA,cc,Hg,hj,rfl,rfl,hQl,HQG,HQO,HQA,HQN,HQU,HNS⟩:=hrel;by_cases hlt:j<22
  ·have ti:decide ((j:Int)<22)=true:=dT_ (by omega);have hal:j<axL.length:=hlt
   have hcell:wr.cell? ⟨gN,j,none⟩=some (.string (kstr axL[j].1)):=by
    rw [HNS.out.cell_ (i:=j) (by simpa [nmCs] using hal)];simp [nmCs]
   have HMEM:Hid (axL[j]∈axL):=List.getElem_mem hal;generalize axL[j]=xx at *;obtain ⟨ra,hax⟩:=ax_rule HMEM.out;have HAX:=h_ hax;have HRZ:Hid (RlSz ra∧RlI ra):=⟨hax.sz,hax.i⟩;have HNM:Hid (ra.name=kstr xx.1):=hax.nm;have CA1:=h_ (CA.out xx wr);have CB1:=h_ (CB.out xx);obtain ⟨nx,Hnx⟩:=nm (kstr xx.1);rw [Hnx.out] at hcell CA1 CB1 HNM;have HQC:Hid (Q.length≤cc):=HQO.out.le;obtain ⟨qn,Hqn⟩:=nm Q.length;clear hax;go_wp2_with fail
   refine CA1.out.mono ?_;rintro e w3 ⟨rl,a,b,rfl,hk3,u3,hb1,hb0⟩
   have hb:b=true:=by
    cases b with
    | true=>rfl
    | false=>have:=hb0 rfl;rw [HAX.out.eq] at this;cases this
   subst hb;have hrl:rl=ra:=by have:=hb1 rfl;rw [HAX.out.eq] at this;injection this with this;exact this.symm
   subst hrl;clear hb0 hb1 CA1 hcell;obtain ⟨W4,HW4⟩:=nm (w3.alloc (.cells (rlCells rl a) 43));have u4:Upd Non w3 W4:=by rw [←HW4.out];exact Upd.refl.alloc _
   have b4:Blk W4 w3.heap.size 43 (rlCells rl a):=by rw [←HW4.out];exact Blk.new _ _ _
   have e4:=HW4.out;have HB4:=h_ b4;have HK4:=h_ (hk3.upd u4 (fun _ _ _ f=>f));have HU4:=h_ (u3.then_non u4);unfold rlCells at e4;unfold rlv rlCells;clear u3 u4 b4 hk3 HW4
   go_upto_region 7 with fail
   try rw [e4]
   clear e4;go_wp2_with fail
   refine (CB1.out W4).mono ?_;rintro e w5 ⟨rl2,a2,b,rfl,hk5,u5,hb1,hb0⟩
   have hb:b=true:=by
    cases b with
    | true=>rfl
    | false=>have:=hb0 rfl;rw [HAX.out.eq] at this;cases this
   subst hb;have hrl:rl2=rl:=by have:=hb1 rfl;rw [HAX.out.eq] at this;injection this with this;exact this.symm
   subst hrl;clear hb0 hb1 CB1;obtain ⟨W6,HW6⟩:=nm (w5.alloc (.cells (rlCells rl2 a2) 43));have u6:Upd Non w5 W6:=by rw [←HW6.out];exact Upd.refl.alloc _
   have b6:Blk W6 w5.heap.size 43 (rlCells rl2 a2):=by rw [←HW6.out];exact Blk.new _ _ _
   have b46:=HB4.out.upd (u5.then_non u6) (fun f=>f);have e6:=HW6.out;have HB46:=h_ b46;have HK46:=h_ (HK4.out.upd (u5.then_non u6) (fun _ _ _ f=>f));have HK66:=h_ (hk5.upd u6 (fun _ _ _ f=>f));have HU6:=h_ ((HU4.out.then_non u5).then_non u6);have CSm:=h_ (sameRule_c rl2 a rl2 a2 W6 _ _ HK46.out HK66.out HRZ.out.1);have CVl:=h_ (fun W (u:Upd Non W6 W)=>rlValid_c rl2 a _ W (HK46.out.upd u (fun _ _ _ f=>f)) HRZ.out.1);rw [rlE_refl] at CSm;rw [HAX.out.v] at CVl;unfold rlv rlCells at CSm CVl;unfold rlCells at e6 b46 b6;rw [HNM.out] at CSm CVl e6 b46 b6;unfold rlv rlCells;rw [HNM.out];have x0:=b46.cell 0;have y0:=b6.cell 0;have x1:=b46.cell 1;have y1:=b6.cell 1;have x2:=b46.cell 2;have y2:=b6.cell 2;have x3:=b46.cell 3;have y3:=b6.cell 3;have x4:=b46.cell 4;have y4:=b6.cell 4;have x5:=b46.cell 5;have y5:=b6.cell 5;have x6:=b46.cell 6;have y6:=b6.cell 6;have x7:=b46.cell 7;have y7:=b6.cell 7;have x8:=b46.cell 8;have y8:=b6.cell 8;have x9:=b46.cell 9;have y9:=b6.cell 9;have x10:=b46.cell 10;have y10:=b6.cell 10;have x11:=b46.cell 11;have y11:=b6.cell 11;have x12:=b46.cell 12
   have y12:=b6.cell 12;have x13:=b46.cell 13;have y13:=b6.cell 13;have HQO6:=h_ (HQO.out.upd HU6.out (fun _ _ f=>f) (fun _ _ _ f=>f));have HNS6:=h_ (HNS.out.upd HU6.out (fun _ _ f=>f));clear b46 b6 u5 u6 hk5 HB4 HK4 HU4 HK66
   go_upto_region 8 with fail
   try rw [e6]
   clear e6;go_wp2_with fail
   refine CSm.out.mono ?_;rintro e w7 ⟨rfl,u7⟩;have CVl2:=h_ (CVl.out w7 u7);clear CSm CVl x0 y0 x1 y1 x2 y2 x3 y3 x4 y4 x5 y5 x6 y6 x7 y7 x8 y8 x9 y9 x10 y10 x11 y11 x12 y12 x13 y13;have b47:=HB46.out.upd u7 (fun f=>f);unfold rlCells at b47;rw [HNM.out] at b47;have x0:=b47.cell 0;have x1:=b47.cell 1;have x2:=b47.cell 2;have x3:=b47.cell 3;have x4:=b47.cell 4;have x5:=b47.cell 5;have x6:=b47.cell 6;have x7:=b47.cell 7;have x8:=b47.cell 8;have x9:=b47.cell 9;have x10:=b47.cell 10;have x11:=b47.cell 11;have x12:=b47.cell 12;have x13:=b47.cell 13;clear b47;go_wp2_with fail
   refine CVl2.out.mono ?_;rintro e w8' ⟨rfl,u8⟩;have CP8:=h_ (CP.out w8');have HU8':=h_ ((HU6.out.then_non u7).then_non u8);have b48:=HB46.out.upd (u7.then_non u8) (fun f=>f);have HB48:=h_ b48;have HK48:=h_ (HK46.out.upd (u7.then_non u8) (fun _ _ _ f=>f));have HQO8:=h_ (HQO6.out.upd (u7.then_non u8) (fun _ _ f=>f) (fun _ _ _ f=>f));have HNS8:=h_ (HNS6.out.upd (u7.then_non u8) (fun _ _ f=>f));clear CVl2 u7 u8 HQO6 HNS6 HK46 HB46 x0 x1 x2 x3 x4 x5 x6 x7 x8 x9 x10 x11 x12 x13;go_wp2_with fail
   refine CP8.out.mono ?_;rintro e w9' ⟨rfl,rfl⟩;clear CP8;rw [Hqn.out] at hQl ⊢;by_cases hjp:j=pk
   ·have tj:((j:Int)==(pk:Int))=true:=by simp [hjp]
    obtain ⟨hqn,cs,hown,hcs⟩:=id HQO8.out;have hown2:Own w8' 43 14 AA qn cc cs:=by rw [←Hqn.out];exact hown
    have HCSQ:=h_ hcs;have HKQ:Hid (RlK w8' (fun i=>True∧¬At AA i) rl2 a):=HK48.out.mono (fun i _ h=>⟨trivial,fun q=>by have:=HQO.out.lt q;omega⟩);have b48:=HB48.out;unfold rlCells at b48;rw [HNM.out] at b48;have x0:=b48.cell 0;have x1:=b48.cell 1;have x2:=b48.cell 2;have x3:=b48.cell 3;have x4:=b48.cell 4;have x5:=b48.cell 5;have x6:=b48.cell 6;have x7:=b48.cell 7;have x8:=b48.cell 8;have x9:=b48.cell 9;have x10:=b48.cell 10;have x11:=b48.cell 11;have x12:=b48.cell 12;have x13:=b48.cell 13;clear hqn hown hcs b48 hjp
    go_wp2_with (at_builtin;refine wpList_app rfl rfl T_rules rfl (hown2.alloc _) rfl (Sl.new _ _ _) rfl (by simp [Value.oneCell']) (by simp only [maxLen];omega) (by omega) ?_)
    intro A5 c5 w5' ho5 hu5 hat5;rw [←HNM.out] at ho5 hu5;have UA:Upd Non w8' (w8'.alloc (.cells (rlCells rl2 a) 43)):=Upd.refl.alloc _
    have HRO5:=h_ (RlO.snoc (G':=fun _=>True) (w:=w8'.alloc (.cells (rlCells rl2 a) 43)) Hqn.out.symm (HCSQ.out.mono UA (fun _ _ _ f=>f) (fun _ _ h=>h)) (HKQ.out.upd UA (fun _ _ _ f=>f)) ho5 hu5 (fun i h=>by
     rcases hat5 i h with h | h
     ·exact .inl h
     ·exact .inr (by rw [h];simp)) (fun _ _ h=>h))
    have hs1:w.heap.size≤wr.heap.size:=HQU.out.size;have hs2:wr.heap.size≤w8'.heap.size:=HU8'.out.size;have hgw:gN<wr.heap.size:=HNS.out.lt (At.some_.2 rfl);have HU5:Hid (Upd Non w w5'):=((HQU.out.then_non HU8'.out).then_non UA).trans hu5 (fun i hi h=>by have:=HQA.out i h;omega)
    have HA5:Hid (∀i,At A5 i→w.heap.size≤i):=fun i h=>by
     rcases hat5 i h with h | h
     ·exact HQA.out i h
     ·omega
    have HN5:Hid (∀i,At A5 i→i≠gN):=fun i h=>by
     rcases hat5 i h with h | h
     ·exact HQN.out i h
     ·omega
    have HNS5:=h_ ((HNS8.out.upd UA (fun _ _ f=>f)).upd hu5 (fun i h e=>by rw [At.some_] at h;exact HQN.out i e h));clear ho5 hu5 hat5 UA hown2 x0 x1 x2 x3 x4 x5 x6 x7 x8 x9 x10 x11 x12 x13;go_wp2_with fail
    go_roundg (22 - (j+1))
    case measure=>rw [Hg.out];omega
    case rel=>exact ⟨j+1,Q++[rl2],A5,c5,rfl,by omega,by go_num,by rw [List.length_append,Hqn.out];rfl,by rw [List.length_append,Hqn.out,List.length_singleton];omega,fun q hq=>by
     rcases List.mem_append.1 hq with hq | hq
     ·exact HQG.out q hq
     ·rw [List.mem_singleton] at hq;subst hq;exact HRZ.out,by rw [List.length_append,Hqn.out];exact HRO5.out,HA5.out,HN5.out,HU5.out,HNS5.out⟩
   ·have tj:((j:Int)==(pk:Int))=false:=by simp;omega
    go_wp2_with fail
    go_roundg (22 - (j+1))
    case measure=>rw [Hg.out];omega
    case rel=>exact ⟨j+1,Q,AA,cc,rfl,by omega,by go_num,by rw [Hqn.out],by rw [Hqn.out];omega,HQG.out,HQO8.out,HQA.out,HQN.out,HQU.out.then_non HU8'.out,HNS8.out⟩
  ·obtain rfl:j=22:=by omega
   have HV:=h_ (HQO.out.view (F:=fun _=>True) (fun _ _=>trivial) (fun _ _ _=>trivial));have HQC:Hid (Q.length≤cc):=HQO.out.le;have HSZ:Hid (∀q∈Q,RlSz q):=fun q hq=>(HQG.out q hq).1
   have HIZ:Hid (∀q∈Q,RlI q):=fun q hq=>(HQG.out q hq).2
   obtain ⟨qn,Hqn⟩:=nm Q.length;rw [Hqn.out] at hQl ⊢;obtain ⟨WL,hWL⟩:∃v:World,v=wr:=⟨_,rfl⟩;subst hWL;clear HQO HQA HQN HNS CA CB CP;go_wp2_with fail
   go_loopg [22,24,102] qn (fun g _ _ iv wr=>∃i:Nat,Hid (g=qn - i)∧i≤qn∧iv=.int .i64 i∧Hid (Upd Non WL wr))
   case atStart=>exact ⟨0,rfl,Nat.zero_le _,rfl,Upd.refl⟩
   case round =>
    obtain ⟨i,Hgi,hi,rfl,HUI⟩:=hrel;by_cases hlt2:i<qn
    ·have hil:i<Q.length:=by rw [Hqn.out];exact hlt2
     obtain ⟨b1,o1,ax,rfl,_,hbw,hat,hrk⟩:=(HV.out.upd HUI.out (fun _ _ _ f=>f)).at_ hil;have HXS:=h_ (HSZ.out _ (List.getElem_mem hil));have HXI:=h_ (HIZ.out _ (List.getElem_mem hil));generalize Q[i]=x at *;unfold RlAt at hat;obtain ⟨x0,x1,x2,x3,x4,x5,x6,x7,x8,x9,x10,x11,x12,x13⟩:=hat;obtain ⟨W3,HW3⟩:=nm (wr.alloc (.cells (rlCells x ax) 43));have u3:Upd Non wr W3:=by rw [←HW3.out];exact Upd.refl.alloc _
     have b3:Blk W3 wr.heap.size 43 (rlCells x ax):=by rw [←HW3.out];exact Blk.new _ _ _
     have e3:=HW3.out;have HB3:=h_ b3;have HK3:=h_ (hrk.upd u3 (fun _ _ _ f=>f));have HU3:=h_ (HUI.out.then_non u3);obtain ⟨g1,hg1⟩:∃g,wr.heap.size=g:=⟨_,rfl⟩;unfold rlCells at e3;clear b3 hrk u3
     go_upto_region 16 with fail
     try rw [e3]
     clear x0 x1 x2 x3 x4 x5 x6 x7 x8 x9 x10 x11 x12 x13 e3;rw [hg1] at HB3
     go_cut [119] (fun s wx=>s=.bool false∧Upd Non W3 wx)
     case first =>
      refine wp_then_false (rvReg16_w x ax _ W3 g1 HB3 HK3 HXS HXI _ _ _ _ _ _ _ _ _ _ _ _ _ _ _ _ _ _ _ _ _ _ _ _ _ _ _ _ _ _ _ _ _ _ _ _ _ _ _ _ _ _ _ _ _ _ _ _ _ _ _ _ _ _ _ _ _ _ _ _ _ _ _ _ _ _ _ _ _ _ _ _ _ _ _ _ _ _ _ _ _ _ _ _ _ _ _ _ _ _ _ _ _ _ _ _ _ _ _ _ _ _ _ _ _ _ _ _ _ _ _ _ _ _ _ _ _ _ _ _ _ _ _ _ _ _ _ _ _ _ _ _ _ _ _ _ _ _ _ _ _ _ _ _ _ _ _ _ _ _ _ _ _ _ _ _ _ _ _ _ _ _ _ _ _ ?_)
      rintro v106 v107 v108 v109 v110 v111 v112 v113 v114 v115 v116 v117 v118 w' hu;go_wp2_with fail
      go_meet
      case rel=>exact ⟨rfl,hu⟩
     case rest =>
      obtain ⟨rfl,hwc⟩:=hcut;have HUC:=h_ (HU3.out.then_non hwc);have HBC:=h_ (HB3.out.upd hwc (fun f=>f));have HKC:=h_ (HK3.out.upd hwc (fun _ _ _ f=>f));obtain ⟨WC,hWC⟩:∃v:World,v=wc:=⟨_,rfl⟩;subst hWC;clear hwc HB3 HK3;go_wp2_with fail
      go_loopg [24,122] qn (fun g _ iv wq=>∃i2:Nat,Hid (g=qn - i2)∧i2≤qn∧iv=.int .i64 i2∧Hid (Upd Non WC wq))
      case atStart=>exact ⟨0,rfl,Nat.zero_le _,rfl,Upd.refl⟩
      case round =>
       obtain ⟨i2,Hg2,hi2,rfl,HU2⟩:=hrel;by_cases hlt3:i2<qn
       ·have hil:i2<Q.length:=by rw [Hqn.out];exact hlt3
        obtain ⟨b2',o2',ay,e2',_,hbw2,hat,hrk⟩:=(HV.out.upd (HUC.out.then_non HU2.out) (fun _ _ _ f=>f)).at_ hil;injection e2' with e2'
        injection e2' with e21 e22
        subst e21 e22;generalize Q[i2]=y at *;unfold RlAt at hat;obtain ⟨x0,x1,x2,x3,x4,x5,x6,x7,x8,x9,x10,x11,x12,x13⟩:=hat;obtain ⟨W5,HW5⟩:=nm (wr.alloc (.cells (rlCells y ay) 43));have u5:Upd Non wr W5:=by rw [←HW5.out];exact Upd.refl.alloc _
        have b5:Blk W5 wr.heap.size 43 (rlCells y ay):=by rw [←HW5.out];exact Blk.new _ _ _
        have e5:=HW5.out;have HY5:=h_ b5;have HX5:=h_ (HBC.out.upd (HU2.out.then_non u5) (fun f=>f));have HKX:=h_ (HKC.out.upd (HU2.out.then_non u5) (fun _ _ _ f=>f));have HKY:=h_ (hrk.upd u5 (fun _ _ _ f=>f));have HU5:=h_ (HU2.out.then_non u5);obtain ⟨g2,hg2⟩:∃g,wr.heap.size=g:=⟨_,rfl⟩;unfold rlCells at e5;clear b5 hrk u5
        go_upto_region 21 with fail
        try rw [e5]
        clear x0 x1 x2 x3 x4 x5 x6 x7 x8 x9 x10 x11 x12 x13 e5;rw [hg2] at HY5
        go_cut [132] (fun s wx=>s=.bool false∧Upd Non W5 wx)
        case first =>
         refine wp_then_false (rvReg21_w x y ax ay _ _ W5 g1 g2 HX5 HY5 HKX HKY HXS _ _ _ _ _ _ _ _ _ _ _ _ _ _ _ _ _ _ _ _ _ _ _ _ _ _ _ _ _ _ _ _ _ _ _ _ _ _ _ _ _ _ _ _ _ _ _ _ _ _ _ _ _ _ _ _ _ _ _ _ _ _ _ _ _ _ _ _ _ _ _ _ _ _ _ _ _ _ _ _ _ _ _ _ _ _ _ _ _ _ _ _ _ _ _ _ _ _ _ _ _ _ _ _ _ _ _ _ _ _ _ _ _ _ _ _ _ _ _ _ _ _ _ _ _ _ _ _ _ _ _ _ _ _ _ _ _ _ _ _ _ _ _ _ _ _ _ _ _ _ _ _ _ _ _ _ _ _ _ _ _ _ _ _ ?_)
         rintro v126 v127 v128 v129 v130 v131 w' hu;go_wp2_with fail
         go_meet
         case rel=>exact ⟨rfl,hu⟩
        case rest =>
         obtain ⟨rfl,hwc⟩:=hcut;have HU6:=h_ (HU5.out.then_non hwc);clear hwc;go_wp2_with fail
         go_roundg (qn - (i2+1))
         case measure=>rw [Hg2.out];omega
         case rel=>exact ⟨i2+1,rfl,by omega,by go_num,HU6.out⟩
       ·obtain rfl:qn=i2:=by omega
        go_wp2_with fail
        go_roundg (qn - (i+1))
        case measure=>rw [Hgi.out];omega
        case rel=>exact ⟨i+1,rfl,by omega,by go_num,HUC.out.then_non HU2.out⟩
    ·obtain rfl:qn=i:=by omega
     have hkn:kstr (kx name)=name:=by apply kx_inj;rw [kx_kstr]
     have CA:=h_ (rAxiom_c (kx name) wr);have CB:=h_ (fun W=>xAxiom_c (kx name) W);rw [hkn] at CA CB;have CXx:=h_ (fun W=>xAxioms_c W);have CPa:=h_ (fun W (u:Upd Non WL W)=>rPrint_c W _ AA cc Q (HV.out.upd u (fun _ _ _ f=>f)) HSZ.out HIZ.out (by rw [Hqn.out];omega));have CPb:=h_ (fun W (u:Upd Non WL W)=>xPrint_c W _ AA cc Q (HV.out.upd u (fun _ _ _ f=>f)) HSZ.out HIZ.out (by rw [Hqn.out];omega));obtain ⟨ps,Hps⟩:=nm (kstr (printF Q));rw [Hps.out,Hqn.out] at CPa CPb;have tpp:(ps.toList==ps.toList)=true:=by simp
     clear hkn;go_wp2_with fail
     refine CA.out.mono ?_;rintro e w3 ⟨rl,a,b,rfl,hk3,u3,hb1,hb0⟩;have U3:Upd Non WL w3:=HUI.out.then_non u3;obtain ⟨W4,HW4⟩:=nm (w3.alloc (.cells (rlCells rl a) 43));have U4:Upd Non WL W4:=by rw [←HW4.out];exact U3.alloc _
     have e4:=HW4.out;unfold rlCells at e4;unfold rlv rlCells;clear hk3 CA
     go_upto_region 26 with fail
     try rw [e4]
     clear e4;go_wp2_with fail
     refine (CB.out W4).mono ?_;rintro e w5 ⟨rl2,a2,b2,rfl,hk5,u5,hb12,hb02⟩
     have hbb:b2=b:=by
      cases b with
      | true =>
       cases b2 with
       | true=>rfl
       | false=>have h1:=hb1 rfl;rw [hb02 rfl] at h1;cases h1
      | false =>
       cases b2 with
       | false=>rfl
       | true=>have h1:=hb12 rfl;rw [hb0 rfl] at h1;cases h1
     subst hbb;have tbb:(b2==b2)=true:=by simp
     have U5:Upd Non WL w5:=U4.then_non u5;obtain ⟨W6,HW6⟩:=nm (w5.alloc (.cells (rlCells rl2 a2) 43));have U6:Upd Non WL W6:=by rw [←HW6.out];exact U5.alloc _
     have e6:=HW6.out;unfold rlCells at e6;unfold rlv rlCells;clear hk5 CB hb1 hb0 hb12 hb02 u3 u5 U3 U4 U5;have HU6:=h_ U6
     go_upto_region 27 with fail
     try rw [e6]
     clear e6 U6;go_wp2_with fail
     refine (CXx.out W6).mono ?_;rintro e w7 ⟨A7,c7,rfl,_,_,u7⟩;have HU7:=h_ (HU6.out.then_non u7);go_wp2_with fail
     refine (CPa.out w7 HU7.out).mono ?_;rintro e w8' ⟨rfl,u8⟩;have HU8':=h_ (HU7.out.then_non u8);go_wp2_with fail
     refine (CPb.out w8' HU8'.out).mono ?_;rintro e w9' ⟨rfl,u9⟩;go_wp2_with fail
     refine (CE.out _).mono ?_;rintro e w10' ⟨rfl,u10⟩;go_wp2_with fail
     go_ret;exact ⟨rfl,((HQU.out.then_non HU8'.out).then_non u9).then_non u10⟩
end Go.Proofs.YtblkgjdhaibhgaaGreat
