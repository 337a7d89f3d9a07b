/-
  Lemmas and walks that the claim rests on, part 2 (packed by a program).
-/
import Derived.Test.YtblkgjdhaibhgaaGreatV1
import Derived.Laws.DeepStrings4
namespace Go.Proofs.YtblkgjdhaibhgaaGreat
open Go.RowKit
abbrev Bs:=List UInt8
def isPn (c:UInt8):Bool:=decide (c.toNat=40∨c.toNat=41∨c.toNat=59∨c.toNat=58∨c.toNat=44)
def isSp (c:UInt8):Bool:=decide (c.toNat=32∨c.toNat=9∨c.toNat=10∨c.toNat=13)
def isLw (c:UInt8):Bool:=decide (97≤c.toNat∧c.toNat≤122)
def isCm:Bs→Bool
 | a::b::_=>decide (a.toNat=47∧b.toNat=47)
 | _=>false
def wordCh (c:UInt8):Bool:=decide (33≤c.toNat∧c.toNat≤126)&&!isPn c
def wlen:Bs→Nat
 | []=>0
 | c::r=>if wordCh c&&!isCm (c::r) then wlen r+1 else 0
def clen:Bs→Nat
 | []=>0
 | c::r=>if c.toNat=10 then 0 else clen r+1
structure Tok where
 s:Bs
 pos:Nat
 bad:Bool
def tokL:Nat→Bs→Nat→List Tok
 | 0,_,o=>[⟨[],o,true⟩]
 | _+1,[],o=>[⟨[],o,true⟩]
 | f+1,c::r,o =>
  if isSp c then tokL f r (o+1)
  else if isCm (c::r) then tokL f ((c::r).drop (clen (c::r))) (o+clen (c::r))
  else if isPn c || decide (c.toNat<33) || decide (126<c.toNat) then ⟨[c],o,!isPn c⟩::tokL f r (o+1)
  else ⟨(c::r).take (wlen (c::r)),o,false⟩::tokL f ((c::r).drop (wlen (c::r))) (o+wlen (c::r))
def toksF (s:Bs):List Tok:=tokL (s.length+1) s 0
def goodT:List Tok→List (Bs×Nat)
 | []=>[]
 | t::l=>if t.bad then [] else (t.s,t.pos)::goodT l
def finT:List Tok→Nat
 | []=>0
 | t::l=>if t.bad then t.pos else finT l
def findB:Bs→UInt8→Nat→Option Nat
 | [],_,_=>none
 | x::l,c,i=>if x=c then some i else findB l c (i+1)
def lookF (l:Bs) (c:UInt8) (left:Bool):Nat×Bs :=
 match findB l c 0 with
 | some i=>(i+1,l)
 | none=>if left then (l.length+1,l++[c]) else (0,l)
def varF (s:Bs) (c:Nat) (l:Bs) (left:Bool):Nat×Bs :=
 match s with
 | [a,b]=>if a.toNat=c∧isLw b=true then lookF l b left else (0,l)
 | _=>(0,l)
def isDg (c:UInt8):Bool:=decide (48≤c.toNat∧c.toNat≤57)
def digF (l:Bs) (n:Nat):Nat:=l.foldl (fun n c=>10 * n+(c.toNat - 48)) n
def decF (s:Bs):Option Int :=
 let neg:=decide (s.head?=some 45)
 let t:=if neg then s.tail else s
 if t.length<1∨t.length > 19∨(t.head?=some 48∧(t.length > 1∨neg=true)) then none
 else if t.all isDg then
  if digF t 0 > (if neg then 9223372036854775808 else 9223372036854775807) then none else some (if neg then -(digF t 0:Int) else digF t 0)
 else none
def nameL:List Bs :=
 [[97,100,100],
 [115,117,98],
 [109,117,108],
 [100,105,118],
 [114,101,109],
 [97,110,100],
 [111,114],
 [120,111,114],
 [115,104,108],
 [115,104,114],
 [115,97,114],
 [101,113],
 [110,101],
 [108,116],
 [108,101],
 [108,116,117],
 [110,101,103],
 [110,111,116],
 [115,101,108],
 [108,111,97,100],
 [114,101,116],
 [102,105,110],
 [115,116,97,114,116],
 [110,101,101,100],
 [115,116,111,114,101],
 [111,117,116],
 [99,97,108,108],
 [108,111,111,112]]
def findL {α:Type} [DecidableEq α]:List α→α→Nat→Option Nat
 | [],_,_=>none
 | x::l,s,i=>if x=s then some i else findL l s (i+1)
def opF (s:Bs):Option Nat:=(findL nameL s 0).map (4+·)
def arF (op:Int):Option Nat :=
 if op=24∨op=20∨op=21 then some 1 else if op=22∨op=28 then some 3 else if (4≤op∧op≤23)∨op=27∨op=29 then some 2 else none
def immOp (op:Int):Bool:=decide (op=23∨op=27∨op=28)
abbrev Er:=Int×Int
structure PS where
 i:Nat
 vs:Bs
 ms:Bs
section
variable (T:List (Bs×Nat)) (fin:Nat)
def offF (i:Nat):Nat:=match T[i]? with | some t=>t.2 | none=>fin
def tkF (i:Nat):Option Bs:=(T[i]?).map (·.1)
def serr (i:Nat):Er:=(2,(offF T fin i:Int))
def expF (s:Bs) (x:PS):Except Er PS:=if tkF T x.i=some s then .ok { x with i:=x.i+1 } else .error (serr T fin x.i)
def wrdF {α:Type} (f:Bs→PS→Option (α×PS)) (x:PS):Except Er (α×PS) :=
 match tkF T x.i with
 | some s=>if isPn (s.headD 0) then .error (serr T fin x.i) else match f s x with
  | some (a,y)=>.ok (a,{ y with i:=x.i+1 })
  | none=>.error (serr T fin x.i)
 | none=>.error (serr T fin x.i)
def atomF (left:Bool) (s:Bs) (x:PS):Option (Pt×PS) :=
 match decF s with
 | some n=>some (.mk 0 1 n 0 [],x)
 | none =>
  if 0<(varF s 63 x.vs left).1 then some (.mk (varF s 63 x.vs left).1 0 0 0 [],{ x with vs:=(varF s 63 x.vs left).2 })
  else if 0<(varF s 36 x.ms left).1 then some (.mk 0 1 0 (varF s 36 x.ms left).1 [],{ x with ms:=(varF s 36 x.ms left).2 })
  else none
def operF (left:Bool) (s:Bs) (x:PS):Option (Pt×PS) :=
 let a:=s.takeWhile (fun c=>decide (c.toNat≠46))
 let r:=s.drop a.length
 match opF a with
 | none=>none
 | some op =>
  if (arF op).isNone∨immOp op≠decide (a.length<s.length) then none
  else if immOp op=false then some (.mk 0 op 0 0 [],x)
  else match decF r.tail with
   | some n=>some (.mk 0 op n 0 [],x)
   | none=>match r.tail with
    | [c]=>if isLw c=true∧0<(lookF x.ms c left).1 then some (.mk 0 op 0 (lookF x.ms c left).1 [],{ x with ms:=(lookF x.ms c left).2 }) else none
    | _=>none
def kidsF (g:PS→Except Er (Pt×PS)):Nat→PS→Except Er (List Pt×PS)
 | 0,x=>.ok ([],x)
 | k+1,x=>match g x with
  | .error e=>.error e
  | .ok (p,y)=>match kidsF g k y with
   | .error e=>.error e
   | .ok (l,z)=>.ok (p::l,z)
def termF (left:Bool):Nat→PS→Except Er (Pt×PS)
 | 0,x=>.error (serr T fin x.i)
 | f+1,x =>
  if tkF T x.i=some [40] then
   match wrdF T fin (operF left) { x with i:=x.i+1 } with
   | .error e=>.error e
   | .ok (p,y)=>match kidsF (termF left f) ((arF p.op).getD 0) y with
    | .error e=>.error e
    | .ok (l,z)=>match expF T fin [41] z with
     | .error e=>.error e
     | .ok u=>.ok (.mk 0 p.op p.imm p.iv l,u)
  else wrdF T fin (atomF left) x
def pvarF:PS→Except Er (Nat×PS):=wrdF T fin fun s x=>if 0<(varF s 63 x.vs false).1 then some ((varF s 63 x.vs false).1,x) else none
def ivarF:PS→Except Er (Nat×PS):=wrdF T fin fun s x=>match s with
 | [c]=>if isLw c=true∧0<(lookF x.ms c false).1 then some ((lookF x.ms c false).1,x) else none
 | _=>none
def numbF:PS→Except Er (Int×PS):=wrdF T fin fun s x=>(decF s).map fun n=>(n,x)
def condL:List Bs:=[[110,111,110,122,101,114,111],[108,101,97,115,116],[109,111,115,116],[97,112,97,114,116],[105,110,115,105,100,101],[117,110,108,105,107,101]]
def kindF:PS→Except Er (Nat×PS):=wrdF T fin fun s x=>(findL condL s 0).map fun i=>(i+1,x)
def pcondF (x:PS):Except Er (Cd×PS) :=
 match kindF T fin x with
 | .error e=>.error e
 | .ok (k,y)=>match (if k=6 then ivarF T fin y else pvarF T fin y) with
  | .error e=>.error e
  | .ok (a,z) =>
   if k=1 then .ok (⟨1,a,0,0⟩,z)
   else if k=2∨k=3 then match numbF T fin z with
    | .error e=>.error e
    | .ok (n,u)=>.ok (⟨k,a,0,n⟩,u)
   else if k=4 then match pvarF T fin z with
    | .error e=>.error e
    | .ok (b,u)=>.ok (⟨4,a,b,0⟩,u)
   else match ivarF T fin z with
    | .error e=>.error e
    | .ok (b,u)=>.ok (⟨k,a,b,0⟩,u)
def condsF:Nat→PS→Except Er (List Cd×PS)
 | 0,x=>.ok ([],x)
 | f+1,x =>
  if tkF T x.i=some [44] then
   match pcondF T fin { x with i:=x.i+1 } with
   | .error e=>.error e
   | .ok (c,y)=>match condsF f y with
    | .error e=>.error e
    | .ok (l,z)=>.ok (c::l,z)
  else .ok ([],x)
def ifF (f:Nat) (x:PS):Except Er (List Cd×PS) :=
 if tkF T x.i=some [105,102] then
  match pcondF T fin { x with i:=x.i+1 } with
  | .error e=>.error e
  | .ok (c,y)=>match condsF T fin f y with
   | .error e=>.error e
   | .ok (l,z)=>.ok (c::l,z)
 else .ok ([],x)
def anyF:PS→Except Er (Bs×PS):=wrdF T fin fun s x=>some (s,x)
def ruleF (x:PS):Except Er (Rl×PS) :=
 match anyF T fin { x with vs:=[],ms:=[] } with
 | .error e=>.error e
 | .ok (s,x1)=>match expF T fin [58] x1 with
  | .error e=>.error e
  | .ok x2=>match termF T fin true (T.length+1) x2 with
   | .error e=>.error e
   | .ok (l,x3)=>match expF T fin [61,62] x3 with
    | .error e=>.error e
    | .ok x4=>match termF T fin false (T.length+1) x4 with
     | .error e=>.error e
     | .ok (r,x5)=>match ifF T fin (T.length+1) x5 with
      | .error e=>.error e
      | .ok (cs,x6)=>match expF T fin [59] x6 with
       | .error e=>.error e
       | .ok x7=>.ok (⟨⟨s.toArray⟩,l,r,cs,x7.vs.length,x7.ms.length⟩,x7)
def itemF (ax:Bs→Option Rl) (x:PS):Except Er ((Option Rl×Nat)×PS) :=
 if tkF T x.i=some [97,120,105,111,109] then
  match anyF T fin { x with i:=x.i+1 } with
  | .error e=>.error e
  | .ok (s,y)=>match expF T fin [59] y with
   | .error e=>.error e
   | .ok z=>.ok ((ax s,offF T fin (x.i+1)),z)
 else match expF T fin [114,117,108,101] x with
  | .error e=>.error e
  | .ok y=>match ruleF T fin y with
   | .error e=>.error e
   | .ok (r,z)=>.ok ((some r,offF T fin y.i),z)
def loopF (ax:Bs→Option Rl) (n:Nat):Nat→PS→List Rl→Except Er (List Rl)
 | 0,x,_=>.error (serr T fin x.i)
 | f+1,x,out =>
  if offF T fin x.i<n then
   match itemF T fin ax x with
   | .error e=>.error e
   | .ok ((o,pos),y)=>match o with
    | none=>.error (3,pos)
    | some r =>
     if implF r=false then .error (1,pos)
     else if out.any (fun q=>decide (q.name=r.name)) then .error (4,pos)
     else if out.length=160 then .error (6,pos)
     else loopF ax n f y (out++[r])
  else .ok out
end
def parseG (ax:Bs→Option Rl) (s:Bs):Except Er (List Rl) :=
 if 20000<s.length then .error (6,20000)
 else loopF (goodT (toksF s)) (finT (toksF s)) ax s.length (s.length+1) ⟨0,[],[]⟩ []
def axL:List (Bs×Bs) :=
 [([100,105,118,45,111,110,101],[40,100,105,118,32,63,97,32,49,41,32,61,62,32,63,97]),
 ([100,105,118,45,115,101,108,102],[40,100,105,118,32,63,97,32,63,97,41,32,61,62,32,49,32,105,102,32,110,111,110,122,101,114,111,32,63,97]),
 ([100,105,118,45,109,105,110,117,115],[40,100,105,118,32,63,97,32,45,49,41,32,61,62,32,40,110,101,103,32,63,97,41]),
 ([100,105,118,45,122,101,114,111],[40,100,105,118,32,48,32,63,97,41,32,61,62,32,48]),
 ([114,101,109,45,111,110,101],[40,114,101,109,32,63,97,32,49,41,32,61,62,32,48]),
 ([114,101,109,45,115,101,108,102],[40,114,101,109,32,63,97,32,63,97,41,32,61,62,32,48]),
 ([114,101,109,45,100,105,118],[40,114,101,109,32,63,97,32,63,98,41,32,61,62,32,40,115,117,98,32,63,97,32,40,109,117,108,32,40,100,105,118,32,63,97,32,63,98,41,32,63,98,41,41,32,105,102,32,110,111,110,122,101,114,111,32,63,98]),
 ([110,101,101,100,45,116,114,117,101],[40,110,101,101,100,46,107,32,63,97,32,63,98,41,32,61,62,32,63,97,32,105,102,32,110,111,110,122,101,114,111,32,63,98]),
 ([110,101,101,100,45,116,119,105,99,101],[40,110,101,101,100,46,107,32,40,110,101,101,100,46,107,32,63,97,32,63,98,41,32,63,98,41,32,61,62,32,40,110,101,101,100,46,107,32,63,97,32,63,98,41]),
 ([108,111,97,100,45,115,116,111,114,101],[40,108,111,97,100,46,107,32,40,115,116,111,114,101,46,107,32,63,97,32,63,98,32,63,99,41,32,63,98,41,32,61,62,32,63,99,32,105,102,32,105,110,115,105,100,101,32,63,98,32,107]),
 ([108,111,97,100,45,97,112,97,114,116],[40,108,111,97,100,46,107,32,40,115,116,111,114,101,46,107,32,63,97,32,63,98,32,63,99,41,32,63,100,41,32,61,62,32,40,108,111,97,100,46,107,32,63,97,32,63,100,41,32,105,102,32,97,112,97,114,116,32,63,98,32,63,100]),
 ([108,111,97,100,45,111,116,104,101,114],[40,108,111,97,100,46,107,32,40,115,116,111,114,101,46,108,32,63,97,32,63,98,32,63,99,41,32,63,100,41,32,61,62,32,40,108,111,97,100,46,107,32,63,97,32,63,100,41,32,105,102,32,117,110,108,105,107,101,32,107,32,108]),
 ([108,111,97,100,45,110,101,101,100],[40,108,111,97,100,46,107,32,40,110,101,101,100,46,108,32,63,97,32,63,98,41,32,63,99,41,32,61,62,32,40,108,111,97,100,46,107,32,63,97,32,63,99,41]),
 ([108,111,97,100,45,111,117,116],[40,108,111,97,100,46,107,32,40,111,117,116,32,63,97,32,63,98,41,32,63,99,41,32,61,62,32,40,108,111,97,100,46,107,32,63,97,32,63,99,41]),
 ([115,116,111,114,101,45,115,116,111,114,101],[40,115,116,111,114,101,46,107,32,40,115,116,111,114,101,46,107,32,63,97,32,63,98,32,63,99,41,32,63,98,32,63,100,41,32,61,62,32,40,115,116,111,114,101,46,107,32,63,97,32,63,98,32,63,100,41]),
 ([115,116,111,114,101,45,115,119,97,112],[40,115,116,111,114,101,46,107,32,40,115,116,111,114,101,46,107,32,63,97,32,63,98,32,63,99,41,32,63,100,32,63,101,41,32,61,62,32,40,115,116,111,114,101,46,107,32,40,115,116,111,114,101,46,107,32,63,97,32,63,100,32,63,101,41,32,63,98,32,63,99,41,32,105,102,32,97,112,97,114,116,32,63,98,32,63,100]),
 ([115,116,111,114,101,45,108,111,97,100],[40,115,116,111,114,101,46,107,32,63,97,32,63,98,32,40,108,111,97,100,46,107,32,63,97,32,63,98,41,41,32,61,62,32,63,97]),
 ([115,116,111,114,101,45,110,101,101,100],[40,110,101,101,100,46,108,32,40,115,116,111,114,101,46,107,32,63,97,32,63,98,32,63,99,41,32,63,100,41,32,61,62,32,40,115,116,111,114,101,46,107,32,40,110,101,101,100,46,108,32,63,97,32,63,100,41,32,63,98,32,63,99,41]),
 ([115,116,111,114,101,45,111,117,116],[40,111,117,116,32,40,115,116,111,114,101,46,107,32,63,97,32,63,98,32,63,99,41,32,63,100,41,32,61,62,32,40,115,116,111,114,101,46,107,32,40,111,117,116,32,63,97,32,63,100,41,32,63,98,32,63,99,41]),
 ([114,101,116,45,110,101,101,100],[40,114,101,116,32,40,110,101,101,100,46,107,32,63,97,32,63,98,41,41,32,61,62,32,40,114,101,116,32,63,97,41]),
 ([114,101,116,45,111,117,116],[40,114,101,116,32,40,111,117,116,32,63,97,32,63,98,41,41,32,61,62,32,40,114,101,116,32,63,97,41]),
 ([114,101,116,45,115,116,111,114,101],[40,114,101,116,32,40,115,116,111,114,101,46,107,32,63,97,32,63,98,32,63,99,41,41,32,61,62,32,40,114,101,116,32,63,97,41])]
def axText (s:Bs):Option Bs:=(axL.find? fun x=>decide (x.1=s)).map (·.2)
def axiomF (s:Bs):Option Rl :=
 match axText s with
 | none=>none
 | some t=>match parseG (fun _=>none) ([114,117,108,101,32]++s++[58,32]++t++[59]) with
  | .ok [r]=>some r
  | _=>none
def parseF (s:Bs):Except Er (List Rl):=parseG axiomF s
theorem T_u8s:SlT Tryz.prog 57 5 1 1:=by
 obtain ⟨i,h1,h2,h3,h4⟩:=info_parts (show (Tryz.prog.info? 5).map (fun i=>(i.zero,i.size,i.bytes))=some (some (.int .u8 0),1,1) from by kernel_rfl)
 exact ⟨Tryz.underlying57,⟨i,_,h1,h2,h3,h4,rfl⟩,by omega⟩
def u8s (l:List UInt8):List Value:=l.map fun x=>Value.int .u8 (x.toNat:Int)
def U8Blk (w:World) (g:Nat) (l:List UInt8):Prop:=Blk w g 5 (u8s l).toArray
def kstr (l:List UInt8):ByteArray:=⟨l.toArray⟩
theorem kx_kstr (l:List UInt8):kx (kstr l)=l:=kx_mk l
theorem kstr_size (l:List UInt8):(kstr l).size=l.length:=by rw [←kx_len,kx_kstr]
theorem bstr_u8 (l:List UInt8):bstr (l.map fun x=>(x.toNat:Int))=kstr l:=by
 unfold bstr kstr
 congr 2
 rw [List.map_map]
 conv=>rhs;rw [←List.map_id l]
 refine List.map_congr_left fun x _=>?_
 simp
theorem run_kstr {w:World} {g:Nat} {l:List UInt8} {c n:Nat} (h:U8Blk w g l) (hn:n=l.length):(convert 57 9 (.slice (some ⟨g,0,none⟩) n c)).run Tryz.prog w=.ok (.string (kstr l)) w:=by
 have hs:Sl w (·=g) (some ⟨g,0,none⟩) ((l.map fun x=>(x.toNat:Int)).map fun x=>Value.int .u8 x):=by
  have:=Sl.of_blk (F:=(·=g)) rfl h l.length
  rw [show (u8s l).toArray.toList.take l.length=(l.map fun x=>(x.toNat:Int)).map fun x=>Value.int .u8 x by
   rw [List.take_of_length_le (by simp [u8s]),List.map_map];rfl] at this
  exact this
 rw [run_str Tryz.underlying57 Tryz.underlying5 Tryz.underlying9 hs (by simpa using hn),bstr_u8]
theorem run_at_str {s:ByteArray} {n i:Nat} (h:s.size=n) (hi:i<n) (w:World):(Instr.index 9 (.string s) (.int .i64 (i:Int))).run Tryz.prog w=.ok (.int .u8 (((kx s).getD i 0).toNat:Int)) w:=by
 rw [run_index_string w 9 s .i64 i Tryz.underlying9,dif_pos (by omega)]
 congr 3
 have : i<(kx s).length:=by rw [kx_len];omega
 simp only [List.getD,List.getElem?_eq_getElem this,Option.getD_some,Int.toNat_natCast];simp [kx,ByteArray.getElem_eq_getElem_data]
theorem str_beq (a b:List UInt8):((kstr a).toList==(kstr b).toList)=decide (a=b):=by
 rw [Bool.eq_iff_iff,beq_iff_eq,decide_eq_true_eq,ByteArray.toList_eq,ByteArray.toList_eq];simp [kstr]
theorem rIsPunct_c (c:UInt8) (w:World):Calls Tryz.prog 59 #[.int .u8 c.toNat] w fun e w'=>e=.returned (.bool (isPn c))∧w'=w:=by
 have HR:Hid (isPn c=decide (c.toNat=40∨c.toNat=41∨c.toNat=59∨c.toNat=58∨c.toNat=44)):=rfl;obtain ⟨R,HRR⟩:=nm (isPn c);rw [HRR.out] at HR ⊢;obtain ⟨x,Hx⟩:=nm c.toNat;rw [Hx.out] at HR ⊢;by_cases h1:x=40
 ·have f1:((x:Int)==40)=true:=by rw [h1];rfl
  obtain rfl:R=true:=by rw [HR.out];exact dT_ (by omega)
  clear h1;go_enter Tryz.func59,Tryz.ntmps59;go_wp2_with fail
  go_ret;exact ⟨rfl,rfl⟩
 ·have f1:((x:Int)==40)=false:=by simp;omega
  by_cases h2:x=41
  ·have f2:((x:Int)==41)=true:=by rw [h2];rfl
   obtain rfl:R=true:=by rw [HR.out];exact dT_ (by omega)
   clear h1 h2;go_enter Tryz.func59,Tryz.ntmps59;go_wp2_with fail
   go_ret;exact ⟨rfl,rfl⟩
  ·have f2:((x:Int)==41)=false:=by simp;omega
   by_cases h3:x=59
   ·have f3:((x:Int)==59)=true:=by rw [h3];rfl
    obtain rfl:R=true:=by rw [HR.out];exact dT_ (by omega)
    clear h1 h2 h3;go_enter Tryz.func59,Tryz.ntmps59;go_wp2_with fail
    go_ret;exact ⟨rfl,rfl⟩
   ·have f3:((x:Int)==59)=false:=by simp;omega
    by_cases h4:x=58
    ·have f4:((x:Int)==58)=true:=by rw [h4];rfl
     obtain rfl:R=true:=by rw [HR.out];exact dT_ (by omega)
     clear h1 h2 h3 h4;go_enter Tryz.func59,Tryz.ntmps59;go_wp2_with fail
     go_ret;exact ⟨rfl,rfl⟩
    ·have f4:((x:Int)==58)=false:=by simp;omega
     obtain ⟨b,f5⟩:∃b,((x:Int)==44)=b:=⟨_,rfl⟩
     obtain rfl:R=b:=by
      rw [HR.out,←f5,Bool.eq_iff_iff];simp only [beq_iff_eq,decide_eq_true_eq];omega
     clear h1 h2 h3 h4;go_enter Tryz.func59,Tryz.ntmps59;go_wp2_with fail
     go_ret;exact ⟨rfl,rfl⟩
theorem isCm_drop (l:Bs) (k:Nat):isCm (l.drop k)=decide (k+1<l.length∧(l.getD k 0).toNat=47∧(l.getD (k+1) 0).toNat=47):=by
 by_cases h:k+1<l.length
 ·have h0:k<l.length:=by omega
  rw [List.drop_eq_getElem_cons h0,List.drop_eq_getElem_cons h];simp only [isCm,List.getD,List.getElem?_eq_getElem h,List.getElem?_eq_getElem h0,Option.getD_some,h,true_and]
 ·have hl:(l.drop k).length≤1:=by rw [List.length_drop];omega
  rw [dF_ (fun q=>h q.1)]
  match hd:l.drop k,hl with
  | [],_=>rfl
  | [_],_=>rfl
  | _::_::_,hl=>simp at hl
theorem rIsComment_c (s:ByteArray) (k:Nat) (w:World) (hk:k≤1000000000000000) :
  Calls Tryz.prog 58 #[.string s,.int .i64 k] w fun e w'=>e=.returned (.bool (isCm ((kx s).drop k)))∧w'=w:=by
 rw [isCm_drop,kx_len];obtain ⟨n,Hn⟩:=nm s.size;have hn:=Hn.out;obtain ⟨R,HRR⟩:=nm (decide (k+1<n∧((kx s).getD k 0).toNat=47∧((kx s).getD (k+1) 0).toNat=47));rw [hn,HRR.out];by_cases h0:k+1<n
 ·have f0:decide ((k:Int)+1<(n:Int))=true:=dT_ (by omega);have i1:=fun W=>run_at_str Hn.out (show k<n by omega) W
  have i2:=fun W=>run_at_str Hn.out h0 W
  rw [show ((k+1:Nat):Int)=(k:Int)+1 by omega] at i2;generalize ((kx s).getD k 0).toNat=a at i1 HRR;generalize ((kx s).getD (k+1) 0).toNat=b at i2 HRR;by_cases h1:a=47
  ·have f1:((a:Int)==47)=true:=by rw [h1];rfl
   obtain ⟨z,f2⟩:∃z,((b:Int)==47)=z:=⟨_,rfl⟩
   obtain rfl:R=z:=by
    rw [←HRR.out,←f2,Bool.eq_iff_iff];simp only [beq_iff_eq,decide_eq_true_eq];omega
   clear h1 HRR Hn h0;go_enter Tryz.func58,Tryz.ntmps58;go_wp2_with fail
   go_ret;exact ⟨rfl,rfl⟩
  ·have f1:((a:Int)==47)=false:=by simp;omega
   obtain rfl:R=false:=by rw [←HRR.out];exact dF_ (by omega)
   clear h1 HRR Hn h0 i2;go_enter Tryz.func58,Tryz.ntmps58;go_wp2_with fail
   go_ret;exact ⟨rfl,rfl⟩
 ·have f0:decide ((k:Int)+1<(n:Int))=false:=dF_ (by omega);obtain rfl:R=false:=by rw [←HRR.out];exact dF_ (by omega)
  clear HRR Hn h0;go_enter Tryz.func58,Tryz.ntmps58;go_wp2_with fail
  go_ret;exact ⟨rfl,rfl⟩
def tcell (t:Tok):List Value:=[.string (kstr t.s),.int .i64 t.pos,.bool t.bad]
def tcells (L:List Tok):List Value:=L.flatMap tcell
theorem tcells_snoc (L:List Tok) (t:Tok):tcells (L++[t])=tcells L++[.string (kstr t.s),.int .i64 t.pos,.bool t.bad]:=by simp [tcells,tcell]
theorem T_toks:SlT Tryz.prog 55 62 3 32:=by
 obtain ⟨i,h1,h2,h3,h4⟩:=info_parts (show (Tryz.prog.info? 62).map (fun i=>(i.zero,i.size,i.bytes))=some (some (.agg #[.string ⟨#[]⟩,.int .i64 0,.bool false]),3,32) from by kernel_rfl)
 exact ⟨Tryz.underlying55,⟨i,_,h1,h2,h3,h4,rfl⟩,by omega⟩
theorem kstr_extract (s:ByteArray) (i j:Nat):s.extract i j=kstr (((kx s).drop i).take (j - i)):=by
 apply kx_inj;rw [kx_kstr];simp [kx,ByteArray.data_extract,Array.toList_extract,List.extract_eq_take_drop]
theorem run_sub_str {s:ByteArray} {n i j:Nat} (h:s.size=n) (hij:i≤j) (hj:j≤n) (w:World):(Instr.slice 9 (.string s) (some (.int .i64 (i:Int))) (some (.int .i64 (j:Int))) none).run Tryz.prog w=.ok (.string (kstr (((kx s).drop i).take (j - i)))) w:=by
 rw [run_slice_string_if w 9 s .i64 .i64 i j Tryz.underlying9,if_pos (by omega),if_pos (by omega),kstr_extract];simp only [Int.toNat_natCast]
theorem tokL_fuel:∀(f g:Nat) (l:Bs) (o:Nat),l.length<f→l.length<g→tokL f l o=tokL g l o:=by
 intro f
 induction f with
 | zero=>intro g l o h;omega
 | succ f ih =>
  intro g l o hf hg;obtain ⟨g,rfl⟩:∃g',g=g'+1:=⟨g - 1,by omega⟩
  match l with
  | []=>rfl
  | c::r =>
   simp only [List.length_cons] at hf hg;simp only [tokL]
   split
   ·exact ih g r _ (by omega) (by omega)
   ·rename_i hs
    split
    ·rename_i hc
     have h1:1≤clen (c::r):=by
      unfold clen;rw [if_neg (fun q=>hs (by unfold isSp;exact dT_ (by omega)))];omega
     exact ih g _ _ (by rw [List.length_drop,List.length_cons];omega) (by rw [List.length_drop,List.length_cons];omega)
    ·rename_i hc
     split
     ·rw [ih g r _ (by omega) (by omega)]
     ·rename_i hp
      have h1:1≤wlen (c::r):=by
       unfold wlen;simp only [Bool.or_eq_true,decide_eq_true_eq,not_or] at hp
       rw [if_pos (by
        simp only [wordCh,Bool.and_eq_true,decide_eq_true_eq,Bool.not_eq_true']
        exact ⟨⟨by omega,by simpa using hp.1.1⟩,by simpa using hc⟩)]
       omega
      rw [ih g _ _ (by rw [List.length_drop,List.length_cons];omega) (by rw [List.length_drop,List.length_cons];omega)]
theorem drop_cons {l:Bs} {k:Nat} (h:k<l.length):l.drop k=l.getD k 0::l.drop (k+1):=by
 rw [List.drop_eq_getElem_cons h,getD_of h]
theorem clen_step {l:Bs} {k:Nat} (h:k<l.length):clen (l.drop k)=if (l.getD k 0).toNat=10 then 0 else clen (l.drop (k+1))+1:=by rw [drop_cons h];rfl
theorem wlen_cons (c:UInt8) (r:Bs):wlen (c::r)=if wordCh c&&!isCm (c::r) then wlen r+1 else 0:=rfl
theorem wlen_step {l:Bs} {k:Nat} (h:k<l.length):wlen (l.drop k)=if wordCh (l.getD k 0)&&!isCm (l.drop k) then wlen (l.drop (k+1))+1 else 0:=by
 conv=>lhs;rw [drop_cons h,wlen_cons,←drop_cons h]
section
variable {s:Bs} {n k j:Nat}
theorem tok_sp (hn:s.length=n) (hk:k<n) (h:isSp (s.getD k 0)=true):tokL (n - k+1) (s.drop k) k=tokL (n - (k+1)+1) (s.drop (k+1)) (k+1):=by
 rw [drop_cons (by omega:k<s.length)];simp only [tokL,h,if_true];rw [show n - (k+1)+1=n - k by omega]
theorem tok_cm (hn:s.length=n) (hk:k<n) (h1:isSp (s.getD k 0)=false) (h2:isCm (s.drop k)=true) (hkj:k≤j) (hj:clen (s.drop k)=j - k) :
  k<j∧tokL (n - k+1) (s.drop k) k=tokL (n - j+1) (s.drop j) j:=by
 have hd:=drop_cons (by omega:k<s.length)
 have hc:1≤clen (s.drop k):=by
  rw [hd];unfold clen;rw [if_neg (fun q=>by unfold isSp at h1;rw [decide_eq_false_iff_not] at h1;omega)];omega
 refine ⟨by omega,?_⟩;have e:(s.drop k).drop (clen (s.drop k))=s.drop j:=by rw [List.drop_drop,hj];congr 1;omega
 have e2:tokL (n - k+1) (s.drop k) k=tokL (n - k) ((s.drop k).drop (clen (s.drop k))) (k+clen (s.drop k)):=by
  rw [hd] at h2 ⊢;simp only [tokL,h1,h2,Bool.false_eq_true,if_false,if_true]
 rw [e2,e,hj,show k+(j - k)=j by omega];exact tokL_fuel _ _ _ _ (by rw [List.length_drop];omega) (by rw [List.length_drop];omega)
theorem tok_pn (hn:s.length=n) (hk:k<n) (h1:isSp (s.getD k 0)=false) (h2:isCm (s.drop k)=false) (h3:(isPn (s.getD k 0) || decide ((s.getD k 0).toNat<33) || decide (126<(s.getD k 0).toNat))=true) :
  tokL (n - k+1) (s.drop k) k=⟨[s.getD k 0],k,!isPn (s.getD k 0)⟩::tokL (n - (k+1)+1) (s.drop (k+1)) (k+1):=by
 rw [drop_cons (by omega:k<s.length)] at h2 ⊢;simp only [tokL,h1,h2,h3,Bool.false_eq_true,if_false,if_true];rw [show n - (k+1)+1=n - k by omega]
theorem tok_wd (hn:s.length=n) (hk:k<n) (h1:isSp (s.getD k 0)=false) (h2:isCm (s.drop k)=false) (h3:(isPn (s.getD k 0) || decide ((s.getD k 0).toNat<33) || decide (126<(s.getD k 0).toNat))=false) (hkj:k≤j) (hj:wlen (s.drop k)=j - k) :
  k<j∧tokL (n - k+1) (s.drop k) k=⟨(s.drop k).take (j - k),k,false⟩::tokL (n - j+1) (s.drop j) j:=by
 have hks:k<s.length:=by omega
 have hc:1≤wlen (s.drop k):=by
  rw [wlen_step hks,h2];simp only [Bool.or_eq_false_iff,decide_eq_false_iff_not] at h3
  rw [if_pos (by
   simp only [wordCh,Bool.and_eq_true,decide_eq_true_eq,Bool.not_eq_true',Bool.not_false,and_true]
   exact ⟨⟨by omega,by omega⟩,h3.1.1⟩)]
  omega
 refine ⟨by omega,?_⟩;have e:(s.drop k).drop (wlen (s.drop k))=s.drop j:=by rw [List.drop_drop,hj];congr 1;omega
 have e2:tokL (n - k+1) (s.drop k) k=⟨(s.drop k).take (wlen (s.drop k)),k,false⟩::tokL (n - k) ((s.drop k).drop (wlen (s.drop k))) (k+wlen (s.drop k)):=by
  have hd:=drop_cons hks;rw [hd] at h2 ⊢;simp only [tokL,h1,h2,h3,Bool.false_eq_true,if_false]
 rw [e2,e,hj,show k+(j - k)=j by omega]
 congr 1
 exact tokL_fuel _ _ _ _ (by rw [List.length_drop];omega) (by rw [List.length_drop];omega)
theorem tok_end (hn:s.length=n):tokL (n - n+1) (s.drop n) n=[⟨[],n,true⟩]:=by
 rw [List.drop_of_length_le (by omega)];simp only [tokL]
theorem clen_end (hn:s.length=n):clen (s.drop n)=0:=by rw [List.drop_of_length_le (by omega)];rfl
theorem wlen_end (hn:s.length=n):wlen (s.drop n)=0:=by rw [List.drop_of_length_le (by omega)];rfl
end
def TokO (w:World) (A:Option Addr) (c:Nat) (L:List Tok):Prop:=Own w 62 3 A L.length c (tcells L)
set_option maxRecDepth 100000 in
set_option maxHeartbeats 4000000 in
theorem rTokenize_c (s:ByteArray) (w:World) (hs:s.size≤100000000000) :
  Calls Tryz.prog 27 #[.string s] w fun e w'=>∃(A:Option Addr) (c:Nat),e=.returned (.slice A (toksF (kx s)).length c)∧TokO w' A c (toksF (kx s))∧(∀k,At A k→w.heap.size≤k)∧(toksF (kx s)).length≤s.size+1∧Upd Non w w':=by
 obtain ⟨n,Hn⟩:=nm s.size;have hn:=Hn.out;have hkn:(kx s).length=n:=by rw [kx_len,hn]
 rw [hn] at hs;have HKN:=h_ hkn;clear hkn;go_enter Tryz.func27,Tryz.ntmps27;go_wp2_with fail
 go_loopg [3,4] (n+1) (fun g l p wr=>∃(k:Nat) (A:Option Addr) (c:Nat) (L:List Tok),Hid (g=n+1 - k)∧k≤n∧p=.int .i64 k∧l=.slice A L.length c∧TokO wr A c L∧(∀j,At A j→w.heap.size≤j)∧Hid (L++tokL (n - k+1) ((kx s).drop k) k=toksF (kx s))∧L.length≤k∧Upd Non w wr)
 case atStart =>
  refine ⟨0,none,0,[],rfl,by omega,rfl,rfl,Own.none_,fun j h=>(At.none_ h).elim,?_,by simp,Upd.refl⟩;show _=_;rw [List.nil_append,List.drop_zero];unfold toksF;rw [HKN.out];rfl
 case round =>
  obtain ⟨k,A,c,L,Hg,hk,rfl,rfl,ho,hA,HT,hLk,hu⟩:=hrel;obtain ⟨W,rfl⟩:∃x:World,x=wr:=⟨_,rfl⟩;by_cases hlt:k<n
  ·have ti:decide ((k:Int)<(n:Int))=true:=dT_ (by omega);have hkl:k<(kx s).length:=by rw [HKN.out];exact hlt
   have i1:=fun W=>run_at_str Hn.out hlt W
   have hdr:=h_ (drop_cons hkl);obtain ⟨ch,HC⟩:=nm ((kx s).getD k 0);rw [HC.out] at i1 hdr;obtain ⟨x,Hx⟩:=nm ch.toNat;rw [Hx.out] at i1;have HSP:Hid (isSp ch=decide (x=32∨x=9∨x=10∨x=13)):=by show _=_;rw [←Hx.out];rfl
   obtain ⟨R,HR⟩:=nm (isSp ch);rw [HR.out] at HSP
   go_upto_region 10 with fail
   go_cut [56] (fun s wx=>s=.bool R∧wx=W)
   case first =>
    by_cases h1:x=32
    ·have f1:((x:Int)==32)=true:=by rw [h1];rfl
     obtain rfl:R=true:=by rw [HSP.out];exact dT_ (by omega)
     clear h1;go_wp2_with fail
     go_meet
     case rel=>exact ⟨rfl,rfl⟩
    ·have f1:((x:Int)==32)=false:=by simp;omega
     by_cases h2:x=9
     ·have f2:((x:Int)==9)=true:=by rw [h2];rfl
      obtain rfl:R=true:=by rw [HSP.out];exact dT_ (by omega)
      clear h1 h2;go_wp2_with fail
      go_meet
      case rel=>exact ⟨rfl,rfl⟩
     ·have f2:((x:Int)==9)=false:=by simp;omega
      by_cases h3:x=10
      ·have f3:((x:Int)==10)=true:=by rw [h3];rfl
       obtain rfl:R=true:=by rw [HSP.out];exact dT_ (by omega)
       clear h1 h2 h3;go_wp2_with fail
       go_meet
       case rel=>exact ⟨rfl,rfl⟩
      ·have f3:((x:Int)==10)=false:=by simp;omega
       obtain ⟨b,f4⟩:∃b,((x:Int)==13)=b:=⟨_,rfl⟩
       obtain rfl:R=b:=by
        rw [HSP.out,←f4,Bool.eq_iff_iff];simp only [beq_iff_eq,decide_eq_true_eq];omega
       clear h1 h2 h3;go_wp2_with fail
       go_meet
       case rel=>exact ⟨rfl,rfl⟩
   case rest =>
    obtain ⟨rfl,rfl⟩:=hcut
    cases R with
    | true =>
     have HT2:Hid (L++tokL (n - (k+1)+1) ((kx s).drop (k+1)) (k+1)=toksF (kx s)):=by
      show _=_;rw [←HT.out,tok_sp HKN.out hlt (by rw [HC.out];exact HR.out)]
     clear hdr HT HSP;go_wp2_with fail
     go_roundg (n+1 - (k+1))
     case measure=>rw [Hg.out];omega
     case rel=>exact ⟨k+1,A,c,L,rfl,by omega,by go_num,rfl,ho,hA,HT2,by omega,hu⟩
    | false =>
     have h1:isSp ((kx s).getD k 0)=false:=by rw [HC.out];exact HR.out
     have H1:=h_ h1;clear h1;have C1:=h_ (rIsComment_c s k wc (by omega));obtain ⟨Q,HQ⟩:=nm (isCm ((kx s).drop k));rw [HQ.out] at C1;clear HSP hdr HR;go_wp2_with fail
     refine C1.out.mono ?_;rintro e w1 ⟨rfl,rfl⟩
     cases Q with
     | true =>
      clear C1;go_wp2_with fail
      go_loopg [4] (n+1 - k) (fun g p wr=>∃j:Nat,Hid (g=n+1 - j)∧k≤j∧j≤n∧p=.int .i64 j∧Hid (clen ((kx s).drop k)=(j - k)+clen ((kx s).drop j))∧wr=w1)
      case atStart=>exact ⟨k,rfl,Nat.le_refl _,hk,rfl,by show _=_;omega,rfl⟩
      case round =>
       obtain ⟨j,Hj,hkj,hj,rfl,HL,rfl⟩:=hrel;by_cases hlj:j<n
       ·have tj:decide ((j:Int)<(n:Int))=true:=dT_ (by omega);have hjl:j<(kx s).length:=by rw [HKN.out];exact hlj
        have i2:=fun W=>run_at_str Hn.out hlj W
        have HS:=h_ (clen_step hjl);generalize ((kx s).getD j 0).toNat=y at i2 HS;by_cases hy:y=10
        ·have fy:((y:Int) != 10)=false:=by rw [hy];rfl
         have HE0:Hid (clen ((kx s).drop j)=0):=by show _=_;rw [HS.out,if_pos hy]
         clear hy HS;have HE:Hid (clen ((kx s).drop j)=0):=HE0;have hcl:clen ((kx s).drop k)=j - k:=by rw [HL.out,HE.out];rfl
         obtain ⟨hkj2,htk⟩:=tok_cm HKN.out hlt H1.out HQ.out hkj hcl;have HT2:Hid (L++tokL (n - j+1) ((kx s).drop j) j=toksF (kx s)):=by show _=_;rw [←HT.out,htk]
         clear HE HE0 hcl htk HT HL;go_wp2_with fail
         go_roundg (n+1 - j)
         case measure=>rw [Hg.out];omega
         case rel=>exact ⟨j,A,c,L,rfl,hj,rfl,rfl,ho,hA,HT2,by omega,hu⟩
        ·have fy:((y:Int) != 10)=true:=by simp;omega
         have HL2:Hid (clen ((kx s).drop k)=(j+1 - k)+clen ((kx s).drop (j+1))):=by show _=_;rw [HL.out,HS.out,if_neg hy];omega
         clear hy HS HL;go_wp2_with fail
         go_roundg (n+1 - (j+1))
         case measure=>rw [Hj.out];omega
         case rel=>exact ⟨j+1,rfl,by omega,by omega,by go_num,HL2,rfl⟩
       ·have HJN:Hid (j=n):=by show _=_;omega
        have tj:decide ((j:Int)<(n:Int))=false:=dF_ (by omega);have HE0:Hid (clen ((kx s).drop j)=0):=by rw [HJN.out];exact clen_end HKN.out
        have HE:Hid (clen ((kx s).drop j)=0):=HE0;have hcl:clen ((kx s).drop k)=j - k:=by rw [HL.out,HE.out];rfl
        obtain ⟨hkj2,htk⟩:=tok_cm HKN.out hlt H1.out HQ.out hkj hcl;have HT2:Hid (L++tokL (n - j+1) ((kx s).drop j) j=toksF (kx s)):=by show _=_;rw [←HT.out,htk]
        clear HE HE0 hcl htk HT HL;go_wp2_with fail
        go_roundg (n+1 - j)
        case measure=>rw [Hg.out];omega
        case rel=>exact ⟨j,A,c,L,rfl,hj,rfl,rfl,ho,hA,HT2,by omega,hu⟩
     | false =>
      clear C1;obtain ⟨B,HB⟩:=nm (isPn ch || decide (x<33) || decide (126<x));have CP:=h_ (fun W=>rIsPunct_c ch W);obtain ⟨pn,Hpn⟩:=nm (isPn ch);rw [Hpn.out] at HB CP;rw [Hx.out] at CP;have h3:(isPn ((kx s).getD k 0) || decide (((kx s).getD k 0).toNat<33) || decide (126<((kx s).getD k 0).toNat))=B:=by rw [HC.out,Hx.out,Hpn.out];exact HB.out
      have H3:=h_ h3;clear h3
      go_upto_region 15 with fail
      go_cut [89] (fun s wx=>s=.bool B∧wx=w1)
      case first =>
       have CP1:=h_ (CP.out w1);clear CP
       cases pn with
       | true =>
        obtain rfl:B=true:=by rw [←HB.out];rfl
        go_wp2_with fail
        refine CP1.out.mono ?_;rintro e w2 ⟨rfl,rfl⟩;go_wp2_with fail
        go_meet
        case rel=>exact ⟨rfl,rfl⟩
       | false =>
        by_cases hx1:x<33
        ·have fx:decide ((x:Int)<33)=true:=dT_ (by omega);obtain rfl:B=true:=by rw [←HB.out];simp [hx1]
         go_wp2_with fail
         refine CP1.out.mono ?_;rintro e w2 ⟨rfl,rfl⟩;go_wp2_with fail
         go_meet
         case rel=>exact ⟨rfl,rfl⟩
        ·have fx:decide ((x:Int)<33)=false:=dF_ (by omega);obtain ⟨z,fz⟩:∃z,decide ((126:Int)<(x:Int))=z:=⟨_,rfl⟩
         obtain rfl:B=z:=by
          rw [←HB.out,←fz];simp only [hx1,decide_false,Bool.or_false,Bool.false_or];rw [Bool.eq_iff_iff,decide_eq_true_eq,decide_eq_true_eq];omega
         clear hx1;go_wp2_with fail
         refine CP1.out.mono ?_;rintro e w2 ⟨rfl,rfl⟩;go_wp2_with fail
         go_meet
         case rel=>exact ⟨rfl,rfl⟩
      case rest =>
       obtain ⟨rfl,hwc⟩:=hcut;subst hwc;obtain ⟨m,Hm⟩:=nm L.length;have ho1:Own wc 62 3 A m c (tcells L):=by rw [←Hm.out];exact ho
       have hwA:w.heap.size≤wc.heap.size:=hu.size;rw [Hm.out] at hLk ⊢;have HT:=HT;have hu:=hu;clear ho
       cases B with
       | true =>
        have hsl:=fun W=>run_sub_str Hn.out (show k≤k+1 by omega) (show k+1≤n by omega) W
        rw [show ((k+1:Nat):Int)=(k:Int)+1 by omega,show ((kx s).drop k).take (k+1 - k)=[ch] by rw [drop_cons hkl,HC.out,show k+1 - k=1 by omega];rfl] at hsl
        have HT2:Hid ((L++[(⟨[ch],k,!pn⟩:Tok)])++tokL (n - (k+1)+1) ((kx s).drop (k+1)) (k+1)=toksF (kx s)):=by
         show _=_;rw [←HT.out,tok_pn HKN.out hlt H1.out HQ.out H3.out,HC.out,Hpn.out,List.append_assoc];rfl
        have hw1:IntKind.i64.wrap ((k:Int)+1)=(k:Int)+1:=i64w_of (by unfold I64;omega)
        go_upto_region 16 with fail
        obtain ⟨wD,HwD⟩:=nm wc.drew;have uD:Upd Non wc wD:=by rw [←HwD.out];exact Upd.refl.drew
        have hoD:=ho1.upd uD (fun _ _ f=>f);have hsD:=uD.size;refine wp_region_held_drew (S:=fun _=>True) (by kernel_rfl) trivial (fun hHeld=>?_);rw [HwD.out];refine wpT 0 ?_;(try simp only [y_,z_]);refine wpT 1 ?_;(try simp only [y_,z_]);refine wpT 2 ?_;(try simp only [y_,z_]);refine wpT 3 ?_;(try simp only [y_,z_]);refine wpT 4 ?_;(try simp only [y_,z_]);refine wpT 5 ?_;(try simp only [y_,z_]);refine wpT 6 ?_;(try simp only [y_,z_]);refine wpT 7 ?_;(try simp only [y_,z_]);refine wpAnyH_takeC (i:=8) (v:=?v1) rfl (by kernel_rfl) (by kernel_rfl) (by kernel_rfl) (fun _ _ _ h=>h) ⟨by rfl,?f1,?a1,?r1,?c1⟩ (by assumption) ?m1
        case r1=>intro w;go_simp;constructor <;> with_reducible rfl
        case c1=>intro W hSw;refine (CP.out W).mono ?_;rintro e w' ⟨rfl,rfl⟩;constructor <;> with_reducible rfl
        (try simp only [y_,z_]);refine wpT 9 ?_;(try simp only [y_,z_]);refine wpT 10 ?_;(try simp only [y_,z_]);refine aR_ (rs:=[11]) (by kernel_rfl) (by simp) ?_;refine aC_ rfl (fun K hK=>?_) aN_;go_simp;refine hK.out _ _ ?_ (fun hHeld=>?_)
        ·exact trivial
        clear hK K;(try simp only [y_,z_]);refine aR_ (rs:=[12]) (by kernel_rfl) (by simp) ?_;refine aC_ rfl (fun K hK=>?_) aN_;refine step_app rfl rfl T_toks rfl (hoD.alloc _) rfl (Sl.new _ _ _) rfl (by simp [Value.oneCell']) (by simp only [maxLen];omega) (by omega) ?_;intro A8 c8 w8 ho8 hu8 hat8;refine hK.out _ _ ?_ (fun hHeld=>?_)
        ·exact trivial
        clear hK K;(try simp only [y_,z_]);refine wpT 13 ?_;(try simp only [y_,z_]);refine aD_ (by kernel_rfl) ?_ _;clear hHeld CP hsl i1
        have e8:Own w8 62 3 A8 (L++[(⟨[ch],k,!pn⟩:Tok)]).length c8 (tcells (L++[(⟨[ch],k,!pn⟩:Tok)])):=by
         rw [tcells_snoc,List.length_append,Hm.out];exact ho8
        have hU8:Upd Non w w8:=(hu.then_non (uD.alloc _)).trans hu8 (fun i hi h=>by have:=hA i h;omega);have HO8:=h_ e8
        have HA8:Hid (∀j,At A8 j→w.heap.size≤j):=fun j h=>by
         rcases hat8 j h with h | h
         ·exact hA j h
         ·rw [h];simp;omega
        clear ho8 e8 hu8 hat8 ho1 hoD;go_wp2_with fail
        go_roundg (n+1 - (k+1))
        case measure=>rw [Hg.out];omega
        case rel=>exact ⟨k+1,A8,c8,L++[(⟨[ch],k,!pn⟩:Tok)],rfl,by omega,by go_num,by rw [List.length_append,Hm.out];rfl,HO8.out,HA8.out,HT2,by rw [List.length_append,Hm.out,List.length_singleton];omega,hU8⟩
       | false =>
        clear CP i1 hwA;go_wp2_with fail
        go_loopg [6] (n+1 - k) (fun g p wr=>∃j:Nat,Hid (g=n+1 - j)∧k≤j∧j≤n∧p=.int .i64 j∧Hid (wlen ((kx s).drop k)=(j - k)+wlen ((kx s).drop j))∧wr=wc)
        case atStart=>exact ⟨k,rfl,Nat.le_refl _,hk,rfl,by show _=_;omega,rfl⟩
        case round =>
         obtain ⟨j,Hj,hkj,hj,rfl,HL,hwr⟩:=hrel;subst hwr;obtain ⟨D,HD⟩:=nm (decide (j<n)&&(wordCh ((kx s).getD j 0)&&!isCm ((kx s).drop j)))
         go_upto_region 6 with fail
         go_cut [43] (fun s wx=>s=.bool D∧wx=wr)
         case first =>
          clear ho1 hA HT H1 H3 HQ hu HC Hx;by_cases hlj:j<n
          ·have tj:decide ((j:Int)<(n:Int))=true:=dT_ (by omega);have i2:=fun W=>run_at_str Hn.out hlj W
           have C2:=h_ (rIsComment_c s j wr (by omega));obtain ⟨q,Hq⟩:=nm (isCm ((kx s).drop j));rw [Hq.out] at C2 HD;generalize (kx s).getD j 0=cj at i2 HD;have CP2:=h_ (rIsPunct_c cj wr);have HW:Hid (wordCh cj=(decide (33≤cj.toNat∧cj.toNat≤126)&&!isPn cj)):=rfl;obtain ⟨pj,Hpj⟩:=nm (isPn cj);rw [Hpj.out] at CP2 HW;rw [HW.out] at HD;clear HW Hpj;generalize cj.toNat=y at i2 HD CP2;by_cases hy1:33≤y
           ·have fy1:decide ((33:Int)≤(y:Int))=true:=dT_ (by omega);by_cases hy2:y≤126
            ·have fy2:decide ((y:Int)≤126)=true:=dT_ (by omega);obtain rfl:D=(!pj&&!q):=by rw [←HD.out];simp [hlj,hy1,hy2]
             clear HD
             cases pj with
             | true =>
              go_wp2_with fail
              refine CP2.out.mono ?_;rintro e w3 ⟨rfl,rfl⟩;go_wp2_with fail
              go_meet
              case rel=>exact ⟨rfl,rfl⟩
             | false =>
              cases q with
              | true =>
               go_wp2_with fail
               refine CP2.out.mono ?_;rintro e w3 ⟨rfl,rfl⟩;go_wp2_with fail
               refine C2.out.mono ?_;rintro e w4 ⟨rfl,rfl⟩;go_wp2_with fail
               go_meet
               case rel=>exact ⟨rfl,rfl⟩
              | false =>
               go_wp2_with fail
               refine CP2.out.mono ?_;rintro e w3 ⟨rfl,rfl⟩;go_wp2_with fail
               refine C2.out.mono ?_;rintro e w4 ⟨rfl,rfl⟩;go_wp2_with fail
               go_meet
               case rel=>exact ⟨rfl,rfl⟩
            ·have fy2:decide ((y:Int)≤126)=false:=dF_ (by omega);obtain rfl:D=false:=by rw [←HD.out];simp [hy2]
             clear HD;go_wp2_with fail
             go_meet
             case rel=>exact ⟨rfl,rfl⟩
           ·have fy1:decide ((33:Int)≤(y:Int))=false:=dF_ (by omega);obtain rfl:D=false:=by rw [←HD.out];simp [hy1]
            clear HD;go_wp2_with fail
            go_meet
            case rel=>exact ⟨rfl,rfl⟩
          ·have tj:decide ((j:Int)<(n:Int))=false:=dF_ (by omega);obtain rfl:D=false:=by rw [←HD.out];simp [hlj]
           clear HD;go_wp2_with fail
           go_meet
           case rel=>exact ⟨rfl,rfl⟩
         case rest =>
          obtain ⟨rfl,hwc⟩:=hcut;subst hwc
          cases D with
          | true =>
           have hd:=HD.out;simp only [Bool.and_eq_true,decide_eq_true_eq] at hd
           have HL2:Hid (wlen ((kx s).drop k)=(j+1 - k)+wlen ((kx s).drop (j+1))):=by
            show _=_;rw [HL.out,wlen_step (by rw [HKN.out];exact hd.1),if_pos (by simpa using hd.2)];omega
           have hj2:=hd.1;clear hd HD HL;go_wp2_with fail
           go_roundg (n+1 - (j+1))
           case measure=>rw [Hj.out];omega
           case rel=>exact ⟨j+1,rfl,by omega,by omega,by go_num,HL2,rfl⟩
          | false =>
           have hcl:wlen ((kx s).drop k)=j - k:=by
            rw [HL.out];by_cases hjn:j<n
            ·have hd:=HD.out;rw [dT_ hjn,Bool.true_and] at hd;rw [wlen_step (by rw [HKN.out];exact hjn),hd];simp
            ·rw [show j=n by omega,wlen_end HKN.out];rfl
           obtain ⟨hkj2,htk⟩:=tok_wd HKN.out hlt H1.out HQ.out H3.out hkj hcl;have hsl:=fun W=>run_sub_str Hn.out hkj hj W
           obtain ⟨wd,Hwd⟩:=nm (((kx s).drop k).take (j - k));rw [Hwd.out] at hsl htk
           have HT2:Hid ((L++[(⟨wd,k,false⟩:Tok)])++tokL (n - j+1) ((kx s).drop j) j=toksF (kx s)):=by
            show _=_;rw [←HT.out,htk,List.append_assoc];rfl
           have hwA:w.heap.size≤wc.heap.size:=hu.size;clear HD hcl htk HL
           go_wp2_with (at_builtin;refine wpList_app rfl rfl T_toks rfl (ho1.alloc _) rfl (Sl.new _ _ _) rfl (by simp [Value.oneCell']) (by simp only [maxLen];omega) (by omega) ?_;intro A8 c8 w8 ho8 hu8 hat8)
           have e8:Own w8 62 3 A8 (L++[(⟨wd,k,false⟩:Tok)]).length c8 (tcells (L++[(⟨wd,k,false⟩:Tok)])):=by
            rw [tcells_snoc,List.length_append,Hm.out];exact ho8
           have hU8:Upd Non w w8:=(hu.alloc _).trans hu8 (fun i hi h=>by have:=hA i h;omega);have HO8:=h_ e8
           have HA8:Hid (∀j,At A8 j→w.heap.size≤j):=fun j h=>by
            rcases hat8 j h with h | h
            ·exact hA j h
            ·rw [h];simp;omega
           clear ho8 e8 hu8 hat8 ho1;go_wp2_with fail
           go_roundg (n+1 - j)
           case measure=>rw [Hg.out];omega
           case rel=>exact ⟨j,A8,c8,L++[(⟨wd,k,false⟩:Tok)],rfl,hj,rfl,by rw [List.length_append,Hm.out];rfl,HO8.out,HA8.out,HT2,by rw [List.length_append,Hm.out,List.length_singleton];omega,hU8⟩
  ·obtain rfl:n=k:=by omega
   have hte:L++[(⟨[],n,true⟩:Tok)]=toksF (kx s):=by rw [←HT.out,tok_end HKN.out]
   have HTE:=h_ hte;obtain ⟨m,Hm⟩:=nm L.length;have ho1:Own W 62 3 A m c (tcells L):=by rw [←Hm.out];exact ho
   have HLM:Hid ((toksF (kx s)).length=m+1):=by show _=_;rw [←HTE.out,List.length_append,Hm.out];rfl
   have hwA:w.heap.size≤W.heap.size:=hu.size;rw [Hm.out] at hLk ⊢;clear ho HT hte
   go_wp2_with (at_builtin;refine wpList_app rfl rfl T_toks rfl (ho1.alloc _) rfl (Sl.new _ _ _) rfl (by simp [Value.oneCell']) (by simp only [maxLen];omega) (by omega) ?_;intro A8 c8 w8 ho8 hu8 hat8)
   go_ret;have hl8:=HLM.out;refine ⟨A8,c8,by rw [hl8];rfl,?_,fun j h=>?_,by omega,(hu.alloc _).trans hu8 (fun i hi h=>by have:=hA i h;omega)⟩
   ·unfold TokO;rw [HLM.out,←HTE.out,tcells_snoc];exact ho8
   ·rcases hat8 j h with h | h
    ·exact hA j h
    ·rw [h];simp;omega
def TokV (w:World) (F:Nat→Prop) (A:Option Addr) (L:List Tok):Prop :=
 L=[]∨∃b o,A=some ⟨b,o,none⟩∧F b∧∀i (h:i<L.length),w.cell? ⟨b,o+i * 3,none⟩=some (.string (kstr L[i].s))∧w.cell? ⟨b,o+i * 3+1,none⟩=some (.int .i64 L[i].pos)∧w.cell? ⟨b,o+i * 3+2,none⟩=some (.bool L[i].bad)
section
variable {w w':World} {F G S:Nat→Prop} {A:Option Addr} {L:List Tok}
theorem TokV.upd (h:TokV w F A L) (u:Upd S w w') (d:∀k,k<w.heap.size→F k→¬S k):TokV w' F A L:=by
 rcases h with h | ⟨b,o,e,hF,h⟩
 ·exact .inl h
 ·refine .inr ⟨b,o,e,hF,fun i hi=>?_⟩;obtain ⟨c0,c1,c2⟩:=h i hi;have hb:=d b (World.block_lt_of_cell? _ _ c0) hF;exact ⟨u_ c0 u hb,u_ c1 u hb,u_ c2 u hb⟩
theorem TokV.at_ (h:TokV w F A L) {i:Nat} (hi:i<L.length):∃b o,A=some ⟨b,o,none⟩∧F b∧b<w.heap.size∧w.cell? ⟨b,o+i * 3,none⟩=some (.string (kstr L[i].s))∧w.cell? ⟨b,o+i * 3+1,none⟩=some (.int .i64 L[i].pos)∧w.cell? ⟨b,o+i * 3+2,none⟩=some (.bool L[i].bad):=by
 rcases h with h | ⟨b,o,e,hF,h⟩
 ·subst h;simp at hi
 ·exact ⟨b,o,e,hF,World.block_lt_of_cell? _ _ (h i hi).1,h i hi⟩
theorem TokV.mono (h:TokV w F A L) (hFG:∀k,k<w.heap.size→F k→G k):TokV w G A L:=by
 rcases h with h | ⟨b,o,e,hF,h⟩
 ·exact .inl h
 ·by_cases hn:L=[]
  ·exact .inl hn
  ·exact .inr ⟨b,o,e,hFG b (World.block_lt_of_cell? _ _ (h 0 (List.length_pos_iff.2 hn)).1) hF,h⟩
end
theorem tcells_get:∀(L:List Tok) (i:Nat) (h:i<L.length),(tcells L)[i * 3]?=some (.string (kstr L[i].s))∧(tcells L)[i * 3+1]?=some (.int .i64 L[i].pos)∧(tcells L)[i * 3+2]?=some (.bool L[i].bad)
 | t::L,0,_=>⟨rfl,rfl,rfl⟩
 | t::L,i+1,h=>by
  have:=tcells_get L i (by simpa using h);rw [show (i+1) * 3=i * 3+1+1+1 by omega];exact this
theorem TokO.view {w:World} {A:Option Addr} {c:Nat} {L:List Tok} (h:TokO w A c L):TokV w (At A) A L:=by
 rcases Own.cases h with ⟨_,h0,_,_⟩ | ⟨g,cur,rfl,hb,_,_,_,ht⟩
 ·exact .inl (List.eq_nil_of_length_eq_zero h0)
 ·refine .inr ⟨g,0,rfl,At.some_.2 rfl,fun i hi=>?_⟩
  have hcell:∀j u,(tcells L)[j]?=some u→w.cell? ⟨g,j,none⟩=some u:=by
   intro j u hj;rw [hb.cell];rw [←ht,List.getElem?_take] at hj
   split at hj
   ·simpa using hj
   ·cases hj
  obtain ⟨c0,c1,c2⟩:=tcells_get L i hi;rw [Nat.zero_add];exact ⟨hcell _ _ c0,hcell _ _ c1,hcell _ _ c2⟩
structure St where
 i:Nat
 why:Int
 ea:Int
 va:Option Addr
 vc:Nat
 vs:Bs
 ma:Option Addr
 mc:Nat
 ms:Bs
 left:Bool
def St.own (x:St) (p k:Nat):Prop:=k=p∨At x.va k∨At x.ma k
def rcells (A:Option Addr) (n c:Nat) (x:St):Array Value:=#[.slice A n c,.int .i64 x.i,.int .i64 x.why,.int .i64 x.ea,.slice x.va x.vs.length x.vc,.slice x.ma x.ms.length x.mc,.bool x.left]
structure RdS (w:World) (p:Nat) (A:Option Addr) (c:Nat) (L:List Tok) (x:St):Prop where
 blk:Blk w p 59 (rcells A L.length c x)
 tok:TokV w (fun k=>k<p) A L
 le:L.length≤c
 v:Own w 5 1 x.va x.vs.length x.vc (u8s x.vs)
 m:Own w 5 1 x.ma x.ms.length x.mc (u8s x.ms)
 vm:∀k,At x.va k→¬At x.ma k
 vlt:∀k,At x.va k→p<k
 mlt:∀k,At x.ma k→p<k
section
variable {w w':World} {p:Nat} {A:Option Addr} {c:Nat} {L:List Tok} {x:St} {S:Nat→Prop}
theorem RdS.lt (h:RdS w p A c L x) {k:Nat} (hk:x.own p k):k<w.heap.size:=by
 rcases hk with rfl | hk | hk
 ·exact h.blk.lt
 ·exact h.v.lt hk
 ·exact h.m.lt hk
theorem RdS.upd (h:RdS w p A c L x) (u:Upd S w w') (d:∀k,k<w.heap.size→S k→p<k∧¬At x.va k∧¬At x.ma k):RdS w' p A c L x :=
 ⟨h.blk.upd u (fun s=>Nat.lt_irrefl _ (d p h.blk.lt s).1),h.tok.upd u (fun k hk hp s=>Nat.lt_irrefl _ (Nat.lt_trans hp (d k hk s).1)),h.le,h.v.upd u (fun k hk s=>(d k (h.v.lt hk) s).2.1 hk),h.m.upd u (fun k hk s=>(d k (h.m.lt hk) s).2.2 hk),h.vm,h.vlt,h.mlt⟩
theorem RdS.non (h:RdS w p A c L x) (u:Upd Non w w'):RdS w' p A c L x:=h.upd u (fun _ _ f=>f.elim)
theorem RdS.vp (h:RdS w p A c L x):¬At x.va p:=h.v.ne_blk h.blk (by decide)
theorem RdS.mp (h:RdS w p A c L x):¬At x.ma p:=h.m.ne_blk h.blk (by decide)
theorem RdS.set (h:RdS w p A c L x) {y:St} (u:Upd (·=p) w w') (b:Blk w' p 59 (rcells A L.length c y)) (e1:y.va=x.va) (e2:y.vc=x.vc) (e3:y.vs=x.vs) (e4:y.ma=x.ma) (e5:y.mc=x.mc) (e6:y.ms=x.ms):RdS w' p A c L y:=by
 refine ⟨b,h.tok.upd u (fun k _ hk e=>by omega),h.le,?_,?_,?_,?_,?_⟩
 ·rw [e1,e2,e3];exact h.v.upd u (fun k hk e=>h.vp (e ▸ hk))
 ·rw [e4,e5,e6];exact h.m.upd u (fun k hk e=>h.mp (e ▸ hk))
 ·rw [e1,e4];exact h.vm
 ·rw [e1];exact h.vlt
 ·rw [e4];exact h.mlt
theorem RdS.cells (h:RdS w p A c L x):w.cell? ⟨p,0,none⟩=some (.slice A L.length c)∧w.cell? ⟨p,1,none⟩=some (.int .i64 x.i)∧w.cell? ⟨p,2,none⟩=some (.int .i64 x.why)∧w.cell? ⟨p,3,none⟩=some (.int .i64 x.ea)∧w.cell? ⟨p,4,none⟩=some (.slice x.va x.vs.length x.vc)∧w.cell? ⟨p,5,none⟩=some (.slice x.ma x.ms.length x.mc)∧w.cell? ⟨p,6,none⟩=some (.bool x.left) :=
 ⟨h.blk.cell 0,h.blk.cell 1,h.blk.cell 2,h.blk.cell 3,h.blk.cell 4,h.blk.cell 5,h.blk.cell 6⟩
end
end Go.Proofs.YtblkgjdhaibhgaaGreat
namespace Go.Proofs.YtblkgjdhaibhgaaGreat
open Go.RowKit
theorem rOk_c {w:World} {p:Nat} {A:Option Addr} {c:Nat} {L:List Tok} {x:St} (h:RdS w p A c L x) :
  Calls Tryz.prog 28 #[.pointer (some ⟨p,0,none⟩)] w fun e w'=>e=.returned (.bool (x.why==0))∧w'=w:=by
 obtain ⟨c0,c1,c2,c3,c4,c5,c6⟩:=h.cells;obtain ⟨n,Hn⟩:=nm x.why;rw [Hn.out] at c2 ⊢;clear h;go_enter Tryz.func28,Tryz.ntmps28;go_wp2_with fail
 go_ret;exact ⟨rfl,rfl⟩
def St.fail (x:St) (why ea:Int):St:=if x.why=0 then { x with why:=why,ea:=ea } else x
theorem rFail_c {w:World} {p:Nat} {A:Option Addr} {c:Nat} {L:List Tok} {x:St} (h:RdS w p A c L x) (why ea:Int) :
  Calls Tryz.prog 30 #[.pointer (some ⟨p,0,none⟩),.int .i64 why,.int .i64 ea] w fun e w'=>e=.returned (.tuple #[])∧RdS w' p A c L (x.fail why ea)∧Upd (·=p) w w':=by
 obtain ⟨c0,c1,c2,c3,c4,c5,c6⟩:=h.cells;have hf:=h.blk.frozen;have H:=h_ h;obtain ⟨n,Hn⟩:=nm x.why;rw [Hn.out] at c2;clear h;by_cases hz:n=0
 ·have e:x.fail why ea={ x with why:=why,ea:=ea }:=if_pos (by rw [Hn.out];exact hz);subst hz;go_enter Tryz.func30,Tryz.ntmps30;go_wp2_with fail
  go_end0
  refine ⟨rfl,?_,(updCell _ _ _ _).trans (updCell _ _ _ _) (fun _ _ h=>h)⟩;rw [e];refine H.out.set ((updCell _ _ _ _).trans (updCell _ _ _ _) (fun _ _ h=>h)) ?_ rfl rfl rfl rfl rfl rfl;have:=(H.out.blk.set_ 2 (.int .i64 why)).set_ 3 (.int .i64 ea);simpa [rcells] using this
 ·have e:x.fail why ea=x:=if_neg (by rw [Hn.out];exact hz);have fz:(n==0)=false:=by simpa using hz
  go_enter Tryz.func30,Tryz.ntmps30;go_wp2_with fail
  go_end0
  exact ⟨rfl,by rw [e];exact H.out,Upd.refl⟩
def posT (L:List Tok) (i:Nat):Nat:=match L[i]? with | some t=>t.pos | none=>0
theorem posT_eq {L:List Tok} {i:Nat} (h:i<L.length):posT L i=L[i].pos:=by unfold posT;rw [List.getElem?_eq_getElem h]
theorem rSyntaxError_c {w:World} {p:Nat} {A:Option Addr} {c:Nat} {L:List Tok} {x:St} (h:RdS w p A c L x) (hi:x.i<L.length) :
  Calls Tryz.prog 93 #[.pointer (some ⟨p,0,none⟩)] w fun e w'=>e=.returned (.tuple #[])∧RdS w' p A c L (x.fail 2 (posT L x.i))∧Upd (·=p) w w':=by
 rw [posT_eq hi];obtain ⟨c0,c1,c2,c3,c4,c5,c6⟩:=h.cells;obtain ⟨b,o,rfl,hF,hb,t0,t1,t2⟩:=h.tok.at_ hi;have H:=h_ h;have hpn:=h.blk.lt;obtain ⟨n,Hn⟩:=nm L.length;have hle:=h.le;rw [Hn.out] at c0 hi hle;obtain ⟨i,Hi⟩:=nm x.i;rw [Hi.out] at c1 hi;have t1':w.cell? ⟨b,o+i * 3+1,none⟩=some (.int .i64 L[x.i].pos):=by rw [←Hi.out];exact t1
 generalize L[x.i].pos=z at *;clear h t0 t1 t2 c2 c3 c4 c5 c6;go_enter Tryz.func93,Tryz.ntmps93;go_wp2_with fail
 obtain ⟨wD,HwD⟩:=nm w.drew;have uD:Upd Non w wD:=by rw [←HwD.out];exact Upd.refl.drew
 have C:=h_ (rFail_c (H.out.non uD) 2 z);refine wp_region_held_drew (S:=fun w'=>w'.cell? ⟨p,0,none⟩=some (.slice (some ⟨b,o,none⟩) n c)∧w'.cell? ⟨p,1,none⟩=some (.int .i64 i)∧w'.cell? ⟨b,o+i * 3+1,none⟩=some (.int .i64 z)) (by kernel_rfl) (by rw [HwD.out];exact ⟨u_ c0 uD (fun f=>f),u_ c1 uD (fun f=>f),u_ t1' uD (fun f=>f)⟩) (fun hHeld=>?_)
 rw [HwD.out] at hHeld ⊢;refine wpT 0 ?_;(try simp only [y_,z_]);refine wpT 1 ?_;(try simp only [y_,z_]);refine wpT 2 ?_;(try simp only [y_,z_]);refine wpT 3 ?_;(try simp only [y_,z_]);refine wpT 4 ?_;(try simp only [y_,z_]);refine wpT 5 ?_;(try simp only [y_,z_]);refine wpT 6 ?_;(try simp only [y_,z_]);refine wpT 7 ?_;(try simp only [y_,z_]);refine wpT 8 ?_;(try simp only [y_,z_]);refine wpT 9 ?_;(try simp only [y_,z_]);refine wpT 10 ?_;(try simp only [y_,z_]);refine wpT 11 ?_;(try simp only [y_,z_]);refine aR_ (rs:=[12]) (by kernel_rfl) (by simp) ?_;refine aC_ rfl (fun K hK=>?_) aN_;go_simp;refine C.out.mono ?_;rintro e w2 ⟨rfl,hr,hu⟩;go_wp2_with fail
 have hb2:b≠p:=by omega
 have d:=hr.cells;have e1:(x.fail 2 z).i=i:=by rw [←Hi.out];unfold St.fail;split <;> rfl
 refine hK.out _ _ ?_ (fun hHeld=>?_)
 ·exact ⟨by rw [←Hn.out];exact d.1,by rw [←e1];exact d.2.1,u_ (u_ t1' uD (fun f=>f)) hu hb2⟩
 clear hK K;(try simp only [y_,z_]);refine aD_ (by kernel_rfl) ?_ _;go_wp2_with fail
 go_end0
 exact ⟨rfl,hr,(uD.mono (T:=(·=p)) (fun _ _ f=>f.elim)).trans hu (fun _ _ h=>h)⟩
def isT (L:List Tok) (i:Nat) (s:Bs):Bool:=match L[i]? with | some t=>!t.bad&&decide (t.s=s) | none=>false
theorem isT_eq {L:List Tok} {i:Nat} (h:i<L.length) (s:Bs):isT L i s=(!L[i].bad&&decide (L[i].s=s)):=by unfold isT;rw [List.getElem?_eq_getElem h]
theorem rIs_c {w:World} {p:Nat} {A:Option Addr} {c:Nat} {L:List Tok} {x:St} (h:RdS w p A c L x) (hi:x.i<L.length) (s:Bs) :
  Calls Tryz.prog 61 #[.pointer (some ⟨p,0,none⟩),.string (kstr s)] w fun e w'=>e=.returned (.bool (x.why==0&&isT L x.i s))∧Upd Non w w':=by
 rw [isT_eq hi];obtain ⟨c0,c1,c2,c3,c4,c5,c6⟩:=h.cells;obtain ⟨b,o,rfl,hF,hb,t0,t1,t2⟩:=h.tok.at_ hi;have H:=h_ h;have hle:=h.le;obtain ⟨n,Hn⟩:=nm L.length;rw [Hn.out] at c0 hi hle;obtain ⟨i,Hi⟩:=nm x.i;rw [Hi.out] at c1 hi;have t0':w.cell? ⟨b,o+i * 3,none⟩=some (.string (kstr L[x.i].s)):=by rw [←Hi.out];exact t0
 have t2':w.cell? ⟨b,o+i * 3+2,none⟩=some (.bool L[x.i].bad):=by rw [←Hi.out];exact t2
 generalize L[x.i]=t at *;obtain ⟨R,HR⟩:=nm (x.why==0&&(!t.bad&&decide (t.s=s)));rw [HR.out];obtain ⟨z,Hz⟩:=nm (x.why==0);obtain ⟨bd,Hbd⟩:=nm t.bad;rw [Hbd.out] at t2' HR;rw [Hz.out] at HR;obtain ⟨D,HD⟩:=nm (decide (t.s=s));have hD:((kstr t.s).toList==(kstr s).toList)=D:=by rw [str_beq,HD.out]
 rw [HD.out] at HR;obtain ⟨q,Hq⟩:=nm (kstr t.s);rw [Hq.out] at t0' hD
 have CO:Hid (∀w',Upd Non w w'→Calls Tryz.prog 28 #[.pointer (some ⟨p,0,none⟩)] w' fun e w2=>e=.returned (.bool z)∧w2=w'):=fun w' u=>by
  rw [←Hz.out];exact rOk_c (H.out.non u)
 clear h t0 t1 t2 c2 c3 c4 c5 c6;go_enter Tryz.func61,Tryz.ntmps61;go_wp2_with fail
 obtain ⟨wD,HwD⟩:=nm w.drew;have uD:Upd Non w wD:=by rw [←HwD.out];exact Upd.refl.drew
 refine wp_region_held_drew (S:=fun w'=>Upd Non w w'∧w'.cell? ⟨p,0,none⟩=some (.slice (some ⟨b,o,none⟩) n c)∧w'.cell? ⟨p,1,none⟩=some (.int .i64 i)∧w'.cell? ⟨b,o+i * 3,none⟩=some (.string q)∧w'.cell? ⟨b,o+i * 3+2,none⟩=some (.bool bd)) (by kernel_rfl) (by rw [HwD.out];exact ⟨uD,u_ c0 uD (fun f=>f),u_ c1 uD (fun f=>f),u_ t0' uD (fun f=>f),u_ t2' uD (fun f=>f)⟩) (fun hHeld=>?_)
 rw [HwD.out] at hHeld ⊢;refine wpT 0 ?_;(try simp only [y_,z_]);refine wpAnyH_takeC (i:=1) (v:=?v1) rfl (by kernel_rfl) (by kernel_rfl) (by kernel_rfl) (fun _ _ _ h=>h) ⟨by rfl,?f1,?a1,?r1,?c1⟩ (by assumption) ?m1
 case r1=>intro w;go_simp;constructor <;> with_reducible rfl
 case c1=>intro W hSw;refine (CO.out _ hSw.1).mono ?_;rintro e w' ⟨rfl,rfl⟩;constructor <;> with_reducible rfl
 (try simp only [y_,z_])
 cases z with
 | false =>
  obtain rfl:R=false:=by rw [←HR.out];rfl
  refine wpT 2 ?_;(try simp only [y_,z_]);refine wpU 3 ?_;(try simp only [y_,z_]);refine wpU 4 ?_;(try simp only [y_,z_]);refine wpU 5 ?_;(try simp only [y_,z_]);refine wpU 6 ?_;(try simp only [y_,z_]);refine wpU 7 ?_;(try simp only [y_,z_]);refine wpU 8 ?_;(try simp only [y_,z_]);refine wpU 9 ?_;(try simp only [y_,z_]);refine wpU 10 ?_;(try simp only [y_,z_]);refine wpU 11 ?_;(try simp only [y_,z_]);refine wpU 12 ?_;(try simp only [y_,z_]);refine wpU 13 ?_;(try simp only [y_,z_]);refine wpU 14 ?_;(try simp only [y_,z_]);refine wpT 15 ?_;(try simp only [y_,z_]);refine wpT 16 ?_;(try simp only [y_,z_]);refine wpU 17 ?_;(try simp only [y_,z_]);refine wpU 18 ?_;(try simp only [y_,z_]);refine wpU 19 ?_;(try simp only [y_,z_]);refine wpU 20 ?_;(try simp only [y_,z_]);refine wpU 21 ?_;(try simp only [y_,z_]);refine wpU 22 ?_;(try simp only [y_,z_]);refine wpU 23 ?_;(try simp only [y_,z_]);refine wpU 24 ?_;(try simp only [y_,z_]);refine wpU 25 ?_;(try simp only [y_,z_]);refine wpU 26 ?_;(try simp only [y_,z_])
  refine wpU 27 ?_;(try simp only [y_,z_]);refine wpU 28 ?_;(try simp only [y_,z_]);refine wpU 29 ?_;(try simp only [y_,z_]);refine wpT 30 ?_;(try simp only [y_,z_]);refine wpT 31 ?_;(try simp only [y_,z_]);refine aD_ (by kernel_rfl) ?_ _;go_wp2_with fail
  go_ret;exact ⟨rfl,uD⟩
 | true =>
  cases bd with
  | true =>
   obtain rfl:R=false:=by rw [←HR.out];rfl
   refine wpT 2 ?_;(try simp only [y_,z_]);refine wpT 3 ?_;(try simp only [y_,z_]);refine wpT 4 ?_;(try simp only [y_,z_]);refine wpT 5 ?_;(try simp only [y_,z_]);refine wpT 6 ?_;(try simp only [y_,z_]);refine wpT 7 ?_;(try simp only [y_,z_]);refine wpT 8 ?_;(try simp only [y_,z_]);refine wpT 9 ?_;(try simp only [y_,z_]);refine wpT 10 ?_;(try simp only [y_,z_]);refine wpT 11 ?_;(try simp only [y_,z_]);refine wpT 12 ?_;(try simp only [y_,z_]);refine wpT 13 ?_;(try simp only [y_,z_]);refine wpT 14 ?_;(try simp only [y_,z_]);refine wpT 15 ?_;(try simp only [y_,z_]);refine wpT 16 ?_;(try simp only [y_,z_]);refine wpU 17 ?_;(try simp only [y_,z_]);refine wpU 18 ?_;(try simp only [y_,z_]);refine wpU 19 ?_;(try simp only [y_,z_]);refine wpU 20 ?_;(try simp only [y_,z_]);refine wpU 21 ?_;(try simp only [y_,z_]);refine wpU 22 ?_;(try simp only [y_,z_]);refine wpU 23 ?_;(try simp only [y_,z_]);refine wpU 24 ?_;(try simp only [y_,z_]);refine wpU 25 ?_;(try simp only [y_,z_]);refine wpU 26 ?_;(try simp only [y_,z_])
   refine wpU 27 ?_;(try simp only [y_,z_]);refine wpU 28 ?_;(try simp only [y_,z_]);refine wpU 29 ?_;(try simp only [y_,z_]);refine wpT 30 ?_;(try simp only [y_,z_]);refine wpT 31 ?_;(try simp only [y_,z_]);refine aD_ (by kernel_rfl) ?_ _;go_wp2_with fail
   go_ret;exact ⟨rfl,uD⟩
  | false =>
   obtain rfl:R=D:=by rw [←HR.out];rfl
   refine wpT 2 ?_;(try simp only [y_,z_]);refine wpT 3 ?_;(try simp only [y_,z_]);refine wpT 4 ?_;(try simp only [y_,z_]);refine wpT 5 ?_;(try simp only [y_,z_]);refine wpT 6 ?_;(try simp only [y_,z_]);refine wpT 7 ?_;(try simp only [y_,z_]);refine wpT 8 ?_;(try simp only [y_,z_]);refine wpT 9 ?_;(try simp only [y_,z_]);refine wpT 10 ?_;(try simp only [y_,z_]);refine wpT 11 ?_;(try simp only [y_,z_]);refine wpT 12 ?_;(try simp only [y_,z_]);refine wpT 13 ?_;(try simp only [y_,z_]);refine wpT 14 ?_;(try simp only [y_,z_]);refine wpT 15 ?_;(try simp only [y_,z_]);refine wpT 16 ?_;(try simp only [y_,z_]);refine wpT 17 ?_;(try simp only [y_,z_]);refine wpT 18 ?_;(try simp only [y_,z_]);refine wpT 19 ?_;(try simp only [y_,z_]);refine wpT 20 ?_;(try simp only [y_,z_]);refine wpT 21 ?_;(try simp only [y_,z_]);refine wpT 22 ?_;(try simp only [y_,z_]);refine wpT 23 ?_;(try simp only [y_,z_]);refine wpT 24 ?_;(try simp only [y_,z_]);refine wpT 25 ?_;(try simp only [y_,z_]);refine wpT 26 ?_;(try simp only [y_,z_])
   refine wpT 27 ?_;(try simp only [y_,z_]);refine wpT 28 ?_;(try simp only [y_,z_]);refine wpT 29 ?_;(try simp only [y_,z_]);refine wpT 30 ?_;(try simp only [y_,z_]);refine wpT 31 ?_;(try simp only [y_,z_]);refine aD_ (by kernel_rfl) ?_ _;go_wp2_with fail
   go_ret;exact ⟨rfl,uD⟩
def St.exp (x:St) (L:List Tok) (s:Bs):St:=bif (x.why==0&&isT L x.i s) then { x with i:=x.i+1 } else x.fail 2 (posT L x.i)
theorem rExpect_c {w:World} {p:Nat} {A:Option Addr} {c:Nat} {L:List Tok} {x:St} (h:RdS w p A c L x) (hi:x.i<L.length) (hL:L.length≤100000) (s:Bs) :
  Calls Tryz.prog 63 #[.pointer (some ⟨p,0,none⟩),.string (kstr s)] w fun e w'=>e=.returned (.tuple #[])∧RdS w' p A c L (x.exp L s)∧Upd (·=p) w w':=by
 have C:=h_ (rIs_c h hi s);have H:=h_ h;have HE:Hid (x.exp L s=bif (x.why==0&&isT L x.i s) then { x with i:=x.i+1 } else x.fail 2 (posT L x.i)):=rfl;obtain ⟨b,Hb⟩:=nm (x.why==0&&isT L x.i s);rw [Hb.out] at C HE;obtain ⟨i,Hi⟩:=nm x.i;have hi':=hi;rw [Hi.out] at hi';go_enter Tryz.func63,Tryz.ntmps63
 cases b with
 | true =>
  go_wp2_with fail
  refine C.out.mono ?_;rintro e w1 ⟨rfl,hu⟩;have h1:=H.out.non hu;obtain ⟨_,c1,_⟩:=h1.cells;rw [Hi.out] at c1;have hf:=h1.blk.frozen;have H1:=h_ h1;clear h1 C h;go_wp2_with fail
  go_end0
  refine ⟨rfl,?_,(hu.mono (T:=(·=p)) (fun _ _ f=>f.elim)).trans (updCell _ _ _ _) (fun _ _ h=>h)⟩;rw [HE.out];refine H1.out.set (updCell _ _ _ _) ?_ rfl rfl rfl rfl rfl rfl;have:=H1.out.blk.set_ 1 (.int .i64 ((i:Int)+1));simpa [rcells,Hi.out] using this
 | false =>
  go_wp2_with fail
  refine C.out.mono ?_;rintro e w1 ⟨rfl,hu⟩;have C2:=h_ (rSyntaxError_c (H.out.non hu) hi);clear C h;go_wp2_with fail
  refine C2.out.mono ?_;rintro e w2 ⟨rfl,h2,hu2⟩;go_wp2_with fail
  refine bodyPost_ret (results_none rfl _ _ _) rfl ?_;refine ⟨rfl,?_,(hu.mono (T:=(·=p)) (fun _ _ f=>f.elim)).trans hu2 (fun _ _ h=>h)⟩;rw [HE.out];exact h2
def set3 (w:World) (g:Nat) (a b c:Value):World:=((w.setCell ⟨g,0,none⟩ a).setCell ⟨g,1,none⟩ b).setCell ⟨g,2,none⟩ c
theorem set3_eq (w:World) (g:Nat) (a b c:Value):((w.setCell ⟨g,0,none⟩ a).setCell ⟨g,1,none⟩ b).setCell ⟨g,2,none⟩ c=set3 w g a b c:=rfl
theorem set3_blk {w:World} {g:Nat} {t:TypeId} {x0 x1 x2:Value} (h:Blk w g t #[x0,x1,x2]) (a b c:Value):Blk (set3 w g a b c) g t #[a,b,c]:=by
 have:=((h.set_ 0 a).set_ 1 b).set_ 2 c;simpa [set3] using this
theorem set3_upd (w:World) (g:Nat) (a b c:Value):Upd (·=g) w (set3 w g a b c) :=
 ((updCell _ _ _ _).trans (updCell _ _ _ _) (fun _ _ h=>h)).trans (updCell _ _ _ _) (fun _ _ h=>h)
def tokVal (s:Bs) (pos:Nat):Value:=.agg #[.string (kstr s),.int .i64 pos,.bool false]
def wordOk (L:List Tok) (x:St):Bool:=match L[x.i]? with | some t=>x.why==0&&(!t.bad&&!isPn (t.s.headD 0)) | none=>false
def WordP (w:World) (p:Nat) (A:Option Addr) (c:Nat) (L:List Tok) (x:St) (t:Tok) (Q:Bool→St→World→World→Prop) (e:Ending) (w':World):Prop :=
 (wordOk L x=true∧∃bb x2 w1 w2,Upd Non w w1∧Q bb x2 w1 w2∧x2.i=x.i∧x2.why=0∧Upd (fun k=>k<w.heap.size) w1 w2∧Upd (fun k=>k=p∨k=w.heap.size) w2 w'∧e=.returned (bif bb then tokVal t.s t.pos else tokVal [] 0)∧RdS w' p A c L (bif bb then { x2 with i:=x.i+1 } else x2.fail 2 (posT L x.i))) ∨
  (wordOk L x=false∧e=.returned (tokVal [] 0)∧RdS w' p A c L (x.fail 2 (posT L x.i))∧Upd (·=p) w w')
set_option maxRecDepth 100000 in
set_option maxHeartbeats 4000000 in
theorem rWord_c {w:World} {p:Nat} {A:Option Addr} {c:Nat} {L:List Tok} {x:St} (h:RdS w p A c L x) (hi:x.i<L.length) (hL:L.length≤100000) (hne:L[x.i].bad=false→L[x.i].s≠[]) (f:FuncId) (cap:Array Value) (hcf:∀(args:Array Value) (w:World),(callFunc f args).run Tryz.prog w=.ok (.enter f args) w) (Q:Bool→St→World→World→Prop)
  (HF:wordOk L x=true→∀w1,Upd Non w w1→Calls Tryz.prog f (#[.string (kstr L[x.i].s)]++cap) w1 fun e w2=>∃bb x2,e=.returned (.bool bb)∧RdS w2 p A c L x2∧x2.i=x.i∧x2.why=0∧Upd (fun k=>k<w.heap.size) w1 w2∧(∀k,x2.own p k→x.own p k∨w1.heap.size≤k)∧Q bb x2 w1 w2) :
  Calls Tryz.prog 62 #[.pointer (some ⟨p,0,none⟩),.func (.func f) #[] cap] w (WordP w p A c L x L[x.i] Q):=by
 have HW:Hid (wordOk L x=(x.why==0&&(!L[x.i].bad&&!isPn (L[x.i].s.headD 0)))):=by show _=_;unfold wordOk;rw [List.getElem?_eq_getElem hi]
 have hpt:=posT_eq hi;obtain ⟨b,o,rfl,hF,hbw,t0,t1,t2⟩:=h.tok.at_ hi;obtain ⟨c0,c1,c2,c3,c4,c5,c6⟩:=h.cells;obtain ⟨W1,HW1⟩:=nm (w.alloc (.cells #[.string ⟨#[]⟩,.int .i64 0,.bool false] 62));have u1:Upd Non w W1:=by rw [←HW1.out];exact Upd.refl.alloc _
 have b1:Blk W1 w.heap.size 62 #[.string ⟨#[]⟩,.int .i64 0,.bool false]:=by rw [←HW1.out];exact Blk.new _ _ _
 have s1:W1.heap.size=w.heap.size+1:=by rw [←HW1.out];simp
 have e1:=HW1.out;have hle:=h.le;have HI:Hid (x.i<L.length):=hi;have hpw:p<w.heap.size:=h.blk.lt;have H:=h_ h;have HFx:=h_ HF;obtain ⟨R,HR⟩:=nm (wordOk L x);rw [HR.out] at HW HFx;obtain ⟨n,Hn⟩:=nm L.length;rw [Hn.out] at c0 hi hle;obtain ⟨i,Hi⟩:=nm x.i;rw [Hi.out] at c1 hi;have t0':w.cell? ⟨b,o+i * 3,none⟩=some (.string (kstr L[x.i].s)):=by rw [←Hi.out];exact t0
 have t1':w.cell? ⟨b,o+i * 3+1,none⟩=some (.int .i64 L[x.i].pos):=by rw [←Hi.out];exact t1
 have t2':w.cell? ⟨b,o+i * 3+2,none⟩=some (.bool L[x.i].bad):=by rw [←Hi.out];exact t2
 generalize L[x.i]=t at *;obtain ⟨bd,Hbd⟩:=nm t.bad;rw [Hbd.out] at t2' HW hne;clear h HF t0 t1 t2 c2 c3 c4 c5 c6;go_enter Tryz.func62,Tryz.ntmps62
 go_upto_region 1 with fail
 obtain ⟨wD,HwD⟩:=nm W1.drew;have uD:Upd Non W1 wD:=by rw [←HwD.out];exact Upd.refl.drew
 have vD:=u1.then_non uD;have sD:wD.heap.size=w.heap.size+1:=by rw [←HwD.out];exact s1
 refine wp_region_held_drew (S:=fun w'=>w'.cell? ⟨p,0,none⟩=some (.slice (some ⟨b,o,none⟩) n c)∧w'.cell? ⟨p,1,none⟩=some (.int .i64 i)∧w'.cell? ⟨b,o+i * 3,none⟩=some (.string (kstr t.s))∧w'.cell? ⟨b,o+i * 3+1,none⟩=some (.int .i64 t.pos)∧w'.cell? ⟨b,o+i * 3+2,none⟩=some (.bool bd)) (by kernel_rfl) (by rw [HwD.out];exact ⟨u_ c0 vD (fun f=>f),u_ c1 vD (fun f=>f),u_ t0' vD (fun f=>f),u_ t1' vD (fun f=>f),u_ t2' vD (fun f=>f)⟩) (fun hHeld=>?_)
 rw [HwD.out] at hHeld ⊢;refine wpT 0 ?_;(try simp only [y_,z_]);refine wpT 1 ?_;(try simp only [y_,z_]);refine wpT 2 ?_;(try simp only [y_,z_]);refine wpT 3 ?_;(try simp only [y_,z_]);refine wpT 4 ?_;(try simp only [y_,z_]);refine wpT 5 ?_;(try simp only [y_,z_]);refine wpT 6 ?_;(try simp only [y_,z_]);refine wpT 7 ?_;(try simp only [y_,z_]);refine wpT 8 ?_;(try simp only [y_,z_]);refine wpT 9 ?_;(try simp only [y_,z_]);refine aR_ (rs:=[10]) (by kernel_rfl) (by simp) ?_;refine aC_ rfl (fun K hK=>?_) aN_;go_simp;obtain ⟨W2,HW2⟩:=nm (wD.alloc (.cells #[.string ⟨#[]⟩,.int .i64 0,.bool false] 62));have u2:Upd Non wD W2:=by rw [←HW2.out];exact Upd.refl.alloc _
 have b2:Blk W2 (w.heap.size+1) 62 #[.string ⟨#[]⟩,.int .i64 0,.bool false]:=by rw [←HW2.out,←sD];exact Blk.new _ _ _
 rw [HW2.out];have v2:=vD.then_non u2;refine hK.out _ _ ?_ (fun hHeld=>?_)
 ·exact ⟨u_ c0 v2 (fun f=>f),u_ c1 v2 (fun f=>f),u_ t0' v2 (fun f=>f),u_ t1' v2 (fun f=>f),u_ t2' v2 (fun f=>f)⟩
 clear hK K;(try simp only [y_,z_]);have x0:=b2.cell 0;have x1:=b2.cell 1;have x2:=b2.cell 2;have xf:=b2.frozen;refine aR_ (rs:=[11]) (by kernel_rfl) (by simp) ?_;refine aC_ rfl (fun K hK=>?_) aN_;go_simp;rw [set3_eq];have u3:=set3_upd W2 (w.heap.size+1) (.string (kstr t.s)) (.int .i64 t.pos) (.bool bd);have b3:=set3_blk b2 (.string (kstr t.s)) (.int .i64 t.pos) (.bool bd);obtain ⟨W3,HW3⟩:=nm (set3 W2 (w.heap.size+1) (.string (kstr t.s)) (.int .i64 t.pos) (.bool bd));rw [HW3.out] at u3 b3 ⊢;have v3:Upd Non w W3:=v2.trans u3 (fun k hk e=>by omega);clear x0 x1 x2 xf;refine hK.out _ _ ?_ (fun hHeld=>?_)
 ·exact ⟨u_ c0 v3 (fun f=>f),u_ c1 v3 (fun f=>f),u_ t0' v3 (fun f=>f),u_ t1' v3 (fun f=>f),u_ t2' v3 (fun f=>f)⟩
 clear hK K;(try simp only [y_,z_]);refine aD_ (by kernel_rfl) ?_ _;have b1:=((b1.upd uD (fun f=>f)).upd u2 (fun f=>f)).upd u3 (by omega);have H3:=h_ (H.out.non v3);have HB1:=h_ b1;have HB3:=h_ b3;have HV3:=h_ v3;clear hHeld c0 c1 t0' t1' t2' e1 u1 uD vD u2 v2 u3 b1 b2 b3 HW1 HW2 HW3 HwD;have CO:=h_ (rOk_c H3.out);have CE:=h_ (rSyntaxError_c H3.out HI.out);have hpt2:Hid (posT L x.i=t.pos):=hpt;obtain ⟨z,Hz⟩:=nm (x.why==0);rw [Hz.out] at CO HW;clear hpt
 cases z with
 | false =>
  obtain rfl:R=false:=by rw [HW.out];rfl
  go_wp2_with fail
  refine CO.out.mono ?_;rintro e w4 ⟨rfl,rfl⟩;go_wp2_with fail
  refine CE.out.mono ?_;rintro e w5 ⟨rfl,h5,hu5⟩;have b5:=HB1.out.upd hu5 (by omega);have y0:=b5.cell 0;have y1:=b5.cell 1;have y2:=b5.cell 2;have yf:=b5.frozen;have HB5:=h_ b5;clear b5;go_wp2_with fail
  rw [set3_eq];refine bodyPost_ret (results_cell_row rfl _ _ w.heap.size 62 _ (0,0) _ rfl (set3_blk HB5.out _ _ _) Tryz.underlying62 rfl (by kernel_rfl)) rfl ?_;refine .inr ⟨HR.out,rfl,h5.upd (set3_upd _ _ _ _ _) (fun k hk e=>?_),((HV3.out.mono (fun _ _ f=>f.elim)).trans hu5 (fun _ _ e=>e)).trans (set3_upd _ _ _ _ _) (fun k hk e=>by omega)⟩
  subst e;have hv:=H.out.v.lt (k:=w.heap.size);have hm:=H.out.m.lt (k:=w.heap.size);rw [show (x.fail 2 (posT L x.i)).va=x.va by unfold St.fail;split <;> rfl,show (x.fail 2 (posT L x.i)).ma=x.ma by unfold St.fail;split <;> rfl];exact ⟨hpw,fun q=>Nat.lt_irrefl _ (hv q),fun q=>Nat.lt_irrefl _ (hm q)⟩
 | true =>
  have d2:=HB3.out.cell 2
  cases bd with
  | true =>
   obtain rfl:R=false:=by rw [HW.out];rfl
   go_wp2_with fail
   refine CO.out.mono ?_;rintro e w4 ⟨rfl,rfl⟩;clear CO;go_wp2_with fail
   refine CE.out.mono ?_;rintro e w5 ⟨rfl,h5,hu5⟩;have b5:=HB1.out.upd hu5 (by omega);have y0:=b5.cell 0;have y1:=b5.cell 1;have y2:=b5.cell 2;have yf:=b5.frozen;have HB5:=h_ b5;clear b5;go_wp2_with fail
   rw [set3_eq];refine bodyPost_ret (results_cell_row rfl _ _ w.heap.size 62 _ (0,0) _ rfl (set3_blk HB5.out _ _ _) Tryz.underlying62 rfl (by kernel_rfl)) rfl ?_;refine .inr ⟨HR.out,rfl,h5.upd (set3_upd _ _ _ _ _) (fun k hk e=>?_),((HV3.out.mono (fun _ _ f=>f.elim)).trans hu5 (fun _ _ e=>e)).trans (set3_upd _ _ _ _ _) (fun k hk e=>by omega)⟩
   subst e;have hv:=H.out.v.lt (k:=w.heap.size);have hm:=H.out.m.lt (k:=w.heap.size);rw [show (x.fail 2 (posT L x.i)).va=x.va by unfold St.fail;split <;> rfl,show (x.fail 2 (posT L x.i)).ma=x.ma by unfold St.fail;split <;> rfl];exact ⟨hpw,fun q=>Nat.lt_irrefl _ (hv q),fun q=>Nat.lt_irrefl _ (hm q)⟩
  | false =>
   have d0:=HB3.out.cell 0;have hl0:0<t.s.length:=List.length_pos_iff.2 (hne rfl);have hsz:(kstr t.s).size=t.s.length:=kstr_size t.s;have i0:=fun W=>run_at_str hsz hl0 W
   rw [kx_kstr,show t.s.getD 0 0=t.s.headD 0 by cases t.s <;> rfl,show ((0:Nat):Int)=0 from rfl] at i0;have CP:=h_ (rIsPunct_c (t.s.headD 0) W3);obtain ⟨pn,Hpn⟩:=nm (isPn (t.s.headD 0));rw [Hpn.out] at CP HW;generalize (t.s.headD 0).toNat=y at i0 CP;have HL0:=h_ hl0;obtain ⟨m,Hm⟩:=nm t.s.length;rw [Hm.out] at hsz hl0
   cases pn with
   | true =>
    obtain rfl:R=false:=by rw [HW.out];rfl
    go_wp2_with fail
    refine CO.out.mono ?_;rintro e w4 ⟨rfl,rfl⟩;go_wp2_with fail
    refine CP.out.mono ?_;rintro e w4 ⟨rfl,rfl⟩;clear CO CP d2 d0 i0;go_wp2_with fail
    refine CE.out.mono ?_;rintro e w5 ⟨rfl,h5,hu5⟩;have b5:=HB1.out.upd hu5 (by omega);have y0:=b5.cell 0;have y1:=b5.cell 1;have y2:=b5.cell 2;have yf:=b5.frozen;have HB5:=h_ b5;clear b5;go_wp2_with fail
    rw [set3_eq];refine bodyPost_ret (results_cell_row rfl _ _ w.heap.size 62 _ (0,0) _ rfl (set3_blk HB5.out _ _ _) Tryz.underlying62 rfl (by kernel_rfl)) rfl ?_;refine .inr ⟨HR.out,rfl,h5.upd (set3_upd _ _ _ _ _) (fun k hk e=>?_),((HV3.out.mono (fun _ _ f=>f.elim)).trans hu5 (fun _ _ e=>e)).trans (set3_upd _ _ _ _ _) (fun k hk e=>by omega)⟩
    subst e;have hv:=H.out.v.lt (k:=w.heap.size);have hm:=H.out.m.lt (k:=w.heap.size);rw [show (x.fail 2 (posT L x.i)).va=x.va by unfold St.fail;split <;> rfl,show (x.fail 2 (posT L x.i)).ma=x.ma by unfold St.fail;split <;> rfl];exact ⟨hpw,fun q=>Nat.lt_irrefl _ (hv q),fun q=>Nat.lt_irrefl _ (hm q)⟩
   | false =>
    obtain rfl:R=true:=by rw [HW.out];rfl
    go_wp2_with fail
    refine CO.out.mono ?_;rintro e w4 ⟨rfl,rfl⟩;go_wp2_with fail
    refine CP.out.mono ?_;rintro e w4 ⟨rfl,rfl⟩;clear CO CP CE i0;have CF:=h_ (HFx.out (by trivial) _ HV3.out);have CE2:=h_ (fun (w':World) (y:St) (hy:RdS w' p (some ⟨b,o,none⟩) c L y) (hyi:y.i=x.i)=>rSyntaxError_c hy (by rw [hyi];exact HI.out));go_wp2_with fail
    refine CF.out.mono ?_;rintro e w5 ⟨bb,x2,rfl,h5,hi5,hw5,hu5,ho5,hq⟩;have s4:w.heap.size≤w4.heap.size:=HV3.out.size;have b5:=HB1.out;have k1:=HB1.out.lt;have k3:=HB3.out.lt;have b5:=b5.upd hu5 (by omega);have b6:=HB3.out.upd hu5 (by omega);have HQ:=h_ hq;have HU5:=h_ hu5;have H5:=h_ h5;clear CF HFx d2 d0 hq hu5
    have hfar:∀(y:St),y.va=x2.va→y.ma=x2.ma→¬At y.va w.heap.size∧¬At y.ma w.heap.size:=fun y e1 e2=>by
     have hv:=H.out.v.lt (k:=w.heap.size);have hm:=H.out.m.lt (k:=w.heap.size);rw [e1,e2];refine ⟨fun q=>?_,fun q=>?_⟩
     ·rcases ho5 _ (.inr (.inl q)) with (r | r | r) | r
      ·omega
      ·exact Nat.lt_irrefl _ (hv r)
      ·exact Nat.lt_irrefl _ (hm r)
      ·omega
     ·rcases ho5 _ (.inr (.inr q)) with (r | r | r) | r
      ·omega
      ·exact Nat.lt_irrefl _ (hv r)
      ·exact Nat.lt_irrefl _ (hm r)
      ·omega
    have HFAR:=h_ hfar;clear hfar
    cases bb with
    | false =>
     have C6:=h_ (CE2.out _ _ H5.out hi5);rw [hi5] at C6;clear CE2;go_wp2_with fail
     refine C6.out.mono ?_;rintro e w6 ⟨rfl,h6,hu6⟩;have b7:=b5.upd hu6 (by omega);have y0:=b7.cell 0;have y1:=b7.cell 1;have y2:=b7.cell 2;have yf:=b7.frozen;have HB7:=h_ b7;clear b5 b6 b7 C6;go_wp2_with fail
     rw [set3_eq];refine bodyPost_ret (results_cell_row rfl _ _ w.heap.size 62 _ (0,0) _ rfl (set3_blk HB7.out _ _ _) Tryz.underlying62 rfl (by kernel_rfl)) rfl ?_;refine .inl ⟨HR.out,false,x2,w4,w5,HV3.out,HQ.out,hi5,hw5,HU5.out,(hu6.mono (fun _ _ h=>.inl h)).trans (set3_upd _ _ _ _ _) (fun _ _ h=>.inr h),rfl,?_⟩
     have hff:=HFAR.out (x2.fail 2 (posT L x.i)) (by unfold St.fail;split <;> rfl) (by unfold St.fail;split <;> rfl);exact h6.upd (set3_upd _ _ _ _ _) (fun k hk e=>by subst e;exact ⟨hpw,hff.1,hff.2⟩)
    | true =>
     obtain ⟨d0,d1,d2,d3,d4,d5,d6⟩:=H5.out.cells;rw [hi5,Hi.out] at d1;have df:=H5.out.blk.frozen;have hn5:n≤100000:=by rw [←Hn.out];exact hL
     obtain ⟨W6,HW6⟩:=nm (w5.setCell ⟨p,1,none⟩ (.int .i64 ((i:Int)+1)));have u6:Upd (·=p) w5 W6:=by rw [←HW6.out];exact updCell _ _ _ _
     have h6:RdS W6 p (some ⟨b,o,none⟩) c L { x2 with i:=x.i+1 }:=by
      refine H5.out.set u6 ?_ rfl rfl rfl rfl rfl rfl;have:=H5.out.blk.set_ 1 (.int .i64 ((i:Int)+1));rw [HW6.out] at this;simpa [rcells,Hi.out] using this
     have e6:=HW6.out;have b7:=b5.upd u6 (by omega);have y0:=b7.cell 0;have y1:=b7.cell 1;have y2:=b7.cell 2;have yf:=b7.frozen;have b8:=b6.upd u6 (by omega);have z0:=b8.cell 0;have z1:=b8.cell 1;have z2:=b8.cell 2;have HB7:=h_ b7;have HU6:=h_ u6;have H6:=h_ h6;clear b5 b6 b7 b8 CE2 u6 h6;go_wp2_with fail
     rw [set3_eq];refine bodyPost_ret (results_cell_row rfl _ _ w.heap.size 62 _ (0,0) _ rfl (set3_blk HB7.out _ _ _) Tryz.underlying62 rfl (by kernel_rfl)) rfl ?_;refine .inl ⟨HR.out,true,x2,w4,w5,HV3.out,HQ.out,hi5,hw5,HU5.out,(HU6.out.mono (fun _ _ h=>.inl h)).trans (set3_upd _ _ _ _ _) (fun _ _ h=>.inr h),rfl,?_⟩
     have hff:=HFAR.out { x2 with i:=x.i+1 } rfl rfl;exact H6.out.upd (set3_upd _ _ _ _ _) (fun k hk e=>by subst e;exact ⟨hpw,hff.1,hff.2⟩)
theorem rIsLower_c (c:UInt8) (w:World):Calls Tryz.prog 119 #[.int .u8 c.toNat] w fun e w'=>e=.returned (.bool (isLw c))∧w'=w:=by
 have HR:Hid (isLw c=decide (97≤c.toNat∧c.toNat≤122)):=rfl;obtain ⟨R,HRR⟩:=nm (isLw c);rw [HRR.out] at HR ⊢;obtain ⟨x,Hx⟩:=nm c.toNat;rw [Hx.out] at HR ⊢;by_cases h1:97≤x
 ·have f1:decide ((97:Int)≤(x:Int))=true:=dT_ (by omega);obtain ⟨b,f2⟩:∃b,decide ((x:Int)≤122)=b:=⟨_,rfl⟩
  obtain rfl:R=b:=by
   rw [HR.out,←f2,Bool.eq_iff_iff,decide_eq_true_eq,decide_eq_true_eq];omega
  go_enter Tryz.func119,Tryz.ntmps119;go_wp2_with fail
  go_ret;exact ⟨rfl,rfl⟩
 ·have f1:decide ((97:Int)≤(x:Int))=false:=dF_ (by omega);obtain rfl:R=false:=by rw [HR.out];exact dF_ (by omega)
  go_enter Tryz.func119,Tryz.ntmps119;go_wp2_with fail
  go_ret;exact ⟨rfl,rfl⟩
theorem findB_step {l:Bs} {k:Nat} (h:k<l.length) (c:UInt8) (i:Nat):findB (l.drop k) c i=if l.getD k 0=c then some i else findB (l.drop (k+1)) c (i+1):=by rw [drop_cons h];rfl
theorem u8s_len (l:Bs):(u8s l).length=l.length:=by simp [u8s]
theorem u8s_get (l:Bs) {k:Nat} (h:k<l.length):(u8s l)[k]'(by rw [u8s_len];exact h)=.int .u8 ((l.getD k 0).toNat:Int):=by simp [u8s,List.getD,h]
set_option maxRecDepth 100000 in
set_option maxHeartbeats 4000000 in
theorem rLookup_c (w:World) (p o:Nat) (T:TypeId) (cs:Array Value) (VA:Option Addr) (vc:Nat) (vs:Bs) (hb:Blk w p T cs) (hcs:cs[o]?=some (.slice VA vs.length vc)) (hv:Own w 5 1 VA vs.length vc (u8s vs)) (hp:¬At VA p) (c:UInt8) (left:Bool) (hn:vs.length≤100000) :
  Calls Tryz.prog 120 #[.pointer (some ⟨p,o,none⟩),.int .u8 c.toNat,.bool left] w fun e w'=>e=.returned (.int .i64 (lookF vs c left).1)∧∃(VA':Option Addr) (vc':Nat),Blk w' p T (cs.setIfInBounds o (.slice VA' (lookF vs c left).2.length vc'))∧Own w' 5 1 VA' (lookF vs c left).2.length vc' (u8s (lookF vs c left).2)∧(∀k,At VA' k→At VA k∨w.heap.size≤k)∧Upd (fun k=>k=p∨At VA k) w w':=by
 have c0:=hb.cell o;rw [hcs] at c0;have hf:=hb.frozen o;have hL:Hid (lookF vs c left=match findB vs c 0 with | some i=>(i+1,vs) | none=>if left then (vs.length+1,vs++[c]) else (0,vs)):=rfl
 have hsame:cs.setIfInBounds o (.slice VA vs.length vc)=cs:=by
  apply Array.ext
  ·simp
  ·intro i h1 h2;rw [Array.getElem_setIfInBounds]
   ·split
    ·rename_i e;subst e;rw [Array.getElem?_eq_getElem h2] at hcs;exact (Option.some.inj hcs).symm
    ·rfl
 obtain ⟨n,Hn⟩:=nm vs.length;rw [Hn.out] at c0 hn hsame;have hv2:Own w 5 1 VA n vc (u8s vs):=by rw [←Hn.out];exact hv
 have HS:=h_ hsame;have HCS:=h_ hcs;clear hsame hcs hv;go_enter Tryz.func120,Tryz.ntmps120;go_wp2_with fail
 go_loopg [13] n (fun g s wr=>∃k:Nat,Hid (g=n - k)∧k≤n∧s=.int .i64 k∧Hid (findB vs c 0=findB (vs.drop k) c k)∧wr=w)
 case atStart=>exact ⟨0,rfl,by omega,rfl,by show _=_;rw [List.drop_zero],rfl⟩
 case round =>
  obtain ⟨k,Hg,hk,rfl,HK,hw⟩:=hrel;subst hw;by_cases hlt:k<n
  ·have ti:decide ((k:Int)<(n:Int))=true:=dT_ (by omega);have hkl:k<vs.length:=by rw [Hn.out];exact hlt
   obtain ⟨g,rfl⟩:=hv2.some_ (by omega);have hc:=hv2.cell_ (i:=k) (by rw [u8s_len];exact hkl);rw [u8s_get vs hkl] at hc;have HF:=h_ (findB_step hkl c k);obtain ⟨y,Hy⟩:=nm (vs.getD k 0);rw [Hy.out] at hc HF;by_cases hyc:y=c
   ·have fy:(((y.toNat:Nat):Int)==((c.toNat:Nat):Int))=true:=by rw [hyc];simp
    have HR:Hid (lookF vs c left=(k+1,vs)):=by show _=_;rw [hL.out,HK.out,HF.out,if_pos hyc]
    clear hyc HF HK hL;go_wp2_with fail
    go_ret;refine ⟨by rw [HR.out];rfl,some ⟨g,0,none⟩,vc,?_,?_,fun _ h=>.inl h,Upd.refl⟩
    ·rw [HR.out,Hn.out,HS.out];exact hb
    ·rw [HR.out,Hn.out];exact hv2
   ·have fy:(((y.toNat:Nat):Int)==((c.toNat:Nat):Int))=false:=by
     simp only [beq_eq_false_iff_ne,ne_eq];intro q;exact hyc (UInt8.toNat_inj.1 (by omega))
    have HK2:Hid (findB vs c 0=findB (vs.drop (k+1)) c (k+1)):=by show _=_;rw [HK.out,HF.out,if_neg hyc]
    clear hyc HF HK;go_wp2_with fail
    go_roundg (n - (k+1))
    case measure=>rw [Hg.out];omega
    case rel=>exact ⟨k+1,rfl,by omega,by go_num,HK2,rfl⟩
  ·obtain rfl:n=k:=by omega
   have hnone:findB vs c 0=none:=by rw [HK.out,List.drop_of_length_le (by rw [Hn.out];exact Nat.le_refl _)];rfl
   have HN:Hid (lookF vs c left=if left then (n+1,vs++[c]) else (0,vs)):=by show _=_;rw [hL.out,hnone,Hn.out]
   clear hnone HK hL
   cases left with
   | false =>
    go_wp2_with fail
    go_ret;refine ⟨by rw [HN.out];rfl,VA,vc,?_,?_,fun _ h=>.inl h,Upd.refl⟩
    ·rw [HN.out];show Blk _ _ _ (cs.setIfInBounds o (.slice VA vs.length vc));rw [Hn.out,HS.out];exact hb
    ·rw [HN.out];show Own _ _ _ _ vs.length _ _;rw [Hn.out];exact hv2
   | true =>
    have ho:o<cs.size:=by
     rcases Nat.lt_or_ge o cs.size with q | q
     ·exact q
     ·have:=HCS.out;rw [Array.getElem?_eq_none q] at this;cases this
    have HO:=h_ ho;have hbu:=hb;have hcs2:=HCS.out;rw [Hn.out] at hcs2;have HCS2:=h_ hcs2;clear ho HCS HS Hg hcs2
    go_wp2_with (at_builtin;refine wpList_app rfl rfl T_u8s rfl (hv2.alloc _) rfl (Sl.new _ _ _) rfl (by simp [Value.oneCell']) (by simp only [maxLen];omega) (by omega) ?_;intro A8 c8 w8 ho8 hu8 hat8;have b8:=(hbu.alloc _).upd hu8 hp;have d8:=b8.cell o;rw [HCS2.out] at d8;have f8:=b8.frozen o;have b9:=b8.set_ o (.slice A8 (n+1) c8);have d9:=b9.cell o;rw [Array.getElem?_setIfInBounds_self_of_lt HO.out] at d9)
    go_ret;refine ⟨?_,A8,c8,?_,?_,fun k h=>?_,?_⟩
    ·rw [HN.out];rfl
    ·rw [HN.out];show Blk _ _ _ (cs.setIfInBounds o (.slice A8 (vs++[c]).length c8));rw [List.length_append,Hn.out];exact b9
    ·rw [HN.out];show Own _ _ _ _ (vs++[c]).length _ (u8s (vs++[c]));rw [List.length_append,Hn.out];have e:u8s (vs++[c])=u8s vs++[.int .u8 (c.toNat:Int)]:=by simp [u8s]
     rw [e];refine Own.upd ho8 (updCell _ _ _ _) (fun k hk e=>?_);subst e;rcases hat8 k hk with q | q
     ·exact hp q
     ·have:=hbu.lt;rw [q] at this;simp at this;omega
    ·rcases hat8 k h with q | q
     ·exact .inl q
     ·right;rw [q];simp
    ·exact ((Upd.refl.alloc _).trans hu8 (fun _ _ h=>.inr h)).trans (updCell _ _ _ _) (fun _ _ h=>.inl h)
theorem run_from_str {s:Bs} {n i:Nat} (h:s.length=n) (hi:i≤n) (w:World):(Instr.slice 9 (.string (kstr s)) (some (.int .i64 (i:Int))) none none).run Tryz.prog w=.ok (.string (kstr (s.drop i))) w:=by
 have hz:(kstr s).size=n:=by rw [kstr_size,h]
 have:=run_slice_string_l (P:=Tryz.prog) w 9 (kstr s) Tryz.underlying9 .i64 (i:Int) (by omega) (by omega);rw [this,kstr_extract,kx_kstr,Int.toNat_natCast,List.take_of_length_le (by rw [List.length_drop];omega)]
theorem run_to_str {s:Bs} {n i:Nat} (h:s.length=n) (hi:i≤n) (w:World):(Instr.slice 9 (.string (kstr s)) none (some (.int .i64 (i:Int))) none).run Tryz.prog w=.ok (.string (kstr (s.take i))) w:=by
 have hz:(kstr s).size=n:=by rw [kstr_size,h]
 have:=run_slice_string_h (P:=Tryz.prog) w 9 (kstr s) Tryz.underlying9 .i64 (i:Int) (by omega) (by omega);rw [this,kstr_extract,kx_kstr];simp
theorem digF_snoc (l:Bs) (c:UInt8):digF (l++[c]) 0=10 * digF l 0+(c.toNat - 48):=by simp [digF]
theorem dig_lt:∀(k:Nat) (l:Bs),l.length=k→l.all isDg=true→digF l 0<10 ^ k
 | 0,l,h,_=>by
  have : l=[]:=List.eq_nil_of_length_eq_zero h;subst this;simp [digF]
 | k+1,l,h,ha=>by
  have hne:l≠[]:=by intro e;subst e;simp at h
  obtain ⟨l0,c,rfl⟩:∃l0 c,l=l0++[c]:=⟨l.dropLast,l.getLast hne,(List.dropLast_concat_getLast hne).symm⟩;rw [List.all_append,Bool.and_eq_true] at ha;have:=dig_lt k l0 (by simpa using h) ha.1;have h2:isDg c=true:=by simpa using ha.2
  unfold isDg at h2;rw [decide_eq_true_eq] at h2;rw [digF_snoc,Nat.pow_succ];omega
def limF (neg:Bool):Nat:=bif neg then 9223372036854775808 else 9223372036854775807
def sgnF (neg:Bool) (n:Nat):Int:=bif neg then -(n:Int) else n
def magF (t:Bs) (neg:Bool):Option Int :=
 if t.length<1∨t.length > 19∨(t.head?=some 48∧(t.length > 1∨neg=true)) then none
 else if t.all isDg then
  if digF t 0 > limF neg then none else some (sgnF neg (digF t 0))
 else none
theorem decF_eq (s:Bs):decF s=magF (if decide (s.head?=some 45) then s.tail else s) (decide (s.head?=some 45)):=by
 unfold decF magF limF sgnF;cases decide (s.head?=some 45) <;> rfl
theorem take_dig {t:Bs} {k:Nat} (h:k<t.length):t.take (k+1)=t.take k++[t.getD k 0]:=by rw [take_snoc_ h,getD_of h]
set_option maxRecDepth 100000 in
set_option maxHeartbeats 4000000 in
theorem wParse_c (s:Bs) (w:World) (hs:s.length≤1000000) :
  Calls Tryz.prog 96 #[.string (kstr s)] w fun e w'=>e=.returned (.tuple #[.int .i64 ((decF s).getD 0),.bool (decF s).isSome])∧w'=w:=by
 rw [decF_eq];have hz0:(kstr s).size=s.length:=kstr_size s;obtain ⟨n0,Hn0⟩:=nm s.length;rw [Hn0.out] at hz0 hs
 have HNG:Hid (decide (s.head?=some 45)=decide (0<n0∧s.getD 0 0=45)):=by
  show _=_;rw [←Hn0.out]
  cases s with
  | nil=>rfl
  | cons a r=>simp
 obtain ⟨neg,Hneg⟩:=nm (decide (s.head?=some 45));rw [Hneg.out] at HNG;rw [Hneg.out];obtain ⟨t,Ht⟩:=nm (if neg then s.tail else s);rw [Ht.out];obtain ⟨r,HR⟩:=nm (magF t neg);have HR1:Hid (r=magF t neg):=HR.out.symm;have HR:=HR1;obtain ⟨m,Hm⟩:=nm t.length;have hz:(kstr t).size=m:=by rw [kstr_size,Hm.out]
 obtain ⟨B,HB⟩:=nm (decide (m<1∨m > 19∨(t.head?=some 48∧(m > 1∨neg=true))))
 have HMGE:Hid (magF t neg=if B=true then none else if t.all isDg then if digF t 0 > limF neg then none else some (sgnF neg (digF t 0)) else none):=by
  show _=_;unfold magF;rw [←HB.out,Hm.out];simp only [decide_eq_true_eq]
 have hm1:m≤1000000:=by
  have:=Hn0.out;rw [←Hm.out,←Ht.out]
  split
  ·rw [List.length_tail];omega
  ·omega
 obtain ⟨z1,Hz1⟩:=nm (r.getD 0);obtain ⟨z2,Hz2⟩:=nm r.isSome;rw [←HR.out,Hz1.out,Hz2.out];by_cases h0:0<n0
 ·have f0:decide ((0:Int)<(n0:Int))=true:=dT_ (by omega);have i0:=fun W=>run_at_str hz0 h0 W
  rw [kx_kstr,show ((0:Nat):Int)=0 from rfl] at i0;by_cases h45:s.getD 0 0=45
  ·rw [h45,show ((45:UInt8).toNat:Int)=45 from rfl] at i0;obtain rfl:neg=true:=by rw [HNG.out];exact dT_ ⟨h0,h45⟩
   have hsl:=fun W=>run_from_str Hn0.out (show 1≤n0 by omega) W
   have het:s.drop 1=t:=by rw [←Ht.out];simp
   rw [het,show ((1:Nat):Int)=1 from rfl] at hsl;clear h45 HNG het Hneg;go_enter Tryz.func96,Tryz.ntmps96
   go_upto_region 5 with fail
   go_cut [41] (fun s wx=>s=.bool B∧wx=w)
   case first =>
    clear HMGE HR Ht;by_cases q1:m<1
    ·have g1:decide ((m:Int)<1)=true:=dT_ (by omega);obtain rfl:B=true:=by rw [←HB.out];exact dT_ (.inl q1)
     clear HB;go_wp2_with fail
     go_meet
     case rel=>exact ⟨rfl,rfl⟩
    ·have g1:decide ((m:Int)<1)=false:=dF_ (by omega);by_cases q2:m > 19
     ·have g2:decide ((19:Int)<(m:Int))=true:=dT_ (by omega);obtain rfl:B=true:=by rw [←HB.out];exact dT_ (.inr (.inl q2))
      clear HB;go_wp2_with fail
      go_meet
      case rel=>exact ⟨rfl,rfl⟩
     ·have g2:decide ((19:Int)<(m:Int))=false:=dF_ (by omega);have i3:=fun W=>run_at_str hz (show 0<m by omega) W
      rw [kx_kstr,show ((0:Nat):Int)=0 from rfl] at i3
      have hh:(t.head?=some 48)↔(t.getD 0 0).toNat=48:=by
       cases t with
       | nil=>have:=Hm.out;simp at this;omega
       | cons a r =>
        simp only [List.head?_cons,Option.some.injEq,List.getD_cons_zero];constructor
        ·rintro rfl;rfl
        ·intro e;exact UInt8.toNat_inj.1 e
      have HB2:decide (m<1∨m > 19∨((t.getD 0 0).toNat=48∧(m > 1∨true=true)))=B:=by rw [←HB.out];exact decide_eq_decide.2 (by rw [hh])
      have HB:=h_ HB2;clear hh HB2;generalize (t.getD 0 0).toNat=y at i3 HB;by_cases q3:y=48
      ·have g3:((y:Int)==48)=true:=by rw [q3];rfl
       by_cases q4:m > 1
       ·have g4:decide ((1:Int)<(m:Int))=true:=dT_ (by omega);obtain rfl:B=true:=by rw [←HB.out];exact dT_ (.inr (.inr ⟨q3,.inl q4⟩))
        clear HB q3;go_wp2_with fail
        go_meet
        case rel=>exact ⟨rfl,rfl⟩
       ·have g4:decide ((1:Int)<(m:Int))=false:=dF_ (by omega)
        obtain rfl:B=true:=by
         rw [←HB.out,Bool.eq_iff_iff,decide_eq_true_eq];constructor
         ·rintro (h | h | ⟨_,h | h⟩)
          ·omega
          ·omega
          ·omega
          ·exact h
         ·intro h;exact .inr (.inr ⟨q3,.inr h⟩)
        clear HB q3;go_wp2_with fail
        go_meet
        case rel=>exact ⟨rfl,rfl⟩
      ·have g3:((y:Int)==48)=false:=by simp;omega
       obtain rfl:B=false:=by rw [←HB.out];exact dF_ (by omega)
       clear HB q3;go_wp2_with fail
       go_meet
       case rel=>exact ⟨rfl,rfl⟩
   case rest =>
    obtain ⟨rfl,hwc⟩:=hcut;have hwc2:w=wc:=hwc.symm;subst hwc2
    cases B with
    | true =>
     have HN:Hid (magF t true=none):=by show _=_;rw [HMGE.out,if_pos rfl]
     clear HMGE HB;go_wp2_with fail
     go_ret2;exact ⟨by rw [←Hz1.out,←Hz2.out,HR.out,HN.out];rfl,rfl⟩
    | false =>
     have HMG:Hid (magF t true=if t.all isDg then if digF t 0 > limF true then none else some (sgnF true (digF t 0)) else none):=by show _=_;rw [HMGE.out,if_neg (by decide)]
     have hm19:m≤19:=by
      have:=HB.out;rw [decide_eq_false_iff_not] at this;omega
     clear HMGE HB;go_wp2_with fail
     go_loopg [6,7] m (fun g a b wr=>∃k:Nat,Hid (g=m - k)∧k≤m∧b=.int .i64 k∧a=.int .u64 (digF (t.take k) 0)∧Hid ((t.take k).all isDg=true)∧wr=w)
     case atStart=>exact ⟨0,rfl,by omega,rfl,rfl,rfl,rfl⟩
     case round =>
      obtain ⟨k,Hg,hk,rfl,rfl,HA,hw⟩:=hrel;subst hw;have hlt18:=dig_lt (t.take k).length (t.take k) rfl HA.out;have hkl:(t.take k).length=k:=by rw [List.length_take,Hm.out];omega
      rw [hkl] at hlt18;obtain ⟨n,Hdn⟩:=nm (digF (t.take k) 0);rw [Hdn.out] at hlt18 ⊢;by_cases hlt:k<m
      ·have ti:decide ((k:Int)<(m:Int))=true:=dT_ (by omega)
       have hn18:n<1000000000000000000:=by
        have : (10:Nat) ^ k≤10 ^ 18:=Nat.pow_le_pow_right (by omega) (by omega);omega
       have hkt:k<t.length:=by rw [Hm.out];exact hlt
       have i1:=fun W=>run_at_str hz hlt W
       rw [kx_kstr] at i1;have HT:=h_ (take_dig hkt);obtain ⟨c,Hc⟩:=nm (t.getD k 0);rw [Hc.out] at i1 HT;have HD:Hid (isDg c=decide (48≤c.toNat∧c.toNat≤57)):=rfl;have HDG:=h_ (digF_snoc (t.take k) c);rw [←HT.out,Hdn.out] at HDG;have HAL:Hid ((t.take (k+1)).all isDg=isDg c):=by show _=_;rw [HT.out,List.all_append,HA.out];simp
       have HNO:Hid (isDg c=false→magF t true=none):=fun q=>by
        rw [HMG.out];rw [if_neg];intro q2;rw [List.all_eq_true] at q2;have : c∈t:=by rw [←Hc.out,getD_of hkt];exact List.getElem_mem _
        rw [q2 c this] at q;cases q
       generalize c.toNat=y at i1 HD HDG;obtain ⟨dg,Hdg⟩:=nm (isDg c);rw [Hdg.out] at HD HAL HNO;clear hlt18 hkl HT HA;by_cases hy1:y<48
       ·have f1:decide ((y:Int)<48)=true:=dT_ (by omega);obtain rfl:dg=false:=by rw [HD.out];exact dF_ (by omega)
        have HN:=h_ (HNO.out rfl);clear hy1 HD HDG HAL HNO;go_wp2_with fail
        go_ret2;exact ⟨by rw [←Hz1.out,←Hz2.out,HR.out,HN.out];rfl,rfl⟩
       ·have f1:decide ((y:Int)<48)=false:=dF_ (by omega);by_cases hy2:57<y
        ·have f2:decide ((57:Int)<(y:Int))=true:=dT_ (by omega);obtain rfl:dg=false:=by rw [HD.out];exact dF_ (by omega)
         have HN:=h_ (HNO.out rfl);clear hy1 hy2 HD HDG HAL HNO;go_wp2_with fail
         go_ret2;exact ⟨by rw [←Hz1.out,←Hz2.out,HR.out,HN.out];rfl,rfl⟩
        ·have f2:decide ((57:Int)<(y:Int))=false:=dF_ (by omega);obtain rfl:dg=true:=by rw [HD.out];exact dT_ (by omega)
         have w1:IntKind.u64.wrap (10 * (n:Int))=10 * (n:Int):=by rw [IntKind.wrap_u64];omega
         have w2:IntKind.u8.wrap ((y:Int) - 48)=(y:Int) - 48:=by rw [IntKind.wrap_u8];omega
         have w3:IntKind.u64.wrap ((y:Int) - 48)=(y:Int) - 48:=by rw [IntKind.wrap_u64];omega
         have w4:IntKind.u64.wrap (10 * (n:Int)+((y:Int) - 48))=10 * (n:Int)+((y:Int) - 48):=by rw [IntKind.wrap_u64];omega
         have hy3:48≤y:=by omega
         clear HD HNO;go_wp2_with fail
         go_roundg (m - (k+1))
         case measure=>rw [Hg.out];omega
         case rel=>exact ⟨k+1,rfl,by omega,by go_num,by rw [HDG.out];congr 1;omega,HAL.out,rfl⟩
      ·have HKM:Hid (m=k):=by show _=_;omega
       have hall:t.all isDg=true:=by
        have:=HA.out
        rwa [List.take_of_length_le (by rw [Hm.out,HKM.out];exact Nat.le_refl _)] at this
       have HM:Hid (magF t true=if n > limF true then none else some (sgnF true n)):=by
        show _=_;rw [HMG.out,if_pos hall,←Hdn.out,List.take_of_length_le (by rw [Hm.out,HKM.out];exact Nat.le_refl _)]
       have ti:decide ((k:Int)<(m:Int))=false:=dF_ (by omega)
       have hn19:n<10000000000000000000:=by
        have : (10:Nat) ^ k≤10 ^ 19:=Nat.pow_le_pow_right (by omega) (by omega);omega
       clear hall HMG HA hlt18 hkl;by_cases hb:n > 9223372036854775808
       ·have fb:decide ((9223372036854775808:Int)<(n:Int))=true:=dT_ (by omega);have HN:Hid (magF t true=none):=by show _=_;rw [HM.out,if_pos (show n > limF true from hb)]
        clear HM;go_wp2_with fail
        go_ret2;exact ⟨by rw [←Hz1.out,←Hz2.out,HR.out,HN.out];rfl,rfl⟩
       ·have fb:decide ((9223372036854775808:Int)<(n:Int))=false:=dF_ (by omega);have HN:Hid (magF t true=some (-(n:Int))):=by show _=_;rw [HM.out,if_neg (show ¬n > limF true from hb)];rfl
        have w5:wrap64 (IntKind.u64.wrap (-(n:Int))) = -(n:Int):=by rw [wrap64,IntKind.wrap_u64];omega
        clear HM;go_wp2_with fail
        go_ret2;exact ⟨by rw [←Hz1.out,←Hz2.out,HR.out,HN.out];show Ending.returned (.tuple #[.int .i64 (wrap64 (IntKind.u64.wrap (-(n:Int)))),.bool true])=_;rw [w5];rfl,rfl⟩
  ·have f45:(((s.getD 0 0).toNat:Int)==45)=false:=by
    simp only [beq_eq_false_iff_ne,ne_eq];intro e;exact h45 (UInt8.toNat_inj.1 (by have : (45:UInt8).toNat=45:=rfl;omega))
   obtain rfl:neg=false:=by rw [HNG.out];exact dF_ (fun q=>h45 q.2)
   have het:t=s:=by rw [←Ht.out];simp
   obtain rfl:m=n0:=by rw [←Hn0.out,←Hm.out,het]
   rw [←het] at i0 f45 ⊢;obtain ⟨y0,Hy0⟩:=nm (t.getD 0 0).toNat;rw [Hy0.out] at i0 f45;clear hz0 het;clear h45 HNG Hneg;go_enter Tryz.func96,Tryz.ntmps96
   go_upto_region 5 with fail
   go_cut [41] (fun s wx=>s=.bool B∧wx=w)
   case first =>
    clear HMGE HR Ht;by_cases q1:m<1
    ·have g1:decide ((m:Int)<1)=true:=dT_ (by omega);obtain rfl:B=true:=by rw [←HB.out];exact dT_ (.inl q1)
     clear HB;go_wp2_with fail
     go_meet
     case rel=>exact ⟨rfl,rfl⟩
    ·have g1:decide ((m:Int)<1)=false:=dF_ (by omega);by_cases q2:m > 19
     ·have g2:decide ((19:Int)<(m:Int))=true:=dT_ (by omega);obtain rfl:B=true:=by rw [←HB.out];exact dT_ (.inr (.inl q2))
      clear HB;go_wp2_with fail
      go_meet
      case rel=>exact ⟨rfl,rfl⟩
     ·have g2:decide ((19:Int)<(m:Int))=false:=dF_ (by omega);have i3:=fun W=>run_at_str hz (show 0<m by omega) W
      rw [kx_kstr,show ((0:Nat):Int)=0 from rfl] at i3
      have hh:(t.head?=some 48)↔(t.getD 0 0).toNat=48:=by
       cases t with
       | nil=>have:=Hm.out;simp at this;omega
       | cons a r =>
        simp only [List.head?_cons,Option.some.injEq,List.getD_cons_zero];constructor
        ·rintro rfl;rfl
        ·intro e;exact UInt8.toNat_inj.1 e
      have HB2:decide (m<1∨m > 19∨((t.getD 0 0).toNat=48∧(m > 1∨false=true)))=B:=by rw [←HB.out];exact decide_eq_decide.2 (by rw [hh])
      have HB:=h_ HB2;clear hh HB2;rw [Hy0.out] at i3 HB;obtain ⟨y,rfl⟩:∃y,y=y0:=⟨_,rfl⟩;by_cases q3:y=48
      ·have g3:((y:Int)==48)=true:=by rw [q3];rfl
       by_cases q4:m > 1
       ·have g4:decide ((1:Int)<(m:Int))=true:=dT_ (by omega);obtain rfl:B=true:=by rw [←HB.out];exact dT_ (.inr (.inr ⟨q3,.inl q4⟩))
        clear HB q3;go_wp2_with fail
        go_meet
        case rel=>exact ⟨rfl,rfl⟩
       ·have g4:decide ((1:Int)<(m:Int))=false:=dF_ (by omega)
        obtain rfl:B=false:=by
         rw [←HB.out,Bool.eq_iff_iff,decide_eq_true_eq];constructor
         ·rintro (h | h | ⟨_,h | h⟩)
          ·omega
          ·omega
          ·omega
          ·exact h
         ·intro h;exact .inr (.inr ⟨q3,.inr h⟩)
        clear HB q3;go_wp2_with fail
        go_meet
        case rel=>exact ⟨rfl,rfl⟩
      ·have g3:((y:Int)==48)=false:=by simp;omega
       obtain rfl:B=false:=by rw [←HB.out];exact dF_ (by omega)
       clear HB q3;go_wp2_with fail
       go_meet
       case rel=>exact ⟨rfl,rfl⟩
   case rest =>
    obtain ⟨rfl,hwc⟩:=hcut;have hwc2:w=wc:=hwc.symm;subst hwc2
    cases B with
    | true =>
     have HN:Hid (magF t false=none):=by show _=_;rw [HMGE.out,if_pos rfl]
     clear HMGE HB;go_wp2_with fail
     go_ret2;exact ⟨by rw [←Hz1.out,←Hz2.out,HR.out,HN.out];rfl,rfl⟩
    | false =>
     have HMG:Hid (magF t false=if t.all isDg then if digF t 0 > limF false then none else some (sgnF false (digF t 0)) else none):=by show _=_;rw [HMGE.out,if_neg (by decide)]
     have hm19:m≤19:=by
      have:=HB.out;rw [decide_eq_false_iff_not] at this;omega
     clear HMGE HB;go_wp2_with fail
     go_loopg [6,7] m (fun g a b wr=>∃k:Nat,Hid (g=m - k)∧k≤m∧b=.int .i64 k∧a=.int .u64 (digF (t.take k) 0)∧Hid ((t.take k).all isDg=true)∧wr=w)
     case atStart=>exact ⟨0,rfl,by omega,rfl,rfl,rfl,rfl⟩
     case round =>
      obtain ⟨k,Hg,hk,rfl,rfl,HA,hw⟩:=hrel;subst hw;have hlt18:=dig_lt (t.take k).length (t.take k) rfl HA.out;have hkl:(t.take k).length=k:=by rw [List.length_take,Hm.out];omega
      rw [hkl] at hlt18;obtain ⟨n,Hdn⟩:=nm (digF (t.take k) 0);rw [Hdn.out] at hlt18 ⊢;by_cases hlt:k<m
      ·have ti:decide ((k:Int)<(m:Int))=true:=dT_ (by omega)
       have hn18:n<1000000000000000000:=by
        have : (10:Nat) ^ k≤10 ^ 18:=Nat.pow_le_pow_right (by omega) (by omega);omega
       have hkt:k<t.length:=by rw [Hm.out];exact hlt
       have i1:=fun W=>run_at_str hz hlt W
       rw [kx_kstr] at i1;have HT:=h_ (take_dig hkt);obtain ⟨c,Hc⟩:=nm (t.getD k 0);rw [Hc.out] at i1 HT;have HD:Hid (isDg c=decide (48≤c.toNat∧c.toNat≤57)):=rfl;have HDG:=h_ (digF_snoc (t.take k) c);rw [←HT.out,Hdn.out] at HDG;have HAL:Hid ((t.take (k+1)).all isDg=isDg c):=by show _=_;rw [HT.out,List.all_append,HA.out];simp
       have HNO:Hid (isDg c=false→magF t false=none):=fun q=>by
        rw [HMG.out];rw [if_neg];intro q2;rw [List.all_eq_true] at q2;have : c∈t:=by rw [←Hc.out,getD_of hkt];exact List.getElem_mem _
        rw [q2 c this] at q;cases q
       generalize c.toNat=y at i1 HD HDG;obtain ⟨dg,Hdg⟩:=nm (isDg c);rw [Hdg.out] at HD HAL HNO;clear hlt18 hkl HT HA;by_cases hy1:y<48
       ·have f1:decide ((y:Int)<48)=true:=dT_ (by omega);obtain rfl:dg=false:=by rw [HD.out];exact dF_ (by omega)
        have HN:=h_ (HNO.out rfl);clear hy1 HD HDG HAL HNO;go_wp2_with fail
        go_ret2;exact ⟨by rw [←Hz1.out,←Hz2.out,HR.out,HN.out];rfl,rfl⟩
       ·have f1:decide ((y:Int)<48)=false:=dF_ (by omega);by_cases hy2:57<y
        ·have f2:decide ((57:Int)<(y:Int))=true:=dT_ (by omega);obtain rfl:dg=false:=by rw [HD.out];exact dF_ (by omega)
         have HN:=h_ (HNO.out rfl);clear hy1 hy2 HD HDG HAL HNO;go_wp2_with fail
         go_ret2;exact ⟨by rw [←Hz1.out,←Hz2.out,HR.out,HN.out];rfl,rfl⟩
        ·have f2:decide ((57:Int)<(y:Int))=false:=dF_ (by omega);obtain rfl:dg=true:=by rw [HD.out];exact dT_ (by omega)
         have w1:IntKind.u64.wrap (10 * (n:Int))=10 * (n:Int):=by rw [IntKind.wrap_u64];omega
         have w2:IntKind.u8.wrap ((y:Int) - 48)=(y:Int) - 48:=by rw [IntKind.wrap_u8];omega
         have w3:IntKind.u64.wrap ((y:Int) - 48)=(y:Int) - 48:=by rw [IntKind.wrap_u64];omega
         have w4:IntKind.u64.wrap (10 * (n:Int)+((y:Int) - 48))=10 * (n:Int)+((y:Int) - 48):=by rw [IntKind.wrap_u64];omega
         have hy3:48≤y:=by omega
         clear HD HNO;go_wp2_with fail
         go_roundg (m - (k+1))
         case measure=>rw [Hg.out];omega
         case rel=>exact ⟨k+1,rfl,by omega,by go_num,by rw [HDG.out];congr 1;omega,HAL.out,rfl⟩
      ·have HKM:Hid (m=k):=by show _=_;omega
       have hall:t.all isDg=true:=by
        have:=HA.out
        rwa [List.take_of_length_le (by rw [Hm.out,HKM.out];exact Nat.le_refl _)] at this
       have HM:Hid (magF t false=if n > limF false then none else some (sgnF false n)):=by
        show _=_;rw [HMG.out,if_pos hall,←Hdn.out,List.take_of_length_le (by rw [Hm.out,HKM.out];exact Nat.le_refl _)]
       have ti:decide ((k:Int)<(m:Int))=false:=dF_ (by omega)
       have hn19:n<10000000000000000000:=by
        have : (10:Nat) ^ k≤10 ^ 19:=Nat.pow_le_pow_right (by omega) (by omega);omega
       clear hall HMG HA hlt18 hkl;by_cases hb:n > 9223372036854775807
       ·have fb:decide ((9223372036854775807:Int)<(n:Int))=true:=dT_ (by omega);have HN:Hid (magF t false=none):=by show _=_;rw [HM.out,if_pos (show n > limF false from hb)]
        clear HM;go_wp2_with fail
        go_ret2;exact ⟨by rw [←Hz1.out,←Hz2.out,HR.out,HN.out];rfl,rfl⟩
       ·have fb:decide ((9223372036854775807:Int)<(n:Int))=false:=dF_ (by omega);have HN:Hid (magF t false=some (n:Int)):=by show _=_;rw [HM.out,if_neg (show ¬n > limF false from hb)];rfl
        have w5:wrap64 (n:Int)=(n:Int):=by rw [wrap64];omega
        clear HM;go_wp2_with fail
        go_ret2;exact ⟨by rw [←Hz1.out,←Hz2.out,HR.out,HN.out];rfl,rfl⟩
 ·have f0:decide ((0:Int)<(n0:Int))=false:=dF_ (by omega);obtain rfl:neg=false:=by rw [HNG.out];exact dF_ (fun q=>h0 q.1)
  have het:t=s:=by rw [←Ht.out];simp
  obtain rfl:m=n0:=by rw [←Hn0.out,←Hm.out,het]
  rw [←het];clear hz0 het;clear HNG Hneg;go_enter Tryz.func96,Tryz.ntmps96
  go_upto_region 5 with fail
  go_cut [41] (fun s wx=>s=.bool B∧wx=w)
  case first =>
   clear HMGE HR Ht;by_cases q1:m<1
   ·have g1:decide ((m:Int)<1)=true:=dT_ (by omega);obtain rfl:B=true:=by rw [←HB.out];exact dT_ (.inl q1)
    clear HB;go_wp2_with fail
    go_meet
    case rel=>exact ⟨rfl,rfl⟩
   ·have g1:decide ((m:Int)<1)=false:=dF_ (by omega);by_cases q2:m > 19
    ·have g2:decide ((19:Int)<(m:Int))=true:=dT_ (by omega);obtain rfl:B=true:=by rw [←HB.out];exact dT_ (.inr (.inl q2))
     clear HB;go_wp2_with fail
     go_meet
     case rel=>exact ⟨rfl,rfl⟩
    ·have g2:decide ((19:Int)<(m:Int))=false:=dF_ (by omega);have i3:=fun W=>run_at_str hz (show 0<m by omega) W
     rw [kx_kstr,show ((0:Nat):Int)=0 from rfl] at i3
     have hh:(t.head?=some 48)↔(t.getD 0 0).toNat=48:=by
      cases t with
      | nil=>have:=Hm.out;simp at this;omega
      | cons a r =>
       simp only [List.head?_cons,Option.some.injEq,List.getD_cons_zero];constructor
       ·rintro rfl;rfl
       ·intro e;exact UInt8.toNat_inj.1 e
     have HB2:decide (m<1∨m > 19∨((t.getD 0 0).toNat=48∧(m > 1∨false=true)))=B:=by rw [←HB.out];exact decide_eq_decide.2 (by rw [hh])
     have HB:=h_ HB2;clear hh HB2;generalize (t.getD 0 0).toNat=y at i3 HB;by_cases q3:y=48
     ·have g3:((y:Int)==48)=true:=by rw [q3];rfl
      by_cases q4:m > 1
      ·have g4:decide ((1:Int)<(m:Int))=true:=dT_ (by omega);obtain rfl:B=true:=by rw [←HB.out];exact dT_ (.inr (.inr ⟨q3,.inl q4⟩))
       clear HB q3;go_wp2_with fail
       go_meet
       case rel=>exact ⟨rfl,rfl⟩
      ·have g4:decide ((1:Int)<(m:Int))=false:=dF_ (by omega)
       obtain rfl:B=false:=by
        rw [←HB.out,Bool.eq_iff_iff,decide_eq_true_eq];constructor
        ·rintro (h | h | ⟨_,h | h⟩)
         ·omega
         ·omega
         ·omega
         ·exact h
        ·intro h;exact .inr (.inr ⟨q3,.inr h⟩)
       clear HB q3;go_wp2_with fail
       go_meet
       case rel=>exact ⟨rfl,rfl⟩
     ·have g3:((y:Int)==48)=false:=by simp;omega
      obtain rfl:B=false:=by rw [←HB.out];exact dF_ (by omega)
      clear HB q3;go_wp2_with fail
      go_meet
      case rel=>exact ⟨rfl,rfl⟩
  case rest =>
   obtain ⟨rfl,hwc⟩:=hcut;have hwc2:w=wc:=hwc.symm;subst hwc2
   cases B with
   | true =>
    have HN:Hid (magF t false=none):=by show _=_;rw [HMGE.out,if_pos rfl]
    clear HMGE HB;go_wp2_with fail
    go_ret2;exact ⟨by rw [←Hz1.out,←Hz2.out,HR.out,HN.out];rfl,rfl⟩
   | false =>
    have HMG:Hid (magF t false=if t.all isDg then if digF t 0 > limF false then none else some (sgnF false (digF t 0)) else none):=by show _=_;rw [HMGE.out,if_neg (by decide)]
    have hm19:m≤19:=by
     have:=HB.out;rw [decide_eq_false_iff_not] at this;omega
    clear HMGE HB;go_wp2_with fail
    go_loopg [6,7] m (fun g a b wr=>∃k:Nat,Hid (g=m - k)∧k≤m∧b=.int .i64 k∧a=.int .u64 (digF (t.take k) 0)∧Hid ((t.take k).all isDg=true)∧wr=w)
    case atStart=>exact ⟨0,rfl,by omega,rfl,rfl,rfl,rfl⟩
    case round =>
     obtain ⟨k,Hg,hk,rfl,rfl,HA,hw⟩:=hrel;subst hw;have hlt18:=dig_lt (t.take k).length (t.take k) rfl HA.out;have hkl:(t.take k).length=k:=by rw [List.length_take,Hm.out];omega
     rw [hkl] at hlt18;obtain ⟨n,Hdn⟩:=nm (digF (t.take k) 0);rw [Hdn.out] at hlt18 ⊢;by_cases hlt:k<m
     ·have ti:decide ((k:Int)<(m:Int))=true:=dT_ (by omega)
      have hn18:n<1000000000000000000:=by
       have : (10:Nat) ^ k≤10 ^ 18:=Nat.pow_le_pow_right (by omega) (by omega);omega
      have hkt:k<t.length:=by rw [Hm.out];exact hlt
      have i1:=fun W=>run_at_str hz hlt W
      rw [kx_kstr] at i1;have HT:=h_ (take_dig hkt);obtain ⟨c,Hc⟩:=nm (t.getD k 0);rw [Hc.out] at i1 HT;have HD:Hid (isDg c=decide (48≤c.toNat∧c.toNat≤57)):=rfl;have HDG:=h_ (digF_snoc (t.take k) c);rw [←HT.out,Hdn.out] at HDG;have HAL:Hid ((t.take (k+1)).all isDg=isDg c):=by show _=_;rw [HT.out,List.all_append,HA.out];simp
      have HNO:Hid (isDg c=false→magF t false=none):=fun q=>by
       rw [HMG.out];rw [if_neg];intro q2;rw [List.all_eq_true] at q2;have : c∈t:=by rw [←Hc.out,getD_of hkt];exact List.getElem_mem _
       rw [q2 c this] at q;cases q
      generalize c.toNat=y at i1 HD HDG;obtain ⟨dg,Hdg⟩:=nm (isDg c);rw [Hdg.out] at HD HAL HNO;clear hlt18 hkl HT HA;by_cases hy1:y<48
      ·have f1:decide ((y:Int)<48)=true:=dT_ (by omega);obtain rfl:dg=false:=by rw [HD.out];exact dF_ (by omega)
       have HN:=h_ (HNO.out rfl);clear hy1 HD HDG HAL HNO;go_wp2_with fail
       go_ret2;exact ⟨by rw [←Hz1.out,←Hz2.out,HR.out,HN.out];rfl,rfl⟩
      ·have f1:decide ((y:Int)<48)=false:=dF_ (by omega);by_cases hy2:57<y
       ·have f2:decide ((57:Int)<(y:Int))=true:=dT_ (by omega);obtain rfl:dg=false:=by rw [HD.out];exact dF_ (by omega)
        have HN:=h_ (HNO.out rfl);clear hy1 hy2 HD HDG HAL HNO;go_wp2_with fail
        go_ret2;exact ⟨by rw [←Hz1.out,←Hz2.out,HR.out,HN.out];rfl,rfl⟩
       ·have f2:decide ((57:Int)<(y:Int))=false:=dF_ (by omega);obtain rfl:dg=true:=by rw [HD.out];exact dT_ (by omega)
        have w1:IntKind.u64.wrap (10 * (n:Int))=10 * (n:Int):=by rw [IntKind.wrap_u64];omega
        have w2:IntKind.u8.wrap ((y:Int) - 48)=(y:Int) - 48:=by rw [IntKind.wrap_u8];omega
        have w3:IntKind.u64.wrap ((y:Int) - 48)=(y:Int) - 48:=by rw [IntKind.wrap_u64];omega
        have w4:IntKind.u64.wrap (10 * (n:Int)+((y:Int) - 48))=10 * (n:Int)+((y:Int) - 48):=by rw [IntKind.wrap_u64];omega
        have hy3:48≤y:=by omega
        clear HD HNO;go_wp2_with fail
        go_roundg (m - (k+1))
        case measure=>rw [Hg.out];omega
        case rel=>exact ⟨k+1,rfl,by omega,by go_num,by rw [HDG.out];congr 1;omega,HAL.out,rfl⟩
     ·have HKM:Hid (m=k):=by show _=_;omega
      have hall:t.all isDg=true:=by
       have:=HA.out
       rwa [List.take_of_length_le (by rw [Hm.out,HKM.out];exact Nat.le_refl _)] at this
      have HM:Hid (magF t false=if n > limF false then none else some (sgnF false n)):=by
       show _=_;rw [HMG.out,if_pos hall,←Hdn.out,List.take_of_length_le (by rw [Hm.out,HKM.out];exact Nat.le_refl _)]
      have ti:decide ((k:Int)<(m:Int))=false:=dF_ (by omega)
      have hn19:n<10000000000000000000:=by
       have : (10:Nat) ^ k≤10 ^ 19:=Nat.pow_le_pow_right (by omega) (by omega);omega
      clear hall HMG HA hlt18 hkl;by_cases hb:n > 9223372036854775807
      ·have fb:decide ((9223372036854775807:Int)<(n:Int))=true:=dT_ (by omega);have HN:Hid (magF t false=none):=by show _=_;rw [HM.out,if_pos (show n > limF false from hb)]
       clear HM;go_wp2_with fail
       go_ret2;exact ⟨by rw [←Hz1.out,←Hz2.out,HR.out,HN.out];rfl,rfl⟩
      ·have fb:decide ((9223372036854775807:Int)<(n:Int))=false:=dF_ (by omega);have HN:Hid (magF t false=some (n:Int)):=by show _=_;rw [HM.out,if_neg (show ¬n > limF false from hb)];rfl
       have w5:wrap64 (n:Int)=(n:Int):=by rw [wrap64];omega
       clear HM;go_wp2_with fail
       go_ret2;exact ⟨by rw [←Hz1.out,←Hz2.out,HR.out,HN.out];rfl,rfl⟩
def sCells (L:List Bs):List Value:=L.map fun s=>Value.string (kstr s)
theorem Sl.new' (w:World) (t:TypeId) (cs:List Value) {a:Array Value} (h:a=cs.toArray):Sl (w.alloc (.cells a t)) (fun _=>True) (some ⟨w.heap.size,0,none⟩) cs:=by
 subst h;exact (Sl.new w t cs).mono (fun _ _ _=>trivial)
theorem nameL_len:nameL.length=28:=rfl
set_option maxRecDepth 100000 in
theorem tnames_c (w:World):Calls Tryz.prog 103 #[] w fun e w'=>e=.returned (.slice (some ⟨w.heap.size,0,none⟩) 28 28)∧Sl w' (fun _=>True) (some ⟨w.heap.size,0,none⟩) (sCells nameL)∧Upd Non w w':=by
 go_enter Tryz.func103,Tryz.ntmps103;go_wp2_with fail
 go_ret;exact ⟨rfl,Sl.new' w _ _ rfl,Upd.refl.alloc _⟩
theorem findL_step {l:List Bs} {k:Nat} (h:k<l.length) (s:Bs) (i:Nat):findL (l.drop k) s i=if l[k]=s then some i else findL (l.drop (k+1)) s (i+1):=by
 rw [List.drop_eq_getElem_cons h];rfl
set_option maxRecDepth 100000 in
set_option maxHeartbeats 1000000 in
theorem tOp_c (s:Bs) (w:World):Calls Tryz.prog 128 #[.string (kstr s)] w fun e w'=>e=.returned (.tuple #[.int .i64 ((opF s).getD 0),.bool (opF s).isSome])∧Upd Non w w':=by
 have C:=h_ (tnames_c w);have HO:Hid (opF s=(findL nameL s 0).map (4+·)):=rfl;obtain ⟨r,Hr⟩:=nm (opF s);rw [Hr.out] at HO;rw [Hr.out];obtain ⟨z1,Hz1⟩:=nm (r.getD 0);obtain ⟨z2,Hz2⟩:=nm r.isSome;rw [Hz1.out,Hz2.out];obtain ⟨str,Hstr⟩:=nm (kstr s);rw [Hstr.out];go_enter Tryz.func128,Tryz.ntmps128;go_wp2_with fail
 refine C.out.mono ?_;rintro e W ⟨rfl,hs,hu⟩;clear C;go_wp2_with fail
 obtain ⟨A,HA⟩:=nm (some (⟨w.heap.size,0,none⟩:Addr));rw [HA.out] at hs ⊢
 go_loopg [8] 28 (fun g i wr=>∃k:Nat,Hid (g=28 - k)∧k≤28∧i=.int .i64 k∧Hid (findL nameL s 0=findL (nameL.drop k) s k)∧wr=W)
 case atStart=>exact ⟨0,rfl,by omega,rfl,rfl,rfl⟩
 case round =>
  obtain ⟨k,Hg,hk,rfl,HK,hw⟩:=hrel;subst hw;by_cases hlt:k<28
  ·have ti:decide ((k:Int)<28)=true:=dT_ (by omega);have hkl:k<nameL.length:=hlt;obtain ⟨b,o,rfl,_,_,hc⟩:=hs.at_ (k:=k) (by simpa [sCells] using hkl);have HF:=h_ (findL_step hkl s k);have hc2:wr.cell? ⟨b,o+k,none⟩=some (.string (kstr nameL[k])):=by rw [hc];simp [sCells]
   generalize nameL[k]=nk at hc2 HF;have hq:((kstr nk).toList==str.toList)=decide (nk=s):=by rw [←Hstr.out,str_beq]
   obtain ⟨nks,Hnks⟩:=nm (kstr nk);rw [Hnks.out] at hc2 hq;clear hc hs;by_cases he:nk=s
   ·rw [dT_ he] at hq;have HR:Hid (r=some (4+k)):=by show _=_;rw [HO.out,HK.out,HF.out,if_pos he];rfl
    clear he HF HK HO;go_wp2_with fail
    go_ret2;exact ⟨by rw [←Hz1.out,←Hz2.out,HR.out];rfl,hu⟩
   ·rw [dF_ he] at hq;have HK2:Hid (findL nameL s 0=findL (nameL.drop (k+1)) s (k+1)):=by show _=_;rw [HK.out,HF.out,if_neg he]
    clear he HF HK;go_wp2_with fail
    go_roundg (28 - (k+1))
    case measure=>rw [Hg.out];omega
    case rel=>exact ⟨k+1,rfl,by omega,by go_num,HK2,rfl⟩
  ·obtain rfl:k=28:=by omega
   have HR:Hid (r=none):=by show _=_;rw [HO.out,HK.out,List.drop_of_length_le (by rw [nameL_len];exact Nat.le_refl _)];rfl
   clear HK HO;go_wp2_with fail
   go_ret2;exact ⟨by rw [←Hz1.out,←Hz2.out,HR.out];rfl,hu⟩
set_option maxHeartbeats 1000000 in
theorem rArity_c (op:Int) (w:World):Calls Tryz.prog 118 #[.int .i64 op] w fun e w'=>e=.returned (.tuple #[.int .i64 ((arF op).getD 0),.bool (arF op).isSome])∧w'=w:=by
 have HA:Hid (arF op=if op=24∨op=20∨op=21 then some 1 else if op=22∨op=28 then some 3 else if (4≤op∧op≤23)∨op=27∨op=29 then some 2 else none):=rfl
 obtain ⟨r,Hr⟩:=nm (arF op);rw [Hr.out] at HA;rw [Hr.out];obtain ⟨z1,Hz1⟩:=nm (r.getD 0);obtain ⟨z2,Hz2⟩:=nm r.isSome;rw [Hz1.out,Hz2.out];by_cases h24:op=24
 ·have f24:(op==24)=true:=by rw [h24];rfl
  have HR:Hid (r=some 1):=by show _=_;rw [HA.out,if_pos (by omega)]
  clear HA;go_enter Tryz.func118,Tryz.ntmps118;go_wp2_with fail
  go_ret2;exact ⟨by rw [←Hz1.out,←Hz2.out,HR.out];rfl,rfl⟩
 ·have f24:(op==24)=false:=by simpa using h24
  by_cases h20:op=20
  ·have f20:(op==20)=true:=by rw [h20];rfl
   have HR:Hid (r=some 1):=by show _=_;rw [HA.out,if_pos (by omega)]
   clear HA;go_enter Tryz.func118,Tryz.ntmps118;go_wp2_with fail
   go_ret2;exact ⟨by rw [←Hz1.out,←Hz2.out,HR.out];rfl,rfl⟩
  ·have f20:(op==20)=false:=by simpa using h20
   by_cases h21:op=21
   ·have f21:(op==21)=true:=by rw [h21];rfl
    have HR:Hid (r=some 1):=by show _=_;rw [HA.out,if_pos (by omega)]
    clear HA;go_enter Tryz.func118,Tryz.ntmps118;go_wp2_with fail
    go_ret2;exact ⟨by rw [←Hz1.out,←Hz2.out,HR.out];rfl,rfl⟩
   ·have f21:(op==21)=false:=by simpa using h21
    by_cases h22:op=22
    ·have f22:(op==22)=true:=by rw [h22];rfl
     have HR:Hid (r=some 3):=by show _=_;rw [HA.out,if_neg (by omega),if_pos (by omega)]
     clear HA;go_enter Tryz.func118,Tryz.ntmps118;go_wp2_with fail
     go_ret2;exact ⟨by rw [←Hz1.out,←Hz2.out,HR.out];rfl,rfl⟩
    ·have f22:(op==22)=false:=by simpa using h22
     by_cases h28:op=28
     ·have f28:(op==28)=true:=by rw [h28];rfl
      have HR:Hid (r=some 3):=by show _=_;rw [HA.out,if_neg (by omega),if_pos (by omega)]
      clear HA;go_enter Tryz.func118,Tryz.ntmps118;go_wp2_with fail
      go_ret2;exact ⟨by rw [←Hz1.out,←Hz2.out,HR.out];rfl,rfl⟩
     ·have f28:(op==28)=false:=by simpa using h28
      by_cases g1:4≤op
      ·have e1:decide ((4:Int)≤op)=true:=dT_ g1;by_cases g2:op≤23
       ·have e2:decide (op≤(23:Int))=true:=dT_ g2;have HR:Hid (r=some 2):=by show _=_;rw [HA.out,if_neg (by omega),if_neg (by omega),if_pos (by omega)]
        clear HA;go_enter Tryz.func118,Tryz.ntmps118;go_wp2_with fail
        go_ret2;exact ⟨by rw [←Hz1.out,←Hz2.out,HR.out];rfl,rfl⟩
       ·have e2:decide (op≤(23:Int))=false:=dF_ g2;by_cases h27:op=27
        ·have f27:(op==27)=true:=by rw [h27];rfl
         have HR:Hid (r=some 2):=by show _=_;rw [HA.out,if_neg (by omega),if_neg (by omega),if_pos (by omega)]
         clear HA;go_enter Tryz.func118,Tryz.ntmps118;go_wp2_with fail
         go_ret2;exact ⟨by rw [←Hz1.out,←Hz2.out,HR.out];rfl,rfl⟩
        ·have f27:(op==27)=false:=by simpa using h27
         by_cases h29:op=29
         ·have f29:(op==29)=true:=by rw [h29];rfl
          have HR:Hid (r=some 2):=by show _=_;rw [HA.out,if_neg (by omega),if_neg (by omega),if_pos (by omega)]
          clear HA;go_enter Tryz.func118,Tryz.ntmps118;go_wp2_with fail
          go_ret2;exact ⟨by rw [←Hz1.out,←Hz2.out,HR.out];rfl,rfl⟩
         ·have f29:(op==29)=false:=by simpa using h29
          have HR:Hid (r=none):=by show _=_;rw [HA.out,if_neg (by omega),if_neg (by omega),if_neg (by omega)]
          clear HA;go_enter Tryz.func118,Tryz.ntmps118;go_wp2_with fail
          go_ret2;exact ⟨by rw [←Hz1.out,←Hz2.out,HR.out];rfl,rfl⟩
      ·have e1:decide ((4:Int)≤op)=false:=dF_ g1;have f27:(op==27)=false:=by simp;omega
       have f29:(op==29)=false:=by simp;omega
       have HR:Hid (r=none):=by show _=_;rw [HA.out,if_neg (by omega),if_neg (by omega),if_neg (by omega)]
       clear HA;go_enter Tryz.func118,Tryz.ntmps118;go_wp2_with fail
       go_ret2;exact ⟨by rw [←Hz1.out,←Hz2.out,HR.out];rfl,rfl⟩
theorem rHasImm_c (op:Int) (w:World):Calls Tryz.prog 76 #[.int .i64 op] w fun e w'=>e=.returned (.bool (immOp op))∧w'=w:=by
 have HA:Hid (immOp op=decide (op=23∨op=27∨op=28)):=rfl;obtain ⟨r,Hr⟩:=nm (immOp op);rw [Hr.out] at HA;rw [Hr.out];by_cases h1:op=23
 ·have f1:(op==23)=true:=by rw [h1];rfl
  obtain rfl:r=true:=by rw [HA.out];exact dT_ (by omega)
  go_enter Tryz.func76,Tryz.ntmps76;go_wp2_with fail
  go_ret;exact ⟨rfl,rfl⟩
 ·have f1:(op==23)=false:=by simpa using h1
  by_cases h2:op=27
  ·have f2:(op==27)=true:=by rw [h2];rfl
   obtain rfl:r=true:=by rw [HA.out];exact dT_ (by omega)
   go_enter Tryz.func76,Tryz.ntmps76;go_wp2_with fail
   go_ret;exact ⟨rfl,rfl⟩
  ·have f2:(op==27)=false:=by simpa using h2
   obtain ⟨b,f3⟩:∃b,(op==28)=b:=⟨_,rfl⟩
   obtain rfl:r=b:=by
    rw [HA.out,←f3,Bool.eq_iff_iff,beq_iff_eq,decide_eq_true_eq];omega
   go_enter Tryz.func76,Tryz.ntmps76;go_wp2_with fail
   go_ret;exact ⟨rfl,rfl⟩
structure Keeps (w:World) (p:Nat) (x y:St):Prop where
 i:y.i=x.i
 why:y.why=x.why
 ea:y.ea=x.ea
 left:y.left=x.left
 own:∀k,y.own p k→x.own p k∨w.heap.size≤k
theorem Keeps.refl {w:World} {p:Nat} {x:St}:Keeps w p x x:=⟨rfl,rfl,rfl,rfl,fun _ h=>.inl h⟩
theorem varF_short {s:Bs} (h:s.length≠2) (c:Nat) (l:Bs) (left:Bool):varF s c l left=(0,l):=by
 match s,h with
 | [],_=>rfl
 | [_],_=>rfl
 | _::_::_::_,_=>rfl
theorem rLookV_c {w:World} {p:Nat} {A:Option Addr} {c:Nat} {L:List Tok} {x:St} (h:RdS w p A c L x) (hn:x.vs.length≤100000) (ch:UInt8) (left:Bool) :
  Calls Tryz.prog 120 #[.pointer (some ⟨p,4,none⟩),.int .u8 ch.toNat,.bool left] w fun e w'=>e=.returned (.int .i64 (lookF x.vs ch left).1)∧∃y,RdS w' p A c L y∧y.vs=(lookF x.vs ch left).2∧y.ms=x.ms∧Keeps w p x y∧Upd (x.own p) w w':=by
 refine (rLookup_c w p 4 59 _ x.va x.vc x.vs h.blk rfl h.v h.vp ch left hn).mono ?_;rintro e w' ⟨rfl,VA,vc,hb,hv,hat,hu⟩;refine ⟨rfl,{ x with va:=VA,vc:=vc,vs:=(lookF x.vs ch left).2 },⟨hb,?_,h.le,hv,(h.m.upd hu (fun k hk q=>by rcases q with q | q;exact h.mp (q ▸ hk);exact h.vm k q hk)),?_,?_,?_⟩,rfl,rfl,⟨rfl,rfl,rfl,rfl,?_⟩,?_⟩
 ·exact h.tok.upd hu (fun k hk hp q=>by
   rcases q with q | q
   ·omega
   ·have:=h.vlt k q;omega)
 ·exact fun k hk q=>by rcases hat k hk with r | r;exact h.vm k r q;have:=h.m.lt q;omega
 ·exact fun k hk=>by rcases hat k hk with r | r;exact h.vlt k r;have:=h.blk.lt;omega
 ·exact h.mlt
 ·rintro k (q | q | q)
  ·exact .inl (.inl q)
  ·exact (hat k q).imp_left (fun r=>.inr (.inl r))
  ·exact .inl (.inr (.inr q))
 ·exact hu.mono (fun k _ q=>by
   rcases q with q | q
   ·exact .inl q
   ·exact .inr (.inl q))
set_option maxHeartbeats 1000000 in
theorem rVarV_c {w:World} {p:Nat} {A:Option Addr} {c:Nat} {L:List Tok} {x:St} (h:RdS w p A c L x) (hn:x.vs.length≤100000) (s:Bs) (cc:UInt8) (hs:s.length≤1000000) :
  Calls Tryz.prog 97 #[.pointer (some ⟨p,0,none⟩),.string (kstr s),.int .u8 cc.toNat,.pointer (some ⟨p,4,none⟩)] w fun e w'=>e=.returned (.int .i64 (varF s cc.toNat x.vs x.left).1)∧∃y,RdS w' p A c L y∧y.vs=(varF s cc.toNat x.vs x.left).2∧y.ms=x.ms∧Keeps w p x y∧Upd (x.own p) w w':=by
 have hz:(kstr s).size=s.length:=kstr_size s;by_cases h2:s.length=2
 ·match s,h2 with
  | [a,b],_ =>
   have i0:=fun W=>run_at_str hz (show 0<2 by omega) W
   have i1:=fun W=>run_at_str hz (show 1<2 by omega) W
   rw [kx_kstr,show ([a,b]:Bs).getD 0 0=a from rfl,show ((0:Nat):Int)=0 from rfl] at i0;rw [kx_kstr,show ([a,b]:Bs).getD 1 0=b from rfl,show ((1:Nat):Int)=1 from rfl] at i1;rw [show ([a,b]:Bs).length=2 from rfl] at hz;have HV:Hid (varF [a,b] cc.toNat x.vs x.left=if a.toNat=cc.toNat∧isLw b=true then lookF x.vs b x.left else (0,x.vs)):=rfl;obtain ⟨str,Hstr⟩:=nm (kstr [a,b]);rw [Hstr.out] at hz i0 i1;rw [Hstr.out];by_cases ha:a.toNat=cc.toNat
   ·have f0:(((a.toNat:Nat):Int) != ((cc.toNat:Nat):Int))=false:=by rw [ha];simp
    have CL:=h_ (rIsLower_c b w);obtain ⟨lw,Hlw⟩:=nm (isLw b);rw [Hlw.out] at CL HV
    cases lw with
    | true =>
     have HV2:Hid (varF [a,b] cc.toNat x.vs x.left=lookF x.vs b x.left):=by show _=_;rw [HV.out,if_pos ⟨ha,rfl⟩]
     obtain ⟨c0,c1,c2,c3,c4,c5,c6⟩:=h.cells;have H:=h_ h;clear ha HV h c0 c1 c2 c3 c4 c5;go_enter Tryz.func97,Tryz.ntmps97;go_wp2_with fail
     refine CL.out.mono ?_;rintro e w1 ⟨rfl,rfl⟩
     go_upto_region 3 with fail
     obtain ⟨wD,HwD⟩:=nm w1.drew;have uD:Upd Non w1 wD:=by rw [←HwD.out];exact Upd.refl.drew
     have C:=h_ (rLookV_c (H.out.non uD) hn b x.left);refine wp_region_held_drew (S:=fun w'=>w'.cell? ⟨p,6,none⟩=some (.bool x.left)) (by kernel_rfl) (by rw [HwD.out];exact u_ c6 uD (fun f=>f)) (fun hHeld=>?_)
     rw [HwD.out] at hHeld ⊢;refine wpT 0 ?_;(try simp only [y_,z_]);refine wpT 1 ?_;(try simp only [y_,z_]);refine wpT 2 ?_;(try simp only [y_,z_]);refine wpT 3 ?_;(try simp only [y_,z_]);refine wpT 4 ?_;(try simp only [y_,z_]);refine wpT 5 ?_;(try simp only [y_,z_]);refine wpT 6 ?_;(try simp only [y_,z_]);refine aR_ (rs:=[7]) (by kernel_rfl) (by simp) ?_;refine aC_ rfl (fun K hK=>?_) aN_;go_simp;refine C.out.mono ?_;rintro e w2 ⟨rfl,y,hy,hy1,hy2,hk,hu⟩;go_wp2_with fail
     have d6:=hy.cells.2.2.2.2.2.2;rw [hk.left] at d6;refine hK.out _ _ ?_ (fun hHeld=>?_)
     ·exact d6
     clear hK K;(try simp only [y_,z_]);refine wpT 8 ?_;(try simp only [y_,z_]);refine aD_ (by kernel_rfl) ?_ _;have hk2:Keeps w1 p x y:=⟨hk.i,hk.why,hk.ea,hk.left,fun k q=>(hk.own k q).imp_right (fun r=>Nat.le_trans uD.size r)⟩;have hu2:Upd (x.own p) w1 w2:=(uD.mono (fun _ _ f=>f.elim)).trans hu (fun _ _ h=>h);have hv2:=HV2.out;clear hHeld C CL;go_wp2_with fail
     go_ret;refine ⟨by rw [hv2];rfl,y,hy,by rw [hv2];exact hy1,hy2,hk2,hu2⟩
    | false =>
     have HV2:Hid (varF [a,b] cc.toNat x.vs x.left=(0,x.vs)):=by show _=_;rw [HV.out,if_neg (fun q=>by cases q.2)]
     have H:=h_ h;clear ha HV h;go_enter Tryz.func97,Tryz.ntmps97;go_wp2_with fail
     refine CL.out.mono ?_;rintro e w1 ⟨rfl,rfl⟩;go_wp2_with fail
     go_ret;exact ⟨by rw [HV2.out];rfl,x,H.out,by rw [HV2.out],rfl,Keeps.refl,Upd.refl⟩
   ·have f0:(((a.toNat:Nat):Int) != ((cc.toNat:Nat):Int))=true:=by simp;omega
    have HV2:Hid (varF [a,b] cc.toNat x.vs x.left=(0,x.vs)):=by show _=_;rw [HV.out,if_neg (fun q=>ha q.1)]
    have H:=h_ h;clear ha HV h;go_enter Tryz.func97,Tryz.ntmps97;go_wp2_with fail
    go_ret;exact ⟨by rw [HV2.out];rfl,x,H.out,by rw [HV2.out],rfl,Keeps.refl,Upd.refl⟩
 ·have hv:=varF_short h2 cc.toNat x.vs x.left;have HV:=h_ hv;have H:=h_ h;obtain ⟨n,Hn⟩:=nm s.length;rw [Hn.out] at hz hs h2;have f0:(((n:Nat):Int) != 2)=true:=by simp;omega
  obtain ⟨str,Hstr⟩:=nm (kstr s);rw [Hstr.out] at hz;rw [Hstr.out];clear hv h;go_enter Tryz.func97,Tryz.ntmps97;go_wp2_with fail
  go_ret;exact ⟨by rw [HV.out];rfl,x,H.out,by rw [HV.out],rfl,Keeps.refl,Upd.refl⟩
theorem rLookM_c {w:World} {p:Nat} {A:Option Addr} {c:Nat} {L:List Tok} {x:St} (h:RdS w p A c L x) (hn:x.ms.length≤100000) (ch:UInt8) (left:Bool) :
  Calls Tryz.prog 120 #[.pointer (some ⟨p,5,none⟩),.int .u8 ch.toNat,.bool left] w fun e w'=>e=.returned (.int .i64 (lookF x.ms ch left).1)∧∃y,RdS w' p A c L y∧y.ms=(lookF x.ms ch left).2∧y.vs=x.vs∧Keeps w p x y∧Upd (x.own p) w w':=by
 refine (rLookup_c w p 5 59 _ x.ma x.mc x.ms h.blk rfl h.m h.mp ch left hn).mono ?_;rintro e w' ⟨rfl,VA,vc,hb,hv,hat,hu⟩;refine ⟨rfl,{ x with ma:=VA,mc:=vc,ms:=(lookF x.ms ch left).2 },⟨hb,?_,h.le,(h.v.upd hu (fun k hk q=>by rcases q with q | q;exact h.vp (q ▸ hk);exact h.vm k hk q)),hv,?_,?_,?_⟩,rfl,rfl,⟨rfl,rfl,rfl,rfl,?_⟩,?_⟩
 ·exact h.tok.upd hu (fun k hk hp q=>by
   rcases q with q | q
   ·omega
   ·have:=h.mlt k q;omega)
 ·exact fun k hk q=>by rcases hat k q with r | r;exact h.vm k hk r;have:=h.v.lt hk;omega
 ·exact h.vlt
 ·exact fun k hk=>by rcases hat k hk with r | r;exact h.mlt k r;have:=h.blk.lt;omega
 ·rintro k (q | q | q)
  ·exact .inl (.inl q)
  ·exact .inl (.inr (.inl q))
  ·exact (hat k q).imp_left (fun r=>.inr (.inr r))
 ·exact hu.mono (fun k _ q=>by
   rcases q with q | q
   ·exact .inl q
   ·exact .inr (.inr q))
set_option maxHeartbeats 1000000 in
theorem rVarM_c {w:World} {p:Nat} {A:Option Addr} {c:Nat} {L:List Tok} {x:St} (h:RdS w p A c L x) (hn:x.ms.length≤100000) (s:Bs) (cc:UInt8) (hs:s.length≤1000000) :
  Calls Tryz.prog 97 #[.pointer (some ⟨p,0,none⟩),.string (kstr s),.int .u8 cc.toNat,.pointer (some ⟨p,5,none⟩)] w fun e w'=>e=.returned (.int .i64 (varF s cc.toNat x.ms x.left).1)∧∃y,RdS w' p A c L y∧y.ms=(varF s cc.toNat x.ms x.left).2∧y.vs=x.vs∧Keeps w p x y∧Upd (x.own p) w w':=by
 have hz:(kstr s).size=s.length:=kstr_size s;by_cases h2:s.length=2
 ·match s,h2 with
  | [a,b],_ =>
   have i0:=fun W=>run_at_str hz (show 0<2 by omega) W
   have i1:=fun W=>run_at_str hz (show 1<2 by omega) W
   rw [kx_kstr,show ([a,b]:Bs).getD 0 0=a from rfl,show ((0:Nat):Int)=0 from rfl] at i0;rw [kx_kstr,show ([a,b]:Bs).getD 1 0=b from rfl,show ((1:Nat):Int)=1 from rfl] at i1;rw [show ([a,b]:Bs).length=2 from rfl] at hz;have HV:Hid (varF [a,b] cc.toNat x.ms x.left=if a.toNat=cc.toNat∧isLw b=true then lookF x.ms b x.left else (0,x.ms)):=rfl;obtain ⟨str,Hstr⟩:=nm (kstr [a,b]);rw [Hstr.out] at hz i0 i1;rw [Hstr.out];by_cases ha:a.toNat=cc.toNat
   ·have f0:(((a.toNat:Nat):Int) != ((cc.toNat:Nat):Int))=false:=by rw [ha];simp
    have CL:=h_ (rIsLower_c b w);obtain ⟨lw,Hlw⟩:=nm (isLw b);rw [Hlw.out] at CL HV
    cases lw with
    | true =>
     have HV2:Hid (varF [a,b] cc.toNat x.ms x.left=lookF x.ms b x.left):=by show _=_;rw [HV.out,if_pos ⟨ha,rfl⟩]
     obtain ⟨c0,c1,c2,c3,c4,c5,c6⟩:=h.cells;have H:=h_ h;clear ha HV h c0 c1 c2 c3 c4 c5;go_enter Tryz.func97,Tryz.ntmps97;go_wp2_with fail
     refine CL.out.mono ?_;rintro e w1 ⟨rfl,rfl⟩
     go_upto_region 3 with fail
     obtain ⟨wD,HwD⟩:=nm w1.drew;have uD:Upd Non w1 wD:=by rw [←HwD.out];exact Upd.refl.drew
     have C:=h_ (rLookM_c (H.out.non uD) hn b x.left);refine wp_region_held_drew (S:=fun w'=>w'.cell? ⟨p,6,none⟩=some (.bool x.left)) (by kernel_rfl) (by rw [HwD.out];exact u_ c6 uD (fun f=>f)) (fun hHeld=>?_)
     rw [HwD.out] at hHeld ⊢;refine wpT 0 ?_;(try simp only [y_,z_]);refine wpT 1 ?_;(try simp only [y_,z_]);refine wpT 2 ?_;(try simp only [y_,z_]);refine wpT 3 ?_;(try simp only [y_,z_]);refine wpT 4 ?_;(try simp only [y_,z_]);refine wpT 5 ?_;(try simp only [y_,z_]);refine wpT 6 ?_;(try simp only [y_,z_]);refine aR_ (rs:=[7]) (by kernel_rfl) (by simp) ?_;refine aC_ rfl (fun K hK=>?_) aN_;go_simp;refine C.out.mono ?_;rintro e w2 ⟨rfl,y,hy,hy1,hy2,hk,hu⟩;go_wp2_with fail
     have d6:=hy.cells.2.2.2.2.2.2;rw [hk.left] at d6;refine hK.out _ _ ?_ (fun hHeld=>?_)
     ·exact d6
     clear hK K;(try simp only [y_,z_]);refine wpT 8 ?_;(try simp only [y_,z_]);refine aD_ (by kernel_rfl) ?_ _;have hk2:Keeps w1 p x y:=⟨hk.i,hk.why,hk.ea,hk.left,fun k q=>(hk.own k q).imp_right (fun r=>Nat.le_trans uD.size r)⟩;have hu2:Upd (x.own p) w1 w2:=(uD.mono (fun _ _ f=>f.elim)).trans hu (fun _ _ h=>h);have hv2:=HV2.out;clear hHeld C CL;go_wp2_with fail
     go_ret;refine ⟨by rw [hv2];rfl,y,hy,by rw [hv2];exact hy1,hy2,hk2,hu2⟩
    | false =>
     have HV2:Hid (varF [a,b] cc.toNat x.ms x.left=(0,x.ms)):=by show _=_;rw [HV.out,if_neg (fun q=>by cases q.2)]
     have H:=h_ h;clear ha HV h;go_enter Tryz.func97,Tryz.ntmps97;go_wp2_with fail
     refine CL.out.mono ?_;rintro e w1 ⟨rfl,rfl⟩;go_wp2_with fail
     go_ret;exact ⟨by rw [HV2.out];rfl,x,H.out,by rw [HV2.out],rfl,Keeps.refl,Upd.refl⟩
   ·have f0:(((a.toNat:Nat):Int) != ((cc.toNat:Nat):Int))=true:=by simp;omega
    have HV2:Hid (varF [a,b] cc.toNat x.ms x.left=(0,x.ms)):=by show _=_;rw [HV.out,if_neg (fun q=>ha q.1)]
    have H:=h_ h;clear ha HV h;go_enter Tryz.func97,Tryz.ntmps97;go_wp2_with fail
    go_ret;exact ⟨by rw [HV2.out];rfl,x,H.out,by rw [HV2.out],rfl,Keeps.refl,Upd.refl⟩
 ·have hv:=varF_short h2 cc.toNat x.ms x.left;have HV:=h_ hv;have H:=h_ h;obtain ⟨n,Hn⟩:=nm s.length;rw [Hn.out] at hz hs h2;have f0:(((n:Nat):Int) != 2)=true:=by simp;omega
  obtain ⟨str,Hstr⟩:=nm (kstr s);rw [Hstr.out] at hz;rw [Hstr.out];clear hv h;go_enter Tryz.func97,Tryz.ntmps97;go_wp2_with fail
  go_ret;exact ⟨by rw [HV.out];rfl,x,H.out,by rw [HV.out],rfl,Keeps.refl,Upd.refl⟩
def dotF (s:Bs):Nat:=(s.takeWhile (fun c=>decide (c.toNat≠46))).length
theorem dot_step {s:Bs} {k:Nat} (h:k<s.length):dotF (s.drop k)=if (s.getD k 0).toNat=46 then 0 else dotF (s.drop (k+1))+1:=by
 rw [drop_cons h];unfold dotF;rw [List.takeWhile_cons];generalize s.getD k 0=ch;by_cases e:ch.toNat=46
 ·rw [if_pos e,if_neg (by simp [e])];rfl
 ·rw [if_neg e,if_pos (by simp [e])];rfl
theorem dot_take (s:Bs):s.take (dotF s)=s.takeWhile (fun c=>decide (c.toNat≠46)):=by
 unfold dotF
 induction s with
 | nil=>rfl
 | cons a r ih =>
  rw [List.takeWhile_cons]
  split
  ·rw [List.length_cons,List.take_succ_cons,ih]
  ·rfl
theorem dot_le (s:Bs):dotF s≤s.length:=by
 unfold dotF;exact (List.takeWhile_sublist _).length_le
def psOf (x:St):PS:=⟨x.i,x.vs,x.ms⟩
theorem oper_eq (left:Bool) (s:Bs) (x:PS):operF left s x=(match opF (s.take (dotF s)) with
  | none=>none
  | some op =>
   if (arF op).isNone∨immOp op≠decide (dotF s<s.length) then none
   else if immOp op=false then some (.mk 0 op 0 0 [],x)
   else match decF (s.drop (dotF s+1)) with
    | some n=>some (.mk 0 op n 0 [],x)
    | none=>match s.drop (dotF s+1) with
     | [c]=>if isLw c=true∧0<(lookF x.ms c left).1 then some (.mk 0 op 0 (lookF x.ms c left).1 [],{ x with ms:=(lookF x.ms c left).2 }) else none
     | _=>none):=by
 have e:(s.drop (dotF s)).tail=s.drop (dotF s+1):=by rw [List.tail_drop]
 rw [dot_take];unfold operF;dsimp only;rw [show (List.takeWhile (fun c=>decide (c.toNat≠46)) s).length=dotF s from rfl,e]
 all_goals rfl
def OperP (w:World) (p:Nat) (A:Option Addr) (c:Nat) (L:List Tok) (x:St) (o:Option (Pt×PS)) (e:Ending) (w':World):Prop :=
 ∃(q:Pt) (b:Bool) (y:St),e=.returned (.tuple #[pv q none 0,.bool b])∧q.kids=[]∧RdS w' p A c L y∧y.vs=x.vs∧Keeps w p x y∧Upd (x.own p) w w'∧(b=true→∃ps,o=some (q,ps)∧ps.i=x.i∧ps.vs=x.vs∧y.ms=ps.ms)∧(b=false→o=none)
set_option maxRecDepth 100000 in
set_option maxHeartbeats 4000000 in
theorem rOperation_c {w:World} {p:Nat} {A:Option Addr} {c:Nat} {L:List Tok} {x:St} (h:RdS w p A c L x) (hn:x.ms.length≤100000) (s:Bs) (hs:s.length≤1000000) :
  Calls Tryz.prog 117 #[.pointer (some ⟨p,0,none⟩),.string (kstr s)] w (OperP w p A c L x (operF x.left s (psOf x))):=by
 have HO:Hid (operF x.left s (psOf x)=_):=oper_eq x.left s (psOf x);obtain ⟨o,Ho⟩:=nm (operF x.left s (psOf x));rw [Ho.out] at HO;rw [Ho.out];have hz:(kstr s).size=s.length:=kstr_size s;obtain ⟨n,Hn⟩:=nm s.length;rw [Hn.out] at hz hs HO;have hdl:=dot_le s;rw [Hn.out] at hdl;obtain ⟨W,HW⟩:=nm (w.alloc (.cells #[.int .i64 0,.int .i64 0,.int .i64 0,.int .i64 0,.slice none 0 0] 40));have hU:Upd Non w W:=by rw [←HW.out];exact Upd.refl.alloc _
 have hb:Blk W w.heap.size 40 #[.int .i64 0,.int .i64 0,.int .i64 0,.int .i64 0,.slice none 0 0]:=by rw [←HW.out];exact Blk.new _ _ _
 have e0:=HW.out;have hpw:p<w.heap.size:=h.blk.lt;have HR:=h_ (h.non hU);have H:=h_ h;have HB:=h_ hb;have HUU:=h_ hU;clear h hb hU HW;go_enter Tryz.func117,Tryz.ntmps117;go_wp2_with fail
 go_loopg [6] (n+1) (fun g a wr=>∃k:Nat,Hid (g=n+1 - k)∧k≤n∧a=.int .i64 k∧Hid (dotF s=k+dotF (s.drop k))∧wr=W)
 case atStart=>exact ⟨0,rfl,by omega,rfl,by show _=_;rw [List.drop_zero];omega,rfl⟩
 case round =>
  obtain ⟨k,Hg,hk,rfl,HK,hwr⟩:=hrel;subst hwr;obtain ⟨D,HD⟩:=nm (decide (k<n)&&decide ((s.getD k 0).toNat≠46))
  go_upto_region 2 with fail
  go_cut [24] (fun s wx=>s=.bool D∧wx=wr)
  case first =>
   by_cases hlt:k<n
   ·have ti:decide ((k:Int)<(n:Int))=true:=dT_ (by omega);have i1:=fun W=>run_at_str hz hlt W
    rw [kx_kstr] at i1;generalize (s.getD k 0).toNat=y at i1 HD;obtain ⟨b,f1⟩:∃b,(((y:Int)) != 46)=b:=⟨_,rfl⟩
    obtain rfl:D=b:=by
     rw [←HD.out,←f1,dT_ hlt,Bool.true_and,Bool.eq_iff_iff,decide_eq_true_eq,bne_iff_ne];omega
    clear HD;go_wp2_with fail
    go_meet
    case rel=>exact ⟨rfl,rfl⟩
   ·have ti:decide ((k:Int)<(n:Int))=false:=dF_ (by omega);obtain rfl:D=false:=by rw [←HD.out,dF_ hlt];rfl
    clear HD;go_wp2_with fail
    go_meet
    case rel=>exact ⟨rfl,rfl⟩
  case rest =>
   obtain ⟨rfl,hwc⟩:=hcut;have hwc2:wr=wc:=hwc.symm;subst hwc2
   cases D with
   | true =>
    have hd:=HD.out;simp only [Bool.and_eq_true,decide_eq_true_eq] at hd;have hk2:=hd.1
    have HK2:Hid (dotF s=k+1+dotF (s.drop (k+1))):=by
     show _=_;have:=dot_step (s:=s) (k:=k) (by rw [Hn.out];exact hd.1);rw [if_neg hd.2] at this;rw [HK.out,this];omega
    clear hd HD HK hwc;go_wp2_with fail
    go_roundg (n+1 - (k+1))
    case measure=>rw [Hg.out];omega
    case rel=>exact ⟨k+1,rfl,by omega,by go_num,HK2,rfl⟩
   | false =>
    have hdk:dotF s=k:=by
     by_cases hlt:k<n
     ·have hd:=HD.out;rw [dT_ hlt,Bool.true_and,decide_eq_false_iff_not] at hd;have:=dot_step (s:=s) (k:=k) (by rw [Hn.out];exact hlt);rw [if_pos (by omega)] at this;rw [HK.out,this];rfl
     ·have : s.drop k=[]:=List.drop_of_length_le (by rw [Hn.out];omega);rw [HK.out,this];rfl
    rw [hdk] at HO;clear HD HK hwc Hg hdl hdk;have hto:=fun W=>run_to_str Hn.out hk W
    have CO:=h_ (tOp_c (s.take k) wr);obtain ⟨ts,Hts⟩:=nm (kstr (s.take k));rw [Hts.out] at hto CO;have hfr:k+1≤n→∀W,(Instr.slice 9 (.string (kstr s)) (some (.int .i64 ((k:Int)+1))) none none).run Tryz.prog W=.ok (.string (kstr (s.drop (k+1)))) W:=fun q W=>run_from_str Hn.out q W
    obtain ⟨str,Hstr⟩:=nm (kstr s);rw [Hstr.out] at hz hto hfr ⊢;have HFR:=h_ hfr;clear hfr
    cases hop:opF (s.take k) with
    | none =>
     rw [hop] at CO HO;have HN:Hid (o=none):=HO.out;have CA:=h_ (fun W=>rArity_c 0 W);rw [show arF 0=none from rfl] at CA;simp only [Option.getD_none,Option.isSome_none] at CO CA;clear hop HO HFR;go_wp2_with fail
     refine CO.out.mono ?_;rintro e w9 ⟨rfl,hu9⟩;go_wp2_with fail
     refine (CA.out _).mono ?_;rintro e w10 ⟨rfl,rfl⟩;obtain ⟨w9,rfl⟩:∃x:World,x=w10:=⟨_,rfl⟩;clear CO CA;have b9:=HB.out.upd hu9 (fun f=>f);have y0:=b9.cell 0;have y1:=b9.cell 1;have y2:=b9.cell 2;have y3:=b9.cell 3;have y4:=b9.cell 4;have yf:=b9.frozen;have HB9:=h_ b9;clear b9;go_wp2_with fail
     rw [set5_eq];have us:=set5_upd w9 w.heap.size;refine bodyPost_ret (results_cell_row_tmp rfl _ _ w.heap.size 40 _ (0,0) _ rfl (set5_blk HB9.out _ _ _ _ _) Tryz.underlying40 rfl (by kernel_rfl)) rfl ?_;refine ⟨.mk 0 0 0 0 [],false,x,rfl,rfl,(HR.out.non hu9).upd (us _ _ _ _ _) (fun j _ e=>?_),rfl,Keeps.refl,((HUU.out.then_non hu9).trans (us _ _ _ _ _) (fun j hj e=>by omega)).mono (fun _ _ f=>f.elim),(fun q=>by cases q),fun _=>HN.out⟩
     subst e;have hv:=H.out.v.lt (k:=w.heap.size);have hm:=H.out.m.lt (k:=w.heap.size);exact ⟨hpw,fun q=>Nat.lt_irrefl _ (hv q),fun q=>Nat.lt_irrefl _ (hm q)⟩
    | some op =>
     rw [hop] at CO HO
     have HO2:Hid (o=if (arF op).isNone∨immOp op≠decide (k<n) then none
       else if immOp op=false then some (.mk 0 op 0 0 [],psOf x)
       else match decF (s.drop (k+1)) with
        | some n=>some (.mk 0 op n 0 [],psOf x)
        | none=>match s.drop (k+1) with
         | [c]=>if isLw c=true∧0<(lookF x.ms c x.left).1 then some (.mk 0 op 0 (lookF x.ms c x.left).1 [],{ psOf x with ms:=(lookF x.ms c x.left).2 }) else none
         | _=>none):=HO.out
     have HO:=HO2;clear HO2;have CA:=h_ (fun W=>rArity_c op W);have CI:=h_ (fun W=>rHasImm_c op W);simp only [Option.getD_some,Option.isSome_some] at CO;clear hop;obtain ⟨oi,Hoi⟩:=nm ((op:Nat):Int);rw [Hoi.out] at CO CA CI HO
     cases har:arF oi with
     | none =>
      rw [har] at CA HO;have HN:Hid (o=none):=by show _=_;rw [HO.out,if_pos (.inl rfl)]
      simp only [Option.getD_none,Option.isSome_none] at CA;clear har HO HFR CI;go_wp2_with fail
      refine CO.out.mono ?_;rintro e w9 ⟨rfl,hu9⟩;go_wp2_with fail
      refine (CA.out _).mono ?_;rintro e w10 ⟨rfl,rfl⟩;obtain ⟨w9,rfl⟩:∃x:World,x=w10:=⟨_,rfl⟩;clear CO CA;have b9:=HB.out.upd hu9 (fun f=>f);have y0:=b9.cell 0;have y1:=b9.cell 1;have y2:=b9.cell 2;have y3:=b9.cell 3;have y4:=b9.cell 4;have yf:=b9.frozen;have HB9:=h_ b9;clear b9;go_wp2_with fail
      rw [set5_eq];have us:=set5_upd w9 w.heap.size;refine bodyPost_ret (results_cell_row_tmp rfl _ _ w.heap.size 40 _ (0,0) _ rfl (set5_blk HB9.out _ _ _ _ _) Tryz.underlying40 rfl (by kernel_rfl)) rfl ?_;refine ⟨.mk 0 0 0 0 [],false,x,rfl,rfl,(HR.out.non hu9).upd (us _ _ _ _ _) (fun j _ e=>?_),rfl,Keeps.refl,((HUU.out.then_non hu9).trans (us _ _ _ _ _) (fun j hj e=>by omega)).mono (fun _ _ f=>f.elim),(fun q=>by cases q),fun _=>HN.out⟩
      subst e;have hv:=H.out.v.lt (k:=w.heap.size);have hm:=H.out.m.lt (k:=w.heap.size);exact ⟨hpw,fun q=>Nat.lt_irrefl _ (hv q),fun q=>Nat.lt_irrefl _ (hm q)⟩
     | some ar =>
      rw [har] at CA HO;simp only [Option.getD_some,Option.isSome_some] at CA;obtain ⟨im,Him⟩:=nm (immOp oi);rw [Him.out] at CI HO;obtain ⟨ari,Hari⟩:=nm ((ar:Nat):Int);rw [Hari.out] at CA;by_cases hlt:k<n
      ·have fl:decide ((k:Int)<(n:Int))=true:=dT_ (by omega)
       cases im with
       | false =>
        have HN:Hid (o=none):=by show _=_;rw [HO.out,if_pos (.inr (by simp [hlt]))]
        clear har HO HFR;go_wp2_with fail
        refine CO.out.mono ?_;rintro e w9 ⟨rfl,hu9⟩;go_wp2_with fail
        refine (CA.out _).mono ?_;rintro e w10 ⟨rfl,rfl⟩;go_wp2_with fail
        refine (CI.out _).mono ?_;rintro e w11 ⟨rfl,rfl⟩;clear CO CA;obtain ⟨w9,rfl⟩:∃x:World,x=w11:=⟨_,rfl⟩;clear CI;have b9:=HB.out.upd hu9 (fun f=>f);have y0:=b9.cell 0;have y1:=b9.cell 1;have y2:=b9.cell 2;have y3:=b9.cell 3;have y4:=b9.cell 4;have yf:=b9.frozen;have HB9:=h_ b9;clear b9;go_wp2_with fail
        rw [set5_eq];have us:=set5_upd w9 w.heap.size;refine bodyPost_ret (results_cell_row_tmp rfl _ _ w.heap.size 40 _ (0,0) _ rfl (set5_blk HB9.out _ _ _ _ _) Tryz.underlying40 rfl (by kernel_rfl)) rfl ?_;refine ⟨.mk 0 0 0 0 [],false,x,rfl,rfl,(HR.out.non hu9).upd (us _ _ _ _ _) (fun j _ e=>?_),rfl,Keeps.refl,((HUU.out.then_non hu9).trans (us _ _ _ _ _) (fun j hj e=>by omega)).mono (fun _ _ f=>f.elim),(fun q=>by cases q),fun _=>HN.out⟩
        subst e;have hv:=H.out.v.lt (k:=w.heap.size);have hm:=H.out.m.lt (k:=w.heap.size);exact ⟨hpw,fun q=>Nat.lt_irrefl _ (hv q),fun q=>Nat.lt_irrefl _ (hm q)⟩
       | true =>
        have HO3:Hid (o=match decF (s.drop (k+1)) with
          | some n=>some (.mk 0 oi n 0 [],psOf x)
          | none=>match s.drop (k+1) with
           | [c]=>if isLw c=true∧0<(lookF x.ms c x.left).1 then some (.mk 0 oi 0 (lookF x.ms c x.left).1 [],{ psOf x with ms:=(lookF x.ms c x.left).2 }) else none
           | _=>none):=by
         show _=_;rw [HO.out,if_neg (by simp [hlt]),if_neg (by decide)]
        have hfr:=HFR.out (by omega);clear har HO HFR;obtain ⟨t,Ht⟩:=nm (s.drop (k+1));rw [Ht.out] at HO3 hfr;have htl:t.length≤1000000:=by rw [←Ht.out,List.length_drop];have:=Hn.out;omega
        have CW:=h_ (fun W=>wParse_c t W htl);obtain ⟨tq,Htq⟩:=nm (kstr t);rw [Htq.out] at hfr CW;have htz:tq.size=t.length:=by rw [←Htq.out,kstr_size]
        cases hd:decF t with
        | some nn =>
         rw [hd] at CW HO3;simp only [Option.getD_some,Option.isSome_some] at CW;have HS:Hid (o=some (.mk 0 oi nn 0 [],psOf x)):=HO3.out;clear hd HO3 htz;go_wp2_with fail
         refine CO.out.mono ?_;rintro e w9 ⟨rfl,hu9⟩;go_wp2_with fail
         refine (CA.out _).mono ?_;rintro e w10 ⟨rfl,rfl⟩;go_wp2_with fail
         refine (CI.out _).mono ?_;rintro e w11 ⟨rfl,rfl⟩;clear CO CA;go_wp2_with fail
         refine (CI.out _).mono ?_;rintro e w12 ⟨rfl,rfl⟩;go_wp2_with fail
         refine (CW.out _).mono ?_;rintro e w13 ⟨rfl,rfl⟩;clear CI CW;obtain ⟨w9,rfl⟩:∃x:World,x=w13:=⟨_,rfl⟩;have b9:=HB.out.upd hu9 (fun f=>f);have y0:=b9.cell 0;have y1:=b9.cell 1;have y2:=b9.cell 2;have y3:=b9.cell 3;have y4:=b9.cell 4;have yf:=b9.frozen;have HB9:=h_ b9;clear b9;go_wp2_with fail
         rw [set5_eq];have us:=set5_upd w9 w.heap.size;refine bodyPost_ret (results_cell_row_tmp rfl _ _ w.heap.size 40 _ (0,0) _ rfl (set5_blk HB9.out _ _ _ _ _) Tryz.underlying40 rfl (by kernel_rfl)) rfl ?_;refine ⟨_,true,x,rfl,rfl,(HR.out.non hu9).upd (us _ _ _ _ _) (fun j _ e=>?_),rfl,Keeps.refl,((HUU.out.then_non hu9).trans (us _ _ _ _ _) (fun j hj e=>by omega)).mono (fun _ _ f=>f.elim),(fun _=>⟨psOf x,HS.out,rfl,rfl,rfl⟩),(fun q=>by cases q)⟩
         subst e;have hv:=H.out.v.lt (k:=w.heap.size);have hm:=H.out.m.lt (k:=w.heap.size);exact ⟨hpw,fun q=>Nat.lt_irrefl _ (hv q),fun q=>Nat.lt_irrefl _ (hm q)⟩
        | none =>
         rw [hd] at CW HO3;simp only [Option.getD_none,Option.isSome_none] at CW;clear hd;by_cases ht1:t.length=1
         ·obtain ⟨cc,rfl⟩:∃cc,t=[cc]:=List.length_eq_one_iff.1 ht1;rw [ht1] at htz;have i5:=fun W=>run_at_str htz (show 0<1 by omega) W
          rw [←Htq.out,kx_kstr,show ([cc]:Bs).getD 0 0=cc from rfl,show ((0:Nat):Int)=0 from rfl,Htq.out] at i5;have HO4:Hid (o=if isLw cc=true∧0<(lookF x.ms cc x.left).1 then some (.mk 0 oi 0 (lookF x.ms cc x.left).1 [],{ psOf x with ms:=(lookF x.ms cc x.left).2 }) else none):=HO3.out
          have CL:=h_ (fun W=>rIsLower_c cc W);obtain ⟨lw,Hlw⟩:=nm (isLw cc);rw [Hlw.out] at CL HO4;clear HO3 ht1
          cases lw with
          | false =>
           have HN:Hid (o=none):=by show _=_;rw [HO4.out,if_neg (fun q=>by cases q.1)]
           clear HO4;go_wp2_with fail
           refine CO.out.mono ?_;rintro e w9 ⟨rfl,hu9⟩;go_wp2_with fail
           refine (CA.out _).mono ?_;rintro e w10 ⟨rfl,rfl⟩;go_wp2_with fail
           refine (CI.out _).mono ?_;rintro e w11 ⟨rfl,rfl⟩;clear CO CA;go_wp2_with fail
           refine (CI.out _).mono ?_;rintro e w12 ⟨rfl,rfl⟩;go_wp2_with fail
           refine (CW.out _).mono ?_;rintro e w13 ⟨rfl,rfl⟩;clear CI CW;go_wp2_with fail
           refine (CL.out _).mono ?_;rintro e w14 ⟨rfl,rfl⟩;obtain ⟨w9,rfl⟩:∃x:World,x=w14:=⟨_,rfl⟩;clear CL;have b9:=HB.out.upd hu9 (fun f=>f);have y0:=b9.cell 0;have y1:=b9.cell 1;have y2:=b9.cell 2;have y3:=b9.cell 3;have y4:=b9.cell 4;have yf:=b9.frozen;have HB9:=h_ b9;clear b9;go_wp2_with fail
           rw [set5_eq];have us:=set5_upd w9 w.heap.size;refine bodyPost_ret (results_cell_row_tmp rfl _ _ w.heap.size 40 _ (0,0) _ rfl (set5_blk HB9.out _ _ _ _ _) Tryz.underlying40 rfl (by kernel_rfl)) rfl ?_;refine ⟨.mk 0 0 0 0 [],false,x,rfl,rfl,(HR.out.non hu9).upd (us _ _ _ _ _) (fun j _ e=>?_),rfl,Keeps.refl,((HUU.out.then_non hu9).trans (us _ _ _ _ _) (fun j hj e=>by omega)).mono (fun _ _ f=>f.elim),(fun q=>by cases q),fun _=>HN.out⟩
           subst e;have hv:=H.out.v.lt (k:=w.heap.size);have hm:=H.out.m.lt (k:=w.heap.size);exact ⟨hpw,fun q=>Nat.lt_irrefl _ (hv q),fun q=>Nat.lt_irrefl _ (hm q)⟩
          | true =>
           go_wp2_with fail
           refine CO.out.mono ?_;rintro e w9 ⟨rfl,hu9⟩;go_wp2_with fail
           refine (CA.out _).mono ?_;rintro e w10 ⟨rfl,rfl⟩;go_wp2_with fail
           refine (CI.out _).mono ?_;rintro e w11 ⟨rfl,rfl⟩;clear CO CA;go_wp2_with fail
           refine (CI.out _).mono ?_;rintro e w12 ⟨rfl,rfl⟩;go_wp2_with fail
           refine (CW.out _).mono ?_;rintro e w13 ⟨rfl,rfl⟩;clear CI CW;go_wp2_with fail
           refine (CL.out _).mono ?_;rintro e w14 ⟨rfl,rfl⟩;obtain ⟨wA,rfl⟩:∃x:World,x=w14:=⟨_,rfl⟩;clear CL
           go_upto_region 16 with fail
           obtain ⟨wD,HwD⟩:=nm wA.drew;have uD:Upd Non wA wD:=by rw [←HwD.out];exact Upd.refl.drew
           have vD:Upd Non w wD:=(HUU.out.then_non hu9).then_non uD;have hRD:=H.out.non vD;have d6:=hRD.cells.2.2.2.2.2.2;have CK:=h_ (rLookM_c hRD hn cc x.left);have sD:=vD.size
           have sD2:w.heap.size<wD.heap.size:=by
            have:=HB.out.lt;have:=hu9.size;have:=uD.size;omega
           clear hRD;refine wp_region_held_drew (S:=fun w'=>w'.cell? ⟨p,6,none⟩=some (.bool x.left)) (by kernel_rfl) (by rw [HwD.out];exact d6) (fun hHeld=>?_);rw [HwD.out] at hHeld ⊢;refine wpT 0 ?_;(try simp only [y_,z_]);refine wpT 1 ?_;(try simp only [y_,z_]);refine wpT 2 ?_;(try simp only [y_,z_]);refine wpT 3 ?_;(try simp only [y_,z_]);refine wpT 4 ?_;(try simp only [y_,z_]);refine wpT 5 ?_;(try simp only [y_,z_]);refine wpT 6 ?_;(try simp only [y_,z_]);refine wpT 7 ?_;(try simp only [y_,z_]);refine wpT 8 ?_;(try simp only [y_,z_]);refine aR_ (rs:=[9]) (by kernel_rfl) (by simp) ?_;refine aC_ rfl (fun K hK=>?_) aN_;go_simp;refine CK.out.mono ?_;rintro e w2 ⟨rfl,y,hy,hy1,hy2,hky,hu2⟩;go_wp2_with fail
           have e6:=hy.cells.2.2.2.2.2.2;rw [hky.left] at e6;refine hK.out _ _ ?_ (fun hHeld=>?_)
           ·exact e6
           clear hK K;(try simp only [y_,z_]);refine wpT 10 ?_;(try simp only [y_,z_]);refine aD_ (by kernel_rfl) ?_ _;obtain ⟨kk,Hkk⟩:=nm (lookF x.ms cc x.left);rw [Hkk.out] at hy1 HO4 ⊢
           have hown:∀j,y.own p j→j≠w.heap.size:=fun j hj e=>by
            subst e;rcases hky.own _ hj with q | q
            ·have:=H.out.lt q;omega
            ·omega
           have HY:=h_ hy;have HU2:Hid (Upd (x.own p) w w2):=(vD.mono (fun _ _ f=>f.elim)).trans hu2 (fun _ _ q=>q);have HKY:Hid (Keeps w p x y):=⟨hky.i,hky.why,hky.ea,hky.left,fun j hj=>(hky.own j hj).imp_right (fun q=>by omega)⟩;have HY1:=h_ hy1;have HY2:=h_ hy2;have b9:Blk w2 w.heap.size 40 #[.int .i64 0,.int .i64 0,.int .i64 0,.int .i64 0,.slice none 0 0]:=((HB.out.upd hu9 (fun f=>f)).upd uD (fun f=>f)).upd hu2 (fun q=>by have:=H.out.lt q;omega)
           have y0:=b9.cell 0;have y1:=b9.cell 1;have y2:=b9.cell 2;have y3:=b9.cell 3;have y4:=b9.cell 4;have yf:=b9.frozen;have HB9:=h_ b9;clear b9 hHeld CK hy hy1 hy2 hky hu2 hu9 uD vD HwD d6 e6;obtain ⟨kn,Hkn⟩:=nm kk.1;rw [Hkn.out] at HO4 ⊢;by_cases hpos:0<kn
           ·have fp:decide ((0:Int)<(kn:Int))=true:=dT_ (by omega);have HS:Hid (o=some (.mk 0 oi 0 kn [],{ psOf x with ms:=kk.2 })):=by show _=_;rw [HO4.out,if_pos ⟨by trivial,hpos⟩]
            clear HO4;go_wp2_with fail
            rw [set5_eq];have us:=set5_upd w2 w.heap.size;refine bodyPost_ret (results_cell_row_tmp rfl _ _ w.heap.size 40 _ (0,0) _ rfl (set5_blk HB9.out _ _ _ _ _) Tryz.underlying40 rfl (by kernel_rfl)) rfl ?_;refine ⟨_,true,y,rfl,rfl,HY.out.upd (us _ _ _ _ _) (fun j _ e=>by subst e;exact ⟨hpw,fun q=>hown _ (.inr (.inl q)) rfl,fun q=>hown _ (.inr (.inr q)) rfl⟩),HY2.out,HKY.out,HU2.out.trans (us _ _ _ _ _) (fun j hj e=>by omega),(fun _=>⟨_,HS.out,rfl,rfl,HY1.out⟩),(fun q=>by cases q)⟩
           ·have fp:decide ((0:Int)<(kn:Int))=false:=dF_ (by omega);have HN:Hid (o=none):=by show _=_;rw [HO4.out,if_neg (fun q=>hpos q.2)]
            clear HO4;go_wp2_with fail
            rw [set5_eq];have us:=set5_upd w2 w.heap.size;refine bodyPost_ret (results_cell_row_tmp rfl _ _ w.heap.size 40 _ (0,0) _ rfl (set5_blk HB9.out _ _ _ _ _) Tryz.underlying40 rfl (by kernel_rfl)) rfl ?_;refine ⟨.mk 0 oi 0 kn [],false,y,rfl,rfl,HY.out.upd (us _ _ _ _ _) (fun j _ e=>by subst e;exact ⟨hpw,fun q=>hown _ (.inr (.inl q)) rfl,fun q=>hown _ (.inr (.inr q)) rfl⟩),HY2.out,HKY.out,HU2.out.trans (us _ _ _ _ _) (fun j hj e=>by omega),(fun q=>by cases q),fun _=>HN.out⟩
         ·have HN:Hid (o=none):=by
           show _=_;rw [HO3.out]
           match t,ht1 with
           | [],_=>rfl
           | _::_::_,_=>rfl
          obtain ⟨tm,Htm⟩:=nm t.length;rw [Htm.out] at htz ht1;have ft:(((tm:Nat):Int) != 1)=true:=by simp;omega
          clear HO3;go_wp2_with fail
          refine CO.out.mono ?_;rintro e w9 ⟨rfl,hu9⟩;go_wp2_with fail
          refine (CA.out _).mono ?_;rintro e w10 ⟨rfl,rfl⟩;go_wp2_with fail
          refine (CI.out _).mono ?_;rintro e w11 ⟨rfl,rfl⟩;clear CO CA;go_wp2_with fail
          refine (CI.out _).mono ?_;rintro e w12 ⟨rfl,rfl⟩;go_wp2_with fail
          refine (CW.out _).mono ?_;rintro e w13 ⟨rfl,rfl⟩;clear CI CW;obtain ⟨w9,rfl⟩:∃x:World,x=w13:=⟨_,rfl⟩;have b9:=HB.out.upd hu9 (fun f=>f);have y0:=b9.cell 0;have y1:=b9.cell 1;have y2:=b9.cell 2;have y3:=b9.cell 3;have y4:=b9.cell 4;have yf:=b9.frozen;have HB9:=h_ b9;clear b9;go_wp2_with fail
          rw [set5_eq];have us:=set5_upd w9 w.heap.size;refine bodyPost_ret (results_cell_row_tmp rfl _ _ w.heap.size 40 _ (0,0) _ rfl (set5_blk HB9.out _ _ _ _ _) Tryz.underlying40 rfl (by kernel_rfl)) rfl ?_;refine ⟨.mk 0 0 0 0 [],false,x,rfl,rfl,(HR.out.non hu9).upd (us _ _ _ _ _) (fun j _ e=>?_),rfl,Keeps.refl,((HUU.out.then_non hu9).trans (us _ _ _ _ _) (fun j hj e=>by omega)).mono (fun _ _ f=>f.elim),(fun q=>by cases q),fun _=>HN.out⟩
          subst e;have hv:=H.out.v.lt (k:=w.heap.size);have hm:=H.out.m.lt (k:=w.heap.size);exact ⟨hpw,fun q=>Nat.lt_irrefl _ (hv q),fun q=>Nat.lt_irrefl _ (hm q)⟩
      ·have fl:decide ((k:Int)<(n:Int))=false:=dF_ (by omega)
       cases im with
       | true =>
        have HN:Hid (o=none):=by show _=_;rw [HO.out,if_pos (.inr (by simp [hlt]))]
        clear har HO HFR;go_wp2_with fail
        refine CO.out.mono ?_;rintro e w9 ⟨rfl,hu9⟩;go_wp2_with fail
        refine (CA.out _).mono ?_;rintro e w10 ⟨rfl,rfl⟩;go_wp2_with fail
        refine (CI.out _).mono ?_;rintro e w11 ⟨rfl,rfl⟩;clear CO CA;obtain ⟨w9,rfl⟩:∃x:World,x=w11:=⟨_,rfl⟩;clear CI;have b9:=HB.out.upd hu9 (fun f=>f);have y0:=b9.cell 0;have y1:=b9.cell 1;have y2:=b9.cell 2;have y3:=b9.cell 3;have y4:=b9.cell 4;have yf:=b9.frozen;have HB9:=h_ b9;clear b9;go_wp2_with fail
        rw [set5_eq];have us:=set5_upd w9 w.heap.size;refine bodyPost_ret (results_cell_row_tmp rfl _ _ w.heap.size 40 _ (0,0) _ rfl (set5_blk HB9.out _ _ _ _ _) Tryz.underlying40 rfl (by kernel_rfl)) rfl ?_;refine ⟨.mk 0 0 0 0 [],false,x,rfl,rfl,(HR.out.non hu9).upd (us _ _ _ _ _) (fun j _ e=>?_),rfl,Keeps.refl,((HUU.out.then_non hu9).trans (us _ _ _ _ _) (fun j hj e=>by omega)).mono (fun _ _ f=>f.elim),(fun q=>by cases q),fun _=>HN.out⟩
        subst e;have hv:=H.out.v.lt (k:=w.heap.size);have hm:=H.out.m.lt (k:=w.heap.size);exact ⟨hpw,fun q=>Nat.lt_irrefl _ (hv q),fun q=>Nat.lt_irrefl _ (hm q)⟩
       | false =>
        have HS:Hid (o=some (.mk 0 oi 0 0 [],psOf x)):=by show _=_;rw [HO.out,if_neg (by simp [hlt]),if_pos rfl]
        clear har HO HFR;go_wp2_with fail
        refine CO.out.mono ?_;rintro e w9 ⟨rfl,hu9⟩;go_wp2_with fail
        refine (CA.out _).mono ?_;rintro e w10 ⟨rfl,rfl⟩;go_wp2_with fail
        refine (CI.out _).mono ?_;rintro e w11 ⟨rfl,rfl⟩;clear CO CA;go_wp2_with fail
        refine (CI.out _).mono ?_;rintro e w12 ⟨rfl,rfl⟩;obtain ⟨w9,rfl⟩:∃x:World,x=w12:=⟨_,rfl⟩;clear CI;have b9:=HB.out.upd hu9 (fun f=>f);have y0:=b9.cell 0;have y1:=b9.cell 1;have y2:=b9.cell 2;have y3:=b9.cell 3;have y4:=b9.cell 4;have yf:=b9.frozen;have HB9:=h_ b9;clear b9;go_wp2_with fail
        rw [set5_eq];have us:=set5_upd w9 w.heap.size;refine bodyPost_ret (results_cell_row_tmp rfl _ _ w.heap.size 40 _ (0,0) _ rfl (set5_blk HB9.out _ _ _ _ _) Tryz.underlying40 rfl (by kernel_rfl)) rfl ?_;refine ⟨_,true,x,rfl,rfl,(HR.out.non hu9).upd (us _ _ _ _ _) (fun j _ e=>?_),rfl,Keeps.refl,((HUU.out.then_non hu9).trans (us _ _ _ _ _) (fun j hj e=>by omega)).mono (fun _ _ f=>f.elim),(fun _=>⟨psOf x,HS.out,rfl,rfl,rfl⟩),(fun q=>by cases q)⟩
        subst e;have hv:=H.out.v.lt (k:=w.heap.size);have hm:=H.out.m.lt (k:=w.heap.size);exact ⟨hpw,fun q=>Nat.lt_irrefl _ (hv q),fun q=>Nat.lt_irrefl _ (hm q)⟩
end Go.Proofs.YtblkgjdhaibhgaaGreat
