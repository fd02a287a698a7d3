import Derived.Below
import Derived.Great.FillDense
import Derived.IntWalk
import Derived.Laws.Append
import Derived.Laws.Cells
import Derived.Laws.CopyRow
import Derived.Laws.Entries
import Derived.Laws.Sem
import Derived.Laws.Tables
import Derived.Laws.World
import Derived.Orders
set_option linter.all false
section
set_option linter.unusedVariables false
namespace Go.Pm
structure Fl where
 u:Bool
 flat:Bool
 deriving DecidableEq
inductive PV where
 | undef
 | void
 | bool (b:Bool)
 | int (k:IntKind) (n:Int)
 | str (s:ByteArray)
 | eH
 | ptr (a o:Nat)
 | dL (a i o:Nat)
 | bp
 | lit (xs:List (List PV)) (fl:Fl)
 | own (a k off len:Nat)
 | bL (xs:List (List PV)) (i o:Nat)
 | agg (cs:List PV)
 | tup (vs:List PV)
 | fn (f:Nat) (iF:List PV)
 | cX
inductive bq where
 | box (cs:List PV)
 | arr (k:Nat) (xs:List (List PV)) (flat frozen:Bool)
inductive TK where
 | bool | int (k:IntKind) | str
 | slice (elem:Nat)
 | struct (fs:List (Nat × Nat))
 | array (n elem:Nat)
 | ptr
 | func
 | other
structure TI where
 kind:TK
 size:Nat
 bytes:Nat
 zero:List PV
 eqok:Bool
abbrev Upd:=List (Nat × Option bq)
abbrev Rd:=Nat→Option bq
structure St where
 tmps:List PV
 heap:List (Nat × bq)
 next:Nat
def look:List (Nat × bq)→Nat→Option bq
 | [],_=>none
 | (b,o)::r,a=>if a == b then some o else look r a
def setObj:List (Nat × bq)→Nat→bq→List (Nat × bq)
 | [],a,o=>[(a,o)]
 | (b,p)::r,a,o=>if a == b then (a,o)::r else (b,p)::setObj r a o
def jQ:List (Nat × bq)→Nat→List (Nat × bq)
 | [],_=>[]
 | (b,p)::r,a=>if a == b then jQ r a else (b,p)::jQ r a
def dH (h:List (Nat × bq)):Upd→List (Nat × bq)
 | []=>h
 | (a,some o)::r=>dH (setObj h a o) r
 | (a,none)::r=>dH (jQ h a) r
def nth:List PV→Nat→PV
 | [],_=>.undef
 | v::_,0=>v
 | _::r,n+1=>nth r n
def put:List PV→Nat→PV→List PV
 | [],_,_=>[]
 | _::r,0,v=>v::r
 | x::r,n+1,v=>x::put r n v
def dZ:Value→Option PV
 | .bool b=>some (.bool b)
 | .int k n=>some (.int k n)
 | .string s=>some (.str s)
 | .pointer none=>some .eH
 | .slice none 0 0=>some .bp
 | .nilFunc=>some .cX
 | _=>none
def cj (tm:List PV):Operand→Option PV
 | .tmp t=>some (nth tm t)
 | .const v=>dZ v
 | .func f=>some (.fn f [])
 | .global _=>none
def SX:PV→Bool
 | .undef | .void | .agg _ | .tup _=>false
 | _=>true
def cellsOf:PV→Option (List PV)
 | .agg cs=>some cs
 | v=>if SX v then some [v] else none
def zH:TK→Bool
 | .struct _ | .array _ _=>true
 | _=>false
def er (t:TI) (cs:List PV):Option PV:=
 if zH t.kind then (if cs.length == t.size then some (.agg cs) else none)
 else match cs with
  | [v]=>some v
  | _=>none
def fx (cs:List PV) (o n:Nat):List PV:=(cs.drop o).take n
def splice (cs:List PV) (o:Nat) (vs:List PV):List PV:=cs.take o ++ vs ++ cs.drop (o+vs.length)
def cC {α:Type}:List α→Nat→α→List α
 | [],_,_=>[]
 | _::r,0,v=>v::r
 | x::r,n+1,v=>x::cC r n v
def plainCell:PV→Bool
 | .bool _ | .int _ _ | .str _=>true
 | _=>false
structure Eff where
 val:PV
 upd:Upd
 foot:List Nat
mutual
def snap (rd:Rd) (keepNil:Bool):Nat→PV→Option (PV × List Nat)
 | 0,_=>none
 | n+1,.own a k off len=>
  match rd a with
  | some (.arr k' xs flat _)=>if k' == k&&decide (off+len≤xs.length) then some (.lit ((xs.drop off).take len) ⟨false,flat⟩,[a]) else none
  | _=>none
 | n+1,.ptr a o=>
  match rd a with
  | some (.box cs)=>match dV rd keepNil n cs with
   | some (cs',l)=>some (.bL [cs'] 0 o,a::l)
   | none=>none
  | _=>none
 | n+1,.fn f iF=>match dV rd keepNil n iF with
  | some (cs,l)=>some (.fn f cs,l)
  | none=>none
 | n+1,.agg cs=>match dV rd keepNil n cs with
  | some (cs',l)=>some (.agg cs',l)
  | none=>none
 | n+1,.bp=>some (if keepNil then .bp else .lit [] ⟨false,false⟩,[])
 | n+1,.lit xs fl=>some (.lit xs fl,[])
 | n+1,.bL xs i o=>some (.bL xs i o,[])
 | n+1,.bool b=>some (.bool b,[])
 | n+1,.int k x=>some (.int k x,[])
 | n+1,.str s=>some (.str s,[])
 | n+1,.eH=>some (.eH,[])
 | n+1,.cX=>some (.cX,[])
 | n+1,.undef=>some (.undef,[])
 | n+1,.void=>some (.void,[])
 | _,_=>none
def dV (rd:Rd) (keepNil:Bool):Nat→List PV→Option (List PV × List Nat)
 | 0,_=>none
 | n+1,[]=>some ([],[])
 | n+1,v::r=>match snap rd keepNil n v with
  | some (v',l)=>match dV rd keepNil n r with
   | some (r',l')=>some (v'::r',l ++ l')
   | none=>none
  | none=>none
end
mutual
def ids:PV→List Nat
 | .own a _ _ _=>[a]
 | .ptr a _=>[a]
 | .dL a _ _=>[a]
 | .agg cs=>dz cs
 | .tup cs=>dz cs
 | .fn _ cs=>dz cs
 | _=>[]
def dz:List PV→List Nat
 | []=>[]
 | v::r=>ids v ++ dz r
end
def has:List Nat→Nat→Bool
 | [],_=>false
 | b::r,a=>a == b||has r a
def pos:List Nat→Nat→Nat→Option Nat
 | [],_,_=>none
 | b::r,a,i=>if a == b then some i else pos r a (i+1)
def reach (rd:Rd):Nat→List Nat→List Nat→List Nat
 | 0,_,seen=>seen
 | _,[],seen=>seen
 | n+1,a::r,seen=>
  if has seen a then reach rd n r seen else
  match rd a with
  | some (.box cs)=>reach rd n (r ++ dz cs) (seen ++ [a])
  | some (.arr ..)=>reach rd n r (seen ++ [a])
  | none=>reach rd n r (seen ++ [a])
mutual
def ren (g:Nat→Option Nat):PV→PV
 | .own a k off len=>match g a with | some j=>.own j k off len | none=>.undef
 | .ptr a o=>match g a with | some j=>.ptr j o | none=>.undef
 | .dL a i o=>match g a with | some j=>.dL j i o | none=>.undef
 | .agg cs=>.agg (fD g cs)
 | .tup cs=>.tup (fD g cs)
 | .fn f cs=>.fn f (fD g cs)
 | .undef=>.undef
 | .void=>.void
 | .bool b=>.bool b
 | .int k n=>.int k n
 | .str s=>.str s
 | .eH=>.eH
 | .bp=>.bp
 | .cX=>.cX
 | .lit xs fl=>.lit xs fl
 | .bL xs i o=>.bL xs i o
def fD (g:Nat→Option Nat):List PV→List PV
 | []=>[]
 | v::r=>ren g v::fD g r
end
def e9 (g:Nat→Option Nat):bq→bq
 | .box cs=>.box (fD g cs)
 | .arr k xs fl fz=>.arr k xs fl fz
def picks (rd:Rd) (g:Nat→Option Nat):List Nat→Nat→List (Nat × bq)
 | [],_=>[]
 | a::r,j=>match rd a with
  | some o=>(j,e9 g o)::picks rd g r (j+1)
  | none=>picks rd g r (j+1)
def dedup:List Nat→List Nat→List Nat
 | [],acc=>acc
 | a::r,acc=>if has acc a then dedup r acc else dedup r (acc ++ [a])
def kids (rd:Rd):List Nat→List Nat
 | []=>[]
 | a::r=>match rd a with
  | some (.box cs)=>dz cs ++ kids rd r
  | _=>kids rd r
def cq:Nat:=400
def order (rd:Rd) (roots:List Nat) (vals:List PV):List Nat:=reach rd cq (kids rd roots ++ dz vals) roots
def Zo:TK→PV→PV→Option Bool
 | .slice _,.bp,.bp=>some true
 | .slice _,.own _ _ _ (_+1),.bp=>some false
 | .slice _,.lit (_::_) _,.bp=>some false
 | .ptr,.eH,.eH=>some true
 | .ptr,.ptr _ _,.eH=>some false
 | .func,.cX,.cX=>some true
 | .func,.fn _ _,.cX=>some false
 | _,_,_=>none
mutual
def dm:List PV→List PV→Option Bool
 | [],[]=>some true
 | x::xs,y::ys=>match sg x y,dm xs ys with
  | some a,some b=>some (a&&b)
  | _,_=>none
 | _,_=>none
def sg:PV→PV→Option Bool
 | .int k a,.int k' b=>if k=k' then some (a == b) else none
 | .bool a,.bool b=>some (a == b)
 | .str a,.str b=>some (a == b)
 | _,_=>none
end
def re (ti:Option TI) (x y:PV):Option Bool:=
 match x,y with
 | .int k a,.int k' b=>if k=k' then some (a == b) else none
 | .bool a,.bool b=>match ti with
  | some {kind:=.bool,..}=>some (a == b)
  | _=>none
 | .str a,.str b=>some (a.toList == b.toList)
 | .agg xs,.agg ys=>match ti with
  | some t=>if t.eqok then dm xs ys else none
  | none=>none
 | x,y=>match ti with
  | some t=>Zo t.kind x y
  | none=>none
def fk (ti:Option TI) (op:BinOp) (x y:PV):Option PV:=
 match op with
 | .eql=>(re ti x y).map .bool
 | .neq=>(re ti x y).map fun b=>.bool (!b)
 | .shl=>match x,y with
  | .int k a,.int _ b=>if 0≤b then some (.int k (k.wrap (a*2 ^ min b.toNat k.bits))) else none
  | _,_=>none
 | .shr=>match x,y with
  | .int k a,.int _ b=>if 0≤b then some (.int k (a.fdiv (2 ^ min b.toNat k.bits))) else none
  | _,_=>none
 | op=>match x,y with
  | .int k a,.int k' b=>
   if k=k' then match op with
    | .add=>some (.int k (k.wrap (a+b)))
    | .sub=>some (.int k (k.wrap (a - b)))
    | .mul=>some (.int k (k.wrap (a*b)))
    | .quo=>if b=0 then none else some (.int k (k.wrap (a.tdiv b)))
    | .rem=>if b=0 then none else some (.int k (a.tmod b))
    | .lss=>some (.bool (decide (a<b)))
    | .leq=>some (.bool (decide (a≤b)))
    | .gtr=>some (.bool (decide (a>b)))
    | .geq=>some (.bool (decide (a≥b)))
    | .and=>some (.int k (k.wrap (BitVec.ofInt k.bits a&&& BitVec.ofInt k.bits b).toNat))
    | .or=>some (.int k (k.wrap (BitVec.ofInt k.bits a||| BitVec.ofInt k.bits b).toNat))
    | .xor=>some (.int k (k.wrap (BitVec.ofInt k.bits a ^^^ BitVec.ofInt k.bits b).toNat))
    | .andNot=>some (.int k (k.wrap (BitVec.ofInt k.bits a&&& ~~~ BitVec.ofInt k.bits b).toNat))
    | _=>none
   else none
  | _,_=>none
def Rt (op:UnOp) (x:PV):Option PV:=
 match op,x with
 | .not,.bool b=>some (.bool (!b))
 | .neg,.int k n=>some (.int k (k.wrap (0 - n)))
 | _,_=>none
def eR:PV→Option Nat
 | .bp=>some 0
 | .own _ _ _ n=>some n
 | .lit xs _=>some xs.length
 | .str s=>some s.size
 | _=>none
def gl:PV→Option Nat
 | .int _ n=>if 0≤n then some n.toNat else none
 | _=>none
def intOf:PV→Option Int
 | .int _ n=>some n
 | _=>none
def settle (rd:Rd):List PV→Option (List PV × List Nat)
 | []=>some ([],[])
 | .own a k off len::r=>
  match rd a,settle rd r with
  | some (.arr k' xs flat _),some (r',l)=>if k' == k&&decide (off+len≤xs.length) then some (.lit ((xs.drop off).take len) ⟨false,flat⟩::r',a::l) else none
  | _,_=>none
 | .bp::r=>match settle rd r with
  | some (r',l)=>some (.lit [] ⟨false,false⟩::r',l)
  | none=>none
 | .lit xs fl::r=>match settle rd r with
  | some (r',l)=>some (.lit xs ⟨false,fl.flat⟩::r',l)
  | none=>none
 | v::r=>match settle rd r with
  | some (r',l)=>if plainCell v then some (v::r',l) else none
  | none=>none
def freezes (rd:Rd):List Nat→Upd
 | []=>[]
 | a::r=>match rd a with
  | some (.arr k xs flat _)=>(a,some (.arr k xs flat true))::freezes rd r
  | _=>freezes rd r
def cJ:List PV→Bool
 | []=>true
 | v::r=>plainCell v&&cJ r
def gS (rd:Rd) (size:Nat):PV→Option (List (List PV) × Bool × List Nat)
 | .bp=>some ([],true,[])
 | .lit xs fl=>if xs.all (fun x=>x.length == size) then some (xs,fl.flat,[]) else none
 | .own a k off len=>match rd a with
  | some (.arr k' xs flat _)=>if k == size&&k' == k&&decide (off+len≤xs.length) then some ((xs.drop off).take len,flat,[a]) else none
  | _=>none
 | _=>none
def cW (rd:Rd) (size:Nat):List PV→Option (List (List PV) × List Nat × Bool)
 | []=>some ([],[],false)
 | v::r=>match (cellsOf v).bind (settle rd),cW rd size r with
  | some (cs,l),some (r',l',fl)=>if cs.length == size then some (cs::r',l ++ l',false) else none
  | _,_=>none
def jW:Nat→List (Nat × Operand)→Bool
 | _,[]=>true
 | i,(j,_)::r=>i == j&&jW (i+1) r
def mU (tm:List PV):List (Nat × Operand)→Option (List PV)
 | []=>some []
 | (_,x)::r=>match cj tm x,mU tm r with
  | some v,some vs=>some (v::vs)
  | _,_=>none
def gB (tm:List PV):List Operand→Option (List PV)
 | []=>some []
 | x::r=>match cj tm x,gB tm r with
  | some v,some vs=>some (v::vs)
  | _,_=>none
def e8 (tab:Nat→Option TI) (t:Nat):Option Nat:=(tab t).map (·.size)
def fillParts (tab:Nat→Option TI) (fs:List (Nat × Nat)):List PV→List (Nat × PV)→Option (List PV)
 | cells,[]=>some cells
 | cells,(i,v)::r=>
  match fs[i]? with
  | some (off,ft)=>match tab ft,cellsOf v with
   | some ti,some cs=>
    if cs.length == ti.size&&decide (off+cs.length≤cells.length) then fillParts tab fs (splice cells off cs) r else none
   | _,_=>none
  | none=>none
def kV (tm:List PV):List (Nat × Operand)→Option (List (Nat × PV))
 | []=>some []
 | (i,x)::r=>match cj tm x,kV tm r with
  | some v,some vs=>some ((i,v)::vs)
  | _,_=>none
def bound:Nat:=1073741824
def ok (v:PV):Option Eff:=some ⟨v,[],[]⟩
def loadAt (rd:Rd) (ti:TI):PV→Option Eff
 | .ptr a o=>match rd a with
  | some (.box cs)=>(er ti (fx cs o ti.size)).map fun v=>⟨v,[],[a]⟩
  | _=>none
 | .dL a i o=>match rd a with
  | some (.arr _ xs _ _)=>match xs[i]? with
   | some cs=>(er ti (fx cs o ti.size)).map fun v=>⟨v,[],[a]⟩
   | none=>none
  | _=>none
 | .bL xs i o=>match xs[i]? with
  | some cs=>(er ti (fx cs o ti.size)).map fun v=>⟨v,[],[]⟩
  | none=>none
 | _=>none
def storeAt (rd:Rd) (ti:TI) (p v:PV):Option Eff:=
 match cellsOf v with
 | none=>none
 | some vs=>
 if vs.length == ti.size then
  match p with
  | .ptr a o=>match rd a with
   | some (.box cs)=>if o+vs.length≤cs.length then some ⟨.void,[(a,some (.box (splice cs o vs)))],[a]⟩ else none
   | _=>none
  | .dL a i o=>match rd a with
   | some (.arr k xs flat false)=>match xs[i]?,settle rd vs with
    | some cs,some (ws,fz)=>
     if o+ws.length≤cs.length&&!has fz a&&!ws.isEmpty then some ⟨.void,freezes rd fz ++ [(a,some (.arr k (cC xs i (splice cs o ws)) (flat&&cJ ws) false))],a::fz⟩ else none
    | _,_=>none
   | _=>none
  | _=>none
 else none
def k7 (tab:Nat→Option TI) (s f:Nat):Option (Nat × Nat):=
 match tab s with
 | some {kind:=.struct fs,..}=>fs[f]?
 | _=>none
def gq (tab:Nat→Option TI) (s f:Nat) (p:PV):Option Eff:=
 match k7 tab s f with
 | some (off,ft)=>match tab ft with
  | some ti=>if ti.size == 0 then none else
   match p with
   | .ptr a o=>ok (.ptr a (o+off))
   | .dL a i o=>ok (.dL a i (o+off))
   | .bL xs i o=>ok (.bL xs i (o+off))
   | _=>none
  | none=>none
 | none=>none
def fieldAt (tab:Nat→Option TI) (s f:Nat) (v:PV):Option Eff:=
 match k7 tab s f,v with
 | some (off,ft),.agg cs=>match tab ft with
  | some ti=>(er ti (fx cs off ti.size)).map fun v=>⟨v,[],[]⟩
  | none=>none
 | _,_=>none
def gp (tab:Nat→Option TI) (t:Nat) (x i:PV):Option Eff:=
 match tab t,intOf i with
 | some {kind:=.slice e,..},some i=>
  match e8 tab e with
  | some sz=>
   match x with
   | .own a k off len=>if k == sz&&decide (0≤i)&&decide (i<len) then ok (.dL a (off+i.toNat) 0) else none
   | .lit xs _=>if 0≤i then match xs[i.toNat]? with
     | some cs=>if cs.length == sz then ok (.bL [cs] 0 0) else none
     | none=>none
    else none
   | _=>none
  | none=>none
 | some {kind:=.array n e,..},some i=>
  match e8 tab e with
  | some sz=>if decide (0≤i)&&decide (i<n) then
    match x with
    | .ptr a o=>ok (.ptr a (o+i.toNat*sz))
    | .dL a j o=>ok (.dL a j (o+i.toNat*sz))
    | .bL xs j o=>ok (.bL xs j (o+i.toNat*sz))
    | _=>none
   else none
  | none=>none
 | _,_=>none
def indexAt (tab:Nat→Option TI) (t:Nat) (x i:PV):Option Eff:=
 match tab t,x,intOf i with
 | some {kind:=.str,..},.str s,some i=>if 0≤i then match s[i.toNat]? with
   | some b=>ok (.int .u8 b.toNat)
   | none=>none
  else none
 | some {kind:=.array n e,..},.agg cs,some i=>
  match tab e with
  | some ti=>if decide (0≤i)&&decide (i<n) then (er ti (fx cs (i.toNat*ti.size) ti.size)).map fun v=>⟨v,[],[]⟩ else none
  | none=>none
 | _,_,_=>none
def kF (sz:Nat):List (List PV)→Bool
 | x::_=>x.length == sz
 | []=>true
def cutAt (tab:Nat→Option TI) (t:Nat) (x:PV) (lo hi:Option PV):Option Eff:=
 match tab t,eR x with
 | some {kind:=kd,..},some n=>
  match (match lo with | none=>some 0 | some v=>gl v),(match hi with | none=>some n | some v=>gl v) with
  | some l,some h=>if l≤h&&h≤n then
    match kd,x with
    | .slice el,.own a k off _=>match e8 tab el with
     | some sz=>if k == sz then ok (.own a k (off+l) (h - l)) else none
     | none=>none
    | .slice el,.lit xs fl=>match e8 tab el with
     | some sz=>if l == 0||kF sz xs then ok (.lit ((xs.drop l).take (h - l)) ⟨false,fl.flat⟩) else none
     | none=>none
    | .slice el,.bp=>match e8 tab el with
     | some _=>ok .bp
     | none=>none
    | .str,.str s=>ok (.str (s.extract l h))
    | _,_=>none
   else none
  | _,_=>none
 | _,_=>none
def jS (tab:Nat→Option TI) (rd:Rd) (nid t:Nat) (s x:PV):Option Eff:=
 match tab t with
 | some {kind:=.slice e,..}=>match tab e with
  | none=>none
  | some ti=>match gS rd ti.size x with
  | none=>none
  | some (new,nf,foot)=>
   if ti.bytes≤4096 then
    match s with
    | .bp=>match new with
     | []=>some ⟨.own nid ti.size 0 0,[(nid,some (.arr ti.size [] nf false))],foot⟩
     | _::_=>if new.length≤bound then some ⟨.own nid ti.size 0 new.length,[(nid,some (.arr ti.size new nf false))],foot⟩ else none
    | .own a k off len=>match rd a with
     | some (.arr k' xs flat false)=>
      if k == ti.size&&k' == k&&decide (off+len≤xs.length)&&decide (len+new.length≤bound)&&!has foot a then
       some ⟨.own nid k 0 (len+new.length),[(a,none),(nid,some (.arr k ((xs.drop off).take len ++ new) (flat&&nf) false))],a::foot⟩
      else none
     | _=>none
    | _=>none
   else none
 | _=>none
def oJ:Int→List PV→Option Int
 | m,[]=>some m
 | m,.int _ n::r=>oJ (if n<m then n else m) r
 | _,_=>none
def oK:Int→List PV→Option Int
 | m,[]=>some m
 | m,.int _ n::r=>oK (if n>m then n else m) r
 | _,_=>none
def si (tab:Nat→Option TI) (rd:Rd) (t:Nat) (d x:PV):Option Eff:=
 match tab t with
 | some {kind:=.slice e,..}=>match tab e with
  | none=>none
  | some ti=>match gS rd ti.size x with
  | none=>none
  | some (new,nf,foot)=>
   match d with
   | .bp=>some ⟨.int .i64 0,[],foot⟩
   | .own a k off len=>match rd a with
    | some (.arr k' xs flat false)=>
     if k == ti.size&&k' == k&&decide (off+len≤xs.length) then
      let new:=new.take len
      some ⟨.int .i64 new.length,[(a,some (.arr k (xs.take off ++ new ++ xs.drop (off+new.length)) (flat&&nf) false))],a::foot⟩
     else none
    | _=>none
   | _=>none
 | _=>none
def mM (tab:Nat→Option TI) (rd:Rd) (t:Nat) (d:PV):Option Eff:=
 match tab t with
 | some {kind:=.slice e,..}=>match tab e with
  | some ti=>match d with
   | .bp=>ok .void
   | .own a k off len=>match rd a with
    | some (.arr k' xs flat false)=>
     if k == ti.size&&k' == k&&decide (off+len≤xs.length) then
      some ⟨.void,[(a,some (.arr k (xs.take off ++ List.replicate len ti.zero ++ xs.drop (off+len)) (flat&&cJ ti.zero) false))],[a]⟩
     else none
    | _=>none
   | _=>none
  | none=>none
 | _=>none
def de (tab:Nat→Option TI) (rd:Rd) (nid:Nat) (b:Builtin) (ts:List Nat) (vs:List PV):Option Eff:=
 match b,ts,vs with
 | .len,t::_,[v]=>match tab t,v with
  | some {kind:=.slice _,..},v=>match v with
   | .str _=>none
   | v=>(eR v).map fun (n:Nat)=>⟨.int .i64 (n:Int),[],[]⟩
  | some {kind:=.str,..},.str s=>ok (.int .i64 s.size)
  | some {kind:=.array n _,..},_=>ok (.int .i64 n)
  | _,_=>none
 | .append,[t,t'],[s,x]=>match tab t' with
  | some {kind:=.slice _,..}=>jS tab rd nid t s x
  | _=>none
 | .copy,[t,_],[d,x]=>si tab rd t d x
 | .clear,t::_,[d]=>mM tab rd t d
 | .min,_,.int k n::r=>(oJ n r).map fun m=>⟨.int k m,[],[]⟩
 | .max,_,.int k n::r=>(oK n r).map fun m=>⟨.int k m,[],[]⟩
 | _,_,_=>none
def oz (ti:TI) (n:Nat):List (List PV):=List.replicate n ti.zero
def bM (tab:Nat→Option TI) (rd:Rd) (nid:Nat) (tm:List PV) (o:Oper):Option Eff:=
 match o.op with
 | .move x | .assign x=>(cj tm x).map fun v=>⟨v,[],[]⟩
 | .pick c a b=>match cj tm c,cj tm a,cj tm b with
  | some (.bool c),some a,some b=>ok (if c then a else b)
  | _,_,_=>none
 | .alloc t=>match tab t with
  | some ti=>some ⟨.ptr nid 0,[(nid,some (.box ti.zero))],[]⟩
  | none=>none
 | .box _ x=>match (cj tm x).bind cellsOf with
  | some cs=>some ⟨.ptr nid 0,[(nid,some (.box cs))],[]⟩
  | none=>none
 | .build t parts=>match tab t,kV tm parts.toList with
  | some {kind:=.struct fs,zero:=z,..},some ps=>(fillParts tab fs z ps).map fun cs=>⟨.agg cs,[],[]⟩
  | some {kind:=.array n e,zero:=z,..},some ps=>
   match e8 tab e with
   | some sz=>(fillParts tab ((List.range n).map fun i=>(i*sz,e)) z ps).map fun cs=>⟨.agg cs,[],[]⟩
   | none=>none
  | _,_=>none
 | .buildSlice t n parts=>match tab t,mU tm parts.toList with
  | some {kind:=.slice e,..},some vs=>
   match tab e with
   | some ti=>if jW 0 parts.toList&&vs.length == n&&decide (n*ti.size≤4096)&&decide (0<ti.size) then
     match cW rd ti.size vs with
     | some (rows,fz,flat)=>some ⟨.own nid ti.size 0 n,freezes rd fz ++ [(nid,some (.arr ti.size rows flat false))],fz⟩
     | none=>none
    else none
   | none=>none
  | _,_=>none
 | .load t p=>match tab t,cj tm p with
  | some ti,some p=>loadAt rd ti p
  | _,_=>none
 | .store t p v=>match tab t,cj tm p,cj tm v with
  | some ti,some p,some v=>storeAt rd ti p v
  | _,_,_=>none
 | .nilCheck x=>match cj tm x with
  | some (.ptr a o)=>ok (.ptr a o)
  | some (.dL a i o)=>ok (.dL a i o)
  | some (.bL xs i o)=>ok (.bL xs i o)
  | some (.fn f cs)=>ok (.fn f cs)
  | _=>none
 | .binOp op t x y _=>match cj tm x,cj tm y with
  | some x,some y=>(fk (tab t) op x y).map fun v=>⟨v,[],[]⟩
  | _,_=>none
 | .unOp op _ x=>match cj tm x with
  | some x=>(Rt op x).map fun v=>⟨v,[],[]⟩
  | none=>none
 | .convert s d x=>match tab s,tab d,cj tm x with
  | some {kind:=.int _,..},some {kind:=.int k,..},some (.int _ n)=>ok (.int k (k.wrap n))
  | _,_,_=>none
 | .makeFunc (.func f) first iF=>if first.isEmpty then (gB tm iF.toList).map fun cs=>⟨.fn f cs,[],[]⟩ else none
 | .makeSlice t l c=>match tab t,cj tm l,cj tm c with
  | some {kind:=.slice e,..},some (.int .i64 l),some (.int .i64 c)=>
   match tab e with
   | some ti=>if 0≤l∧l≤c∧c≤bound∧ti.bytes≤4096 then
     some ⟨.own nid ti.size 0 l.toNat,[(nid,some (.arr ti.size (oz ti l.toNat) false false))],[]⟩
    else none
   | none=>none
  | _,_,_=>none
 | .slice t x lo hi none=>
  match cj tm x,(match lo with | none=>some none | some v=>(cj tm v).map some),(match hi with | none=>some none | some v=>(cj tm v).map some) with
  | some x,some lo,some hi=>cutAt tab t x lo hi
  | _,_,_=>none
 | .fieldAddr s x f=>match cj tm x with
  | some p=>gq tab s f p
  | none=>none
 | .field s x f=>match cj tm x with
  | some v=>fieldAt tab s f v
  | none=>none
 | .indexAddr t x i=>match cj tm x,cj tm i with
  | some x,some i=>gp tab t x i
  | _,_=>none
 | .index t x i=>match cj tm x,cj tm i with
  | some x,some i=>indexAt tab t x i
  | _,_=>none
 | .extract x i=>match cj tm x with
  | some (.tup vs)=>match vs[i]? with
   | some v=>ok v
   | none=>none
  | _=>none
 | .call {callee:=.builtin b,args,argTypes}=>match gB tm args.toList with
  | some vs=>de tab rd nid b argTypes.toList vs
  | none=>none
 | _=>none
structure Callee where
 pureC:Nat→List PV→Option PV
 refC:Nat→Nat→List PV→List (Nat × bq)→Nat→Option (PV × List (Nat × bq) × Nat)
structure Env where
 tab:Nat→Option TI
 code:Nat→Option Func
 isRef:Nat→Bool
 keepNil:Nat→Bool
 resK:Nat→List (Option Nat)
 keep:Nat→Nat→List (Nat × List (Nat × Nat × Bool))
 keepR:Nat→Nat→Option (List (Nat × List (Nat × Nat × Bool)))
 keepE:Nat→Option (List (Nat × List (Nat × Nat × Bool)))
 pairs:Nat→Nat→List (Nat × Nat)
 norm:Nat→List (Nat × List (Nat × Nat × Bool))
 primP:Nat→Option (List PV→Option PV)
 primR:Nat→Option (List PV→List (Nat × bq)→Nat→Option (PV × List (Nat × bq) × Nat))
def imports (nid:Nat):List PV→List (Option Nat)→Nat→Option (List PV × Upd × Bool × Nat)
 | [],_,j=>some ([],[],false,j)
 | v::r,ks,j=>
  match v with
  | .lit xs ⟨true,flat⟩=>match ks.head? with
   | some (some k)=>match imports nid r ks.tail (j+1) with
    | some (vs,u,sh,j')=>some (.own (nid+j) k 0 xs.length::vs,(nid+j,some (.arr k xs false false))::u,sh||!(xs.all cJ),j')
    | none=>none
   | _=>none
  | .lit xs fl=>match imports nid r ks.tail j with
   | some (vs,u,_,j')=>some (.lit xs fl::vs,u,true,j')
   | none=>none
  | v=>if plainCell v||(match v with | .undef | .bp | .eH=>true | _=>false) then
    match imports nid r ks.tail j with
    | some (vs,u,sh,j')=>some (v::vs,u,sh,j')
    | none=>none
   else none
def cB (nid:Nat) (v:PV) (ks:List (Option Nat)) (j:Nat):Option (PV × Upd × Bool × Nat × List (Option Nat)):=
 match v with
 | .agg cs=>match imports nid cs (ks.take cs.length) j with
  | some (cs',u,sh,j')=>some (.agg cs',u,sh,j',ks.drop cs.length)
  | none=>none
 | v=>match imports nid [v] (ks.take 1) j with
  | some ([v'],u,sh,j')=>some (v',u,sh,j',ks.drop 1)
  | _=>none
def dG (nid:Nat):List PV→List (Option Nat)→Nat→Option (List PV × Upd × Bool × Nat)
 | [],_,j=>some ([],[],false,j)
 | v::r,ks,j=>match cB nid v ks j with
  | some (v',u,sh,j',ks')=>match dG nid r ks' j' with
   | some (vs,u',sh',j'')=>some (v'::vs,u ++ u',sh||sh',j'')
   | none=>none
  | none=>none
def dk (nid:Nat) (v:PV) (ks:List (Option Nat)):Option (PV × Upd × Bool × Nat):=
 match v with
 | .tup vs=>match dG nid vs ks 0 with
  | some (vs',u,sh,j)=>some (.tup vs',u,sh,j)
  | none=>none
 | v=>match cB nid v ks 0 with
  | some (v',u,sh,j,_)=>some (v',u,sh,j)
  | none=>none
def times (a:Nat):List Nat→Nat
 | []=>0
 | b::r=>(if a == b then 1 else 0)+times a r
def exports (rd:Rd) (all:List Nat):List PV→List (Option Nat)→Option (List PV)
 | [],_=>some []
 | v::r,ks=>
  match exports rd all r ks.tail with
  | none=>none
  | some r'=>
   match v with
   | .own a k off len=>match rd a with
    | some (.arr k' xs flat fz)=>
     if k' == k&&decide (off+len≤xs.length) then
      match ks.head? with
      | some (some k2)=>if k2 == k&&(!fz&&times a all == 1) then some (.lit ((xs.drop off).take len) ⟨true,flat⟩::r') else none
      | _=>if !fz&&times a all == 1 then none else some (.lit ((xs.drop off).take len) ⟨false,flat⟩::r')
     else none
    | _=>none
   | .bp=>match ks.head? with
    | some (some _)=>some (.lit [] ⟨true,false⟩::r')
    | _=>some (.lit [] ⟨false,false⟩::r')
   | .lit xs fl=>match ks.head? with
    | some (some _)=>none
    | _=>some (.lit xs ⟨false,fl.flat⟩::r')
   | v=>if plainCell v then some (v::r') else none
def cM (rd:Rd) (all:List Nat) (v:PV) (ks:List (Option Nat)):Option (PV × List (Option Nat)):=
 match v with
 | .agg cs=>match exports rd all cs (ks.take cs.length) with
  | some cs'=>some (.agg cs',ks.drop cs.length)
  | none=>none
 | v=>match exports rd all [v] (ks.take 1) with
  | some [v']=>some (v',ks.drop 1)
  | _=>none
def eX (rd:Rd) (all:List Nat):List PV→List (Option Nat)→Option (List PV)
 | [],_=>some []
 | v::r,ks=>match cM rd all v ks with
  | some (v',ks')=>match eX rd all r ks' with
   | some vs=>some (v'::vs)
   | none=>none
  | none=>none
def shIds:List PV→List (Option Nat)→List Nat
 | [],_=>[]
 | v::r,ks=>(match ks.head? with | some (some _)=>[] | _=>ids v) ++ shIds r ks.tail
def shV (v:PV) (ks:List (Option Nat)):List Nat × List (Option Nat):=
 match v with
 | .agg cs=>(shIds cs (ks.take cs.length),ks.drop cs.length)
 | v=>(shIds [v] (ks.take 1),ks.drop 1)
def C0:List PV→List (Option Nat)→List Nat
 | [],_=>[]
 | v::r,ks=>(shV v ks).1 ++ C0 r (shV v ks).2
def eN (rd:Rd) (v:PV) (ks:List (Option Nat)):Option PV:=
 match v with
 | .tup vs=>(eX rd (dz vs ++ C0 vs ks) vs ks).map .tup
 | v=>(cM rd (ids v ++ (shV v ks).1) v ks).map (·.1)
def jk:Nat:=400
def boxes (rd:Rd):List Nat→List Nat
 | []=>[]
 | a::r=>match rd a with
  | some (.box _)=>a::boxes rd r
  | _=>boxes rd r
def kL:List Nat→Upd
 | []=>[]
 | a::r=>(a,none)::kL r
def gQ (g:Nat→Option Nat) (h:List (Nat × bq)):Upd:=
 match h with
 | []=>[]
 | (j,o)::r=>match g j with
  | some a=>(a,some (e9 g o))::gQ g r
  | none=>gQ g r
def mP (roots:List Nat) (nid:Nat) (j:Nat):Option Nat:=
 if j<roots.length then roots[j]? else some (nid+(j - roots.length))
def pd (rd:Rd) (a:Nat):Bool:=
 match rd a with
 | some (.arr ..)=>true
 | _=>false
def isObj (rd:Rd) (a:Nat):Bool:=
 match rd a with
 | some _=>true
 | none=>false
def eO (E:Env) (C:Callee) (rd:Rd) (nid:Nat) (f:Nat) (args:List PV):Option Eff:=
 if E.isRef f then
  let L0:=order rd (dedup (dz args) []) []
  let roots:=dedup (boxes rd L0) (dedup (dz args) [])
  let L:=order rd roots []
  let g:=fun a=>pos L a 0
  match C.refC f roots.length (fD g args) (picks rd g L 0) L.length with
  | some (v,h,nx)=>
   let b:=mP roots nid
   if decide (nx≤roots.length+64)&&roots.all (isObj rd) then
    some ⟨ren b v,kL L ++ gQ b h,L0 ++ L⟩
   else none
  | none=>none
 else
  match dV rd (E.keepNil f) jk args with
  | some (a5,foot)=>match C.pureC f a5 with
   | some r=>match dk nid r (E.resK f) with
    | some (v,u,sh,j)=>if decide (j≤64)&&(!sh||foot.all (pd rd)) then some ⟨v,(if sh then freezes rd (dedup foot []) else []) ++ u,foot⟩ else none
    | none=>none
   | none=>none
  | none=>none
def dK (E:Env) (C:Callee) (rd:Rd) (nid:Nat) (tm:List PV) (o:Oper):Option Eff:=
 match o.op with
 | .call {callee:=.value f,args,..}=>match cj tm f,gB tm args.toList with
  | some (.fn g iF),some vs=>eO E C rd nid g (vs ++ iF)
  | _,_=>none
 | _=>bM E.tab rd nid tm o
def guardOf (ops:List Oper) (tm:List PV) (o:Oper):Option Bool:=
 match o.guard with
 | none=>some true
 | some (j,want)=>match (ops[j]?).bind (·.dst) with
  | some d=>match nth tm d with
   | .bool b=>some (b == want)
   | .void=>some false
   | _=>none
  | none=>none
def putD (tm:List PV) (d:Option Nat) (v:PV):List PV:=
 match d with
 | some d=>put tm d v
 | none=>tm
def stepOp (E:Env) (C:Callee) (ops:List Oper) (rd:Rd) (nid:Nat) (tm:List PV) (o:Oper):Option Eff:=
 match guardOf ops tm o with
 | some true=>dK E C rd nid tm o
 | some false=>some ⟨.void,[],[]⟩
 | none=>none
def fM (E:Env) (C:Callee) (ops:List Oper):List Oper→Nat→List PV→List (Nat × bq)→Option (List PV × List (Nat × bq) × List Eff)
 | [],_,tm,h=>some (tm,h,[])
 | o::r,nid,tm,h=>match stepOp E C ops (look h) nid tm o with
  | some e=>match fM E C ops r (nid+64) (putD tm o.dst e.val) (dH h e.upd) with
   | some (tm',h',es)=>some (tm',h',e::es)
   | none=>none
  | none=>none
def dy:Upd→List Nat
 | []=>[]
 | (a,_)::r=>a::dy r
def Ay (xs ys:List Nat):Bool:=xs.all fun a=>!has ys a
def kM (a b:Eff):Bool:=Ay (dy a.upd) (b.foot ++ dy b.upd)&&Ay (dy b.upd) (a.foot ++ dy a.upd)
def jV:Op→Bool
 | .move _ | .assign _ | .pick .. | .nilCheck _ | .binOp .. | .unOp .. | .convert .. | .makeFunc .. | .fieldAddr .. | .field .. | .indexAddr .. | .index .. | .extract .. | .build ..=>true
 | .slice _ _ _ _ none=>true
 | .call {callee:=.builtin b,..}=>match b with
  | .len | .min | .max=>true
  | _=>false
 | _=>false
def isLoad:Op→Bool
 | .load ..=>true
 | _=>false
def Po:List (Nat × Nat)→Nat→Nat→Bool
 | [],_,_=>false
 | (a,b)::r,i,j=>(i == a&&j == b)||Po r i j
def Dn (ops:Array Oper) (ps:List (Nat × Nat)) (i j:Nat) (x y:Oper):Bool:=
 x.apart ops y&&(jV x.op||jV y.op||(isLoad x.op&&isLoad y.op)||Po ps i j)
def edgesDown:List Oper→Nat→Bool
 | [],_=>true
 | o::r,i=>(o.after.toList.all fun e=>!Region.binds .any e||decide (e.on<i))&&(match o.op with | .select _ _=>false | _=>true)&&edgesDown r (i+1)
def yM (md:Region.Mode) (done:List Nat) (o:Oper):Bool:=o.after.toList.all fun e=>!Region.binds md e||has done e.on
def NX (md:Region.Mode) (done:List Nat):Nat→List Oper→Option Nat
 | _,[]=>none
 | i,o::r=>if !has done i&&yM md done o then some i else NX md done (i+1) r
def tX (md:Region.Mode) (ops:List Oper):Nat→List Nat→List Nat
 | 0,_=>[]
 | n+1,done=>match NX md done 0 ops with
  | some i=>i::tX md ops n (i::done)
  | none=>[]
def iL (md:Region.Mode) (ops:List Oper):List Nat→List Nat→Bool
 | done,[]=>(List.range ops.length).all fun i=>has done i
 | done,i::r=>(match ops[i]? with | some o=>yM md done o | none=>false)&&iL md ops (i::done) r
def qA:List (List Nat)→Nat→List Nat
 | [],_=>[]
 | x::_,0=>x
 | _::r,n+1=>qA r n
def lv (acc:List (List Nat)):List Edge→List Nat
 | []=>[]
 | e::r=>if Region.binds .any e then e.on::(qA acc e.on ++ lv acc r) else lv acc r
def rl:List Oper→List (List Nat)→List (List Nat)
 | [],acc=>acc
 | o::r,acc=>rl r (acc ++ [lv acc o.after.toList])
def indepRow (ops:Array Oper) (ps:List (Nat × Nat)) (y:Oper) (bj:List Nat):Nat→List Oper→Nat→Bool
 | i,x::xs,j=>decide (j≤i)||((has bj i||Dn ops ps i j x y)&&indepRow ops ps y bj (i+1) xs j)
 | _,_,_=>true
def indepAll (ops:Array Oper) (ps:List (Nat × Nat)) (xs:List Oper):Nat→List Oper→List (List Nat)→Bool
 | j,y::ys,bj::r=>indepRow ops ps y bj 0 xs j&&indepAll ops ps xs (j+1) ys r
 | _,_,_=>true
def lM:List Eff→Nat→Eff
 | [],_=>⟨.void,[],[]⟩
 | e::_,0=>e
 | _::r,n+1=>lM r n
def cO (es:List Eff):List (Nat × Nat)→Bool
 | []=>true
 | (i,j)::r=>kM (lM es i) (lM es j)&&cO es r
def Bj (ops:Array Oper) (ps:List (Nat × Nat)):Bool:=
 edgesDown ops.toList 0&&iL .any ops.toList [] (tX .any ops.toList ops.size [])&&iL .text ops.toList [] (tX .text ops.toList ops.size [])&&iL .gc ops.toList [] (tX .gc ops.toList ops.size [])&&
 indepAll ops ps ops.toList 0 ops.toList (rl ops.toList [])
def fZ (pairs:Nat→List (Nat × Nat)):Code→Bool
 | .region id ops true=>Bj ops (pairs id)
 | .seq x y | .cond _ x y=>fZ pairs x&&fZ pairs y
 | .block _ x | .loop x=>fZ pairs x
 | _=>true
def fj (E:Env) (C:Callee) (ops:Array Oper) (draw:Bool) (ps:List (Nat × Nat)) (st:St):Option St:=
 match fM E C ops.toList ops.toList st.next st.tmps st.heap with
 | some (tm,h,es)=>if !draw||cO es ps then some ⟨tm,h,st.next+64*ops.size⟩ else none
 | none=>none
inductive Ex where
 | normal | exit (id:Nat) | ret
 deriving DecidableEq
def gC (v:PV) (h:List (Nat × bq)) (next k:Nat) (flat:Bool):PV × List (Nat × bq) × Nat:=
 match v with
 | .bp=>(.own next k 0 0,setObj h next (.arr k [] flat false),next+1)
 | v=>(v,h,next)
def dI (v:PV) (h:List (Nat × bq)) (next:Nat):List (Nat × Nat × Bool)→PV × List (Nat × bq) × Nat
 | []=>(v,h,next)
 | (c,k,flat)::r=>match v with
  | .ptr a 0=>match look h a with
   | some (.box cs)=>match gC (nth cs c) h next k flat with
    | (x,h',nx)=>dI v (setObj h' a (.box (put cs c x))) nx r
   | _=>dI v h next r
  | v=>match gC v h next k flat with
   | (x,h',nx)=>dI x h' nx r
def keepT (h:List (Nat × bq)) (next:Nat) (tm:List PV):Nat→List (Nat × List (Nat × Nat × Bool))→List PV × List (Nat × bq) × Nat
 | n,ks=>match tm with
  | []=>([],h,next)
  | v::r=>match ks with
   | []=>match keepT h next r (n+1) [] with
    | (r',h',nx)=>(.undef::r',h',nx)
   | (t,cs)::ks'=>
    if t == n then match dI v h next cs with
     | (v',h',nx)=>match keepT h' nx r (n+1) ks' with
      | (r',h'',nx')=>(v'::r',h'',nx')
    else match keepT h next r (n+1) ks with
     | (r',h',nx)=>(.undef::r',h',nx)
def canon (roots:List Nat) (vals:List PV) (h:List (Nat × bq)):List PV × List (Nat × bq) × Nat:=
 let L:=order (look h) roots vals
 let g:=fun a=>pos L a 0
 (fD g vals,picks (look h) g L 0,L.length)
def upto:Nat→List Nat
 | 0=>[]
 | n+1=>upto n ++ [n]
def clean (nr:Nat) (ks:List (Nat × List (Nat × Nat × Bool))) (st:St):St:=
 match keepT st.heap st.next st.tmps 0 ks with
 | (tm,h,nx)=>match canon (upto nr) tm h with
  | (tm',h',nx')=>⟨tm',h',nx'⟩
def dx (nr:Nat) (ks:Option (List (Nat × List (Nat × Nat × Bool)))) (st:St):St:=
 match ks with
 | none=>st
 | some ks=>clean nr ks st
def iter (cl:St→St) (g:St→Option (Ex × St)):Nat→St→Option (Ex × St)
 | 0,_=>none
 | n+1,st=>match g (cl st) with
  | some (.normal,st')=>iter cl g n st'
  | r=>r
def ca (E:Env) (C:Callee) (n f nr:Nat):Nat→Code→St→Option (Ex × St)
 | _,.skip,st=>some (.normal,st)
 | _,.region id ops draw,st=>(fj E C ops draw (E.pairs f id) (dx nr (E.keepR f id) st)).map fun st=>(.normal,st)
 | b,.seq x y,st=>match ca E C n f nr b x st with
  | some (.normal,st')=>ca E C n f nr b y st'
  | r=>r
 | b,.cond c x y,st=>match cj st.tmps c with
  | some (.bool t)=>if t then ca E C n f nr b x st else ca E C n f nr b y st
  | _=>none
 | _,.block id x,st=>match ca E C n f nr id x st with
  | some (.exit i,st')=>if i=id then some (.normal,st') else some (.exit i,st')
  | r=>r
 | b,.loop x,st=>iter (clean nr (E.keep f b)) (ca E C n f nr b x) n st
 | _,.exit id,st=>some (.exit id,st)
 | _,.ret,st=>some (.ret,st)
 | _,_,_=>none
def jq (tab:Nat→Option TI) (st:St):ResultVar→Option PV
 | .tmp t=>some (nth st.tmps t)
 | .cell a t=>match tab t with
  | some ti=>(loadAt (look st.heap) ti (nth st.tmps a)).map (·.val)
  | none=>none
def cv (tab:Nat→Option TI) (st:St):List ResultVar→Option (List PV)
 | []=>some []
 | r::rs=>match jq tab st r,cv tab st rs with
  | some v,some vs=>some (v::vs)
  | _,_=>none
def pack:List PV→PV
 | [v]=>v
 | vs=>.tup vs
def fa (E:Env) (C:Callee) (n f nr:Nat) (args:List PV) (h:List (Nat × bq)) (next:Nat):Option (PV × List (Nat × bq) × Nat):=
 match E.code f with
 | some fn=>match fn.body with
  | some c=>match ca E C n f nr 0 c ⟨args ++ List.replicate (fn.ntmps - args.length) .undef,h,next⟩ with
   | some (ex,st1)=>if ex=.normal∨ex=.ret then
     let st:=dx nr (E.keepE f) st1
     match cv E.tab st fn.results.toList with
     | some vs=>some (pack vs,st.heap,st.next)
     | none=>none
    else none
   | none=>none
  | none=>none
 | none=>none
def normArgs (h:List (Nat × bq)) (next:Nat) (args:List PV) (ks:List (Nat × List (Nat × Nat × Bool))):List (Nat × bq) × Nat:=
 match ks with
 | []=>(h,next)
 | (i,cs)::r=>match dI (nth args i) h next cs with
  | (_,h',nx)=>normArgs h' nx args r
def ax:Nat:=4611686018427387904
def level (E:Env) (C:Callee):Callee:=
  {pureC:=fun f args=>match E.primP f with
    | some p=>p args
    | none=>match fa E C ax f 0 args [] 0 with
     | some (v,h,_)=>eN (look h) v (E.resK f)
     | none=>none
   refC:=fun f r args h next=>match E.primR f with
    | some p=>p args h next
    | none=>
     match normArgs h next args (E.norm f) with
     | (h1,nx1)=>
      let L:=order (look h1) (upto r) []
      let g:=fun a=>pos L a 0
      match fa E C ax f r (fD g args) (picks (look h1) g L 0) L.length with
      | some (v,h2,_)=>
       match canon (upto r) [v] h2 with
       | ([v'],h3,nx3)=>some (v',h3,nx3)
       | _=>none
      | none=>none}
def run (E:Env):Nat→Callee
 | 0=>⟨fun _ _=>none,fun _ _ _ _ _=>none⟩
 | n+1=>level E (run E n)
end Go.Pm
end
section
set_option linter.unusedVariables false
set_option linter.unusedSimpArgs false
namespace Go.Pm
open Go
structure Loc where
 block:Nat
 off:Nat
 k:Nat
abbrev Map:=Nat→Option Loc
def dU (xs:List (List PV)):Prop:=∀ x∈xs,∀ c∈x,plainCell c=true
def Room (w:World) (b n:Nat):Prop:=∃ c e,w.heap[b]?=some (.cells c e (0,0))∧n≤c.size
inductive V (w:World) (B:Nat→Prop):Map→PV→Value→Prop
 | undef {β:Map} (v:Value):V w B β .undef v
 | void {β:Map}:V w B β .void Go.undef
 | bool {β:Map} (b:Bool):V w B β (.bool b) (.bool b)
 | int {β:Map} (k:IntKind) (n:Int):V w B β (.int k n) (.int k n)
 | str {β:Map} (s:ByteArray):V w B β (.str s) (.string s)
 | eH {β:Map}:V w B β .eH (.pointer none)
 | bp {β:Map}:V w B β .bp (.slice none 0 0)
 | cX {β:Map}:V w B β .cX .nilFunc
 | ptr {β:Map} (a o:Nat) (l:Loc) (h:β a=some l):V w B β (.ptr a o) (.pointer (some ⟨l.block,l.off+o,none⟩))
 | dL {β:Map} (a i o:Nat) (l:Loc) (h:β a=some l):V w B β (.dL a i o) (.pointer (some ⟨l.block,l.off+i*l.k+o,none⟩))
 | kU {β:Map} (a k off:Nat) (b:Option Addr):V w B β (.own a k off 0) (.slice b 0 0)
 | own {β:Map} (a off len cap:Nat) (l:Loc) (h:β a=some l) (hc:len≤cap) (hr:Room w l.block (l.off+(off+cap)*l.k)) :
   V w B β (.own a l.k off len) (.slice (some ⟨l.block,l.off+off*l.k,none⟩) len cap)
 | lQ {β:Map} (fl:Fl) (b:Option Addr) (cap:Nat):V w B β (.lit [] fl) (.slice b 0 cap)
 | lit {β:Map} (xs:List (List PV)) (fl:Fl) (b o k cap:Nat) (val:Nat→Nat→Value) (hb:B b) (hn:xs.length≤cap)
   (hf:fl.flat=true→dU xs) (hk:∀ x∈xs,x.length=k)
   (hcell:∀ (i:Nat) (x:List PV) (j:Nat) (c:PV),xs[i]?=some x→x[j]?=some c→w.cell? ⟨b,o+i*k+j,none⟩=some (val i j))
   (ho:∀ (i:Nat) (x:List PV) (j:Nat) (c:PV),xs[i]?=some x→x[j]?=some c→(val i j).oneCell'=true)
   (hv:∀ (i:Nat) (x:List PV) (j:Nat) (c:PV),xs[i]?=some x→x[j]?=some c→V w B (fun _=>none) c (val i j)) :
   V w B β (.lit xs fl) (.slice (some ⟨b,o,none⟩) xs.length cap)
 | bL {β:Map} (xs:List (List PV)) (i o b off k:Nat) (val:Nat→Nat→Value) (hb:B b) (hk:∀ x∈xs,x.length=k)
   (hcell:∀ (i:Nat) (x:List PV) (j:Nat) (c:PV),xs[i]?=some x→x[j]?=some c→w.cell? ⟨b,off+i*k+j,none⟩=some (val i j))
   (ho:∀ (i:Nat) (x:List PV) (j:Nat) (c:PV),xs[i]?=some x→x[j]?=some c→(val i j).oneCell'=true)
   (hv:∀ (i:Nat) (x:List PV) (j:Nat) (c:PV),xs[i]?=some x→x[j]?=some c→V w B (fun _=>none) c (val i j)) :
   V w B β (.bL xs i o) (.pointer (some ⟨b,off+i*k+o,none⟩))
 | agg {β:Map} (cs:List PV) (vs:Array Value) (hl:cs.length=vs.size) (ho:∀ v∈vs.toList,v.oneCell'=true)
   (hv:∀ (i:Nat) (c:PV) (v:Value),cs[i]?=some c→vs[i]?=some v→V w B β c v):V w B β (.agg cs) (.agg vs)
 | tup {β:Map} (cs:List PV) (vs:Array Value) (hl:cs.length=vs.size)
   (hv:∀ (i:Nat) (c:PV) (v:Value),cs[i]?=some c→vs[i]?=some v→V w B β c v):V w B β (.tup cs) (.tuple vs)
 | fn {β:Map} (f:Nat) (cs:List PV) (vs:Array Value) (hl:cs.length=vs.size)
   (hv:∀ (i:Nat) (c:PV) (v:Value),cs[i]?=some c→vs[i]?=some v→V w B β c v):V w B β (.fn f cs) (.func (.func f) #[] vs)
def Vs (w:World) (B:Nat→Prop) (β:Map) (cs:List PV) (vs:List Value):Prop:=
 cs.length=vs.length∧∀ (i:Nat) (c:PV) (v:Value),cs[i]?=some c→vs[i]?=some v→V w B β c v
theorem Vs.nil {w:World} {B:Nat→Prop} {β:Map}:Vs w B β [] []:=⟨rfl,fun i c v h=>by simp at h⟩
theorem Vs.cons {w:World} {B:Nat→Prop} {β:Map} {c:PV} {v:Value} {cs:List PV} {vs:List Value} (h:V w B β c v) (hs:Vs w B β cs vs):Vs w B β (c::cs) (v::vs):=
 ⟨by simp [hs.1],fun i c' v' h1 h2=>by
  cases i with
  | zero=>simp at h1 h2;subst h1;subst h2;exact h
  | succ i=>simp at h1 h2;exact hs.2 i c' v' h1 h2⟩
theorem Vs.head {w:World} {B:Nat→Prop} {β:Map} {c:PV} {v:Value} {cs:List PV} {vs:List Value} (h:Vs w B β (c::cs) (v::vs)):V w B β c v:=h.2 0 c v rfl rfl
theorem Vs.tail {w:World} {B:Nat→Prop} {β:Map} {c:PV} {v:Value} {cs:List PV} {vs:List Value} (h:Vs w B β (c::cs) (v::vs)):Vs w B β cs vs:=
 ⟨by simpa using h.1,fun i c' v' h1 h2=>h.2 (i+1) c' v' (by simpa using h1) (by simpa using h2)⟩
theorem Vs.cN {w:World} {B:Nat→Prop} {β:Map} {c:PV} {cs:List PV} {vs:List Value} (h:Vs w B β (c::cs) vs) :
  ∃ v vs',vs=v::vs'∧V w B β c v∧Vs w B β cs vs':=by
 cases vs with
 | nil=>simp [Vs] at h
 | cons v vs'=>exact ⟨v,vs',rfl,h.head,h.tail⟩
theorem Vs.of_nil {w:World} {B:Nat→Prop} {β:Map} {vs:List Value} (h:Vs w B β [] vs):vs=[]:=by
 cases vs with
 | nil=>rfl
 | cons v vs'=>simp [Vs] at h
theorem Vs.append {w:World} {B:Nat→Prop} {β:Map} {cs ds:List PV} {vs us:List Value} (h:Vs w B β cs vs) (k:Vs w B β ds us):Vs w B β (cs ++ ds) (vs ++ us):=by
 induction cs generalizing vs with
 | nil=>rw [h.of_nil];exact k
 | cons c cs ih=>obtain ⟨v,vs',rfl,h1,h2⟩:=h.cN;exact Vs.cons h1 (ih h2)
theorem Vs.get {w:World} {B:Nat→Prop} {β:Map} {cs:List PV} {vs:List Value} (h:Vs w B β cs vs) {i:Nat} {c:PV} (hc:cs[i]?=some c):∃ v,vs[i]?=some v∧V w B β c v:=by
 have hi:i<cs.length:=by rcases Nat.lt_or_ge i cs.length with h' | h';exact h';simp [List.getElem?_eq_none h'] at hc
 have hi':i<vs.length:=h.1▸hi
 exact ⟨vs[i],List.getElem?_eq_getElem hi',h.2 i c _ hc (List.getElem?_eq_getElem hi')⟩
theorem Vs.take {w:World} {B:Nat→Prop} {β:Map} {cs:List PV} {vs:List Value} (h:Vs w B β cs vs) (n:Nat):Vs w B β (cs.take n) (vs.take n):=
 ⟨by simp [h.1],fun i c v h1 h2=>by
  rw [List.getElem?_take] at h1 h2
  split at h1 <;> simp_all
  exact h.2 i c v h1 h2⟩
theorem Vs.drop {w:World} {B:Nat→Prop} {β:Map} {cs:List PV} {vs:List Value} (h:Vs w B β cs vs) (n:Nat):Vs w B β (cs.drop n) (vs.drop n):=
 ⟨by simp [h.1],fun i c v h1 h2=>h.2 (n+i) c v (by simpa using h1) (by simpa using h2)⟩
theorem Vs.agg {w:World} {B:Nat→Prop} {β:Map} {cs:List PV} {vs:List Value} (h:Vs w B β cs vs) (ho:∀ v∈vs,v.oneCell'=true):V w B β (.agg cs) (.agg vs.toArray):=
 .agg cs vs.toArray (by simpa using h.1) (by simpa using ho) fun i c v h1 h2=>h.2 i c v h1 (by simpa using h2)
theorem Vs.pv {w:World} {B:Nat→Prop} {β:Map} {cs:List PV} {v:Value} (h:V w B β (.agg cs) v):∃ vs,v=.agg vs∧Vs w B β cs vs.toList∧(∀ v∈vs.toList,v.oneCell'=true):=by
 cases h with
 | agg cs vs hl ho hv=>exact ⟨vs,rfl,⟨by simpa using hl,fun i c v h1 h2=>hv i c v h1 (by simpa using h2)⟩,ho⟩
theorem Vs.Ny {w:World} {B:Nat→Prop} {β:Map} {cs:List PV} {v:Value} (h:V w B β (.tup cs) v):∃ vs,v=.tuple vs∧Vs w B β cs vs.toList:=by
 cases h with
 | tup cs vs hl hv=>exact ⟨vs,rfl,by simpa using hl,fun i c v h1 h2=>hv i c v h1 (by simpa using h2)⟩
theorem Vs.XH {w:World} {B:Nat→Prop} {β:Map} {f:Nat} {cs:List PV} {v:Value} (h:V w B β (.fn f cs) v):∃ vs,v=.func (.func f) #[] vs∧Vs w B β cs vs.toList:=by
 cases h with
 | fn f cs vs hl hv=>exact ⟨vs,rfl,by simpa using hl,fun i c v h1 h2=>hv i c v h1 (by simpa using h2)⟩
theorem V.plain {w w':World} {B B':Nat→Prop} {β β':Map} {c:PV} {v:Value} (h:V w B β c v) (hp:plainCell c=true):V w' B' β' c v:=by
 cases h <;> simp [plainCell] at hp <;> constructor
theorem V.keep {w w':World} {B B':Nat→Prop} {β β':Map} (hB:∀ b,B b→B' b) (hw:∀ b,B b→w'.heap[b]?=w.heap[b]?)
  (hβ:∀ a l,β a=some l→β' a=some l) (hr:∀ b n,Room w b n→Room w' b n) {p:PV} {v:Value} (h:V w B β p v):V w' B' β' p v:=by
 induction h generalizing β' with
 | undef v=>exact .undef v
 | void=>exact .void
 | bool b=>exact .bool b
 | int k n=>exact .int k n
 | str s=>exact .str s
 | eH=>exact .eH
 | bp=>exact .bp
 | cX=>exact .cX
 | ptr a o l h=>exact .ptr a o l (hβ a l h)
 | dL a i o l h=>exact .dL a i o l (hβ a l h)
 | kU a k off b=>exact .kU a k off b
 | own a off len cap l h hc hroom=>exact .own a off len cap l (hβ a l h) hc (hr _ _ hroom)
 | lQ fl b cap=>exact .lQ fl b cap
 | lit xs fl b o k cap val hb hn hf hk hcell ho hv ih=>
  refine .lit xs fl b o k cap val (hB b hb) hn hf hk (fun i x j c h1 h2=>?_) ho fun i x j c h1 h2=>ih i x j c h1 h2 fun _ _ h=>h
  have:=hcell i x j c h1 h2
  unfold World.cell? at this ⊢
  rw [hw b hb];exact this
 | bL xs i o b off k val hb hk hcell ho hv ih=>
  refine .bL xs i o b off k val (hB b hb) hk (fun i x j c h1 h2=>?_) ho fun i x j c h1 h2=>ih i x j c h1 h2 fun _ _ h=>h
  have:=hcell i x j c h1 h2
  unfold World.cell? at this ⊢
  rw [hw b hb];exact this
 | agg cs vs hl ho hv ih=>exact .agg cs vs hl ho fun i c v h1 h2=>ih i c v h1 h2 hβ
 | tup cs vs hl hv ih=>exact .tup cs vs hl fun i c v h1 h2=>ih i c v h1 h2 hβ
 | fn f cs vs hl hv ih=>exact .fn f cs vs hl fun i c v h1 h2=>ih i c v h1 h2 hβ
theorem V.lift {w:World} {B:Nat→Prop} {β:Map} {p:PV} {v:Value} (h:V w B (fun _=>none) p v):V w B β p v:=
 h.keep (fun _ h=>h) (fun _ _=>rfl) (fun a l h=>by cases h) (fun _ _ h=>h)
theorem Vs.keep {w w':World} {B B':Nat→Prop} {β β':Map} (hB:∀ b,B b→B' b) (hw:∀ b,B b→w'.heap[b]?=w.heap[b]?)
  (hβ:∀ a l,β a=some l→β' a=some l) (hr:∀ b n,Room w b n→Room w' b n) {cs:List PV} {vs:List Value} (h:Vs w B β cs vs):Vs w' B' β' cs vs:=
 ⟨h.1,fun i c v h1 h2=>(h.2 i c v h1 h2).keep hB hw hβ hr⟩
def oy (w:World) (B:Nat→Prop) (l:Loc) (xs:List (List PV)) (c:Array Value):Prop:=
 ∀ (i:Nat) (x:List PV) (j:Nat) (p:PV),xs[i]?=some x→x[j]?=some p→∃ v,c[l.off+i*l.k+j]?=some v∧v.oneCell'=true∧V w B (fun _=>none) p v
structure Sim (w:World) (B:Nat→Prop) (β:Map) (rd:Rd):Prop where
 box:∀ a cs,rd a=some (.box cs)→∃ l c e,β a=some l∧l.off=0∧w.heap[l.block]?=some (.cells c e (0,0))∧Vs w B β cs c.toList∧(∀ v∈c.toList,v.oneCell'=true)
 arr:∀ a k xs fl fz,rd a=some (.arr k xs fl fz)→(fl=true→dU xs)∧(∀ x∈xs,x.length=k)∧
  ((xs=[]∧β a=none)∨∃ l c e,β a=some l∧l.k=k∧w.heap[l.block]?=some (.cells c e (0,0))∧oy w B l xs c)
 excl:∀ a o l,rd a=some o→(∀ k xs fl,o≠.arr k xs fl true)→β a=some l→¬ B l.block
 inj:∀ a b o p l m,rd a=some o→rd b=some p→a≠b→β a=some l→β b=some m→l.block≠m.block
 lt:∀ b,B b→b<w.heap.size
 frz:∀ a k xs fl l,rd a=some (.arr k xs fl true)→β a=some l→B l.block
def Mut (β:Map) (rd:Rd) (b:Nat):Prop:=∃ a o l,rd a=some o∧(∀ k xs fl,o≠.arr k xs fl true)∧β a=some l∧l.block=b
def In (β:Map) (rd:Rd) (b:Nat):Prop:=∃ a o l,rd a=some o∧β a=some l∧l.block=b
structure Ext (M:Nat→Prop) (w w':World):Prop where
 os:w'.os=w.os
 tape:w'.tape=w.tape
 output:w'.output=w.output
 size:w.heap.size≤w'.heap.size
 block:∀ k,k<w.heap.size→¬ M k→w'.heap[k]?=w.heap[k]?
 room:∀ b n,Room w b n→Room w' b n
theorem Ext.refl (M:Nat→Prop) (w:World):Ext M w w:=⟨rfl,rfl,rfl,Nat.le_refl _,fun _ _ _=>rfl,fun _ _ h=>h⟩
theorem Ext.trans {M N:Nat→Prop} {w w' w'':World} (h:Ext M w w') (k:Ext N w' w'') (hN:∀ b,N b→M b∨w.heap.size≤b):Ext M w w'':=
 ⟨k.os.trans h.os,k.tape.trans h.tape,k.output.trans h.output,Nat.le_trans h.size k.size,
  fun b hb hM=>(k.block b (Nat.lt_of_lt_of_le hb h.size) (fun hn=>(hN b hn).elim hM (fun hle=>by omega))).trans (h.block b hb hM),
  fun b n hr=>k.room b n (h.room b n hr)⟩
theorem Ext.mono {M N:Nat→Prop} {w w':World} (h:Ext M w w') (hM:∀ b,M b→N b):Ext N w w':=
 ⟨h.os,h.tape,h.output,h.size,fun b hb hn=>h.block b hb fun hm=>hn (hM b hm),h.room⟩
theorem Room.of_lt {w:World} {b n:Nat} (h:Room w b n):b<w.heap.size:=by
 obtain ⟨c,e,h,_⟩:=h
 rcases Nat.lt_or_ge b w.heap.size with h' | h'
 ·exact h'
 ·simp [Array.getElem?_eq_none h'] at h
theorem Ext.alloc (M:Nat→Prop) (w:World) (o:Obj):Ext M w (w.alloc o):=
 ⟨rfl,rfl,rfl,by simp,fun k hk _=>Go.RowKit.Below.heap_alloc w o k hk,fun b n ⟨c,e,h,hn⟩=>⟨c,e,by rw [Go.RowKit.Below.heap_alloc w o b (Room.of_lt ⟨c,e,h,hn⟩)];exact h,hn⟩⟩
theorem Ext.drew (M:Nat→Prop) (w:World):Ext M w w.drew:=⟨rfl,rfl,rfl,Nat.le_refl _,fun _ _ _=>rfl,fun _ _ h=>h⟩
end Go.Pm
end
section
set_option linter.unusedVariables false
set_option linter.unusedSimpArgs false
namespace Go.Pm
open Go
def Ps (ps:List PV) (vs:List Value):Prop:=ps.length=vs.length∧∀ (i:Nat) (c:PV) (v:Value),ps[i]?=some c→vs[i]?=some v→V default (fun _=>False) (fun _=>none) c v
def EqOK (P:Program) (t:Nat):Prop:=P.eqGuardType P.depth t=false∧∀ (ps qs:List PV) (xs ys:Array Value) (b:Bool) (w:World),
 Ps ps xs.toList→Ps qs ys.toList→dm ps qs=some b→(Op.equal t (.agg xs) (.agg ys)).run P w=.ok b w
structure bN (P:Program) (t:Nat) (ti:TI):Prop where
 info:∃ (i:TypeInfo) (z:Value),P.info? t=some i∧i.size=ti.size∧i.bytes=ti.bytes∧i.zero=some z∧z.cells.toList.map dZ=ti.zero.map some∧ti.zero.length=ti.size
 agg:∀ w,(isAgg t).run P w=.ok (zH ti.kind) w
 kind:match ti.kind with
  | .bool=>P.underlying t=some .bool
  | .int k=>P.underlying t=some (.int k)
  | .str=>P.underlying t=some .string
  | .slice e=>P.underlying t=some (.slice e)
  | .struct fs=>∃ fields:Array Field,P.underlying t=some (.struct fields)∧fields.toList.map (fun f=>(f.offset,f.type))=fs
  | .array n e=>P.underlying t=some (.array n e)
  | .ptr=>∃ e,P.underlying t=some (.pointer e)
  | .func=>∃ ps rs v,P.underlying t=some (.func ps rs v)
  | .other=>True
 eq:ti.eqok=true→EqOK P t
 parts:∀ fields:Array Field,P.underlying t=some (.struct fields)→∀ f∈fields.toList,(P.info? f.type).isSome=true
theorem bN.size {P:Program} {t:Nat} {ti:TI} (h:bN P t ti) (w:World):(sizeOf t).run P w=.ok ti.size w:=by
 obtain ⟨i,z,h1,h2,h3,h4,h5,h6⟩:=h.info
 simp [sizeOf,typeInfo,h1,h2]
def du (P:Program) (tab:Nat→Option TI):Prop:=∀ t ti,tab t=some ti→bN P t ti
structure eb (w:World) (B:Nat→Prop) (β:Map) (tm:List PV) (a:Act):Prop where
 len:tm.length=a.tmps.size
 val:∀ t,V w B β (nth tm t) (a.tmps.getD t Go.undef)
 def0:a.defers=[]
theorem wC {w:World} {B:Nat→Prop} {β:Map} {v:Value} {p:PV} (h:dZ v=some p):V w B β p v∧v.oneCell'=true∧SX p=true:=by
 unfold dZ at h
 split at h <;> simp at h <;> subst h <;> exact ⟨by constructor,rfl,rfl⟩
section
variable {P:Program} {w:World} {B:Nat→Prop} {β:Map} {tm:List PV} {a:Act}
theorem ck (ha:eb w B β tm a) {x:Operand} {p:PV} (h:cj tm x=some p):V w B β p (a.eval x):=by
 cases x with
 | tmp t=>simp [cj] at h;subst h;exact ha.val t
 | const v=>exact (wC h).1
 | global g=>simp [cj] at h
 | func f=>simp [cj] at h;subst h;exact .fn f [] #[] rfl fun i c v h1 _=>by simp at h1
theorem qy (ha:eb w B β tm a):∀ {xs:List Operand} {ps:List PV},gB tm xs=some ps→Vs w B β ps (xs.map a.eval)
 | [],ps,h=>by simp [gB] at h;subst h;exact .nil
 | x::r,ps,h=>by
  simp only [gB] at h
  split at h <;> simp at h
  rename_i v vs hv hvs
  subst h
  exact .cons (ck ha hv) (qy ha hvs)
theorem Bx (ha:eb w B β tm a):∀ {xs:List (Nat × Operand)} {ps:List PV},mU tm xs=some ps→Vs w B β ps (xs.map fun x=>a.eval x.2)
 | [],ps,h=>by simp [mU] at h;subst h;exact .nil
 | (i,x)::r,ps,h=>by
  simp only [mU] at h
  split at h <;> simp at h
  rename_i v vs hv hvs
  subst h
  exact .cons (ck ha hv) (Bx ha hvs)
theorem V.qI {k:IntKind} {n:Int} {v:Value} (h:V w B β (.int k n) v):v=.int k n:=by cases h;rfl
theorem V.wM {b:Bool} {v:Value} (h:V w B β (.bool b) v):v=.bool b:=by cases h;rfl
theorem V.Rw {s:ByteArray} {v:Value} (h:V w B β (.str s) v):v=.string s:=by cases h;rfl
theorem SW {p:PV} {v:Value} (h:V w B β p v) (hp:SX p=true):v.oneCell'=true:=by
 cases h <;> simp [SX] at hp <;> rfl
theorem mN {p:PV} {v:Value} {cs:List PV} (h:V w B β p v) (hc:cellsOf p=some cs):Vs w B β cs v.cells.toList∧(∀ u∈v.cells.toList,u.oneCell'=true):=by
 unfold cellsOf at hc
 split at hc
 ·simp at hc;subst hc
  obtain ⟨vs,rfl,h1,h2⟩:=Vs.pv h
  exact ⟨h1,h2⟩
 ·rename_i p' hp'
  split at hc <;> simp at hc
  rename_i ho
  subst hc
  have h1:=SW h ho
  have h2:v.cells=#[v]:=by cases v <;> simp [Value.oneCell'] at h1 <;> rfl
  rw [h2]
  exact ⟨.cons h .nil,fun u hu=>by simp at hu;subst hu;exact h1⟩
def Quiet (P:Program) (w:World) (B:Nat→Prop) (β:Map) (a:Act) (o:Oper) (e:Eff):Prop:=
 e.upd=[]∧∃ v,(execOp a.eval o).run P w=.ok (.value v) w∧V w B β e.val v
theorem quiet_of {o:Oper} {p:PV} {l:List Nat} {s:Sem Value} {v:Value} (he:execOp a.eval o=(do pure (.value (← s)))) (hr:s.run P w=.ok v w) (hv:V w B β p v) :
  Quiet P w B β a o ⟨p,[],l⟩:=⟨rfl,v,by rw [he];simp [hr],hv⟩
theorem TB {op:BinOp} {k:IntKind} {x y:Int} {p:PV} {t:TypeId} {gg:Option TI} (h:fk gg op (.int k x) (.int k y)=some p):∃ v,(binOp op t (.int k x) (.int k y)).run P w=.ok v w∧V w B β p v:=by
 cases op <;> simp only [fk,re,↓reduceIte,Option.map_some,Option.some.injEq,reduceCtorEq,Option.ite_none_right_eq_some,Option.ite_none_left_eq_some] at h
 case shl=>obtain ⟨h0,rfl⟩:=h;exact ⟨_,by simp [binOp,Op.shift,Int.not_lt.2 h0],.int ..⟩
 case shr=>obtain ⟨h0,rfl⟩:=h;exact ⟨_,by simp [binOp,Op.shift,Int.not_lt.2 h0],.int ..⟩
 case quo=>obtain ⟨h0,rfl⟩:=h;exact ⟨_,by simp [binOp,Op.intDiv,h0],.int ..⟩
 case rem=>obtain ⟨h0,rfl⟩:=h;exact ⟨_,by simp [binOp,Op.intDiv,h0],.int ..⟩
 all_goals (subst h;exact ⟨_,(by simp only [binOp,ne_eq,not_true_eq_false,↓reduceIte];rfl),by constructor⟩)
theorem po:∀ {ps qs:List PV} {b:Bool},dm ps qs=some b→(∀ p∈ps,plainCell p=true)∧(∀ p∈qs,plainCell p=true)
 | [],[],b,_=>⟨by simp,by simp⟩
 | [],_::_,b,h=>by simp [dm] at h
 | _::_,[],b,h=>by simp [dm] at h
 | x::xs,y::ys,b,h=>by
  simp only [dm] at h
  split at h <;> simp at h
  rename_i a c h1 h2
  have:=po h2
  constructor
  ·intro p hp
   rcases List.mem_cons.1 hp with rfl | hp
   ·cases p <;> simp [sg] at h1 <;> rfl
   ·exact this.1 p hp
  ·intro p hp
   rcases List.mem_cons.1 hp with rfl | hp
   ·cases p <;> cases x <;> simp [sg] at h1 <;> rfl
   ·exact this.2 p hp
theorem Ps.XI {ps:List PV} {vs:List Value} (h:Vs w B β ps vs) (hp:∀ p∈ps,plainCell p=true):Ps ps vs:=
 ⟨h.1,fun i c v h1 h2=>(h.2 i c v h1 h2).plain (hp c (List.mem_of_getElem? h1))⟩
theorem iv {op:BinOp} {t:TypeId} {x y:Operand} {u v:Value} (h:∀ ts us,u=.agg ts→v=.agg us→P.eqGuardType P.depth t=false) (h':u≠.nilIface) :
  (eqGuard op t x y u v).run P w=.ok () w:=by
 have key:∀ op:BinOp,(op=.eql∨op=.neq)→(eqGuard op t x y u v).run P w=.ok () w:=by
  intro op hop
  rcases hop with rfl | rfl <;>
  ·unfold eqGuard
   simp only [Bool.not_true,Bool.false_eq_true,↓reduceIte]
   split
   ·exact absurd rfl h'
   ·simp [h _ _ rfl rfl]
   ·rfl
 cases op <;> first | rfl | exact key _ (by simp)
theorem Vd {t:TypeId} (h:P.underlying t=some .bool) (a b:Bool):(Op.equal t (.bool a) (.bool b)).run P w=.ok (a == b) w:=by
 unfold Op.equal Op.maxDepth Op.equalIn
 simp only [Sem.run_bind,run_underlying h,Result.andThen_ok];rfl
theorem oj {t e:TypeId} (h:P.underlying t=some (.slice e)) (a:Option Addr) (n c:Nat):(Op.equal t (.slice a n c) (.slice none 0 0)).run P w=.ok a.isNone w:=by
 unfold Op.equal Op.maxDepth Op.equalIn
 simp only [Sem.run_bind,run_underlying h,Result.andThen_ok]
 cases a <;> rfl
theorem yj {t e:TypeId} (h:P.underlying t=some (.pointer e)) (a:Option Addr):(Op.equal t (.pointer a) (.pointer none)).run P w=.ok a.isNone w:=by
 unfold Op.equal Op.maxDepth Op.equalIn
 simp only [Sem.run_bind,run_underlying h,Result.andThen_ok]
 cases a <;> rfl
theorem FE {t:TypeId} {ps rs:Array TypeId} {v:Bool} (h:P.underlying t=some (.func ps rs v)):(Op.equal t .nilFunc .nilFunc).run P w=.ok true w:=by
 unfold Op.equal Op.maxDepth Op.equalIn
 simp only [Sem.run_bind,run_underlying h,Result.andThen_ok];rfl
theorem Vc {t:TypeId} {ps rs:Array TypeId} {v:Bool} (h:P.underlying t=some (.func ps rs v)) (f:Fn) (x y:Array Value):(Op.equal t (.func f x y) .nilFunc).run P w=.ok false w:=by
 unfold Op.equal Op.maxDepth Op.equalIn
 simp only [Sem.run_bind,run_underlying h,Result.andThen_ok];rfl
theorem mO {t:TypeId} {u v:Value} {b:Bool} (h:(Op.equal t u v).run P w=.ok b w) (h1:binOp .eql t u v=(do pure (.bool (← Op.equal t u v)))) (h2:binOp .neq t u v=(do pure (.bool (!(← Op.equal t u v))))) :
  (binOp .eql t u v).run P w=.ok (.bool b) w∧(binOp .neq t u v).run P w=.ok (.bool (!b)) w:=by
 rw [h1,h2]
 simp only [Sem.run_bind,h,Result.andThen_ok,Sem.run_pure,and_self]
set_option maxHeartbeats 800000 in
theorem aqN {tab:Nat→Option TI} (hT:du P tab) {t:TypeId} {x y:PV} {u v:Value} {b:Bool} (h:re (tab t) x y=some b) (hu:V w B β x u) (hv:V w B β y v) :
  (∀ ts us,u=.agg ts→v=.agg us→P.eqGuardType P.depth t=false)∧u≠.nilIface∧
  (binOp .eql t u v).run P w=.ok (.bool b) w∧(binOp .neq t u v).run P w=.ok (.bool (!b)) w:=by
 unfold re at h
 split at h
 ·rename_i k a k' c
  split at h <;> simp at h
  subst h;rename_i hk;subst hk
  cases hu;cases hv
  exact ⟨by simp,by simp,by simp only [binOp,ne_eq,not_true_eq_false,↓reduceIte];rfl,by simp only [binOp,ne_eq,not_true_eq_false,↓reduceIte];rfl⟩
 ·split at h <;> simp at h
  subst h
  rename_i hk
  have hki:=(hT t _ hk).kind
  simp only at hki
  cases hu;cases hv
  exact ⟨by simp,by simp,mO (Vd hki _ _) rfl rfl⟩
 ·simp at h;subst h
  cases hu;cases hv
  exact ⟨by simp,by simp,by simp [binOp,Op.stringOp],by simp [binOp,Op.stringOp]⟩
 ·split at h <;> simp at h
  obtain ⟨he,h⟩:=h
  rename_i ti hti
  obtain ⟨hg,heq⟩:=(hT t ti hti).eq he
  obtain ⟨us,rfl,h1,_⟩:=Vs.pv hu
  obtain ⟨vs,rfl,h2,_⟩:=Vs.pv hv
  obtain ⟨p1,p2⟩:=po h
  have:=heq _ _ us vs b w (Ps.XI h1 p1) (Ps.XI h2 p2) h
  exact ⟨fun _ _ _ _=>hg,by simp,mO this rfl rfl⟩
 ·cases hti:tab t with
  | none=>rw [hti] at h;simp at h
  | some ti=>
  rw [hti] at h
  simp only at h
  have hki:=(hT t ti hti).kind
  generalize ti.kind=kd at h hki
  unfold Zo at h
  split at h <;> simp at h <;> subst h <;> simp only at hki
  ·cases hu;cases hv
   exact ⟨by simp,by simp,mO (oj hki _ _ _) rfl rfl⟩
  ·cases hu;cases hv
   exact ⟨by simp,by simp,mO (oj hki _ _ _) rfl rfl⟩
  ·cases hu;cases hv
   exact ⟨by simp,by simp,mO (oj hki _ _ _) rfl rfl⟩
  ·obtain ⟨e,hki⟩:=hki
   cases hu;cases hv
   exact ⟨by simp,by simp,mO (yj hki _) rfl rfl⟩
  ·obtain ⟨e,hki⟩:=hki
   cases hu;cases hv
   exact ⟨by simp,by simp,mO (yj hki _) rfl rfl⟩
  ·obtain ⟨ps,rs,v,hki⟩:=hki
   cases hu;cases hv
   exact ⟨by simp,by simp,mO (FE hki) rfl rfl⟩
  ·obtain ⟨ps,rs,v,hki⟩:=hki
   cases hu;cases hv
   exact ⟨by simp,by simp,mO (Vc hki _ _ _) rfl rfl⟩
theorem afr {tab:Nat→Option TI} (hT:du P tab) {op:BinOp} {t:TypeId} {x y:PV} {u v:Value} {p:PV} (h:fk (tab t) op x y=some p) (hu:V w B β x u) (hv:V w B β y v) (xo yo:Operand) :
  ∃ r,(do eqGuard op t xo yo u v;binOp op t u v:Sem Value).run P w=.ok r w∧V w B β p r:=by
 have ints:∀ (k:IntKind) (a b:Int),x=.int k a→y=.int k b→∃ r,(do eqGuard op t xo yo u v;binOp op t u v:Sem Value).run P w=.ok r w∧V w B β p r:=by
  intro k a b hx hy
  subst hx;subst hy
  cases hu;cases hv
  obtain ⟨r,h1,h2⟩:=TB (P:=P) (w:=w) (B:=B) (β:=β) (t:=t) h
  exact ⟨r,by simp only [Sem.run_bind];rw [iv (by simp) (by simp)];exact h1,h2⟩
 have eqs:∀ b,re (tab t) x y=some b→((op=.eql∧p=.bool b)∨(op=.neq∧p=.bool (!b)))→∃ r,(do eqGuard op t xo yo u v;binOp op t u v:Sem Value).run P w=.ok r w∧V w B β p r:=by
  intro b hb hop
  obtain ⟨h1,h2,h3,h4⟩:=aqN hT hb hu hv
  rcases hop with ⟨rfl,rfl⟩ | ⟨rfl,rfl⟩
  ·exact ⟨_,by simp only [Sem.run_bind];rw [iv h1 h2];exact h3,.bool _⟩
  ·exact ⟨_,by simp only [Sem.run_bind];rw [iv h1 h2];exact h4,.bool _⟩
 unfold fk at h
 split at h
 ·cases he:re (tab t) x y with
  | none=>rw [he] at h;simp at h
  | some b=>rw [he] at h;simp at h;exact eqs b he (.inl ⟨rfl,h.symm⟩)
 ·cases he:re (tab t) x y with
  | none=>rw [he] at h;simp at h
  | some b=>rw [he] at h;simp at h;exact eqs b he (.inr ⟨rfl,h.symm⟩)
 ·split at h
  ·rename_i k a k' b
   split at h
   ·rename_i h0
    simp at h;subst h
    cases hu;cases hv
    exact ⟨_,by simp only [Sem.run_bind];rw [iv (by simp) (by simp)];simp [binOp,Op.shift,Int.not_lt.2 h0],.int ..⟩
   ·simp at h
  ·simp at h
 ·split at h
  ·rename_i k a k' b
   split at h
   ·rename_i h0
    simp at h;subst h
    cases hu;cases hv
    exact ⟨_,by simp only [Sem.run_bind];rw [iv (by simp) (by simp)];simp [binOp,Op.shift,Int.not_lt.2 h0],.int ..⟩
   ·simp at h
  ·simp at h
 ·split at h
  ·rename_i k a k' b
   split at h
   ·rename_i hk
    subst hk
    refine ints k a b rfl rfl
   ·simp at h
  ·simp at h
theorem afY {op:UnOp} {x:PV} {u:Value} {p:PV} (h:Rt op x=some p) (hu:V w B β x u):∃ r,(Op.unary op u).run P w=.ok r w∧V w B β p r:=by
 unfold Rt at h
 split at h <;> simp only [Option.some.injEq,reduceCtorEq] at h <;> subst h <;> cases hu
 ·exact ⟨_,rfl,.bool _⟩
 ·exact ⟨_,rfl,.int ..⟩
theorem hJ:∀ {l:List PV} {i:Nat} {v:PV},l[i]?=some v→nth l i=v
 | [],i,v,h=>by simp at h
 | x::r,0,v,h=>by simpa [nth] using h
 | x::r,i+1,v,h=>by simp [nth];exact hJ (by simpa using h)
theorem Fw {vs:List PV} {i:Nat} {p:PV} {u:Value} (h:vs[i]?=some p) (hu:V w B β (.tup vs) u):∃ r,(Instr.extract u i).run P w=.ok r w∧V w B β p r:=by
 obtain ⟨us,rfl,h1⟩:=Vs.Ny hu
 obtain ⟨v,h2,h3⟩:=h1.get h
 refine ⟨v,?_,h3⟩
 simp only [Array.getElem?_toList] at h2
 simp [Instr.extract,h2]
theorem acL {tab:Nat→Option TI} (hT:du P tab) {t e:Nat} {ti:TI} (ht:tab t=some ti) (hk:ti.kind=.slice e) {x:PV} {u:Value} {n:Nat} (h:eR x=some n) (hs:∀ s,x≠.str s) (hu:V w B β x u)
  (rest:List Nat) (ty:TypeId):(Builtin.len_ (t::rest).toArray ty #[u]).run P w=.ok (.int .i64 n) w:=by
 have hki:=(hT t ti ht).kind
 rw [hk] at hki
 simp only at hki
 unfold eR at h
 split at h <;> simp at h <;> subst h <;> cases hu <;> simp at hs <;> simp [Builtin.len_,underlying,hki,goInt]
theorem J0 {tab:Nat→Option TI} (hT:du P tab) {t:Nat} {ti:TI} (ht:tab t=some ti) (hk:ti.kind=.str) (s:ByteArray)
  (rest:List Nat) (ty:TypeId):(Builtin.len_ (t::rest).toArray ty #[.string s]).run P w=.ok (.int .i64 s.size) w:=by
 have hki:=(hT t ti ht).kind
 rw [hk] at hki
 simp only at hki
 simp [Builtin.len_,underlying,hki,goInt]
theorem J1 {tab:Nat→Option TI} (hT:du P tab) {t n e:Nat} {ti:TI} (ht:tab t=some ti) (hk:ti.kind=.array n e) (u:Value)
  (rest:List Nat) (ty:TypeId):(Builtin.len_ (t::rest).toArray ty #[u]).run P w=.ok (.int .i64 n) w:=by
 have hki:=(hT t ti ht).kind
 rw [hk] at hki
 simp only at hki
 cases u <;> simp [Builtin.len_,underlying,hki,goInt]
theorem N1 {k:IntKind}:∀ {r:List PV} {n m:Int} {us:List Value},oJ n r=some m→Vs w B β r us→(List.foldlM Builtin.min2 (.int k n) us).run P w=.ok (.int k m) w
 | [],n,m,us,h,hu=>by simp [oJ] at h;subst h;rw [hu.of_nil];rfl
 | p::r,n,m,us,h,hu=>by
  obtain ⟨u,us',rfl,h1,h2⟩:=hu.cN
  cases p <;> simp [oJ] at h
  cases h1
  simp only [List.foldlM_cons,Sem.run_bind]
  simp only [Builtin.min2,Sem.run_pure,Result.andThen_ok]
  exact N1 h h2
theorem N2 {k:IntKind}:∀ {r:List PV} {n m:Int} {us:List Value},oK n r=some m→Vs w B β r us→(List.foldlM Builtin.max2 (.int k n) us).run P w=.ok (.int k m) w
 | [],n,m,us,h,hu=>by simp [oK] at h;subst h;rw [hu.of_nil];rfl
 | p::r,n,m,us,h,hu=>by
  obtain ⟨u,us',rfl,h1,h2⟩:=hu.cN
  cases p <;> simp [oK] at h
  cases h1
  simp only [List.foldlM_cons,Sem.run_bind]
  simp only [Builtin.max2,Sem.run_pure,Result.andThen_ok]
  exact N2 h h2
def CellsAt (w:World) (B:Nat→Prop) (β:Map) (b o:Nat) (cs:List PV):Prop:=
 ∃ vs:List Value,Vs w B β cs vs∧(∀ v∈vs,v.oneCell'=true)∧∀ j v,vs[j]?=some v→w.cell? ⟨b,o+j,none⟩=some v
theorem gR (b o n:Nat):(⟨b,o,none⟩:Addr).add n=⟨b,o+n,none⟩:=by
 unfold Addr.add;split
 ·subst_vars;rfl
 ·rfl
theorem CellsAt.fx {b p:Nat} {cs:List PV} (h:CellsAt w B β b p cs) (o n:Nat):CellsAt w B β b (p+o) (fx cs o n):=by
 obtain ⟨vs,h1,h2,h3⟩:=h
 refine ⟨(vs.drop o).take n,(h1.drop o).take n,fun v hv=>h2 v (List.mem_of_mem_drop (List.mem_of_mem_take hv)),fun j v hj=>?_⟩
 rw [List.getElem?_take] at hj
 split at hj
 ·rw [List.getElem?_drop] at hj
  rw [Nat.add_assoc];exact h3 _ v hj
 ·simp at hj
theorem Dp {t:Nat} {ti:TI} (hi:bN P t ti) {cs:List PV} {p:PV} (h:er ti cs=some p) {b o:Nat} (hc:CellsAt w B β b o cs) :
  ∃ v,(loadVar t ⟨b,o,none⟩).run P w=.ok v w∧V w B β p v:=by
 obtain ⟨vs,h1,h2,h3⟩:=hc
 unfold er at h
 split at h
 ·rename_i hk
  split at h <;> simp at h
  subst h
  rename_i hl
  simp only [beq_iff_eq] at hl
  refine ⟨.agg vs.toArray,?_,h1.agg h2⟩
  have hl':ti.size=vs.length:=by rw [← hl,h1.1]
  have:=run_loadCells_list (P:=P) (w:=w) ⟨b,o,none⟩ vs (fun j v hj=>by rw [gR];exact h3 j v hj)
  simp only [loadVar,Sem.run_bind,hi.agg w,hk,Result.andThen_ok,↓reduceIte,hi.size w,hl',this,Sem.run_pure]
 ·rename_i hk
  split at h <;> simp at h
  subst h
  obtain ⟨v,vs',rfl,h4,h5⟩:=h1.cN
  refine ⟨v,?_,h4⟩
  have:=h3 0 v rfl
  simp at this
  simp only [loadVar,Sem.run_bind,hi.agg w,Bool.not_eq_true] at hk ⊢
  simp [hk,this]
theorem Md {xs:List (List PV)} {b off k:Nat} {val:Nat→Nat→Value} (hcell:∀ (i:Nat) (x:List PV) (j:Nat) (c:PV),xs[i]?=some x→x[j]?=some c→w.cell? ⟨b,off+i*k+j,none⟩=some (val i j))
  (ho:∀ (i:Nat) (x:List PV) (j:Nat) (c:PV),xs[i]?=some x→x[j]?=some c→(val i j).oneCell'=true)
  (hv:∀ (i:Nat) (x:List PV) (j:Nat) (c:PV),xs[i]?=some x→x[j]?=some c→V w B β c (val i j)) {i:Nat} {x:List PV} (hx:xs[i]?=some x) :
  CellsAt w B β b (off+i*k) x:=by
 refine ⟨(List.range x.length).map (val i),⟨by simp,fun j c v h1 h2=>?_⟩,fun v hm=>?_,fun j v hj=>?_⟩
 ·have hj:j<x.length:=by rcases Nat.lt_or_ge j x.length with h' | h';exact h';simp [List.getElem?_eq_none h'] at h1
  simp [hj] at h2;subst h2
  exact hv i x j c hx h1
 ·simp only [List.mem_map,List.mem_range] at hm
  obtain ⟨j,hj,rfl⟩:=hm
  exact ho i x j _ hx (List.getElem?_eq_getElem hj)
 ·have hj':j<x.length:=by
   rcases Nat.lt_or_ge j x.length with h' | h'
   ·exact h'
   ·rw [List.getElem?_eq_none (by simpa using h')] at hj;simp at hj
  simp [hj'] at hj;subst hj
  simpa using hcell i x j _ hx (List.getElem?_eq_getElem hj')
theorem QX {rd:Rd} (hs:Sim w B β rd) {a:Nat} {cs:List PV} (h:rd a=some (.box cs)) {l:Loc} (hl:β a=some l):CellsAt w B β l.block l.off cs:=by
 obtain ⟨m,c,e,h1,h2,h3,h4,h5⟩:=hs.box a cs h
 rw [hl] at h1;obtain rfl:=Option.some.inj h1
 refine ⟨c.toList,h4,h5,fun j v hj=>?_⟩
 simp only [Array.getElem?_toList] at hj
 simp [World.cell?,h3,h2,hj]
theorem Q3 {rd:Rd} (hs:Sim w B β rd) {a k:Nat} {xs:List (List PV)} {fl fz:Bool} (h:rd a=some (.arr k xs fl fz)) {l:Loc} (hl:β a=some l) {i:Nat} {x:List PV} (hx:xs[i]?=some x) :
  CellsAt w B β l.block (l.off+i*l.k) x:=by
 obtain ⟨_,_,h3⟩:=hs.arr a k xs fl fz h
 rcases h3 with ⟨rfl,_⟩ | ⟨m,c,e,h1,h2,h4,h5⟩
 ·simp at hx
 ·rw [hl] at h1;obtain rfl:=Option.some.inj h1
  have hval:∀ j,j<x.length→∃ v,c[l.off+i*l.k+j]?=some v∧v.oneCell'=true∧V w B β (nth x j) v:=fun j hj=>by
   obtain ⟨v,g1,g2,g3⟩:=h5 i x j _ hx (List.getElem?_eq_getElem hj)
   exact ⟨v,g1,g2,by rw [hJ (List.getElem?_eq_getElem hj)];exact g3.lift⟩
  refine ⟨(List.range x.length).map fun j=>(c[l.off+i*l.k+j]?).getD default,⟨by simp,fun j p v g1 g2=>?_⟩,fun v hm=>?_,fun j v hj=>?_⟩
  ·have hj:j<x.length:=by rcases Nat.lt_or_ge j x.length with h' | h';exact h';simp [List.getElem?_eq_none h'] at g1
   obtain ⟨u,e1,e2,e3⟩:=hval j hj
   simp [hj,e1] at g2;subst g2
   rw [hJ g1] at e3;exact e3
  ·simp only [List.mem_map,List.mem_range] at hm
   obtain ⟨j,hj,rfl⟩:=hm
   obtain ⟨u,e1,e2,e3⟩:=hval j hj
   simpa [e1] using e2
  ·have hj':j<x.length:=by
    rcases Nat.lt_or_ge j x.length with h' | h'
    ·exact h'
    ·rw [List.getElem?_eq_none (by simpa using h')] at hj;simp at hj
   obtain ⟨u,e1,e2,e3⟩:=hval j hj'
   simp [hj',e1] at hj;subst hj
   simp [World.cell?,h4,e1]
theorem G2 {rd:Rd} (hs:Sim w B β rd) {t:Nat} {ti:TI} (hi:bN P t ti) {p:PV} {u:Value} {e:Eff} (h:loadAt rd ti p=some e) (hu:V w B β p u) :
  e.upd=[]∧∃ v,(Instr.loadAt t u).run P w=.ok v w∧V w B β e.val v:=by
 have key:∀ (b o:Nat) (cs:List PV) (f:List Nat),u=.pointer (some ⟨b,o,none⟩)→CellsAt w B β b o cs→(er ti cs).map (fun v=>(⟨v,[],f⟩:Eff))=some e→
   e.upd=[]∧∃ v,(Instr.loadAt t u).run P w=.ok v w∧V w B β e.val v:=by
  intro b o cs f hu' hc he
  cases hq:er ti cs with
  | none=>rw [hq] at he;simp at he
  | some q=>
   rw [hq] at he;simp at he;subst he
   obtain ⟨v,h1,h2⟩:=Dp hi hq hc
   exact ⟨rfl,v,by subst hu';simpa [Instr.loadAt,Instr.sureAddr] using h1,h2⟩
 unfold loadAt at h
 split at h
 ·rename_i a o
  split at h
  ·rename_i cs hb
   cases hu with
   | ptr a o l hl=>exact key _ _ _ _ rfl ((QX hs hb hl).fx o ti.size) h
  ·simp at h
 ·rename_i a i o
  split at h
  ·rename_i k xs fl fz hb
   split at h
   ·rename_i cs hx
    cases hu with
    | dL a i o l hl=>exact key _ _ _ _ rfl ((Q3 hs hb hl hx).fx o ti.size) h
   ·simp at h
  ·simp at h
 ·rename_i xs i o
  split at h
  ·rename_i cs hx
   cases hu with
   | bL xs i o b off k val hb hk hcell ho hv=>exact key _ _ _ _ rfl ((Md hcell ho (fun i x j c h1 h2=>(hv i x j c h1 h2).lift) hx).fx o ti.size) h
  ·simp at h
 ·simp at h
theorem sS {tab:Nat→Option TI} (hT:du P tab) {t f off ft:Nat} (h:k7 tab t f=some (off,ft)) :
  ∃ (fields:Array Field) (fd:Field),P.underlying t=some (.struct fields)∧fields[f]?=some fd∧fd.offset=off∧fd.type=ft:=by
 unfold k7 at h
 split at h
 ·rename_i fs _ _ _ _ ht
  have hk:=(hT t _ ht).kind
  simp only at hk
  obtain ⟨fields,h1,h2⟩:=hk
  have h3:(fields.toList.map fun f=>(f.offset,f.type))[f]?=some (off,ft):=by rw [h2];exact h
  rw [List.getElem?_map] at h3
  cases hf:fields.toList[f]? with
  | none=>rw [hf] at h3;simp at h3
  | some fd=>
   rw [hf] at h3;simp at h3
   exact ⟨fields,fd,h1,by simpa using hf,h3.1,h3.2⟩
 ·simp at h
theorem zR {tab:Nat→Option TI} (hT:du P tab) {t f:Nat} {p:PV} {u:Value} {e:Eff} (h:gq tab t f p=some e) (hu:V w B β p u) :
  e.upd=[]∧∃ v,(Instr.fieldAt t u f).run P w=.ok v w∧V w B β e.val v:=by
 unfold gq at h
 split at h
 ·rename_i off ft hf
  obtain ⟨fields,fd,h1,h2,h3,h4⟩:=sS hT hf
  split at h
  ·rename_i ti ht
   have hsz:=(hT ft ti ht).size w
   split at h
   ·simp at h
   ·rename_i hne
    have hne:ti.size≠0:=by simpa using hne
    have run:∀ b o,(Instr.fieldAt t (.pointer (some ⟨b,o,none⟩)) f).run P w=.ok (.pointer (some ⟨b,o+off,none⟩)) w:=fun b o=>by
     simp [Instr.fieldAt,underlying,h1,h2,Instr.sureAddr,fieldPlace,h4,hsz,hne,h3,gR]
    split at h
    ·simp [ok] at h;subst h
     cases hu with
     | ptr a o l hl=>exact ⟨rfl,_,run _ _,by rw [Nat.add_assoc];exact .ptr _ _ l hl⟩
    ·simp [ok] at h;subst h
     cases hu with
     | dL a i o l hl=>exact ⟨rfl,_,run _ _,by rw [Nat.add_assoc];exact .dL _ _ _ l hl⟩
    ·simp [ok] at h;subst h
     cases hu with
     | bL xs i o b ofs k val hb hk hcell ho hv=>exact ⟨rfl,_,run _ _,by rw [Nat.add_assoc];exact .bL _ _ _ b ofs k val hb hk hcell ho hv⟩
    ·simp at h
  ·simp at h
 ·simp at h
theorem GS {t:Nat} {ti:TI} (hi:bN P t ti) {cs:List PV} {vs:Array Value} (hvs:Vs w B β cs vs.toList) (ho:∀ v∈vs.toList,v.oneCell'=true) {off:Nat} {p:PV} (h:er ti (fx cs off ti.size)=some p) :
  ∃ v,(part t vs off).run P w=.ok v w∧V w B β p v:=by
 have h1:Vs w B β (fx cs off ti.size) ((vs.toList.drop off).take ti.size):=(hvs.drop off).take ti.size
 unfold er at h
 split at h
 ·rename_i hk
  split at h <;> simp at h
  subst h
  have e:vs.extract off (off+ti.size)=((vs.toList.drop off).take ti.size).toArray:=by
   apply Array.ext'
   simp [List.take_drop,Nat.add_comm]
  refine ⟨.agg (vs.extract off (off+ti.size)),?_,?_⟩
  ·simp [part,hi.agg w,hk,hi.size w]
  ·rw [e];exact h1.agg fun v hv=>ho v (List.mem_of_mem_drop (List.mem_of_mem_take hv))
 ·rename_i hk
  split at h <;> simp at h
  subst h
  rename_i v0 heq
  rw [heq] at h1
  obtain ⟨v,vs',h2,h4,h5⟩:=h1.cN
  have h6:=h5.of_nil
  subst h6
  have h7:vs[off]?=some v:=by
   have:((vs.toList.drop off).take ti.size)[0]?=some v:=by rw [h2];rfl
   rw [List.getElem?_take] at this
   split at this
   ·simpa using this
   ·simp at this
  refine ⟨v,?_,h4⟩
  simp only [Bool.not_eq_true] at hk
  simp [part,hi.agg w,hk,h7]
theorem Pw {tab:Nat→Option TI} (hT:du P tab) {t f:Nat} {p:PV} {u:Value} {e:Eff} (h:fieldAt tab t f p=some e) (hu:V w B β p u) :
  e.upd=[]∧∃ v,(Instr.field t u f).run P w=.ok v w∧V w B β e.val v:=by
 unfold fieldAt at h
 split at h
 ·rename_i off ft cs hf
  obtain ⟨fields,fd,h1,h2,h3,h4⟩:=sS hT hf
  split at h
  ·rename_i ti ht
   obtain ⟨vs,rfl,g1,g2⟩:=Vs.pv hu
   cases hq:er ti (fx cs off ti.size) with
   | none=>rw [hq] at h;simp at h
   | some q=>
    rw [hq] at h;simp at h;subst h
    obtain ⟨v,r1,r2⟩:=GS (hT ft ti ht) g1 g2 hq
    exact ⟨rfl,v,by simp [Instr.field,underlying,h1,h2,asAgg,h3,h4,r1],r2⟩
  ·simp at h
 ·simp at h
theorem qJ {i:PV} {n:Int} {u:Value} (h:intOf i=some n) (hu:V w B β i u):∃ k,u=.int k n:=by
 unfold intOf at h
 split at h <;> simp at h
 subst h;cases hu;exact ⟨_,rfl⟩
theorem kR {tab:Nat→Option TI} (hT:du P tab) {t sz:Nat} (h:e8 tab t=some sz):(sizeOf t).run P w=.ok sz w:=by
 unfold e8 at h
 cases ht:tab t with
 | none=>rw [ht] at h;simp at h
 | some ti=>rw [ht] at h;simp at h;subst h;exact (hT t ti ht).size w
theorem zJ {tab:Nat→Option TI} (hT:du P tab) {t:Nat} {x i:PV} {u ui:Value} {e:Eff} (h:gp tab t x i=some e) (hu:V w B β x u) (hi:V w B β i ui) :
  e.upd=[]∧∃ v,(Instr.indexAt t u ui).run P w=.ok v w∧V w B β e.val v:=by
 unfold gp at h
 split at h
 ·rename_i el _ _ _ _ n ht hn
  have hk:=(hT t _ ht).kind
  simp only at hk
  obtain ⟨k,rfl⟩:=qJ hn hi
  split at h
  ·rename_i sz hsz
   have hsz:=kR (w:=w) hT hsz
   split at h
   ·rename_i a kk off len
    split at h <;> simp [ok] at h
    subst h
    rename_i hc
    simp only [Bool.and_eq_true,beq_iff_eq,decide_eq_true_eq] at hc
    obtain ⟨⟨rfl,h0⟩,hlt⟩:=hc
    cases hu with
    | kU a k off b=>omega
    | own a off len cap l hl hcap hr=>
     refine ⟨rfl,_,?_,.dL a (off+n.toNat) 0 l hl⟩
     simp [Instr.indexAt,asIntOf,underlying,hk,h0,hlt,hsz,gR,Nat.add_mul,Nat.add_assoc]
   ·rename_i xs fl
    split at h
    ·rename_i h0
     split at h
     ·rename_i cs hx
      split at h <;> simp [ok] at h
      subst h
      rename_i hc
      simp only [beq_iff_eq] at hc
      have hlt:n.toNat<xs.length:=by rcases Nat.lt_or_ge n.toNat xs.length with h' | h';exact h';simp [List.getElem?_eq_none h'] at hx
      cases hu with
      | lQ fl b cap=>simp at hx
      | lit xs fl b o k' cap val hb hn hf hkk hcell ho hv=>
       have hk':k'=sz:=by rw [← hkk cs (List.mem_of_getElem? hx),hc]
       subst hk'
       refine ⟨rfl,⟨_,?_,.bL [cs] 0 0 b (o+n.toNat*k') k' (fun _ j=>val n.toNat j) hb (by simpa using hkk cs (List.mem_of_getElem? hx)) (fun i x j c h1 h2=>?_) (fun i x j c h1 h2=>?_) (fun i x j c h1 h2=>?_)⟩⟩
       rotate_left
       ·obtain ⟨rfl,rfl⟩:i=0∧x=cs:=by cases i <;> simp_all
        simpa using hcell _ _ j c hx h2
       ·obtain ⟨rfl,rfl⟩:i=0∧x=cs:=by cases i <;> simp_all
        exact ho _ _ j c hx h2
       ·obtain ⟨rfl,rfl⟩:i=0∧x=cs:=by cases i <;> simp_all
        exact hv _ _ j c hx h2
       have hlt':n<xs.length:=by omega
       simp [Instr.indexAt,asIntOf,underlying,hk,h0,hlt',hsz,gR]
     ·simp at h
    ·simp at h
   ·simp at h
  ·simp at h
 ·rename_i len el _ _ _ _ n ht hn
  have hk:=(hT t _ ht).kind
  simp only at hk
  obtain ⟨k,rfl⟩:=qJ hn hi
  split at h
  ·rename_i sz hsz
   have hsz:=kR (w:=w) hT hsz
   split at h
   ·rename_i hc
    simp only [Bool.and_eq_true,decide_eq_true_eq] at hc
    obtain ⟨h0,hlt⟩:=hc
    have run:∀ b o,(Instr.indexAt t (.pointer (some ⟨b,o,none⟩)) (.int k n)).run P w=.ok (.pointer (some ⟨b,o+n.toNat*sz,none⟩)) w:=fun b o=>by
     simp [Instr.indexAt,asIntOf,underlying,hk,Instr.sureAddr,h0,hlt,hsz,gR]
    split at h
    ·simp [ok] at h;subst h
     cases hu with
     | ptr a o l hl=>exact ⟨rfl,_,run _ _,by rw [Nat.add_assoc];exact .ptr _ _ l hl⟩
    ·simp [ok] at h;subst h
     cases hu with
     | dL a i o l hl=>exact ⟨rfl,_,run _ _,by rw [Nat.add_assoc];exact .dL _ _ _ l hl⟩
    ·simp [ok] at h;subst h
     cases hu with
     | bL xs i o b ofs k val hb hk hcell ho hv=>exact ⟨rfl,_,run _ _,by rw [Nat.add_assoc];exact .bL _ _ _ b ofs k val hb hk hcell ho hv⟩
    ·simp at h
   ·simp at h
  ·simp at h
 ·simp at h
theorem Pf {tab:Nat→Option TI} (hT:du P tab) {t:Nat} {x i:PV} {u ui:Value} {e:Eff} (h:indexAt tab t x i=some e) (hu:V w B β x u) (hi:V w B β i ui) :
  e.upd=[]∧∃ v,(Instr.index t u ui).run P w=.ok v w∧V w B β e.val v:=by
 unfold indexAt at h
 split at h
 ·rename_i s n ht hn
  have hk:=(hT t _ ht).kind
  simp only at hk
  obtain ⟨k,rfl⟩:=qJ hn hi
  cases hu
  split at h
  ·rename_i h0
   split at h
   ·rename_i b hb
    simp [ok] at h;subst h
    exact ⟨rfl,_,by simp [Instr.index,asIntOf,underlying,hk,h0,hb],.int ..⟩
   ·simp at h
  ·simp at h
 ·rename_i len el _ _ _ _ cs n ht hn
  have hk:=(hT t _ ht).kind
  simp only at hk
  obtain ⟨k,rfl⟩:=qJ hn hi
  split at h
  ·rename_i ti hti
   split at h
   ·rename_i hc
    simp only [Bool.and_eq_true,decide_eq_true_eq] at hc
    obtain ⟨h0,hlt⟩:=hc
    obtain ⟨vs,rfl,g1,g2⟩:=Vs.pv hu
    cases hq:er ti (fx cs (n.toNat*ti.size) ti.size) with
    | none=>rw [hq] at h;simp at h
    | some q=>
     rw [hq] at h;simp at h;subst h
     obtain ⟨v,r1,r2⟩:=GS (hT el ti hti) g1 g2 hq
     exact ⟨rfl,v,by simp [Instr.index,asIntOf,underlying,hk,h0,hlt,(hT el ti hti).size w,r1],r2⟩
   ·simp at h
  ·simp at h
 ·simp at h
theorem qD {i:PV} {n:Nat} {u:Value} (h:gl i=some n) (hu:V w B β i u):∃ k,u=.int k (n:Int):=by
 unfold gl at h
 split at h
 ·split at h <;> simp at h
  subst h;cases hu;rename_i h0;exact ⟨_,by rw [Int.toNat_of_nonneg h0]⟩
 ·simp at h
theorem gZ (k:IntKind) (i y:Nat) (c:BoundsCode) (h:i≤y):(Instr.sliceBound (.int k (i:Int)) y c).run P w=.ok i w:=by
 have:(0:Int)≤(i:Int)∧(i:Int)≤(y:Int):=by omega
 simp [Instr.sliceBound,asIntOf,this]
def CC (w:World) (B:Nat→Prop) (β:Map):Option PV→Option Value→Prop
 | none,none=>True
 | some p,some v=>V w B β p v
 | _,_=>False
theorem jg {lo hi:Option PV} {ulo uhi:Option Value} {n l h cap:Nat} {b:Bool} (hlo:(match lo with | none=>some 0 | some v=>gl v)=some l) (hhi:(match hi with | none=>some n | some v=>gl v)=some h)
  (hl:CC w B β lo ulo) (hh:CC w B β hi uhi) (h1:l≤h) (h2:h≤n) (h3:n≤cap) :
  (Instr.sliceBounds b n cap ulo uhi none).run P w=.ok (l,h,cap) w:=by
 have hcap:h≤cap:=Nat.le_trans h2 h3
 cases lo <;> cases ulo <;> simp [CC] at hl <;> cases hi <;> cases uhi <;> simp [CC] at hh <;> simp at hlo hhi
 ·subst hlo;subst hhi;simp [Instr.sliceBounds]
 ·subst hlo;obtain ⟨k,rfl⟩:=qD hhi hh
  cases b <;> simp [Instr.sliceBounds,gZ k h cap _ hcap]
 ·subst hhi;obtain ⟨k,rfl⟩:=qD hlo hl
  simp [Instr.sliceBounds,gZ k l n _ h1]
 ·obtain ⟨k,rfl⟩:=qD hhi hh
  obtain ⟨k',rfl⟩:=qD hlo hl
  cases b <;> simp [Instr.sliceBounds,gZ k h cap _ hcap,gZ k' l h _ h1]
theorem ae1 {tab:Nat→Option TI} (hT:du P tab) {t:Nat} {x:PV} {lo hi:Option PV} {u:Value} {ulo uhi:Option Value} {e:Eff} (h:cutAt tab t x lo hi=some e) (hu:V w B β x u)
  (hl:CC w B β lo ulo) (hh:CC w B β hi uhi) :
  e.upd=[]∧∃ v,(Instr.sliceAt t u ulo uhi none).run P w=.ok v w∧V w B β e.val v:=by
 unfold cutAt at h
 split at h
 ·rename_i kd _ _ _ _ n ht hn
  have hk:=(hT t _ ht).kind
  simp only at hk
  split at h
  ·rename_i l hh' hlo hhi
   split at h
   ·rename_i hc
    simp only [Bool.and_eq_true,decide_eq_true_eq] at hc
    obtain ⟨h1,h2⟩:=hc
    split at h
    ·rename_i el a k off len
     split at h
     ·rename_i sz hs1
      split at h <;> simp [ok] at h
      subst h
      rename_i hkz
      simp only [beq_iff_eq] at hkz
      simp only at hk
      have hs3:=kR (w:=w) hT hs1
      simp [eR] at hn;subst hn
      refine ⟨rfl,?_⟩
      cases hu with
      | kU a k off b=>
       have hl0:l=0:=by omega
       have hh0:hh'=0:=by omega
       subst hl0;subst hh0
       refine ⟨.slice b 0 0,?_,by simpa using V.kU a k (off+0) b⟩
       simp [Instr.sliceAt,Instr.slice,underlying,hk,jg (P:=P) (b:=true) hlo hhi hl hh h1 h2 (Nat.le_refl _),hs3]
      | own a off len cap lc hlc hcap hr=>
       refine ⟨.slice (if cap=l then some ⟨lc.block,lc.off+off*lc.k,none⟩ else some ⟨lc.block,lc.off+(off+l)*lc.k,none⟩) (hh' - l) (cap - l),?_,?_⟩
       ·simp only [Instr.sliceAt,Instr.slice,underlying,Sem.run_bind,run_program,hk,Sem.run_pure,Result.andThen_ok,jg (P:=P) (b:=true) hlo hhi hl hh h1 h2 hcap,hs3,Option.map_some,gR]
        congr 2
        split
        ·rfl
        ·rw [Nat.add_mul,hkz,Nat.add_assoc]
       ·split
        ·rename_i hcl
         have e1:hh' - l=0:=by omega
         have e2:cap - l=0:=by omega
         rw [e1,e2]
         exact .kU a _ _ _
        ·refine .own a (off+l) (hh' - l) (cap - l) lc hlc (by omega) ?_
         have:off+l+(cap - l)=off+cap:=by omega
         rw [this];exact hr
     ·simp at h
    ·rename_i el xs fl
     split at h
     ·rename_i sz hs1
      split at h <;> simp [ok] at h
      subst h
      rename_i hkz
      simp only at hk
      have hs3:=kR (w:=w) hT hs1
      simp [eR] at hn;subst hn
      refine ⟨rfl,?_⟩
      cases hu with
      | lQ fl b cap=>
       have hl0:l=0:=by simpa using Nat.le_trans h1 h2
       have hh0:hh'=0:=by simpa using h2
       subst hl0;subst hh0
       simp only [List.length_nil] at hhi h2
       refine ⟨.slice b 0 cap,?_,by simpa using V.lQ ⟨false,fl.flat⟩ b cap⟩
       have hb:=jg (P:=P) (w:=w) (n:=0) (cap:=cap) (b:=true) hlo hhi hl hh h1 h2 (Nat.zero_le cap)
       simp only [Instr.sliceAt,Instr.slice,underlying,Sem.run_bind,run_program,hk,Sem.run_pure,Result.andThen_ok,hb,hs3]
       simp only [Nat.zero_mul,Nat.sub_zero]
       congr 2
       cases b with
       | none=>simp
       | some a=>simp [Addr.add]
      | lit xs fl b o k' cap val hb hn hf hkk hcell ho hv=>
       refine ⟨.slice (if cap=l then some ⟨b,o,none⟩ else some ⟨b,o+l*sz,none⟩) (hh' - l) (cap - l),?_,?_⟩
       ·simp only [Instr.sliceAt,Instr.slice,underlying,Sem.run_bind,run_program,hk,Sem.run_pure,Result.andThen_ok,jg (P:=P) (b:=true) hlo hhi hl hh h1 h2 hn,hs3,Option.map_some,gR]
       ·have hlen:((xs.drop l).take (hh' - l)).length=hh' - l:=by simp;omega
        by_cases hz:hh' - l=0
        ·rw [hz];simp;exact .lQ _ _ _
        ·have hlt:l<xs.length:=by omega
         have hcl:¬ cap=l:=by omega
         rw [if_neg hcl]
         have adJ:l*sz=l*k':=by
          rcases Nat.eq_zero_or_pos l with rfl | hpos
          ·simp
          ·cases xs with
           | nil=>simp at hlt
           | cons x0 xr=>
            simp only [kF,Bool.or_eq_true,beq_iff_eq] at hkz
            rcases hkz with h0 | h0
            ·omega
            ·rw [← h0,hkk x0 (by simp)]
         rw [adJ]
         have hget:∀ i x,((xs.drop l).take (hh' - l))[i]?=some x→xs[l+i]?=some x:=fun i x hx=>by
          rw [List.getElem?_take] at hx
          split at hx
          ·simpa using hx
          ·simp at hx
         have hmem:∀ x∈(xs.drop l).take (hh' - l),x∈xs:=fun x hx=>List.mem_of_mem_drop (List.mem_of_mem_take hx)
         have:=V.lit (w:=w) (B:=B) (β:=β) ((xs.drop l).take (hh' - l)) ⟨false,fl.flat⟩ b (o+l*k') k' (cap - l) (fun i j=>val (l+i) j) hb (by rw [hlen];omega)
          (fun hfl x hx=>hf hfl x (hmem x hx)) (fun x hx=>hkk x (hmem x hx))
          (fun i x j c h1 h2=>by
           have:=hcell (l+i) x j c (hget i x h1) h2
           rw [Nat.add_mul,← Nat.add_assoc] at this
           exact this)
          (fun i x j c h1 h2=>ho (l+i) x j c (hget i x h1) h2)
          (fun i x j c h1 h2=>hv (l+i) x j c (hget i x h1) h2)
         rw [hlen] at this
         exact this
     ·simp at h
    ·rename_i el
     split at h
     ·rename_i sz hs1
      simp [ok] at h;subst h
      simp only at hk
      simp [eR] at hn;subst hn
      have hs3:=kR (w:=w) hT hs1
      cases hu
      have hl0:l=0:=by omega
      have hh0:hh'=0:=by omega
      subst hl0;subst hh0
      refine ⟨rfl,.slice none 0 0,?_,.bp⟩
      simp [Instr.sliceAt,Instr.slice,underlying,hk,jg (P:=P) (b:=true) hlo hhi hl hh h1 h2 (Nat.le_refl _),hs3]
     ·simp at h
    ·simp [ok] at h;subst h
     simp only at hk
     simp [eR] at hn;subst hn
     cases hu
     refine ⟨rfl,_,?_,.str _⟩
     simp [Instr.sliceAt,Instr.slice,underlying,hk,jg (P:=P) (b:=false) hlo hhi hl hh h1 h2 (Nat.le_refl _)]
    ·simp at h
   ·simp at h
  ·simp at h
 ·simp at h
end
end Go.Pm
end
section
set_option linter.unusedVariables false
set_option linter.unusedSimpArgs false
namespace Go.Pm
open Go
def cz (β:Map) (a:Nat) (l:Loc):Map:=fun b=>if b=a then some l else β b
def cd (rd:Rd) (a:Nat) (o:Option bq):Rd:=fun b=>if b=a then o else rd b
def rdU (rd:Rd):Upd→Rd
 | []=>rd
 | (a,o)::r=>rdU (cd rd a o) r
theorem js (rd:Rd) (u v:Upd):rdU rd (u ++ v)=rdU (rdU rd u) v:=by
 induction u generalizing rd with
 | nil=>rfl
 | cons x u ih=>obtain ⟨a,o⟩:=x;simp [rdU,ih]
structure Step (w:World) (B:Nat→Prop) (β:Map) (rd:Rd) (w':World) (B':Nat→Prop) (β':Map) (rd':Rd):Prop where
 sim:Sim w' B' β' rd'
 ext:Ext (Mut β rd) w w'
 bsub:∀ b,B b→B' b
 bnew:∀ b,B' b→B b∨Mut β rd b∨w.heap.size≤b
 muts:∀ b,Mut β' rd' b→Mut β rd b∨w.heap.size≤b
 ins:∀ b,In β' rd' b→In β rd b∨w.heap.size≤b
 map:∀ a l,β a=some l→β' a=some l
section
variable {w w' w'':World} {B B' B'':Nat→Prop} {β β' β'':Map} {rd rd' Bk:Rd}
theorem Step.refl (hs:Sim w B β rd):Step w B β rd w B β rd:=
 ⟨hs,.refl _ _,fun _ h=>h,fun _ h=>.inl h,fun _ h=>.inl h,fun _ h=>.inl h,fun _ _ h=>h⟩
theorem Step.trans (h:Step w B β rd w' B' β' rd') (k:Step w' B' β' rd' w'' B'' β'' Bk):Step w B β rd w'' B'' β'' Bk where
 sim:=k.sim
 ext:=h.ext.trans k.ext h.muts
 bsub:=fun b hb=>k.bsub b (h.bsub b hb)
 bnew:=fun b hb=>by
  rcases k.bnew b hb with h1 | h1 | h1
  ·exact h.bnew b h1
  ·exact .inr (h.muts b h1)
  ·exact .inr (.inr (Nat.le_trans h.ext.size h1))
 muts:=fun b hb=>by
  rcases k.muts b hb with h1 | h1
  ·exact h.muts b h1
  ·exact .inr (Nat.le_trans h.ext.size h1)
 ins:=fun b hb=>by
  rcases k.ins b hb with h1 | h1
  ·exact h.ins b h1
  ·exact .inr (Nat.le_trans h.ext.size h1)
 map:=fun a l ha=>k.map a l (h.map a l ha)
theorem Sim.acn (hs:Sim w B β rd) {b:Nat} (hb:B b):¬ Mut β rd b:=by
 rintro ⟨a,o,l,h1,h2,h3,rfl⟩
 exact hs.excl a o l h1 h2 h3 hb
theorem Step.keep (hs:Sim w B β rd) (h:Step w B β rd w' B' β' rd') {p:PV} {v:Value} (hv:V w B β p v):V w' B' β' p v:=
 hv.keep h.bsub (fun b hb=>h.ext.block b (hs.lt b hb) (hs.acn hb)) h.map h.ext.room
theorem Sim.block_lt (hs:Sim w B β rd) {a:Nat} {o:bq} {l:Loc} (h:rd a=some o) (hl:β a=some l):l.block<w.heap.size:=by
 have:∃ x,w.heap[l.block]?=some x:=by
  cases o with
  | box cs=>
   obtain ⟨m,c,e,h1,h2,h3,_⟩:=hs.box a cs h
   rw [hl] at h1;obtain rfl:=Option.some.inj h1
   exact ⟨_,h3⟩
  | arr k xs fl fz=>
   obtain ⟨_,_,h3⟩:=hs.arr a k xs fl fz h
   rcases h3 with ⟨_,h3⟩ | ⟨m,c,e,h1,h2,h4,_⟩
   ·rw [hl] at h3;simp at h3
   ·rw [hl] at h1;obtain rfl:=Option.some.inj h1
    exact ⟨_,h4⟩
 obtain ⟨x,hx⟩:=this
 rcases Nat.lt_or_ge l.block w.heap.size with h' | h'
 ·exact h'
 ·simp [Array.getElem?_eq_none h'] at hx
theorem V.heap {p:PV} {v:Value} (hv:V w B β p v) (h:w'.heap=w.heap):V w' B β p v:=
 hv.keep (fun _ h=>h) (fun b _=>by rw [h]) (fun _ _ h=>h) (fun b n ⟨c,e,h1,h2⟩=>⟨c,e,by rw [h];exact h1,h2⟩)
theorem Vs.heap {p:List PV} {v:List Value} (hv:Vs w B β p v) (h:w'.heap=w.heap):Vs w' B β p v:=
 ⟨hv.1,fun i c u h1 h2=>(hv.2 i c u h1 h2).heap h⟩
theorem Sim.heap (hs:Sim w B β rd) (h:w'.heap=w.heap):Sim w' B β rd where
 box:=fun a cs ha=>by
  obtain ⟨l,c,e,h1,h2,h3,h4,h5⟩:=hs.box a cs ha
  exact ⟨l,c,e,h1,h2,by rw [h];exact h3,h4.heap h,h5⟩
 arr:=fun a k xs fl fz ha=>by
  obtain ⟨h1,h2,h3⟩:=hs.arr a k xs fl fz ha
  refine ⟨h1,h2,h3.imp id ?_⟩
  rintro ⟨l,c,e,g1,g2,g3,g4⟩
  exact ⟨l,c,e,g1,g2,by rw [h];exact g3,fun i x j p q1 q2=>by obtain ⟨v,r1,r2,r3⟩:=g4 i x j p q1 q2;exact ⟨v,r1,r2,r3.heap h⟩⟩
 excl:=hs.excl
 inj:=hs.inj
 lt:=fun b hb=>by rw [h];exact hs.lt b hb
 frz:=hs.frz
theorem Step.draw (hs:Sim w B β rd) (n:Nat):Step w B β rd {w with drawn:=n} B β rd:=
 ⟨hs.heap rfl,⟨rfl,rfl,rfl,Nat.le_refl _,fun _ _ _=>rfl,fun _ _ h=>h⟩,fun _ h=>h,fun _ h=>.inl h,fun _ h=>.inl h,fun _ h=>.inl h,fun _ _ h=>h⟩
def ObjOK (w:World) (B:Nat→Prop) (β:Map) (o:bq) (l:Loc) (c:Array Value):Prop:=
 match o with
 | .box cs=>l.off=0∧Vs w B β cs c.toList∧(∀ v∈c.toList,v.oneCell'=true)
 | .arr k xs fl fz=>(fl=true→dU xs)∧(∀ x∈xs,x.length=k)∧l.k=k∧oy w B l xs c
theorem ObjOK.keep {o:bq} {l:Loc} {c:Array Value} (h:ObjOK w B β o l c) (hB:∀ b,B b→B' b) (hw:∀ b,B b→w'.heap[b]?=w.heap[b]?)
  (hβ:∀ a l,β a=some l→β' a=some l) (hr:∀ b n,Room w b n→Room w' b n):ObjOK w' B' β' o l c:=by
 cases o with
 | box cs=>exact ⟨h.1,h.2.1.keep hB hw hβ hr,h.2.2⟩
 | arr k xs fl fz=>exact ⟨h.1,h.2.1,h.2.2.1,fun i x j p h1 h2=>by obtain ⟨v,r1,r2,r3⟩:=h.2.2.2 i x j p h1 h2;exact ⟨v,r1,r2,r3.keep hB hw (fun _ _ h=>h) hr⟩⟩
theorem Sim.obj (hs:Sim w B β rd) {a:Nat} {o:bq} {l:Loc} (h:rd a=some o) (hl:β a=some l):∃ c e,w.heap[l.block]?=some (.cells c e (0,0))∧ObjOK w B β o l c:=by
 cases o with
 | box cs=>
  obtain ⟨m,c,e,h1,h2,h3,h4,h5⟩:=hs.box a cs h
  rw [hl] at h1;obtain rfl:=Option.some.inj h1
  exact ⟨c,e,h3,h2,h4,h5⟩
 | arr k xs fl fz=>
  obtain ⟨h0,h1',h3⟩:=hs.arr a k xs fl fz h
  rcases h3 with ⟨_,h3⟩ | ⟨m,c,e,h1,h2,h4,h5⟩
  ·rw [hl] at h3;simp at h3
  ·rw [hl] at h1;obtain rfl:=Option.some.inj h1
   exact ⟨c,e,h4,h0,h1',h2,h5⟩
theorem Sim.of (T0:∀ a o,rd a=some o→(∃ l,β a=some l∧∃ c e,w.heap[l.block]?=some (.cells c e (0,0))∧ObjOK w B β o l c)∨(β a=none∧∃ k fl fz,o=.arr k [] fl fz))
  (excl:∀ a o l,rd a=some o→(∀ k xs fl,o≠.arr k xs fl true)→β a=some l→¬ B l.block)
  (inj:∀ a b o p l m,rd a=some o→rd b=some p→a≠b→β a=some l→β b=some m→l.block≠m.block)
  (lt:∀ b,B b→b<w.heap.size) (frz:∀ a k xs fl l,rd a=some (.arr k xs fl true)→β a=some l→B l.block):Sim w B β rd where
 box:=fun a cs ha=>by
  rcases T0 a _ ha with ⟨l,h1,c,e,h2,h3⟩ | ⟨_,k,fl,fz,h⟩
  ·exact ⟨l,c,e,h1,h3.1,h2,h3.2.1,h3.2.2⟩
  ·simp at h
 arr:=fun a k xs fl fz ha=>by
  rcases T0 a _ ha with ⟨l,h1,c,e,h2,h3⟩ | ⟨h0,k',fl',fz',h⟩
  ·exact ⟨h3.1,h3.2.1,.inr ⟨l,c,e,h1,h3.2.2.1,h2,h3.2.2.2⟩⟩
  ·simp at h;obtain ⟨rfl,rfl,rfl,rfl⟩:=h
   exact ⟨fun _ x hx=>by simp at hx,by simp,.inl ⟨rfl,h0⟩⟩
 excl:=excl
 inj:=inj
 lt:=lt
 frz:=frz
theorem Sim.cases (hs:Sim w B β rd) {a:Nat} {o:bq} (h:rd a=some o):(∃ l,β a=some l∧∃ c e,w.heap[l.block]?=some (.cells c e (0,0))∧ObjOK w B β o l c)∨(β a=none∧∃ k fl fz,o=.arr k [] fl fz):=by
 cases hl:β a with
 | some l=>exact .inl ⟨l,rfl,hs.obj h hl⟩
 | none=>
  refine .inr ⟨rfl,?_⟩
  cases o with
  | box cs=>
   obtain ⟨m,c,e,h1,_⟩:=hs.box a cs h
   rw [hl] at h1;simp at h1
  | arr k xs fl fz=>
   obtain ⟨_,_,h3⟩:=hs.arr a k xs fl fz h
   rcases h3 with ⟨rfl,_⟩ | ⟨m,c,e,h1,_⟩
   ·exact ⟨k,fl,fz,rfl⟩
   ·rw [hl] at h1;simp at h1
theorem Step.new (hs:Sim w B β rd) {a:Nat} (hβ:β a=none) (hr:rd a=none) (c:Array Value) (t k:Nat) (o:bq)
  (ho:ObjOK w B β o ⟨w.heap.size,0,k⟩ c) (hz:∀ k xs fl,o≠.arr k xs fl true) :
  Step w B β rd (w.alloc (.cells c t)) B (cz β a ⟨w.heap.size,0,k⟩) (cd rd a (some o)):=by
 have hmap:∀ b l,β b=some l→cz β a ⟨w.heap.size,0,k⟩ b=some l:=fun b l hb=>by
  unfold cz;split
  ·subst_vars;rw [hβ] at hb;simp at hb
  ·exact hb
 have hold:∀ b,b<w.heap.size→(w.alloc (.cells c t)).heap[b]?=w.heap[b]?:=fun b hb=>Go.RowKit.Below.heap_alloc _ _ _ hb
 have hroom:∀ b n,Room w b n→Room (w.alloc (.cells c t)) b n:=(Ext.alloc (fun _=>False) w _).room
 have hkeep:∀ p v,V w B β p v→V (w.alloc (.cells c t)) B (cz β a ⟨w.heap.size,0,k⟩) p v:=fun p v hv=>
  hv.keep (fun _ h=>h) (fun b hb=>hold b (hs.lt b hb)) hmap hroom
 have hko:∀ o1 l1 c1,ObjOK w B β o1 l1 c1→ObjOK (w.alloc (.cells c t)) B (cz β a ⟨w.heap.size,0,k⟩) o1 l1 c1:=fun o1 l1 c1 hv=>
  hv.keep (fun _ h=>h) (fun b hb=>hold b (hs.lt b hb)) hmap hroom
 have hnew:(w.alloc (.cells c t)).heap[w.heap.size]?=some (.cells c t (0,0)):=by unfold World.alloc;simp only [Array.getElem?_push,↓reduceIte]
 refine ⟨Sim.of ?_ ?_ ?_ ?_ ?_,.alloc _ _ _,fun _ h=>h,fun _ h=>.inl h,?_,?_,hmap⟩
 ·intro b p hb
  unfold cd at hb
  split at hb
  ·rename_i hba;subst hba
   simp at hb;subst hb
   refine .inl ⟨_,by simp [cz],c,t,hnew,hko _ _ _ ho⟩
  ·rename_i hba
   rcases hs.cases hb with ⟨l,h1,c',e,h2,h3⟩ | ⟨h1,h2⟩
   ·exact .inl ⟨l,hmap b l h1,c',e,by rw [hold _ (hs.block_lt hb h1)];exact h2,hko _ _ _ h3⟩
   ·exact .inr ⟨by simp [cz,hba,h1],h2⟩
 ·intro b p l hb hp hl
  unfold cd at hb;unfold cz at hl
  split at hb
  ·rename_i hba
   rw [if_pos hba] at hl
   obtain rfl:=Option.some.inj hl
   intro hB
   exact absurd (hs.lt _ hB) (Nat.lt_irrefl _)
  ·rename_i hba
   rw [if_neg hba] at hl
   exact hs.excl b p l hb hp hl
 ·intro b d p q l m hb hd hne hl hm
  unfold cd at hb hd;unfold cz at hl hm
  split at hb
  ·rename_i hba
   rw [if_pos hba] at hl
   obtain rfl:=Option.some.inj hl
   have hda:d≠a:=fun h=>hne (hba.trans h.symm)
   rw [if_neg hda] at hd hm
   exact Nat.ne_of_gt (hs.block_lt hd hm)
  ·rename_i hba
   rw [if_neg hba] at hl
   split at hd
   ·rename_i hda
    rw [if_pos hda] at hm
    obtain rfl:=Option.some.inj hm
    exact Nat.ne_of_lt (hs.block_lt hb hl)
   ·rename_i hda
    rw [if_neg hda] at hm
    exact hs.inj b d p q l m hb hd hne hl hm
 ·intro b hb
  have:=hs.lt b hb
  simp;omega
 ·intro b k' xs fl l hb hl
  unfold cd at hb;unfold cz at hl
  split at hb
  ·simp at hb;exact absurd hb (hz k' xs fl)
  ·rename_i hba
   rw [if_neg hba] at hl
   exact hs.frz b k' xs fl l hb hl
 ·rintro b ⟨d,p,l,h1,h2,h3,rfl⟩
  unfold cd at h1;unfold cz at h3
  split at h1
  ·rename_i hda
   rw [if_pos hda] at h3
   obtain rfl:=Option.some.inj h3
   exact .inr (Nat.le_refl _)
  ·rename_i hda
   rw [if_neg hda] at h3
   exact .inl ⟨d,p,l,h1,h2,h3,rfl⟩
 ·rintro b ⟨d,p,l,h1,h3,rfl⟩
  unfold cd at h1;unfold cz at h3
  split at h1
  ·rename_i hda
   rw [if_pos hda] at h3
   obtain rfl:=Option.some.inj h3
   exact .inr (Nat.le_refl _)
  ·rename_i hda
   rw [if_neg hda] at h3
   exact .inl ⟨d,p,l,h1,h3,rfl⟩
theorem Step.acw (hs:Sim w B β rd) {a:Nat} (hβ:β a=none) (hr:rd a=none) (k:Nat) (fl:Bool) :
  Step w B β rd w B β (cd rd a (some (.arr k [] fl false))):=by
 refine ⟨Sim.of ?_ ?_ ?_ hs.lt ?_,.refl _ _,fun _ h=>h,fun _ h=>.inl h,?_,?_,fun _ _ h=>h⟩
 ·intro b p hb
  unfold cd at hb
  split at hb
  ·rename_i hba;subst hba;simp at hb;subst hb;exact .inr ⟨hβ,k,fl,false,rfl⟩
  ·exact hs.cases hb
 ·intro b p l hb hp hl
  unfold cd at hb
  split at hb
  ·rename_i hba;subst hba;rw [hβ] at hl;simp at hl
  ·exact hs.excl b p l hb hp hl
 ·intro b d p q l m hb hd hne hl hm
  unfold cd at hb hd
  split at hb
  ·rename_i hba;subst hba;rw [hβ] at hl;simp at hl
  ·split at hd
   ·rename_i hda;subst hda;rw [hβ] at hm;simp at hm
   ·exact hs.inj b d p q l m hb hd hne hl hm
 ·intro b k' xs fl' l hb hl
  unfold cd at hb
  split at hb
  ·simp at hb
  ·exact hs.frz b k' xs fl' l hb hl
 ·rintro b ⟨d,p,l,h1,h2,h3,rfl⟩
  unfold cd at h1
  split at h1
  ·rename_i hda;subst hda;rw [hβ] at h3;simp at h3
  ·exact .inl ⟨d,p,l,h1,h2,h3,rfl⟩
 ·rintro b ⟨d,p,l,h1,h3,rfl⟩
  unfold cd at h1
  split at h1
  ·rename_i hda;subst hda;rw [hβ] at h3;simp at h3
  ·exact .inl ⟨d,p,l,h1,h3,rfl⟩
structure Ra (w w':World) (b:Nat) (c':Array Value) (e:Nat):Prop where
 os:w'.os=w.os
 tape:w'.tape=w.tape
 output:w'.output=w.output
 size:w'.heap.size=w.heap.size
 here:w'.heap[b]?=some (.cells c' e (0,0))
 there:∀ d,d≠b→w'.heap[d]?=w.heap[d]?
theorem Step.write (hs:Sim w B β rd) {a:Nat} {o:bq} {l:Loc} (ha:rd a=some o) (hm:∀ k xs fl,o≠.arr k xs fl true) (hl:β a=some l)
  {c c':Array Value} {e:Nat} (hc:w.heap[l.block]?=some (.cells c e (0,0))) (hsz:c'.size=c.size) {w':World} (hw:Ra w w' l.block c' e) (o':bq)
  (hm':∀ k xs fl,o'≠.arr k xs fl true) (ho:ObjOK w B β o' l c') :
  Step w B β rd w' B β (cd rd a (some o')):=by
 have hlt:=hs.block_lt ha hl
 have hnew:=hw.here
 have hold:=hw.there
 have hroom:∀ b n,Room w b n→Room w' b n:=fun b n ⟨d,f,h1,h2⟩=>by
  by_cases hb:b=l.block
  ·subst hb
   rw [hc] at h1
   simp at h1
   exact ⟨c',e,hnew,by rw [hsz,h1.1];exact h2⟩
  ·exact ⟨d,f,by rw [hold b hb];exact h1,h2⟩
 have adM:Ext (fun b=>b=l.block) w w':=
  ⟨hw.os,hw.tape,hw.output,Nat.le_of_eq hw.size.symm,fun b _ hb=>hold b hb,hroom⟩
 have hkeep:∀ p v,V w B β p v→V w' B β p v:=fun p v hv=>
  hv.keep (fun _ h=>h) (fun b hb=>hold b (fun h=>hs.excl a o l ha hm hl (h▸hb))) (fun _ _ h=>h) hroom
 have hko:∀ o1 l1 c1,ObjOK w B β o1 l1 c1→ObjOK w' B β o1 l1 c1:=fun o1 l1 c1 hv=>
  hv.keep (fun _ h=>h) (fun b hb=>hold b (fun h=>hs.excl a o l ha hm hl (h▸hb))) (fun _ _ h=>h) hroom
 refine ⟨Sim.of ?_ ?_ ?_ (fun b hb=>by have:=hs.lt b hb;rw [hw.size];exact this) ?_,adM.mono (fun b hb=>⟨a,o,l,ha,hm,hl,hb.symm⟩),fun _ h=>h,fun _ h=>.inl h,?_,?_,fun _ _ h=>h⟩
 ·intro b p hb
  unfold cd at hb
  split at hb
  ·rename_i hba;subst hba;simp at hb;subst hb
   exact .inl ⟨l,hl,c',e,hnew,hko _ _ _ ho⟩
  ·rename_i hba
   rcases hs.cases hb with ⟨m,h1,d,f,h2,h3⟩ | h
   ·exact .inl ⟨m,h1,d,f,by rw [hold _ (hs.inj b a p o m l hb ha hba h1 hl)];exact h2,hko _ _ _ h3⟩
   ·exact .inr h
 ·intro b p m hb hp rS
  unfold cd at hb
  split at hb
  ·rename_i hba;subst hba
   rw [hl] at rS;obtain rfl:=Option.some.inj rS
   exact hs.excl b o l ha hm hl
  ·exact hs.excl b p m hb hp rS
 ·intro b d p q m n hb hd hne h1 h2
  unfold cd at hb hd
  split at hb
  ·rename_i hba;subst hba
   rw [if_neg (Ne.symm hne)] at hd
   exact hs.inj b d o q m n ha hd hne h1 h2
  ·split at hd
   ·rename_i hda;subst hda
    exact hs.inj b d p o m n hb ha hne h1 h2
   ·exact hs.inj b d p q m n hb hd hne h1 h2
 ·intro b k' xs fl' m hb hl'
  unfold cd at hb
  split at hb
  ·simp at hb;exact absurd hb (hm' k' xs fl')
  ·exact hs.frz b k' xs fl' m hb hl'
 ·rintro b ⟨d,p,m,h1,h2,h3,rfl⟩
  unfold cd at h1
  split at h1
  ·rename_i hda;subst hda
   exact .inl ⟨d,o,m,ha,hm,h3,rfl⟩
  ·exact .inl ⟨d,p,m,h1,h2,h3,rfl⟩
 ·rintro b ⟨d,p,m,h1,h3,rfl⟩
  unfold cd at h1
  split at h1
  ·rename_i hda;subst hda
   exact .inl ⟨d,o,m,ha,h3,rfl⟩
  ·exact .inl ⟨d,p,m,h1,h3,rfl⟩
theorem Step.freeze (hs:Sim w B β rd) {a k:Nat} {xs:List (List PV)} {fl fz:Bool} (ha:rd a=some (.arr k xs fl fz)) :
  Step w B β rd w (fun b=>B b∨∃ l,β a=some l∧l.block=b) β (cd rd a (some (.arr k xs fl true))):=by
 have hkeep:∀ p v,V w B β p v→V w (fun b=>B b∨∃ l,β a=some l∧l.block=b) β p v:=fun p v hv=>
  hv.keep (fun _ h=>.inl h) (fun b _=>rfl) (fun _ _ h=>h) (fun _ _ h=>h)
 have hko:∀ o1 l1 c1,ObjOK w B β o1 l1 c1→ObjOK w (fun b=>B b∨∃ l,β a=some l∧l.block=b) β o1 l1 c1:=fun o1 l1 c1 hv=>
  hv.keep (fun _ h=>.inl h) (fun b _=>rfl) (fun _ _ h=>h) (fun _ _ h=>h)
 refine ⟨Sim.of ?_ ?_ ?_ ?_ ?_,.refl _ _,fun _ h=>.inl h,?_,?_,?_,fun _ _ h=>h⟩
 ·intro b p hb
  unfold cd at hb
  split at hb
  ·rename_i hba;subst hba;simp at hb;subst hb
   rcases hs.cases ha with ⟨l,h1,c,e,h2,h3⟩ | ⟨h1,k',fl',fz',h2⟩
   ·exact .inl ⟨l,h1,c,e,h2,hko _ _ _ h3⟩
   ·simp at h2;obtain ⟨rfl,rfl,rfl,rfl⟩:=h2
    exact .inr ⟨h1,_,_,_,rfl⟩
  ·rcases hs.cases hb with ⟨l,h1,c,e,h2,h3⟩ | h
   ·exact .inl ⟨l,h1,c,e,h2,hko _ _ _ h3⟩
   ·exact .inr h
 ·intro b p l hb hp hl
  unfold cd at hb
  split at hb
  ·simp at hb;exact absurd hb.symm (hp k xs fl)
  ·rename_i hba
   rintro (h | ⟨m,h1,h2⟩)
   ·exact hs.excl b p l hb hp hl h
   ·exact hs.inj a b _ p m l ha hb (Ne.symm hba) h1 hl h2
 ·intro b d p q l m hb hd hne hl hm
  unfold cd at hb hd
  split at hb
  ·rename_i hba;subst hba
   rw [if_neg (Ne.symm hne)] at hd
   exact hs.inj b d _ q l m ha hd hne hl hm
  ·split at hd
   ·rename_i hda;subst hda
    exact hs.inj b d p _ l m hb ha hne hl hm
   ·exact hs.inj b d p q l m hb hd hne hl hm
 ·rintro b (h | ⟨l,h1,rfl⟩)
  ·exact hs.lt b h
  ·exact hs.block_lt ha h1
 ·intro b k' xs' fl' l hb hl
  unfold cd at hb
  split at hb
  ·rename_i hba;subst hba;exact .inr ⟨l,hl,rfl⟩
  ·exact .inl (hs.frz b k' xs' fl' l hb hl)
 ·rintro b (h | ⟨l,h1,rfl⟩)
  ·exact .inl h
  ·cases fz with
   | true=>exact .inl (hs.frz a k xs fl l ha h1)
   | false=>exact .inr (.inl ⟨a,_,l,ha,by simp,h1,rfl⟩)
 ·rintro b ⟨d,p,l,h1,h2,h3,rfl⟩
  unfold cd at h1
  split at h1
  ·simp at h1;exact absurd h1.symm (h2 k xs fl)
  ·exact .inl ⟨d,p,l,h1,h2,h3,rfl⟩
 ·rintro b ⟨d,p,l,h1,h3,rfl⟩
  unfold cd at h1
  split at h1
  ·rename_i hda;subst hda;exact .inl ⟨d,_,l,ha,h3,rfl⟩
  ·exact .inl ⟨d,p,l,h1,h3,rfl⟩
theorem Step.kill (hs:Sim w B β rd) (a:Nat):Step w B β rd w B β (cd rd a none):=by
 refine ⟨Sim.of ?_ ?_ ?_ hs.lt ?_,.refl _ _,fun _ h=>h,fun _ h=>.inl h,?_,?_,fun _ _ h=>h⟩
 ·intro b p hb
  unfold cd at hb
  split at hb
  ·simp at hb
  ·exact hs.cases hb
 ·intro b p l hb hp hl
  unfold cd at hb
  split at hb
  ·simp at hb
  ·exact hs.excl b p l hb hp hl
 ·intro b d p q l m hb hd hne hl hm
  unfold cd at hb hd
  split at hb
  ·simp at hb
  ·split at hd
   ·simp at hd
   ·exact hs.inj b d p q l m hb hd hne hl hm
 ·intro b k' xs fl' l hb hl
  unfold cd at hb
  split at hb
  ·simp at hb
  ·exact hs.frz b k' xs fl' l hb hl
 ·rintro b ⟨d,p,l,h1,h2,h3,rfl⟩
  unfold cd at h1
  split at h1
  ·simp at h1
  ·exact .inl ⟨d,p,l,h1,h2,h3,rfl⟩
 ·rintro b ⟨d,p,l,h1,h3,rfl⟩
  unfold cd at h1
  split at h1
  ·simp at h1
  ·exact .inl ⟨d,p,l,h1,h3,rfl⟩
theorem Step.move (hs:Sim w B β rd) {a n:Nat} {o:bq} {l:Loc} (ha:rd a=some o) (hm:∀ k xs fl,o≠.arr k xs fl true) (hl:β a=some l) (hn:β n=none) (hrn:rd n=none)
  {c c':Array Value} {e:Nat} (hc:w.heap[l.block]?=some (.cells c e (0,0))) (hsz:c'.size=c.size) {w':World} (hw:Ra w w' l.block c' e) (o':bq) (l':Loc) (hb:l'.block=l.block)
  (hm':∀ k xs fl,o'≠.arr k xs fl true) (ho:ObjOK w B β o' l' c') :
  Step w B β rd w' B (cz β n l') (cd (cd rd a none) n (some o')):=by
 have hlt:=hs.block_lt ha hl
 have hnew:=hw.here
 have hold:=hw.there
 have hmap:∀ b m,β b=some m→cz β n l' b=some m:=fun b m hbm=>by
  unfold cz;split
  ·subst_vars;rw [hn] at hbm;simp at hbm
  ·exact hbm
 have hroom:∀ b n,Room w b n→Room w' b n:=fun b n ⟨d,f,h1,h2⟩=>by
  by_cases hb:b=l.block
  ·subst hb
   rw [hc] at h1
   simp at h1
   exact ⟨c',e,hnew,by rw [hsz,h1.1];exact h2⟩
  ·exact ⟨d,f,by rw [hold b hb];exact h1,h2⟩
 have adM:Ext (fun b=>b=l.block) w w':=
  ⟨hw.os,hw.tape,hw.output,Nat.le_of_eq hw.size.symm,fun b _ hb=>hold b hb,hroom⟩
 have hkeep:∀ p v,V w B β p v→V w' B (cz β n l') p v:=fun p v hv=>
  hv.keep (fun _ h=>h) (fun b hb=>hold b (fun h=>hs.excl a o l ha hm hl (h▸hb))) hmap hroom
 have hko:∀ o1 l1 c1,ObjOK w B β o1 l1 c1→ObjOK w' B (cz β n l') o1 l1 c1:=fun o1 l1 c1 hv=>
  hv.keep (fun _ h=>h) (fun b hb=>hold b (fun h=>hs.excl a o l ha hm hl (h▸hb))) hmap hroom
 have hcase:∀ b p,cd (cd rd a none) n (some o') b=some p→(b=n∧p=o')∨(b≠n∧b≠a∧rd b=some p):=fun b p h=>by
  unfold cd at h
  split at h
  ·rename_i hbn;simp at h;exact .inl ⟨hbn,h.symm⟩
  ·split at h
   ·simp at h
   ·exact .inr ⟨‹_›,‹_›,h⟩
 refine ⟨Sim.of ?_ ?_ ?_ (fun b hb=>by have:=hs.lt b hb;rw [hw.size];exact this) ?_,adM.mono (fun b hb=>⟨a,o,l,ha,hm,hl,hb.symm⟩),fun _ h=>h,fun _ h=>.inl h,?_,?_,hmap⟩
 ·intro b p h
  rcases hcase b p h with ⟨rfl,rfl⟩ | ⟨h1,h2,h3⟩
  ·exact .inl ⟨l',by simp [cz],c',e,by rw [hb];exact hnew,hko _ _ _ ho⟩
  ·rcases hs.cases h3 with ⟨m,g1,d,f,g2,g3⟩ | ⟨g1,g2⟩
   ·exact .inl ⟨m,hmap b m g1,d,f,by rw [hold _ (hs.inj b a p o m l h3 ha h2 g1 hl)];exact g2,hko _ _ _ g3⟩
   ·exact .inr ⟨by simp [cz,h1,g1],g2⟩
 ·intro b p m h hp rS
  rcases hcase b p h with ⟨rfl,rfl⟩ | ⟨h1,h2,h3⟩
  ·simp [cz] at rS;subst rS
   rw [hb];exact hs.excl a o l ha hm hl
  ·rw [show cz β n l' b=β b from by simp [cz,h1]] at rS
   exact hs.excl b p m h3 hp rS
 ·intro b d p q m k h1 h2 hne g1 g2
  rcases hcase b p h1 with ⟨rfl,rfl⟩ | ⟨e1,e2,e3⟩
  ·rcases hcase d q h2 with ⟨rfl,rfl⟩ | ⟨f1,f2,f3⟩
   ·exact absurd rfl hne
   ·simp [cz] at g1;subst g1
    rw [show cz β b l' d=β d from by simp [cz,f1]] at g2
    rw [hb];exact hs.inj a d o q l k ha f3 (Ne.symm f2) hl g2
  ·rw [show cz β n l' b=β b from by simp [cz,e1]] at g1
   rcases hcase d q h2 with ⟨rfl,rfl⟩ | ⟨f1,f2,f3⟩
   ·simp [cz] at g2;subst g2
    rw [hb];exact hs.inj b a p o m l e3 ha e2 g1 hl
   ·rw [show cz β n l' d=β d from by simp [cz,f1]] at g2
    exact hs.inj b d p q m k e3 f3 hne g1 g2
 ·intro b k' xs fl' m h rS
  rcases hcase b _ h with ⟨rfl,h2⟩ | ⟨h1,h2,h3⟩
  ·exact absurd h2.symm (hm' k' xs fl')
  ·rw [show cz β n l' b=β b from by simp [cz,h1]] at rS
   exact hs.frz b k' xs fl' m h3 rS
 ·rintro b ⟨d,p,m,h1,h2,h3,rfl⟩
  rcases hcase d p h1 with ⟨rfl,rfl⟩ | ⟨e1,e2,e3⟩
  ·simp [cz] at h3;subst h3
   exact .inl ⟨a,o,l,ha,hm,hl,hb.symm⟩
  ·rw [show cz β n l' d=β d from by simp [cz,e1]] at h3
   exact .inl ⟨d,p,m,e3,h2,h3,rfl⟩
 ·rintro b ⟨d,p,m,h1,h3,rfl⟩
  rcases hcase d p h1 with ⟨rfl,rfl⟩ | ⟨e1,e2,e3⟩
  ·simp [cz] at h3;subst h3
   exact .inl ⟨a,o,l,ha,hl,hb.symm⟩
  ·rw [show cz β n l' d=β d from by simp [cz,e1]] at h3
   exact .inl ⟨d,p,m,e3,h3,rfl⟩
end
end Go.Pm
end
section
set_option linter.unusedVariables false
set_option linter.unusedSimpArgs false
namespace Go.Pm
open Go
def Turn (P:Program) (w:World) (B:Nat→Prop) (β:Map) (rd:Rd) (a:Act) (o:Oper) (nid:Nat) (e:Eff):Prop:=
 ∃ nx v w' B' β',(execOp a.eval o).run P w=.ok nx w'∧(nx=.value v∨nx=.skip∧v=Go.undef)∧
  Step w B β rd w' B' β' (rdU rd e.upd)∧V w' B' β' e.val v∧(∀ b,b≠nid→β' b=β b)
section
variable {P:Program} {w:World} {B:Nat→Prop} {β:Map} {rd:Rd} {tm:List PV} {a:Act} {tab:Nat→Option TI}
theorem Turn.quiet (hs:Sim w B β rd) {o:Oper} {nid:Nat} {e:Eff} (h:Quiet P w B β a o e):Turn P w B β rd a o nid e:=by
 obtain ⟨h1,v,h2,h3⟩:=h
 exact ⟨_,v,w,B,β,h2,.inl rfl,by rw [h1];exact .refl hs,h3,fun _ _=>rfl⟩
theorem qg {t:Nat} {ti:TI} (hi:bN P t ti):∃ z:Value,(∀ w,(zeroValue t).run P w=.ok z w)∧(∀ w B β,Vs w B β ti.zero z.cells.toList)∧(∀ v∈z.cells.toList,v.oneCell'=true)∧z.cells.size=ti.size:=by
 obtain ⟨i,z,g1,g2,g3,g4,h2,h3⟩:=hi.info
 have h1:∀ w,(zeroValue t).run P w=.ok z w:=fun w=>by simp [zeroValue,typeInfo,g1,g4]
 have hlen:ti.zero.length=z.cells.toList.length:=by have:=congrArg List.length h2;simpa using this.symm
 have hget:∀ (i:Nat) (p:PV) (v:Value),ti.zero[i]?=some p→z.cells.toList[i]?=some v→dZ v=some p:=fun i p v hp hv=>by
  have h5:(z.cells.toList.map dZ)[i]?=(ti.zero.map some)[i]?:=by rw [h2]
  rw [List.getElem?_map,List.getElem?_map,hp,hv] at h5
  simpa using h5
 refine ⟨z,h1,fun w B β=>⟨hlen,fun i p v hp hv=>(wC (hget i p v hp hv)).1⟩,fun v hv=>?_,?_⟩
 ·obtain ⟨i,hi,hv'⟩:=List.mem_iff_getElem.1 hv
  have hi':i<ti.zero.length:=hlen▸hi
  exact (wC (w:=default) (B:=fun _=>False) (β:=fun _=>none) (hget i _ v (List.getElem?_eq_getElem hi') (by rw [← hv'];exact List.getElem?_eq_getElem hi))).2.1
 ·rw [← h3,hlen];simp
theorem Cv (hs:Sim w B β rd) {nid t:Nat} {x:Operand} {cs:List PV} (hβ:β nid=none) (hr:rd nid=none) {u:Value} (hu:Vs w B β cs u.cells.toList) (ho:∀ v∈u.cells.toList,v.oneCell'=true) :
  Step w B β rd (w.alloc (.cells u.cells t)) B (cz β nid ⟨w.heap.size,0,0⟩) (rdU rd [(nid,some (.box cs))])∧
  V (w.alloc (.cells u.cells t)) B (cz β nid ⟨w.heap.size,0,0⟩) (.ptr nid 0) (.pointer (some ⟨w.heap.size,0,none⟩)):=
 ⟨Step.new hs hβ hr u.cells t 0 (.box cs) ⟨rfl,hu,ho⟩ (by simp),.ptr nid 0 ⟨w.heap.size,0,0⟩ (by simp [cz])⟩
theorem Q6 (hT:du P tab) (hs:Sim w B β rd) {nid t:Nat} {ti:TI} (ht:tab t=some ti) (hβ:β nid=none) (hr:rd nid=none) {o:Oper} (ho:o.op=.alloc t) :
  Turn P w B β rd a o nid ⟨.ptr nid 0,[(nid,some (.box ti.zero))],[]⟩:=by
 obtain ⟨z,h1,h2,h3,h4⟩:=qg (hT t ti ht)
 obtain ⟨g1,g2⟩:=Cv (t:=t) (x:=.tmp 0) hs hβ hr (h2 w B β) h3
 refine ⟨_,_,_,B,_,?_,.inl rfl,g1,g2,fun b hb=>by simp [cz,hb]⟩
 simp [execOp,ho,Instr.alloc,h1,newVar,newRow]
theorem afo (hs:Sim w B β rd) {nid t:Nat} {x:Operand} {p:PV} {cs:List PV} (hx:V w B β p (a.eval x)) (hc:cellsOf p=some cs) (hβ:β nid=none) (hr:rd nid=none) {o:Oper} (ho:o.op=.box t x) :
  Turn P w B β rd a o nid ⟨.ptr nid 0,[(nid,some (.box cs))],[]⟩:=by
 obtain ⟨h2,h3⟩:=mN hx hc
 obtain ⟨g1,g2⟩:=Cv (t:=t) (x:=x) hs hβ hr h2 h3
 refine ⟨_,_,_,B,_,?_,.inl rfl,g1,g2,fun b hb=>by simp [cz,hb]⟩
 simp [execOp,ho,Instr.box,newVar,newRow]
theorem gi {b:Nat} {c c':Array Value} {e:Nat} (h:w.heap[b]?=some (.cells c e (0,0))):Ra w (w.setRow b c') b c' e:=
 ⟨rfl,rfl,rfl,by simp,setRow_heap w b c c' e (0,0) h,fun d hd=>setRow_other w b d c' hd⟩
def dh (c:Array Value) (o:Nat) (vs:List Value):Array Value:=(c.toList.take o ++ vs ++ c.toList.drop (o+vs.length)).toArray
theorem cV {c:Array Value} {o:Nat} {vs:List Value} (h:o+vs.length≤c.size):(dh c o vs).size=c.size:=by
 simp [dh];omega
theorem gx {c:Array Value} {o:Nat} {vs:List Value} (h:o+vs.length≤c.size) (j:Nat):(dh c o vs)[j]?=if o≤j∧j<o+vs.length then vs[j - o]? else c[j]?:=by
 have ho:min o c.toList.length=o:=by simp;omega
 simp only [dh,List.getElem?_toArray,List.getElem?_append,List.length_take,List.length_append,ho,List.getElem?_take,List.getElem?_drop]
 split
 ·split
  ·rw [if_neg (by omega)];simp
  ·rename_i h1 h2
   rw [if_pos (by omega)]
 ·rename_i h1
  rw [if_neg (by omega)]
  have:o+vs.length+(j - (o+vs.length))=j:=by omega
  rw [this];simp
theorem ux {cs:List PV} {o:Nat} {vs:List PV} (h:o+vs.length≤cs.length) (j:Nat):(splice cs o vs)[j]?=if o≤j∧j<o+vs.length then vs[j - o]? else cs[j]?:=by
 have ho:min o cs.length=o:=by omega
 simp only [splice,List.getElem?_append,List.length_take,List.length_append,ho,List.getElem?_take,List.getElem?_drop]
 split
 ·split
  ·rw [if_neg (by omega)]
  ·rw [if_pos (by omega)]
 ·rw [if_neg (by omega)]
  have:o+vs.length+(j - (o+vs.length))=j:=by omega
  rw [this]
theorem pa {cs:List PV} {o:Nat} {vs:List PV} (h:o+vs.length≤cs.length):(splice cs o vs).length=cs.length:=by
 simp [splice];omega
theorem Vs.splice {cs ps:List PV} {c:Array Value} {vs:List Value} {o:Nat} (h:Vs w B β cs c.toList) (hp:Vs w B β ps vs) (hle:o+ps.length≤cs.length):Vs w B β (splice cs o ps) (dh c o vs).toList:=by
 have hlen:=h.1
 have hpl:=hp.1
 have rT:o+vs.length≤c.size:=by rw [← hpl];simpa [hlen] using hle
 refine ⟨by rw [pa hle];simp [cV rT,hlen],fun i p v h1 h2=>?_⟩
 rw [ux hle] at h1
 rw [Array.getElem?_toList,gx rT] at h2
 rw [← hpl] at h2
 split at h1
 ·rename_i hc;rw [if_pos hc] at h2;exact hp.2 _ p v h1 h2
 ·rename_i hc;rw [if_neg hc] at h2;exact h.2 i p v h1 (by simpa using h2)
theorem BC {c:Array Value} {o:Nat} {vs:List Value} {v:Value} (h:v∈(dh c o vs).toList):v∈c.toList∨v∈vs:=by
 simp only [dh,List.mem_append] at h
 rcases h with (h | h) | h
 ·exact .inl (List.mem_of_mem_take h)
 ·exact .inr h
 ·exact .inl (List.mem_of_mem_drop h)
theorem jo {b o:Nat} {c:Array Value} {e:Nat} {vs:List Value} (hc:w.heap[b]?=some (.cells c e (0,0))) (hle:o+vs.length≤c.size) (h1:∀ v∈vs,v.oneCell'=true) :
  (storeCells ⟨b,o,none⟩ vs 0).run P w=.ok () (w.setRow b (dh c o vs)):=by
 have:=run_storeCells_at P b o e vs 0 c w hc (by simpa using hle) h1
 simpa [dh] using this
theorem yZ (hs:Sim w B β rd) {aa k off len:Nat} {xs:List (List PV)} {fl fz:Bool} (ha:rd aa=some (.arr k xs fl fz)) (hle:off+len≤xs.length) {u:Value} (hu:V w B β (.own aa k off len) u)
  {B':Nat→Prop} (hB:∀ b,B b→B' b) (hb:∀ l,β aa=some l→B' l.block) (g:Bool) {γ:Map}:V w B' γ (.lit ((xs.drop off).take len) ⟨g,fl⟩) u:=by
 obtain ⟨h1,h2,h3⟩:=hs.arr aa k xs fl fz ha
 have hlen:((xs.drop off).take len).length=len:=by simp;omega
 cases hu with
 | kU aa k off b=>
  have:(xs.drop off).take 0=[]:=by simp
  rw [this];exact .lQ _ _ _
 | own aa off len cap l hl hc hr=>
  rcases h3 with ⟨rfl,hn⟩ | ⟨m,c,e,g1,g2,g3,g4⟩
  ·rw [hl] at hn;simp at hn
  ·rw [hl] at g1;obtain rfl:=Option.some.inj g1
   have hget:∀ (i:Nat) (x:List PV),((xs.drop off).take len)[i]?=some x→xs[off+i]?=some x:=fun i x hx=>by
    rw [List.getElem?_take] at hx
    split at hx
    ·simpa using hx
    ·simp at hx
   have hmem:∀ x∈(xs.drop off).take len,x∈xs:=fun x hx=>List.mem_of_mem_drop (List.mem_of_mem_take hx)
   have hc':∀ (i:Nat) (x:List PV) (j:Nat) (p:PV),((xs.drop off).take len)[i]?=some x→x[j]?=some p→∃ v,c[l.off+off*l.k+i*l.k+j]?=some v∧v.oneCell'=true∧V w B (fun _=>none) p v:=fun i x j p q1 q2=>by
    have:=g4 (off+i) x j p (hget i x q1) q2
    rw [Nat.add_mul,← Nat.add_assoc] at this
    exact this
   have:=V.lit (w:=w) (B:=B') (β:=γ) ((xs.drop off).take len) ⟨g,fl⟩ l.block (l.off+off*l.k) l.k cap (fun i j=>(c[l.off+off*l.k+i*l.k+j]?).getD default) (hb l hl) (by rw [hlen];exact hc)
    (fun hfl x hx=>h1 hfl x (hmem x hx)) (fun x hx=>h2 x (hmem x hx))
    (fun i x j p q1 q2=>by obtain ⟨v,r1,r2,r3⟩:=hc' i x j p q1 q2;simp [World.cell?,g3,r1])
    (fun i x j p q1 q2=>by obtain ⟨v,r1,r2,r3⟩:=hc' i x j p q1 q2;simp [r1,r2])
    (fun i x j p q1 q2=>by
     obtain ⟨v,r1,r2,r3⟩:=hc' i x j p q1 q2
     simp only [r1,Option.getD_some]
     exact r3.keep hB (fun _ _=>rfl) (fun _ _ h=>h) (fun _ _ h=>h))
   rw [hlen] at this
   exact this
theorem V.more {B':Nat→Prop} {p:PV} {v:Value} (h:V w B β p v) (hB:∀ b,B b→B' b):V w B' β p v:=
 h.keep hB (fun _ _=>rfl) (fun _ _ h=>h) (fun _ _ h=>h)
theorem Vs.more {B':Nat→Prop} {p:List PV} {v:List Value} (h:Vs w B β p v) (hB:∀ b,B b→B' b):Vs w B' β p v:=
 h.keep hB (fun _ _=>rfl) (fun _ _ h=>h) (fun _ _ h=>h)
theorem V.Dt {xs:List (List PV)} {fl:Fl} {v:Value} (h:V w B β (.lit xs fl) v) (g:Bool) {γ:Map}:V w B γ (.lit xs ⟨g,fl.flat⟩) v:=by
 cases h with
 | lQ fl b cap=>exact .lQ _ _ _
 | lit xs fl b o k cap val hb hn hf hk hcell ho hv=>exact .lit xs _ b o k cap val hb hn hf hk hcell ho hv
theorem ja (hs:Sim w B β rd):∀ {ps:List PV} {us:List Value} {qs:List PV} {fz:List Nat},settle rd ps=some (qs,fz)→Vs w B β ps us→
  (∀ b∈fz,∃ k xs fl z,rd b=some (.arr k xs fl z))∧ps.length=qs.length∧∀ B':Nat→Prop,(∀ b,B b→B' b)→(∀ b∈fz,∀ l,β b=some l→B' l.block)→Vs w B' (fun _=>none) qs us
 | [],us,qs,fz,h,hu=>by
  simp [settle] at h;obtain ⟨rfl,rfl⟩:=h
  rw [hu.of_nil]
  exact ⟨by simp,rfl,fun _ _ _=>.nil⟩
 | p::r,us,qs,fz,h,hu=>by
  obtain ⟨u,us',rfl,h1,h2⟩:=hu.cN
  unfold settle at h
  split at h
  ·simp at *
  ·rename_i aa k off len r' heq
   simp at heq;obtain ⟨rfl,rfl⟩:=heq
   split at h
   ·rename_i k' xs flat z r2 l ha hr
    split at h <;> simp at h
    obtain ⟨rfl,rfl⟩:=h
    rename_i hc
    simp only [Bool.and_eq_true,beq_iff_eq,decide_eq_true_eq] at hc
    obtain ⟨rfl,hle⟩:=hc
    obtain ⟨g1,g2,g3⟩:=ja hs hr h2
    refine ⟨fun b hb=>?_,by simp [g2],fun B' hB hB2=>?_⟩
    ·rcases List.mem_cons.1 hb with rfl | hb
     ·exact ⟨_,_,_,_,ha⟩
     ·exact g1 b hb
    ·exact .cons (yZ hs ha hle h1 hB (fun l hl=>hB2 aa (by simp) l hl) false) (g3 B' hB fun b hb=>hB2 b (by simp [hb]))
   ·simp at h
  ·rename_i r' heq
   simp at heq;obtain ⟨rfl,rfl⟩:=heq
   split at h
   ·rename_i r2 l hr
    simp at h;obtain ⟨rfl,rfl⟩:=h
    obtain ⟨g1,g2,g3⟩:=ja hs hr h2
    cases h1
    exact ⟨g1,by simp [g2],fun B' hB hB2=>.cons (.lQ _ _ _) (g3 B' hB hB2)⟩
   ·simp at h
  ·rename_i xs fl r' heq
   simp at heq;obtain ⟨rfl,rfl⟩:=heq
   split at h
   ·rename_i r2 l hr
    simp at h;obtain ⟨rfl,rfl⟩:=h
    obtain ⟨g1,g2,g3⟩:=ja hs hr h2
    exact ⟨g1,by simp [g2],fun B' hB hB2=>.cons ((h1.Dt false).more hB) (g3 B' hB hB2)⟩
   ·simp at h
  ·rename_i v r' _ _ _ heq
   simp at heq;obtain ⟨rfl,rfl⟩:=heq
   split at h
   ·rename_i r2 l hr
    split at h <;> simp at h
    rename_i hp
    obtain ⟨rfl,rfl⟩:=h
    obtain ⟨g1,g2,g3⟩:=ja hs hr h2
    exact ⟨g1,by simp [g2],fun B' hB hB2=>.cons (h1.plain hp) (g3 B' hB hB2)⟩
   ·simp at h
theorem nJ (rd:Rd) (b k:Nat) (xs:List (List PV)) (fl z:Bool) (hb:rd b=some (.arr k xs fl z)):∀ l:List Nat,freezes (cd rd b (some (.arr k xs fl true))) l=freezes rd l
 | []=>rfl
 | c::l=>by
  unfold freezes
  rw [nJ rd b k xs fl z hb l]
  by_cases hc:c=b
  ·subst hc;simp [cd,hb]
  ·simp [cd,hc]
theorem lU:∀ (fz:List Nat) {B:Nat→Prop} {rd:Rd},Sim w B β rd→(∀ b∈fz,∃ k xs fl z,rd b=some (.arr k xs fl z))→
  ∃ B',Step w B β rd w B' β (rdU rd (freezes rd fz))∧(∀ b∈fz,∀ l,β b=some l→B' l.block)
 | [],B,rd,hs,_=>⟨B,.refl hs,by simp⟩
 | b::r,B,rd,hs,h=>by
  obtain ⟨k,xs,fl,z,hb⟩:=h b (by simp)
  have st:=Step.freeze hs hb
  have hr:∀ c∈r,∃ k' xs' fl' z',cd rd b (some (.arr k xs fl true)) c=some (.arr k' xs' fl' z'):=fun c hc=>by
   unfold cd;split
   ·exact ⟨_,_,_,_,rfl⟩
   ·exact h c (by simp [hc])
  obtain ⟨B',st',hB'⟩:=lU r st.sim hr
  refine ⟨B',?_,fun c hc l hl=>?_⟩
  ·have:rdU rd (freezes rd (b::r))=rdU (cd rd b (some (.arr k xs fl true))) (freezes (cd rd b (some (.arr k xs fl true))) r):=by
    rw [nJ rd b k xs fl z hb]
    simp [freezes,hb,rdU]
   rw [this];exact st.trans st'
  ·rcases List.mem_cons.1 hc with rfl | hc
   ·exact st'.bsub _ (.inr ⟨l,hl,rfl⟩)
   ·exact hB' c hc l hl
theorem jX:∀ (fz:List Nat) {rd:Rd} {b:Nat} {k:Nat} {xs:List (List PV)} {fl:Bool},b ∉ fz→rdU rd (freezes rd fz) b=rd b
 | [],rd,b,k,xs,fl,_=>rfl
 | c::r,rd,b,k,xs,fl,h=>by
  simp only [List.mem_cons,not_or] at h
  unfold freezes
  split
  ·rename_i k' xs' fl' z' hc
   have:rdU rd ((c,some (.arr k' xs' fl' true))::freezes rd r)=rdU (cd rd c (some (.arr k' xs' fl' true))) (freezes (cd rd c (some (.arr k' xs' fl' true))) r):=by
    rw [nJ rd c k' xs' fl' z' hc];rfl
   rw [this,jX r (k:=k) (xs:=xs) (fl:=fl) h.2]
   simp [cd,h.1]
  ·exact jX r (k:=k) (xs:=xs) (fl:=fl) h.2
theorem gF:∀ {l:List Nat} {a:Nat},has l a=true↔a∈l
 | [],a=>by simp [has]
 | b::r,a=>by simp [has,gF (l:=r)]
theorem yy {cs ws:List PV} {o:Nat} (h:∀ c∈cs,plainCell c=true) (hw:cJ ws=true):∀ c∈splice cs o ws,plainCell c=true:=by
 have hw':∀ c∈ws,plainCell c=true:=by
  intro c hc
  induction ws with
  | nil=>simp at hc
  | cons x r ih=>
   simp [cJ] at hw
   rcases List.mem_cons.1 hc with rfl | hc
   ·exact hw.1
   ·exact ih hw.2 hc
 intro c hc
 simp only [splice,List.mem_append] at hc
 rcases hc with (hc | hc) | hc
 ·exact h c (List.mem_of_mem_take hc)
 ·exact hw' c hc
 ·exact h c (List.mem_of_mem_drop hc)
theorem pr {α:Type}:∀ (l:List α) (i:Nat) (v:α) (j:Nat),(cC l i v)[j]?=if j=i∧i<l.length then some v else l[j]?
 | [],i,v,j=>by simp [cC]
 | x::r,0,v,j=>by cases j <;> simp [cC]
 | x::r,i+1,v,0=>by simp [cC]
 | x::r,i+1,v,j+1=>by simp [cC,pr r i v j]
theorem uF {α:Type} {l:List α} {i:Nat} {v x:α} (h:x∈cC l i v):x=v∨x∈l:=by
 obtain ⟨j,hj⟩:=List.mem_iff_getElem?.1 h
 rw [pr] at hj
 split at hj
 ·simp at hj;exact .inl hj.symm
 ·exact .inr (List.mem_of_getElem? hj)
theorem LN (hT:du P tab) (hs:Sim w B β rd) {t:Nat} {ti:TI} (ht:tab t=some ti) {p v:PV} {u x:Value} {e:Eff} (h:storeAt rd ti p v=some e) (hp:V w B β p u) (hv:V w B β v x) :
  ∃ w' B',(Instr.storeAt t u x).run P w=.ok () w'∧Step w B β rd w' B' β (rdU rd e.upd)∧e.val=.void:=by
 have hi:=hT t ti ht
 unfold storeAt at h
 split at h
 ·simp at h
 ·rename_i vs hvs
  obtain ⟨h1,h2⟩:=mN hv hvs
  split at h
  ·rename_i hlen
   simp only [beq_iff_eq] at hlen
   have hsz:x.cells.size=ti.size:=by rw [← hlen,h1.1];simp
   have run:∀ (b o:Nat) (c:Array Value) (e:Nat),u=.pointer (some ⟨b,o,none⟩)→w.heap[b]?=some (.cells c e (0,0))→o+x.cells.toList.length≤c.size→
     (Instr.storeAt t u x).run P w=.ok () (w.setRow b (dh c o x.cells.toList)):=fun b o c e hu hc hle=>by
    subst hu
    simp [Instr.storeAt,Instr.sureAddr,storeVar,hi.size w,hsz,jo hc hle h2]
   have hxl:x.cells.toList.length=vs.length:=h1.1.symm
   split at h
   ·rename_i aa o
    split at h
    ·rename_i cs hb
     split at h <;> simp at h
     subst h
     rename_i hle
     cases hp with
     | ptr aa o l hl=>
      obtain ⟨c,e,hc,hl0,h3,h4⟩:=hs.obj hb hl
      have hcl:cs.length=c.size:=by rw [h3.1];simp
      have rT:l.off+o+x.cells.toList.length≤c.size:=by rw [hl0,hxl];omega
      refine ⟨_,B,run _ _ c e rfl hc rT,Step.write hs hb (by simp) hl hc (cV rT) (gi hc) _ (by simp) ⟨hl0,?_,fun v hv=>?_⟩,rfl⟩
      ·rw [hl0,Nat.zero_add];exact h3.splice h1 (by omega)
      ·rcases BC hv with h | h
       ·exact h4 v h
       ·exact h2 v h
    ·simp at h
   ·rename_i aa i o
    split at h
    ·rename_i k xs flat hb
     split at h
     ·rename_i cs ws fz hx hset
      split at h <;> simp at h
      subst h
      rename_i hc
      simp only [Bool.and_eq_true,decide_eq_true_eq,Bool.not_eq_true',Bool.eq_false_iff,ne_eq,gF] at hc
      obtain ⟨⟨hle,hnf⟩,hne⟩:=hc
      have hpos:0<ws.length:=by cases ws with | nil=>simp at hne | cons _ _=>simp
      obtain ⟨s1,s2,s3⟩:=ja hs hset h1
      cases hp with
      | dL aa i o l hl=>
       obtain ⟨B',st,hB'⟩:=lU fz hs s1
       have hb':rdU rd (freezes rd fz) aa=some (.arr k xs flat false):=by rw [jX fz (k:=k) (xs:=xs) (fl:=flat) hnf];exact hb
       obtain ⟨c,e,hc,hfl,hxk,hlk,harr⟩:=st.sim.obj hb' hl
       have hcell:=harr i cs
       have hcs:cs.length=k:=hxk cs (List.mem_of_getElem? hx)
       have hiw:i<xs.length:=by rcases Nat.lt_or_ge i xs.length with h' | h';exact h';simp [List.getElem?_eq_none h'] at hx
       have hwsl:ws.length=x.cells.toList.length:=by rw [← s2,hxl]
       have rT:l.off+i*l.k+o+x.cells.toList.length≤c.size:=by
        rw [← hwsl]
        obtain ⟨v,q1,_⟩:=hcell (o+ws.length - 1) _ hx (List.getElem?_eq_getElem (by omega))
        have:l.off+i*l.k+(o+ws.length - 1)<c.size:=by rcases Nat.lt_or_ge (l.off+i*l.k+(o+ws.length - 1)) c.size with h' | h';exact h';simp [Array.getElem?_eq_none h'] at q1
        omega
       have hws:=s3 B' st.bsub hB'
       refine ⟨_,B',run _ _ c e rfl hc rT,?_,rfl⟩
       rw [js]
       refine st.trans (Step.write st.sim hb' (by simp) hl hc (cV rT) (gi hc) _ (by simp) ⟨fun hf=>?_,fun y hy=>?_,hlk,?_⟩)
       ·simp only [Bool.and_eq_true] at hf
        intro y hy
        rcases uF hy with rfl | hy
        ·exact yy (fun c hc=>hfl hf.1 cs (List.mem_of_getElem? hx) c hc) hf.2
        ·exact hfl hf.1 y hy
       ·rcases uF hy with rfl | hy
        ·rw [pa (by rw [hcs] at hle ⊢;exact hle)];exact hcs
        ·exact hxk y hy
       ·intro i' y j q hy hq
        rw [gx rT]
        rw [pr] at hy
        have hcsl:o+ws.length≤l.k:=by rw [hlk,← hcs];exact hle
        split at hy
        ·rename_i hii
         obtain ⟨rfl,_⟩:=hii
         simp at hy;subst hy
         rw [ux hle] at hq
         split at hq
         ·rename_i hj
          rw [if_pos (by omega)]
          have hj':l.off+i'*l.k+j - (l.off+i'*l.k+o)=j - o:=by omega
          rw [hj']
          obtain ⟨v,q1,q2⟩:=hws.get hq
          exact ⟨v,q1,h2 v (List.mem_of_getElem? q1),q2⟩
         ·rename_i hj
          rw [if_neg (by omega)]
          exact harr i' cs j q hx hq
        ·rename_i hii
         have hne':i'≠i:=fun h=>hii ⟨h,hiw⟩
         have hjk:j<l.k:=by
          have:y.length=k:=hxk y (List.mem_of_getElem? hy)
          rcases Nat.lt_or_ge j y.length with h' | h'
          ·omega
          ·simp [List.getElem?_eq_none h'] at hq
         rw [if_neg ?_]
         ·exact harr i' y j q hy hq
         ·rcases Nat.lt_or_gt_of_ne hne' with hlt | hlt
          ·have:=Nat.mul_le_mul_right l.k (Nat.succ_le_of_lt hlt)
           rw [Nat.succ_mul] at this
           omega
          ·have:=Nat.mul_le_mul_right l.k (Nat.succ_le_of_lt hlt)
           rw [Nat.succ_mul] at this
           omega
     ·simp at h
    ·simp at h
   ·simp at h
  ·simp at h
theorem flat_get {α:Type} (f:α→List Value) (s:Nat):∀ (l:List α) (i j:Nat) (x:α),(∀ y∈l,(f y).length=s)→l[i]?=some x→j<s→(l.flatMap f)[i*s+j]?=(f x)[j]?
 | [],i,j,x,_,h,_=>by simp at h
 | y::l,0,j,x,hs,h,hj=>by
  simp at h;subst h
  have:=hs y (by simp)
  rw [List.flatMap_cons,List.getElem?_append_left (by omega)]
  simp
 | y::l,i+1,j,x,hs,h,hj=>by
  have hy:=hs y (by simp)
  rw [List.flatMap_cons,List.getElem?_append_right (by rw [hy,Nat.succ_mul];omega),hy]
  have:(i+1)*s+j - s=i*s+j:=by rw [Nat.succ_mul];omega
  rw [this]
  exact flat_get f s l i j x (fun z hz=>hs z (by simp [hz])) (by simpa using h) hj
theorem sR {α:Type} (f:α→List Value) (s:Nat):∀ (l:List α),(∀ y∈l,(f y).length=s)→(l.flatMap f).length=l.length*s
 | [],_=>by simp
 | y::l,h=>by
  rw [List.flatMap_cons,List.length_append,h y (by simp),sR f s l (fun z hz=>h z (by simp [hz])),List.length_cons,Nat.succ_mul,Nat.add_comm]
theorem mQ:∀ {l:List PV},cJ l=true↔∀ c∈l,plainCell c=true
 | []=>by simp [cJ]
 | x::r=>by simp [cJ,mQ (l:=r)]
theorem qj (hs:Sim w B β rd) {size:Nat}:∀ {ps:List PV} {us:List Value} {rows:List (List PV)} {fz:List Nat} {fl:Bool},cW rd size ps=some (rows,fz,fl)→Vs w B β ps us→
  (∀ b∈fz,∃ k xs fl z,rd b=some (.arr k xs fl z))∧rows.length=us.length∧(∀ u∈us,u.cells.toList.length=size∧∀ v∈u.cells.toList,v.oneCell'=true)∧(∀ r∈rows,r.length=size)∧(fl=true→dU rows)∧
  ∀ B':Nat→Prop,(∀ b,B b→B' b)→(∀ b∈fz,∀ l,β b=some l→B' l.block)→∀ (i:Nat) (r:List PV) (u:Value),rows[i]?=some r→us[i]?=some u→Vs w B' (fun _=>none) r u.cells.toList
 | [],us,rows,fz,fl,h,hu=>by
  simp [cW] at h;obtain ⟨rfl,rfl,rfl⟩:=h
  rw [hu.of_nil]
  exact ⟨by simp,rfl,by simp,by simp,fun _ x hx=>by simp at hx,fun B' _ _ i r u h=>by simp at h⟩
 | p::r,us,rows,fz,fl,h,hu=>by
  obtain ⟨u,us',rfl,h1,h2⟩:=hu.cN
  unfold cW at h
  split at h
  ·rename_i cs l r' l' fl' hc hr
   split at h <;> simp at h
   rename_i hsz
   simp only [beq_iff_eq] at hsz
   obtain ⟨rfl,rfl,rfl⟩:=h
   cases hcc:cellsOf p with
   | none=>rw [hcc] at hc;simp at hc
   | some ps=>
    rw [hcc] at hc;simp only [Option.bind_some] at hc
    obtain ⟨c1,c2⟩:=mN h1 hcc
    obtain ⟨s1,s2,s3⟩:=ja hs hc c1
    obtain ⟨g1,g2,g3,g4,g5,g6⟩:=qj hs hr h2
    refine ⟨fun b hb=>?_,by simp [g2],fun v hv=>?_,fun y hy=>?_,fun hf y hy=>?_,fun B' hB hB2 i y v hy hv=>?_⟩
    ·rcases List.mem_append.1 hb with hb | hb
     ·exact s1 b hb
     ·exact g1 b hb
    ·rcases List.mem_cons.1 hv with rfl | hv
     ·exact ⟨by rw [← c1.1,s2];exact hsz,c2⟩
     ·exact g3 v hv
    ·rcases List.mem_cons.1 hy with rfl | hy
     ·exact hsz
     ·exact g4 y hy
    ·exact absurd hf (by simp)
    ·cases i with
     | zero=>
      simp at hy hv;subst hy;subst hv
      exact s3 B' hB fun b hb=>hB2 b (List.mem_append_left _ hb)
     | succ i=>exact g6 B' hB (fun b hb=>hB2 b (List.mem_append_right _ hb)) i y v (by simpa using hy) (by simpa using hv)
  ·simp at h
theorem vP (ev:Operand→Value):∀ {i:Nat} {parts:List (Nat × Operand)},jW i parts=true→parts.map (fun x=>(x.1,ev x.2))=((parts.map fun x=>ev x.2).zipIdx i).map fun x=>(x.2,x.1)
 | i,[],_=>rfl
 | i,(j,x)::r,h=>by
  simp only [jW,Bool.and_eq_true,beq_iff_eq] at h
  obtain ⟨rfl,h⟩:=h
  simp [vP ev h]
theorem xp (hT:du P tab) (hs:Sim w B β rd) (ha:eb w B β tm a) {nid t n:Nat} {parts:Array (Nat × Operand)} {o:Oper} (ho:o.op=.buildSlice t n parts) {e:Eff} (h:bM tab rd nid tm o=some e) (hβ:β nid=none) (hr:rd nid=none) :
  Turn P w B β rd a o nid e:=by
 unfold bM at h
 rw [ho] at h
 simp only at h
 split at h
 ·rename_i el _ _ _ _ vs ht hvs
  have hk:=(hT t _ ht).kind
  simp only at hk
  split at h
  ·rename_i ti hti
   split at h
   ·rename_i hc
    simp only [Bool.and_eq_true,beq_iff_eq,decide_eq_true_eq] at hc
    obtain ⟨⟨⟨hin,hvn⟩,hbig⟩,hpos⟩:=hc
    split at h
    ·rename_i rows fz flat hset
     simp at h;subst h
     have hV:=Bx ha hvs
     obtain ⟨g1,g2,g3,g4,g5,g6⟩:=qj hs hset hV
     obtain ⟨B',st,hB'⟩:=lU fz hs g1
     have hg6:=g6 B' st.bsub hB'
     have hsz:=(hT el ti hti).size
     obtain ⟨z,hz,_,_,_⟩:=qg (hT el ti hti)
     have hlen:(parts.toList.map fun x=>a.eval x.2).length=n:=by rw [← hV.1,hvn]
     have hrn:rows.length=n:=by rw [g2,hlen]
     have Zf:=Go.Great.fill_whole hpos (parts.toList.map fun x=>a.eval x.2) ((Array.range (n*ti.size)).map (z.cells[·% z.cells.size]!)) (fun v hv=>by have:=(g3 v hv).1;simpa using this) (by rw [hlen];simp)
     have hparts:(parts.map fun x=>(x.1,a.eval x.2)).toList=((parts.toList.map fun x=>a.eval x.2).zipIdx 0).map fun x=>(x.2,x.1):=by
      rw [Array.toList_map];exact vP a.eval hin
     have hnid:¬ nid∈fz:=fun hm=>by obtain ⟨k,xs,fl,q,hq⟩:=g1 nid hm;rw [hr] at hq;simp at hq
     have hr':rdU rd (freezes rd fz) nid=none:=by rw [jX fz (k:=0) (xs:=[]) (fl:=true) hnid];exact hr
     have ann:=sR (fun v:Value=>v.cells.toList) ti.size (parts.toList.map fun x=>a.eval x.2) (fun v hv=>(g3 v hv).1)
     have st2:=Step.new (w:=w) (B:=B') (β:=β) st.sim hβ hr' ((parts.toList.map fun x=>a.eval x.2).flatMap fun v=>v.cells.toList).toArray el ti.size (.arr ti.size rows flat false) ⟨g5,g4,rfl,fun i x j p hx hj=>by
      have hi:i<rows.length:=by rcases Nat.lt_or_ge i rows.length with h' | h';exact h';simp [List.getElem?_eq_none h'] at hx
      have hi':i<(parts.toList.map fun x=>a.eval x.2).length:=by rw [← g2];exact hi
      have hj':j<ti.size:=by
       rw [← g4 x (List.mem_of_getElem? hx)]
       rcases Nat.lt_or_ge j x.length with h' | h';exact h';simp [List.getElem?_eq_none h'] at hj
      have adB:=hg6 i x _ hx (List.getElem?_eq_getElem hi')
      obtain ⟨v,q1,q2⟩:=adB.get hj
      refine ⟨v,?_,(g3 _ (List.getElem_mem hi')).2 v (List.mem_of_getElem? q1),q2⟩
      have hf:=flat_get (fun v:Value=>v.cells.toList) ti.size (parts.toList.map fun x=>a.eval x.2) i j _ (fun v hv=>(g3 v hv).1) (List.getElem?_eq_getElem hi') hj'
      rw [q1] at hf
      simpa using hf⟩ (by simp)
     refine ⟨_,.slice (some ⟨w.heap.size,0,none⟩) n n,_,B',_,?_,.inl rfl,by rw [js];exact st.trans st2,?_,fun b hb=>by simp [cz,hb]⟩
     ·have hn0:¬ (16777216<n*ti.size):=by omega
      have hbs:(Instr.buildSlice t n (parts.map fun x=>(x.1,a.eval x.2))).run P w=.ok (.slice (some ⟨w.heap.size,0,none⟩) n n) (w.alloc (.cells ((parts.toList.map fun x=>a.eval x.2).flatMap fun v=>v.cells.toList).toArray el)):=by
       unfold Instr.buildSlice
       simp only [Sem.run_bind,underlying,run_program,hk,Sem.run_pure,Result.andThen_ok,hsz w,gt_iff_lt,Nat.reducePow,hn0,↓reduceIte]
       by_cases h0:n*ti.size=0
       ·simp only [h0,↓reduceIte,Sem.run_pure,Result.andThen_ok]
        rw [hparts]
        have D5:=Zf
        rw [h0] at D5
        have e0:∀ f:Nat→Value,Array.map f (Array.range 0)=#[]:=fun f=>by simp
        rw [e0] at D5
        rw [Sem.run_bind,Sem.run_pure,Result.andThen_ok]
        simp only [e0,D5]
        simp [newRow]
       ·simp only [h0,↓reduceIte,Sem.run_pure,Result.andThen_ok,Sem.run_bind,hz]
        rw [hparts,Zf]
        simp [newRow]
      simp only [execOp,ho,Sem.run_bind]
      rw [hbs]
      rfl
     ·have:=V.own (w:=w.alloc (.cells ((parts.toList.map fun x=>a.eval x.2).flatMap fun v=>v.cells.toList).toArray el)) (B:=B') (β:=cz β nid ⟨w.heap.size,0,ti.size⟩) nid 0 n n ⟨w.heap.size,0,ti.size⟩ (by simp [cz]) (Nat.le_refl _) ⟨_,el,by unfold World.alloc;simp only [Array.getElem?_push,↓reduceIte];rfl,by simp [ann,hlen]⟩
      simpa using this
    ·simp at h
   ·simp at h
  ·simp at h
 ·simp at h
structure Flat (w:World) (B:Nat→Prop) (β:Map) (sz:Nat) (new:List (List PV)) (cells:List Value):Prop where
 len:cells.length=new.length*sz
 one:∀ v∈cells,v.oneCell'=true
 row:∀ x∈new,x.length=sz
 get:∀ (i:Nat) (x:List PV) (j:Nat) (p:PV),new[i]?=some x→x[j]?=some p→∃ v,cells[i*sz+j]?=some v∧V w B β p v
theorem Flat.keep {w':World} {B':Nat→Prop} {β':Map} {sz:Nat} {new:List (List PV)} {cells:List Value} (h:Flat w B β sz new cells) (hk:∀ p v,V w B β p v→V w' B' β' p v):Flat w' B' β' sz new cells:=
 ⟨h.len,h.one,h.row,fun i x j p h1 h2=>by obtain ⟨v,g1,g2⟩:=h.get i x j p h1 h2;exact ⟨v,g1,hk p v g2⟩⟩
theorem Flat.nil (sz:Nat):Flat w B β sz [] []:=⟨by simp,by simp,by simp,fun i x j p h=>by simp at h⟩
theorem nH {i j sz n:Nat} (hi:i<n) (hj:j<sz):i*sz+j<n*sz:=by
 have:=Nat.mul_le_mul_right sz (Nat.succ_le_of_lt hi)
 rw [Nat.succ_mul] at this;omega
theorem bZ {α:Type} {l:List α} {i:Nat} {x:α} (h:l[i]?=some x):i<l.length:=by
 rcases Nat.lt_or_ge i l.length with h' | h'
 ·exact h'
 ·simp [List.getElem?_eq_none h'] at h
theorem Flat.append {sz:Nat} {xs ys:List (List PV)} {cs ds:List Value} (h:Flat w B β sz xs cs) (k:Flat w B β sz ys ds):Flat w B β sz (xs ++ ys) (cs ++ ds) where
 len:=by simp [h.len,k.len,Nat.add_mul]
 one:=fun v hv=>by rcases List.mem_append.1 hv with h1 | h1;exact h.one v h1;exact k.one v h1
 row:=fun v hv=>by rcases List.mem_append.1 hv with h1 | h1;exact h.row v h1;exact k.row v h1
 get:=fun i x j p h1 h2=>by
  have hj:j<sz:=by
   have:x.length=sz:=by rcases List.mem_append.1 (List.mem_of_getElem? h1) with h3 | h3;exact h.row x h3;exact k.row x h3
   rw [← this];exact bZ h2
  by_cases hi:i<xs.length
  ·rw [List.getElem?_append_left hi] at h1
   obtain ⟨v,g1,g2⟩:=h.get i x j p h1 h2
   exact ⟨v,by rw [List.getElem?_append_left (by rw [h.len];exact nH hi hj)];exact g1,g2⟩
  ·rw [List.getElem?_append_right (by omega)] at h1
   obtain ⟨v,g1,g2⟩:=k.get _ x j p h1 h2
   refine ⟨v,?_,g2⟩
   have:i*sz+j=xs.length*sz+((i - xs.length)*sz+j):=by
    have:i*sz=xs.length*sz+(i - xs.length)*sz:=by rw [← Nat.add_mul];congr 1;omega
    omega
   rw [this,List.getElem?_append_right (by rw [h.len];omega),h.len]
   have e:xs.length*sz+((i - xs.length)*sz+j) - xs.length*sz=(i - xs.length)*sz+j:=by omega
   rw [e];exact g1
theorem src_ok (hs:Sim w B β rd) {sz:Nat} {x:PV} {u:Value} {new:List (List PV)} {nf:Bool} {foot:List Nat} (h:gS rd sz x=some (new,nf,foot)) (hu:V w B β x u) :
  ∃ (base:Option Addr) (cap:Nat) (cells:List Value),u=.slice base new.length cap∧(nf=true→dU new)∧Flat w B (fun _=>none) sz new cells∧
   (new=[]∨∃ b o,base=some ⟨b,o,none⟩∧∀ j v,cells[j]?=some v→w.cell? ⟨b,o+j,none⟩=some v)∧
   (∀ aa o,rd aa=some o→aa ∉ foot→(∀ k xs fl,o≠.arr k xs fl true)→∀ l b p,β aa=some l→base=some ⟨b,p,none⟩→new=[]∨b≠l.block):=by
 unfold gS at h
 split at h
 ·simp at h;obtain ⟨rfl,rfl,rfl⟩:=h
  cases hu
  exact ⟨none,0,[],rfl,fun _ x hx=>by simp at hx,.nil sz,.inl rfl,fun _ _ _ _ _ _ _ _ _ _=>.inl rfl⟩
 ·rename_i xs fl
  split at h <;> simp at h
  rename_i hall
  obtain ⟨rfl,rfl,rfl⟩:=h
  cases hu with
  | lQ fl b cap=>exact ⟨b,cap,[],rfl,fun _ x hx=>by simp at hx,.nil sz,.inl rfl,fun _ _ _ _ _ _ _ _ _ _=>.inl rfl⟩
  | lit xs fl b o k cap val hb hn hf hk hcell ho hv=>
   have Zg:∀ x∈xs,x.length=sz:=by simpa using hall
   rcases xs.eq_nil_or_concat with rfl | hne
   ·exact ⟨_,cap,[],rfl,hf,.nil sz,.inl rfl,fun _ _ _ _ _ _ _ _ _ _=>.inl rfl⟩
   ·have hne':xs≠[]:=by obtain ⟨a,b,rfl⟩:=hne;simp
    obtain ⟨x0,r0,hxs⟩:=List.exists_cons_of_ne_nil hne'
    have adJ:k=sz:=by rw [← hk x0 (by rw [hxs];simp),Zg x0 (by rw [hxs];simp)]
    subst adJ
    have B4:∀ q,q<xs.length*k→∃ v,w.cell? ⟨b,o+q,none⟩=some v∧v=val (q / k) (q % k)∧v.oneCell'=true:=fun q hq=>by
     have B3:0<k:=by rcases Nat.eq_zero_or_pos k with h0 | h0;rw [h0] at hq;simp at hq;exact h0
     have hqi:q / k<xs.length:=Nat.div_lt_of_lt_mul (by rw [Nat.mul_comm];exact hq)
     have hqj:q % k<k:=Nat.mod_lt _ B3
     have hx:=List.getElem?_eq_getElem hqi
     have hxl:=hk _ (List.getElem_mem hqi)
     have hj:=List.getElem?_eq_getElem (l:=xs[q / k]) (i:=q % k) (by rw [hxl];exact hqj)
     have h1:=hcell (q / k) _ (q % k) _ hx hj
     have e:o+q / k*k+q % k=o+q:=by have:=Nat.div_add_mod q k;rw [Nat.mul_comm] at this;omega
     rw [e] at h1
     exact ⟨_,h1,rfl,ho _ _ _ _ hx hj⟩
    refine ⟨some ⟨b,o,none⟩,cap,(List.range (xs.length*k)).map fun q=>val (q / k) (q % k),rfl,hf,⟨by simp,fun v hv=>?_,Zg,fun i x j p h1 h2=>?_⟩,.inr ⟨b,o,rfl,fun j v hj=>?_⟩,?_⟩
    ·simp only [List.mem_map,List.mem_range] at hv
     obtain ⟨q,hq,rfl⟩:=hv
     obtain ⟨v,_,rfl,h3⟩:=B4 q hq
     exact h3
    ·have hi:=bZ h1
     have hj:j<k:=by rw [← hk x (List.mem_of_getElem? h1)];exact bZ h2
     have hq:=nH hi hj
     refine ⟨val i j,?_,hv i x j p h1 h2⟩
     have B3:0<k:=by omega
     have e1:(i*k+j) / k=i:=by rw [Nat.add_comm,Nat.add_mul_div_right _ _ B3,Nat.div_eq_of_lt hj,Nat.zero_add]
     have e2:(i*k+j) % k=j:=by rw [Nat.add_comm,Nat.add_mul_mod_self_right,Nat.mod_eq_of_lt hj]
     simp [hq,e1,e2]
    ·have hq:j<xs.length*k:=by have:=bZ hj;simpa using this
     simp [hq] at hj;subst hj
     obtain ⟨v,h1,rfl,_⟩:=B4 j hq
     exact h1
    ·intro aa oo hr hnf hmu l b' p hl hb'
     simp at hb';obtain ⟨rfl,rfl⟩:=hb'
     exact .inr fun h=>hs.excl aa oo l hr hmu hl (h▸hb)
 ·rename_i aa k off len
  split at h
  ·rename_i k' xs flat z hb
   split at h <;> simp at h
   rename_i hc
   simp only [Bool.and_eq_true,beq_iff_eq,decide_eq_true_eq] at hc
   obtain ⟨⟨rfl,rfl⟩,hle⟩:=hc
   obtain ⟨rfl,rfl,rfl⟩:=h
   obtain ⟨h1,h2,h3⟩:=hs.arr aa k' xs flat z hb
   have hlen:((xs.drop off).take len).length=len:=by simp;omega
   cases hu with
   | kU aa k off b=>
    refine ⟨b,0,[],by simp,fun _ x hx=>by simp at hx,by simpa using Flat.nil (w:=w) (B:=B) (β:=fun _=>none) k',.inl (by simp),fun _ _ _ _ _ _ _ _ _ _=>.inl (by simp)⟩
   | own aa off len cap l hl hcap hroom=>
    rcases h3 with ⟨rfl,hn⟩ | ⟨m,c,e,g1,g2,g3,g4⟩
    ·rw [hl] at hn;simp at hn
    ·rw [hl] at g1;obtain rfl:=Option.some.inj g1
     have hget:∀ (i:Nat) (x:List PV),((xs.drop off).take len)[i]?=some x→xs[off+i]?=some x:=fun i x hx=>by
      rw [List.getElem?_take] at hx
      split at hx
      ·simpa using hx
      ·simp at hx
     have hmem:∀ x∈(xs.drop off).take len,x∈xs:=fun x hx=>List.mem_of_mem_drop (List.mem_of_mem_take hx)
     have hq:∀ q,q<len*l.k→∃ v,c[l.off+off*l.k+q]?=some v∧v.oneCell'=true:=fun q hq=>by
      have B3:0<l.k:=by rcases Nat.eq_zero_or_pos l.k with h0 | h0;rw [h0] at hq;simp at hq;exact h0
      have hqi:q / l.k<len:=Nat.div_lt_of_lt_mul (by rw [Nat.mul_comm];exact hq)
      have hqj:q % l.k<l.k:=Nat.mod_lt _ B3
      have hi':off+q / l.k<xs.length:=by omega
      have hx:=List.getElem?_eq_getElem hi'
      have hxl:(xs[off+q / l.k]).length=l.k:=h2 _ (List.getElem_mem hi')
      obtain ⟨v,r1,r2,_⟩:=g4 _ _ (q % l.k) _ hx (List.getElem?_eq_getElem (by rw [hxl];exact hqj))
      refine ⟨v,?_,r2⟩
      have e:l.off+(off+q / l.k)*l.k+q % l.k=l.off+off*l.k+q:=by
       have:=Nat.div_add_mod q l.k
       rw [Nat.mul_comm] at this
       rw [Nat.add_mul];omega
      rw [e] at r1;exact r1
     refine ⟨some ⟨l.block,l.off+off*l.k,none⟩,cap,(List.range (len*l.k)).map fun q=>(c[l.off+off*l.k+q]?).getD default,by rw [hlen],fun hf x hx=>h1 hf x (hmem x hx),
      ⟨by simp [hlen],fun v hv=>?_,fun x hx=>h2 x (hmem x hx),fun i x j p q1 q2=>?_⟩,.inr ⟨_,_,rfl,fun j v hj=>?_⟩,?_⟩
     ·simp only [List.mem_map,List.mem_range] at hv
      obtain ⟨q,hq',rfl⟩:=hv
      obtain ⟨v,r1,r2⟩:=hq q hq'
      simpa [r1] using r2
     ·have hi:=bZ q1
      rw [hlen] at hi
      have hj:j<l.k:=by rw [← h2 x (hmem x (List.mem_of_getElem? q1))];exact bZ q2
      have hqq:=nH hi hj
      obtain ⟨v,r1,r2,r3⟩:=g4 (off+i) x j p (hget i x q1) q2
      refine ⟨v,?_,r3⟩
      have e:l.off+(off+i)*l.k+j=l.off+off*l.k+(i*l.k+j):=by rw [Nat.add_mul];omega
      rw [e] at r1
      simp [hqq,r1]
     ·have hqq:j<len*l.k:=by have:=bZ hj;simpa using this
      simp [hqq] at hj;subst hj
      obtain ⟨v,r1,r2⟩:=hq j hqq
      simp [World.cell?,g3,r1]
     ·intro bb oo hr hnf hmu m b' p hm hb'
      simp at hb';obtain ⟨rfl,rfl⟩:=hb'
      simp at hnf
      exact .inr (hs.inj aa bb _ oo l m hb hr (Ne.symm hnf) hl hm)
  ·simp at h
 ·simp at h
theorem qO {sz n:Nat} {base:Option Addr} {cap:Nat} {cells:List Value} (hl:cells.length=n*sz) (h:n=0∨∃ b o,base=some ⟨b,o,none⟩∧∀ j v,cells[j]?=some v→w.cell? ⟨b,o+j,none⟩=some v) :
  (Builtin.firstCells sz n (.slice base n cap)).run P w=.ok cells.toArray w:=by
 rcases h with rfl | ⟨b,o,rfl,h⟩
 ·simp at hl;subst hl
  cases base with
  | none=>simp [Builtin.firstCells]
  | some a=>simp [Builtin.firstCells,loadCells,loadCellsFrom]
 ·exact run_firstCells_some (P:=P) w sz n _ n cap cells hl fun j v hj=>by rw [gR];exact h j v hj
theorem FU {t t' e e' ty:TypeId} {sz:Nat} (ht:P.underlying t=some (.slice e)) (ht':P.underlying t'=some (.slice e')) (hsz:∀ w,(sizeOf e).run P w=.ok sz w)
  {base xb:Option Addr} {sLen sCap n xc:Nat} {cells:List Value} (hx:(Builtin.firstCells sz n (.slice xb n xc)).run P w=.ok cells.toArray w) (hfit:sLen+n≤sCap) {w':World}
  (hst:match base with | none=>w'=w | some a=>(storeCells (a.add (sLen*sz)) cells 0).run P w=.ok () w') :
  (Builtin.append_ #[t,t'] ty #[.slice base sLen sCap,.slice xb n xc]).run P w=.ok (.slice base (sLen+n) sCap) w':=by
 cases base with
 | none=>
  subst hst
  simp [Builtin.append_,underlying,ht,ht',hsz,Builtin.lenOf,hfit,hx]
 | some a=>
  simp [Builtin.append_,underlying,ht,ht',hsz,Builtin.lenOf,hfit,hx,hst]
theorem Cy {t t' e e' ty:TypeId} {i:TypeInfo} {z:Value} (ht:P.underlying t=some (.slice e)) (ht':P.underlying t'=some (.slice e')) (hi:P.info? e=some i) (hz:i.zero=some z)
  {base xb:Option Addr} {sLen sCap n xc:Nat} {olds cells:List Value} (ho:∀ w1:World,w1.heap=w.heap→(Builtin.firstCells i.size sLen (.slice base sLen sCap)).run P w1=.ok olds.toArray w1)
  (hx:∀ w1:World,w1.heap=w.heap→(Builtin.firstCells i.size n (.slice xb n xc)).run P w1=.ok cells.toArray w1) (hg:sCap<sLen+n) (hb:(sLen+n)≤bound) (hby:i.bytes≤4096) :
  (Builtin.append_ #[t,t'] ty #[.slice base sLen sCap,.slice xb n xc]).run P w =
   .ok (.slice (some ⟨w.heap.size,0,none⟩) (sLen+n) (grownCap w (sLen+n) sCap e))
    (w.drew.alloc (.cells (olds.toArray ++ cells.toArray ++ Builtin.zeroCells z.cells (grownCap w (sLen+n) sCap e - (sLen+n))) e)):=by
 have hn:¬ (sLen+n≤sCap):=by omega
 have h63':¬ (9223372036854775807<((sLen:Int)+(n:Int))):=by unfold bound at hb;omega
 have hmul:(sLen+n)*i.bytes≤140737488355328:=by
  have:=Nat.mul_le_mul hb hby
  unfold bound at this
  omega
 have h48':¬ (281474976710656<Builtin.nextslicecap (sLen+n) sCap*i.bytes):=by have:=growslice_fits hg hmul;omega
 have ho':=ho w.drew rfl
 have hx':=hx w.drew rfl
 simp [Builtin.append_,underlying,ht,ht',sizeOf,typeInfo,zeroValue,hi,hz,Builtin.lenOf,hn,h63',h48',Question.forced,ho',hx',newRow,grownCap,Array.append_assoc,-List.append_toArray]
theorem grownCap_le (w:World) (need old:Nat) (e:TypeId):need≤grownCap w need old e:=by
 unfold grownCap
 simp [Question.cut]
theorem IY {sz:Nat} {new:List (List PV)} {cells:List Value} {nf:Bool} (hf:Flat w B (fun _=>none) sz new cells) (hp:nf=true→dU new) (blk:Nat) (rest:Array Value) :
  ObjOK w B β (.arr sz new nf false) ⟨blk,0,sz⟩ (cells.toArray ++ rest):=
 ⟨hp,hf.row,rfl,fun i x j p h1 h2=>by
  obtain ⟨v,g1,g2⟩:=hf.get i x j p h1 h2
  have hlt:=bZ g1
  refine ⟨v,?_,hf.one v (List.mem_of_getElem? g1),g2⟩
  simp only [Nat.zero_add]
  rw [Array.getElem?_append_left (by simpa using hlt)]
  simpa using g1⟩
theorem tB {xs ys:List (List PV)} (h:dU xs) (k:dU ys):dU (xs ++ ys):=fun x hx=>by
 rcases List.mem_append.1 hx with h1 | h1
 ·exact h x h1
 ·exact k x h1
theorem vV {z:Value} {olds cells:List Value} {n cap sz:Nat} (hl:olds.length+cells.length=n*sz) (hz:z.cells.size=sz) (hc:n≤cap) :
  0+(0+cap)*sz≤(olds.toArray ++ cells.toArray ++ Builtin.zeroCells z.cells (cap - n)).size:=by
 have:cap*sz=n*sz+(cap - n)*sz:=by rw [← Nat.add_mul];congr 1;omega
 simp [Builtin.zeroCells,hz]
 omega
theorem Lz (hT:du P tab) (hs:Sim w B β rd) {nid t t' e':Nat} {s x:PV} {u v:Value} {e:Eff} {ti':TI} (h:jS tab rd nid t s x=some e) (ht':tab t'=some ti') (hk':ti'.kind=.slice e')
  (hu:V w B β s u) (hv:V w B β x v) (hβ:β nid=none) (hr:rd nid=none) (ty:TypeId) :
  ∃ q w' B' β',(Builtin.append_ #[t,t'] ty #[u,v]).run P w=.ok q w'∧Step w B β rd w' B' β' (rdU rd e.upd)∧V w' B' β' e.val q∧(∀ b,b≠nid→β' b=β b):=by
 have hu':=(hT t' ti' ht').kind
 rw [hk'] at hu';simp only at hu'
 unfold jS at h
 split at h
 ·rename_i el _ _ _ _ ht
  have hk:=(hT t _ ht).kind
  simp only at hk
  split at h
  ·simp at h
  ·rename_i ti hti
   have hi:=hT el ti hti
   obtain ⟨info,z,i1,i2,i3,i4,i5,i6⟩:=hi.info
   split at h
   ·simp at h
   ·rename_i new nf foot hsrc
    obtain ⟨xb,xc,cells,rfl,hnf,fH,D3,hother⟩:=src_ok hs hsrc hv
    have hzs:z.cells.size=ti.size:=by
     have:=congrArg List.length i5
     simp at this;rw [this,i6]
    have hfx:∀ w1:World,w1.heap=w.heap→(Builtin.firstCells info.size new.length (.slice xb new.length xc)).run P w1=.ok cells.toArray w1:=fun w1 hw1=>by
     refine qO (by rw [i2];exact fH.len) ?_
     rcases D3 with rfl | ⟨b,o,hb,hc⟩
     ·exact .inl rfl
     ·exact .inr ⟨b,o,hb,fun j v hj=>by have:=hc j v hj;unfold World.cell? at this ⊢;rw [hw1];exact this⟩
    split at h
    ·rename_i hby
     split at h
     ·cases hu
      split at h
      ·simp at h;subst h
       refine ⟨.slice none 0 0,w,B,β,?_,Step.acw hs hβ hr ti.size nf,.kU _ _ _ _,fun _ _=>rfl⟩
       have:=FU (P:=P) (w:=w) (w':=w) (ty:=ty) (base:=none) (sLen:=0) (sCap:=0) hk hu' hi.size (xb:=xb) (n:=0) (xc:=xc) (cells:=cells) (by have:=hfx w rfl;rw [i2] at this;exact this) (by simp) rfl
       simpa using this
      ·rename_i y ys
       split at h <;> simp at h
       subst h
       rename_i hbd
       have hrun:=Cy (P:=P) (w:=w) (ty:=ty) (base:=none) (sLen:=0) (sCap:=0) (olds:=[]) hk hu' i1 i4 (fun w1 _=>by simp [Builtin.firstCells]) hfx (by simp) (by simpa using hbd) (by rw [i3];exact hby)
       have st1:=Step.draw hs (w.drawn+1)
       have st2:=Step.new (w:=w.drew) (a:=nid) st1.sim hβ hr ([].toArray ++ cells.toArray ++ Builtin.zeroCells z.cells (grownCap w (0+(y::ys).length) 0 el - (0+(y::ys).length))) el ti.size (.arr ti.size (y::ys) nf false)
        (by
         have:=IY (β:=β) (fH.keep (w':=w.drew) (B':=B) (β':=fun _=>none) fun p v hpv=>hpv.heap rfl) hnf w.drew.heap.size (Builtin.zeroCells z.cells (grownCap w (0+(y::ys).length) 0 el - (0+(y::ys).length)))
         rw [show ([].toArray:Array Value) ++ cells.toArray=cells.toArray from by simp]
         exact this) (by simp)
       refine ⟨_,_,B,cz β nid ⟨w.drew.heap.size,0,ti.size⟩,hrun,?_,?_,fun b hb=>by simp [cz,hb]⟩
       ·exact st1.trans st2
       ·have hcap:=grownCap_le w (0+(y::ys).length) 0 el
        have:=V.own (w:=w.drew.alloc (.cells ([].toArray ++ cells.toArray ++ Builtin.zeroCells z.cells (grownCap w (0+(y::ys).length) 0 el - (0+(y::ys).length))) el)) (B:=B) (β:=cz β nid ⟨w.drew.heap.size,0,ti.size⟩) nid 0 (0+(y::ys).length) (grownCap w (0+(y::ys).length) 0 el)
         ⟨w.heap.size,0,ti.size⟩ (by simp [cz]) hcap ⟨_,el,by unfold World.alloc World.drew;simp only [Array.getElem?_push,↓reduceIte];rfl,vV (by have:=fH.len;simpa using this) hzs hcap⟩
        simpa using this
     ·rename_i aa k off len
      split at h
      ·rename_i k' xs flat hb
       split at h <;> simp at h
       subst h
       rename_i hc
       simp only [Bool.and_eq_true,beq_iff_eq,decide_eq_true_eq,Bool.not_eq_true',Bool.eq_false_iff,ne_eq,gF] at hc
       obtain ⟨⟨⟨⟨hk1,hk2⟩,hle⟩,hbd⟩,hnfoot⟩:=hc
       subst hk2
       have ana:=(hs.arr aa k' xs flat false hb).2.1
       have hplain:=(hs.arr aa k' xs flat false hb).1
       have hmem:∀ x∈(xs.drop off).take len,x∈xs:=fun x hx=>List.mem_of_mem_drop (List.mem_of_mem_take hx)
       have vR:((xs.drop off).take len).length=len:=by simp;omega
       have anf:gS rd ti.size (.own aa k' off len)=some ((xs.drop off).take len,flat,[aa]):=by simp [gS,hb,hk1,hle]
       obtain ⟨sb,sc,olds,anb,hsf,DW,TU,_⟩:=src_ok hs anf hu
       rw [vR] at anb
       subst anb
       have adL:=DW.append fH
       have hp2:(flat&&nf)=true→dU ((xs.drop off).take len ++ new):=fun h=>by
        simp only [Bool.and_eq_true] at h
        exact tB (hsf h.1) (hnf h.2)
       by_cases hfit:len+new.length≤sc
       ·cases hu with
        | kU _ _ _ _=>
         have hn0:new=[]:=List.length_eq_zero_iff.1 (by omega)
         subst hn0
         have hc0:cells=[]:=List.length_eq_zero_iff.1 (by simpa using fH.len)
         subst hc0
         refine ⟨.slice sb 0 0,w,B,β,?_,?_,?_,fun _ _=>rfl⟩
         ·have:=FU (P:=P) (w:=w) (w':=w) (ty:=ty) (base:=sb) (sLen:=0) (sCap:=0) hk hu' hi.size (xb:=xb) (n:=0) (xc:=xc) (cells:=[]) (by have:=hfx w rfl;rw [i2] at this;exact this) (by simp) (by cases sb <;> simp [storeCells])
          simpa using this
         ·have st1:=Step.kill hs aa
          have:=st1.trans (Step.acw st1.sim hβ (by unfold cd;split;rfl;exact hr) k' (flat&&nf))
          simpa [rdU] using this
         ·simpa using V.kU nid k' 0 sb
        | own _ _ _ _ l hl hcap hroom=>
         obtain ⟨c,e,hc,hfl,hxk,hlk,harr⟩:=hs.obj hb hl
         obtain ⟨c2,e2,hc2,hsize⟩:=hroom
         rw [hc] at hc2;simp at hc2;obtain ⟨rfl,rfl⟩:=hc2
         have hcl:cells.length=new.length*l.k:=by rw [fH.len,← hk1,hlk]
         have hoff:l.off+off*l.k+len*l.k+cells.length≤c.size:=by
          rw [hcl]
          have h1:(off+(len+new.length))*l.k≤(off+sc)*l.k:=Nat.mul_le_mul_right _ (by omega)
          rw [Nat.add_mul,Nat.add_mul] at h1
          omega
         have hrun:=jo (P:=P) hc hoff fH.one
         refine ⟨.slice (some ⟨l.block,l.off+off*l.k,none⟩) (len+new.length) sc,w.setRow l.block (dh c (l.off+off*l.k+len*l.k) cells),B,cz β nid ⟨l.block,l.off+off*l.k,l.k⟩,?_,?_,?_,fun b hb=>by simp [cz,hb]⟩
         ·exact FU (P:=P) (w:=w) (ty:=ty) (base:=some ⟨l.block,l.off+off*l.k,none⟩) hk hu' hi.size (by have:=hfx w rfl;rw [i2] at this;exact this) hfit (by simp only [gR];rw [← hk1,← hlk];exact hrun)
         ·have:=Step.move hs hb (by simp) hl hβ hr hc (cV hoff) (gi hc) (.arr l.k ((xs.drop off).take len ++ new) (flat&&nf) false) ⟨l.block,l.off+off*l.k,l.k⟩ rfl (by simp) ⟨hp2,fun x hx=>?_,hlk,fun i x j p h1 h2=>?_⟩
          ·simpa [rdU] using this
          ·rcases List.mem_append.1 hx with h | h
           ·exact ana x (hmem x h)
           ·rw [fH.row x h,hk1]
          ·rw [gx hoff]
           by_cases hi:i<len
           ·rw [List.getElem?_append_left (by rw [vR];exact hi)] at h1
            have hxm:=ana x (hmem x (List.mem_of_getElem? h1))
            have hj:j<l.k:=by rw [hlk,← hxm];exact bZ h2
            rw [List.getElem?_take] at h1
            rw [if_pos hi,List.getElem?_drop] at h1
            obtain ⟨v,q1,q2,q3⟩:=harr (off+i) x j p h1 h2
            have hlt:=nH hi hj
            have e1:l.off+(off+i)*l.k+j=l.off+off*l.k+i*l.k+j:=by rw [Nat.add_mul];omega
            rw [e1] at q1
            rw [if_neg (by simp only;omega)]
            exact ⟨v,q1,q2,q3⟩
           ·rw [List.getElem?_append_right (by rw [vR];omega),vR] at h1
            obtain ⟨v,q1,q3⟩:=fH.get (i - len) x j p h1 h2
            have hj:j<l.k:=by rw [hlk,hk1,← fH.row x (List.mem_of_getElem? h1)];exact bZ h2
            have hlt:=nH (bZ h1) hj
            have e2:i*l.k=len*l.k+(i - len)*l.k:=by rw [← Nat.add_mul];congr 1;omega
            rw [if_pos (by simp only;omega)]
            refine ⟨v,?_,fH.one v (List.mem_of_getElem? q1),q3⟩
            rw [← q1]
            congr 1
            rw [← hk1,← hlk]
            simp only
            omega
         ·have:=V.own (w:=w.setRow l.block (dh c (l.off+off*l.k+len*l.k) cells)) (B:=B) (β:=cz β nid ⟨l.block,l.off+off*l.k,l.k⟩) nid 0 (len+new.length) sc ⟨l.block,l.off+off*l.k,l.k⟩ (by simp [cz]) hfit
           ⟨_,e,setRow_heap w l.block c _ e (0,0) hc,by rw [cV hoff];rw [Nat.add_mul] at hsize;simp;omega⟩
          simp only [Nat.zero_mul,Nat.add_zero] at this
          exact this
       ·have hfs:∀ w1:World,w1.heap=w.heap→(Builtin.firstCells info.size len (.slice sb len sc)).run P w1=.ok olds.toArray w1:=fun w1 hw1=>by
         refine qO (by rw [i2];have:=DW.len;rw [vR] at this;exact this) ?_
         rcases TU with h0 | ⟨b,o,hb,hc⟩
         ·left;rw [← vR,h0];rfl
         ·exact .inr ⟨b,o,hb,fun j v hj=>by have:=hc j v hj;unfold World.cell? at this ⊢;rw [hw1];exact this⟩
        have hrun:=Cy (P:=P) (w:=w) (ty:=ty) (base:=sb) (sLen:=len) (sCap:=sc) (olds:=olds) hk hu' i1 i4 hfs hfx (by omega) hbd (by rw [i3];exact hby)
        have st0:=Step.kill hs aa
        have st1:=Step.draw st0.sim (w.drawn+1)
        have hr':cd rd aa none nid=none:=by unfold cd;split;rfl;exact hr
        have st2:=Step.new (w:=w.drew) (a:=nid) st1.sim hβ hr' (olds.toArray ++ cells.toArray ++ Builtin.zeroCells z.cells (grownCap w (len+new.length) sc el - (len+new.length))) el ti.size (.arr ti.size ((xs.drop off).take len ++ new) (flat&&nf) false)
         (by
          have:=IY (β:=β) (adL.keep (w':=w.drew) (B':=B) (β':=fun _=>none) fun p v hpv=>hpv.heap (w':=w.drew) rfl) hp2 w.drew.heap.size (Builtin.zeroCells z.cells (grownCap w (len+new.length) sc el - (len+new.length)))
          rw [show (olds ++ cells).toArray=olds.toArray ++ cells.toArray from by simp] at this
          exact this) (by simp)
        refine ⟨_,_,B,cz β nid ⟨w.drew.heap.size,0,ti.size⟩,hrun,?_,?_,fun b hb=>by simp [cz,hb]⟩
        ·have:=(st0.trans st1).trans st2
         rw [hk1]
         simpa [rdU] using this
        ·have hcap:=grownCap_le w (len+new.length) sc el
         have hl1:=DW.len
         rw [vR] at hl1
         have:=V.own (w:=w.drew.alloc (.cells (olds.toArray ++ cells.toArray ++ Builtin.zeroCells z.cells (grownCap w (len+new.length) sc el - (len+new.length))) el)) (B:=B) (β:=cz β nid ⟨w.drew.heap.size,0,ti.size⟩) nid 0 (len+new.length) (grownCap w (len+new.length) sc el)
          ⟨w.heap.size,0,ti.size⟩ (by simp [cz]) hcap ⟨_,el,by unfold World.alloc World.drew;simp only [Array.getElem?_push,↓reduceIte];rfl,vV (by rw [hl1,fH.len,Nat.add_mul]) hzs hcap⟩
         rw [hk1]
         simpa using this
      ·simp at h
     ·simp at h
    ·simp at h
 ·simp at h
theorem Step.Dh (hs:Sim w B β rd) {aa k:Nat} {xs:List (List PV)} {fl fl':Bool} (ha:rd aa=some (.arr k xs fl false)) (hf:fl'=true→fl=true) :
  Step w B β rd w B β (cd rd aa (some (.arr k xs fl' false))):=by
 have hcase:∀ b p,cd rd aa (some (.arr k xs fl' false)) b=some p→(b=aa∧p=.arr k xs fl' false)∨(b≠aa∧rd b=some p):=fun b p h=>by
  unfold cd at h
  split at h
  ·rename_i hb;simp at h;exact .inl ⟨hb,h.symm⟩
  ·exact .inr ⟨‹_›,h⟩
 refine ⟨Sim.of ?_ ?_ ?_ hs.lt ?_,.refl _ _,fun _ h=>h,fun _ h=>.inl h,?_,?_,fun _ _ h=>h⟩
 ·intro b p hb
  rcases hcase b p hb with ⟨rfl,rfl⟩ | ⟨_,h⟩
  ·rcases hs.cases ha with ⟨l,h1,c,e,h2,h3⟩ | ⟨h1,k',fl0,fz,h2⟩
   ·exact .inl ⟨l,h1,c,e,h2,fun h=>h3.1 (hf h),h3.2⟩
   ·simp at h2;obtain ⟨rfl,rfl,rfl,rfl⟩:=h2
    exact .inr ⟨h1,_,_,_,rfl⟩
  ·exact hs.cases h
 ·intro b p l hb hp hl
  rcases hcase b p hb with ⟨rfl,rfl⟩ | ⟨_,h⟩
  ·exact hs.excl b _ l ha (by simp) hl
  ·exact hs.excl b p l h hp hl
 ·intro b d p q l m hb hd hne hl hm
  have h1:∃ p',rd b=some p':=by rcases hcase b p hb with ⟨rfl,_⟩ | ⟨_,h⟩;exact ⟨_,ha⟩;exact ⟨_,h⟩
  have h2:∃ p',rd d=some p':=by rcases hcase d q hd with ⟨rfl,_⟩ | ⟨_,h⟩;exact ⟨_,ha⟩;exact ⟨_,h⟩
  obtain ⟨p',h1⟩:=h1
  obtain ⟨q',h2⟩:=h2
  exact hs.inj b d p' q' l m h1 h2 hne hl hm
 ·intro b k' xs' fl0 l hb hl
  rcases hcase b _ hb with ⟨rfl,h⟩ | ⟨_,h⟩
  ·simp at h
  ·exact hs.frz b k' xs' fl0 l h hl
 ·rintro b ⟨d,p,l,h1,h2,h3,rfl⟩
  rcases hcase d p h1 with ⟨rfl,rfl⟩ | ⟨_,h⟩
  ·exact .inl ⟨d,_,l,ha,by simp,h3,rfl⟩
  ·exact .inl ⟨d,p,l,h,h2,h3,rfl⟩
 ·rintro b ⟨d,p,l,h1,h3,rfl⟩
  rcases hcase d p h1 with ⟨rfl,rfl⟩ | ⟨_,h⟩
  ·exact .inl ⟨d,_,l,ha,h3,rfl⟩
  ·exact .inl ⟨d,p,l,h,h3,rfl⟩
theorem Step.over (hs:Sim w B β rd) {aa k off:Nat} {xs ys:List (List PV)} {cells:List Value} {fl nf:Bool} (ha:rd aa=some (.arr k xs fl false)) {l:Loc} (hl:β aa=some l) {c:Array Value} {e:Nat} (hc:w.heap[l.block]?=some (.cells c e (0,0)))
  (hy:Flat w B (fun _=>none) k ys cells) (hp:nf=true→dU ys) (hle:off+ys.length≤xs.length) (hfit:l.off+off*l.k+cells.length≤c.size) :
  Step w B β rd (w.setRow l.block (dh c (l.off+off*l.k) cells)) B β (cd rd aa (some (.arr k (xs.take off ++ ys ++ xs.drop (off+ys.length)) (fl&&nf) false))):=by
 obtain ⟨c',e',hc',hfl,hxk,hlk,harr⟩:=hs.obj ha hl
 rw [hc] at hc';simp at hc';obtain ⟨rfl,rfl⟩:=hc'
 have hto:(xs.take off).length=off:=by simp;omega
 refine Step.write hs ha (by simp) hl hc (cV hfit) (gi hc) _ (by simp) ⟨fun h=>?_,fun x hx=>?_,hlk,fun i x j p h1 h2=>?_⟩
 ·simp only [Bool.and_eq_true] at h
  intro x hx
  simp only [List.mem_append] at hx
  rcases hx with (hx | hx) | hx
  ·exact hfl h.1 x (List.mem_of_mem_take hx)
  ·exact hp h.2 x hx
  ·exact hfl h.1 x (List.mem_of_mem_drop hx)
 ·simp only [List.mem_append] at hx
  rcases hx with (hx | hx) | hx
  ·exact hxk x (List.mem_of_mem_take hx)
  ·exact hy.row x hx
  ·exact hxk x (List.mem_of_mem_drop hx)
 ·rw [gx hfit]
  have hcl:cells.length=ys.length*l.k:=by rw [hy.len,hlk]
  by_cases hi:off≤i∧i<off+ys.length
  ·have h3:ys[i - off]?=some x:=by
    rw [List.append_assoc,List.getElem?_append_right (by rw [hto];omega),hto,List.getElem?_append_left (by omega)] at h1
    exact h1
   obtain ⟨v,q1,q2⟩:=hy.get (i - off) x j p h3 h2
   have hj:j<l.k:=by rw [hlk,← hy.row x (List.mem_of_getElem? h3)];exact bZ h2
   have hlt:=nH (bZ h3) hj
   have e2:i*l.k=off*l.k+(i - off)*l.k:=by rw [← Nat.add_mul];congr 1;omega
   rw [if_pos (by omega)]
   refine ⟨v,?_,hy.one v (List.mem_of_getElem? q1),q2⟩
   rw [← q1,← hlk]
   congr 1
   omega
  ·have h3:xs[i]?=some x:=by
    by_cases hlo:i<off
    ·rw [List.append_assoc,List.getElem?_append_left (by rw [hto];exact hlo),List.getElem?_take,if_pos hlo] at h1
     exact h1
    ·rw [List.getElem?_append_right (by simp [hto];omega),List.getElem?_drop] at h1
     rw [← h1]
     congr 1
     simp [hto];omega
   obtain ⟨v,q1,q2⟩:=harr i x j p h3 h2
   have hj:j<l.k:=by rw [hlk,← hxk x (List.mem_of_getElem? h3)];exact bZ h2
   refine ⟨v,?_,q2⟩
   rw [if_neg ?_]
   ·exact q1
   ·by_cases hlo:i<off
    ·have:=Nat.mul_le_mul_right l.k (Nat.succ_le_of_lt hlo)
     rw [Nat.succ_mul] at this
     omega
    ·have h4:off+ys.length≤i:=by omega
     have:=Nat.mul_le_mul_right l.k h4
     rw [Nat.add_mul] at this
     omega
theorem Flat.take {sz:Nat} {new:List (List PV)} {cells:List Value} (h:Flat w B β sz new cells) (n:Nat):Flat w B β sz (new.take n) (cells.take (n*sz)) where
 len:=by
  rw [List.length_take,List.length_take,h.len]
  rcases Nat.le_total n new.length with h1 | h1
  ·rw [Nat.min_eq_left h1,Nat.min_eq_left (Nat.mul_le_mul_right sz h1)]
  ·rw [Nat.min_eq_right h1,Nat.min_eq_right (Nat.mul_le_mul_right sz h1)]
 one:=fun v hv=>h.one v (List.mem_of_mem_take hv)
 row:=fun x hx=>h.row x (List.mem_of_mem_take hx)
 get:=fun i x j p h1 h2=>by
  rw [List.getElem?_take] at h1
  split at h1
  ·rename_i hi
   obtain ⟨v,g1,g2⟩:=h.get i x j p h1 h2
   have hj:j<sz:=by rw [← h.row x (List.mem_of_getElem? h1)];exact bZ h2
   exact ⟨v,by rw [List.getElem?_take,if_pos (nH hi hj)];exact g1,g2⟩
  ·simp at h1
theorem Bv {aa k off len cap:Nat} {l:Loc} {c:Array Value} {e:Nat} (hc:w.heap[l.block]?=some (.cells c e (0,0))) (hr:Room w l.block (l.off+(off+cap)*l.k)) (hcap:len≤cap):l.off+off*l.k+len*l.k≤c.size:=by
 obtain ⟨c2,e2,hc2,hsize⟩:=hr
 rw [hc] at hc2;simp at hc2;obtain ⟨rfl,rfl⟩:=hc2
 have:=Nat.mul_le_mul_right l.k (show off+len≤off+cap by omega)
 rw [Nat.add_mul] at this
 omega
theorem Vi (hT:du P tab) (hs:Sim w B β rd) {t t':Nat} {d x:PV} {u v:Value} {e:Eff} (h:si tab rd t d x=some e) (hu:V w B β d u) (hv:V w B β x v) (ty:TypeId) :
  ∃ q w' B',(Builtin.copy_ #[t,t'] ty #[u,v]).run P w=.ok q w'∧Step w B β rd w' B' β (rdU rd e.upd)∧V w' B' β e.val q:=by
 unfold si at h
 split at h
 ·rename_i el _ _ _ _ ht
  have hk:=(hT t _ ht).kind
  simp only at hk
  split at h
  ·simp at h
  ·rename_i ti hti
   have hi:=hT el ti hti
   split at h
   ·simp at h
   ·rename_i new nf foot hsrc
    obtain ⟨xb,xc,cells,rfl,hnf,fH,D3,hother⟩:=src_ok hs hsrc hv
    split at h
    ·simp [ok] at h;subst h
     cases hu
     refine ⟨.int .i64 0,w,B,?_,.refl hs,.int ..⟩
     have hf:=qO (P:=P) (w:=w) (sz:=ti.size) (n:=0) (base:=xb) (cap:=xc) (cells:=[]) (by simp) (.inl rfl)
     have hm:new.length.min 0=0:=by simp
     cases xb with
     | none=>simp [Builtin.copy_,underlying,hk,Builtin.lenOf,hi.size,Builtin.firstCells,goInt]
     | some a=>simp [Builtin.copy_,underlying,hk,Builtin.lenOf,hi.size,Builtin.firstCells,loadCells,loadCellsFrom,goInt]
    ·rename_i aa k off len
     split at h
     ·rename_i k' xs flat hb
      split at h <;> simp at h
      subst h
      rename_i hc
      simp only [Bool.and_eq_true,beq_iff_eq,decide_eq_true_eq] at hc
      obtain ⟨⟨hk1,hk2⟩,hle⟩:=hc
      subst hk2
      have hmin:new.length.min len=(new.take len).length:=by simp [Nat.min_comm]
      have hft:=fH.take len
      have hff:(Builtin.firstCells ti.size (new.take len).length (.slice xb new.length xc)).run P w=.ok (cells.take (len*ti.size)).toArray w:=by
       have:(Builtin.firstCells ti.size (new.take len).length (.slice xb (new.take len).length xc)).run P w=.ok (cells.take (len*ti.size)).toArray w:=by
        refine qO hft.len ?_
        rcases D3 with rfl | ⟨b,o,hb',hc'⟩
        ·exact .inl (by simp)
        ·refine .inr ⟨b,o,hb',fun j v hj=>hc' j v ?_⟩
         rw [List.getElem?_take] at hj
         split at hj
         ·exact hj
         ·simp at hj
       cases xb <;> simpa [Builtin.firstCells] using this
      have hntl:(new.take len).length≤len:=by simp;omega
      cases hu with
      | kU _ _ _ b=>
       have anm:new.take 0=[]:=by simp
       refine ⟨.int .i64 0,w,B,?_,?_,by simpa using V.int .i64 0⟩
       ·have hf0:(cells.take (0*ti.size)).toArray=#[]:=by simp
        rw [hf0] at hff
        simp only [anm,List.length_nil] at hff
        cases b <;> simp [Builtin.copy_,underlying,hk,Builtin.lenOf,hi.size,hff,goInt,storeCells]
       ·have:=Step.Dh hs hb (fl':=flat&&nf) (by simp;intro h _;exact h)
        simpa [rdU] using this
      | own _ _ _ cap l hl hcap hroom=>
       obtain ⟨c,e',hc,hfl,hxk,hlk,harr⟩:=hs.obj hb hl
       have hrm:=Bv (aa:=aa) (k:=l.k) (len:=len) hc hroom hcap
       have hlen2:(cells.take (len*ti.size)).length≤len*l.k:=by rw [hk1];simp;omega
       have hfit:l.off+off*l.k+(cells.take (len*ti.size)).length≤c.size:=by omega
       have hrun:=jo (P:=P) hc hfit hft.one
       refine ⟨.int .i64 (new.take len).length,w.setRow l.block (dh c (l.off+off*l.k) (cells.take (len*ti.size))),B,?_,?_,by rw [List.length_take];exact .int ..⟩
       ·simp only [Builtin.copy_]
        simp [underlying,hk,Builtin.lenOf,hi.size]
        rw [hmin,hff]
        simp [hrun,goInt]
       ·have:=Step.over hs hb hl hc (by rw [hk1];exact hft) (nf:=nf) (fun h x hx=>hnf h x (List.mem_of_mem_take hx)) (by omega) hfit
        simpa [rdU] using this
     ·simp at h
    ·simp at h
 ·simp at h
theorem qh {z:Value} {zs:List PV} {sz:Nat} (h:∀ w B β,Vs w B β zs z.cells.toList) (h1:∀ v∈z.cells.toList,v.oneCell'=true) (hz:z.cells.size=sz) (n:Nat) (f:Nat→Value) (hf:∀ q,q<n*sz→f q=z.cells[q % z.cells.size]!) :
  Flat w B β sz (List.replicate n zs) ((List.range (n*sz)).map f):=by
 have hl:zs.length=sz:=by rw [(h w B β).1];simpa using hz
 have hget:∀ q,q<n*sz→∃ v,f q=v∧z.cells.toList[q % sz]?=some v:=fun q hq=>by
  have hpos:0<sz:=by rcases Nat.eq_zero_or_pos sz with h0 | h0;rw [h0] at hq;simp at hq;exact h0
  have hlt:q % sz<z.cells.size:=by rw [hz];exact Nat.mod_lt _ hpos
  refine ⟨_,rfl,?_⟩
  rw [hf q hq,hz]
  simp [hlt]
 refine ⟨by simp,fun v hv=>?_,fun x hx=>by rw [List.eq_of_mem_replicate hx];exact hl,fun i x j p h2 h3=>?_⟩
 ·simp only [List.mem_map,List.mem_range] at hv
  obtain ⟨q,hq,rfl⟩:=hv
  obtain ⟨v,rfl,hv⟩:=hget q hq
  exact h1 _ (List.mem_of_getElem? hv)
 ·have hi:=bZ h2
  simp at hi
  have hx:=List.eq_of_mem_replicate (List.mem_of_getElem? h2)
  subst hx
  have hj:j<sz:=by rw [← hl];exact bZ h3
  have hq:=nH hi hj
  obtain ⟨v,q1,q2⟩:=hget _ hq
  have e:(i*sz+j) % sz=j:=by rw [Nat.add_comm,Nat.add_mul_mod_self_right,Nat.mod_eq_of_lt hj]
  rw [e] at q2
  exact ⟨v,by simp [hq,q1],(h w B β).2 j p v h3 q2⟩
theorem wR {zs:List PV} {n:Nat} (h:cJ zs=true):dU (List.replicate n zs):=fun x hx=>by
 rw [List.eq_of_mem_replicate hx]
 exact mQ.1 h
theorem QM (hT:du P tab) (hs:Sim w B β rd) {t:Nat} {ts:List Nat} {d:PV} {u:Value} {e:Eff} (h:mM tab rd t d=some e) (hu:V w B β d u) (ty:TypeId) :
  ∃ q w' B',(Builtin.clear_ (t::ts).toArray ty #[u]).run P w=.ok q w'∧Step w B β rd w' B' β (rdU rd e.upd)∧V w' B' β e.val q:=by
 unfold mM at h
 split at h
 ·rename_i el _ _ _ _ ht
  have hk:=(hT t _ ht).kind
  simp only at hk
  split at h
  ·rename_i ti hti
   have hi:=hT el ti hti
   obtain ⟨z,hz,hzv,hzo,hzs⟩:=qg hi
   split at h
   ·simp [ok] at h;subst h
    cases hu
    exact ⟨Go.undef,w,B,by simp [Builtin.clear_,underlying,hk,Go.undef],.refl hs,.void⟩
   ·rename_i aa k off len
    split at h
    ·rename_i k' xs flat hb
     split at h <;> simp at h
     subst h
     rename_i hc
     simp only [Bool.and_eq_true,beq_iff_eq,decide_eq_true_eq] at hc
     obtain ⟨⟨hk1,hk2⟩,hle⟩:=hc
     subst hk2
     cases hu with
     | kU _ _ _ b=>
      refine ⟨Go.undef,w,B,?_,?_,.void⟩
      ·cases b <;> simp [Builtin.clear_,underlying,hk,Go.undef]
      ·have:=Step.Dh hs hb (fl':=flat&&cJ ti.zero) (by simp;intro h _;exact h)
       simpa [rdU] using this
     | own _ _ _ cap l hl hcap hroom=>
      obtain ⟨c,e',hc,hfl,hxk,hlk,harr⟩:=hs.obj hb hl
      have hrm:=Bv (aa:=aa) (k:=l.k) (len:=len) hc hroom hcap
      have fH:=qh (w:=w) (B:=B) (β:=fun _=>none) hzv hzo hzs len (fun i=>z.cells[i % z.cells.size]!) (fun q _=>rfl)
      have hcl:((List.range (len*ti.size)).map fun i=>z.cells[i % z.cells.size]!).length=len*l.k:=by rw [hk1];simp
      have hfit:l.off+off*l.k+((List.range (len*ti.size)).map fun i=>z.cells[i % z.cells.size]!).length≤c.size:=by rw [hcl];exact hrm
      have hrun:=jo (P:=P) hc hfit fH.one
      rcases Nat.eq_zero_or_pos len with rfl | hpos
      ·refine ⟨Go.undef,w,B,by simp [Builtin.clear_,underlying,hk,Go.undef],?_,.void⟩
       have:=Step.Dh hs hb (fl':=flat&&cJ ti.zero) (by simp;intro h _;exact h)
       simpa [rdU] using this
      ·obtain ⟨m,rfl⟩:∃ m,len=m+1:=⟨len - 1,by omega⟩
       refine ⟨Go.undef,w.setRow l.block (dh c (l.off+off*l.k) ((List.range ((m+1)*ti.size)).map fun i=>z.cells[i % z.cells.size]!)),B,?_,?_,.void⟩
       ·have hzc:(Builtin.zeroCells z.cells (m+1)).toList=(List.range ((m+1)*ti.size)).map fun i=>z.cells[i % z.cells.size]!:=by
         simp [Builtin.zeroCells,hzs]
        simp only [Builtin.clear_]
        simp [underlying,hk,hz,hzc,hrun,Go.undef]
       ·have:=Step.over hs hb hl hc (by rw [hk1];exact fH) (nf:=cJ ti.zero) wR (by simpa using hle) hfit
        simpa [rdU] using this
    ·simp at h
   ·simp at h
  ·simp at h
 ·simp at h
theorem wrap_small {n:Int} (h : -9223372036854775808≤n) (h':n<9223372036854775808):IntKind.i64.wrap n=n:=
 Go.IntWalk.i64_in n ⟨h,by omega⟩
theorem za (hT:du P tab) (hs:Sim w B β rd) {nid t el:Nat} {ti ti':TI} (ht:tab t=some ti') (hk':ti'.kind=.slice el) (hti:tab el=some ti) {l c:Int} (hc:0≤l∧l≤c∧c≤bound∧ti.bytes≤4096) (hβ:β nid=none) (hr:rd nid=none) :
  ∃ q w' β',(Instr.makeSlice t (.int .i64 l) (.int .i64 c)).run P w=.ok q w'∧Step w B β rd w' B β' (rdU rd [(nid,some (.arr ti.size (oz ti l.toNat) false false))])∧V w' B β' (.own nid ti.size 0 l.toNat) q∧(∀ b,b≠nid→β' b=β b):=by
 have hk:=(hT t ti' ht).kind
 rw [hk'] at hk
 simp only at hk
 have hi:=hT el ti hti
 obtain ⟨info,z0,i1,i2,i3,i4,i5,i6⟩:=hi.info
 obtain ⟨z,hz,hzv,hzo,hzs⟩:=qg hi
 obtain ⟨h1,h2,h3,h4⟩:=hc
 unfold bound at h3
 have hwl:IntKind.i64.wrap l=l:=wrap_small (by omega) (by omega)
 have hwc:IntKind.i64.wrap c=c:=wrap_small (by omega) (by omega)
 have hb:(info.bytes:Int)*c≤281474976710656:=by
  have h5:info.bytes*c.toNat≤4096*1073741824:=Nat.mul_le_mul (by rw [i3];exact h4) (by omega)
  have h6:(info.bytes:Int)*c=((info.bytes*c.toNat:Nat):Int):=by rw [Int.natCast_mul,Int.toNat_of_nonneg (by omega)]
  rw [h6];omega
 have hlc:l.toNat≤c.toNat:=by omega
 refine ⟨.slice (some ⟨w.heap.size,0,none⟩) l.toNat c.toNat,w.alloc (.cells ((Array.range (c.toNat*ti.size)).map (z.cells[·% z.cells.size]!)) el),cz β nid ⟨w.heap.size,0,ti.size⟩,?_,?_,?_,fun b hb=>by simp [cz,hb]⟩
 ·unfold Instr.makeSlice
  have hti':∀ w,(typeInfo el).run P w=.ok info w:=fun w=>by simp [typeInfo,i1]
  simp only [Sem.run_bind,underlying,run_program,hk,Sem.run_pure,Result.andThen_ok,asInt,asIntOf,hti',hwl,hwc]
  have hcond:(decide (c<0)||decide ((info.bytes:Int)*c>2 ^ 48)||decide (l<0)||decide (l>c))=false:=by
   simp;omega
  rw [hcond]
  simp only [Bool.false_eq_true,↓reduceIte,Sem.run_bind,run_askRoom,Result.andThen_ok,hi.size w,Sem.run_pure]
  by_cases h0:c.toNat*ti.size=0
  ·simp only [h0,↓reduceIte,Sem.run_bind,Sem.run_pure,Result.andThen_ok]
   have e0:∀ f:Nat→Value,Array.map f (Array.range 0)=#[]:=fun f=>by simp
   simp [newRow,h0,e0]
  ·simp only [h0,↓reduceIte,Sem.run_bind,hz,Sem.run_pure,Result.andThen_ok]
   simp [newRow]
 ·have fH:=qh (w:=w) (B:=B) (β:=fun _=>none) hzv hzo hzs l.toNat (fun i=>z.cells[i % z.cells.size]!) (fun q _=>rfl)
  have:=Step.new hs hβ hr ((Array.range (c.toNat*ti.size)).map (z.cells[·% z.cells.size]!)) el ti.size (.arr ti.size (oz ti l.toNat) false false)
   ⟨(fun h=>by simp at h),fH.row,rfl,fun i x j p q1 q2=>by
    obtain ⟨v,g1,g2⟩:=fH.get i x j p q1 q2
    have hq:=bZ g1
    simp at hq
    have hq2:i*ti.size+j<c.toNat*ti.size:=Nat.lt_of_lt_of_le hq (Nat.mul_le_mul_right _ hlc)
    simp [hq] at g1
    refine ⟨v,by simp [hq2,g1],fH.one v (by subst g1;simp;exact ⟨_,hq,rfl⟩),g2⟩⟩ (by simp)
  simpa [rdU] using this
 ·have:=V.own (w:=w.alloc (.cells ((Array.range (c.toNat*ti.size)).map (z.cells[·% z.cells.size]!)) el)) (B:=B) (β:=cz β nid ⟨w.heap.size,0,ti.size⟩) nid 0 l.toNat c.toNat ⟨w.heap.size,0,ti.size⟩ (by simp [cz]) hlc
   ⟨_,el,by unfold World.alloc;simp only [Array.getElem?_push,↓reduceIte];rfl,by simp⟩
  simpa using this
end
end Go.Pm
end
section
set_option linter.unusedVariables false
set_option linter.unusedSimpArgs false
namespace Go.Pm
open Go
section
variable {P:Program} {w:World} {B:Nat→Prop} {β:Map} {rd:Rd} {tm:List PV} {a:Act} {tab:Nat→Option TI}
theorem xQ:∀ (fs:List Field),(∀ f∈fs,(P.info? f.type).isSome=true)→
  ∃ places:List (Nat × Nat),fs.mapM (fun f=>(P.info? f.type).map fun i=>(f.offset,i.size))=some places∧
   ∀ (i:Nat) (f:Field) (info:TypeInfo),fs[i]?=some f→P.info? f.type=some info→places[i]?=some (f.offset,info.size)
 | [],_=>⟨[],rfl,fun i f info h=>by simp at h⟩
 | f::fs,h=>by
  obtain ⟨places,h1,h2⟩:=xQ fs fun g hg=>h g (List.mem_cons_of_mem _ hg)
  obtain ⟨i,hi⟩:=Option.isSome_iff_exists.1 (h f List.mem_cons_self)
  refine ⟨(f.offset,i.size)::places,by simp [List.mapM_cons,hi,h1],fun j g info hj hg=>?_⟩
  cases j with
  | zero=>simp at hj;subst hj;rw [hi] at hg;simp at hg;subst hg;rfl
  | succ j=>simp at hj ⊢;exact h2 j g info hj hg
theorem D6 (c:Array Value) (off:Nat) (v:Array Value) (h:off+v.size≤c.size):v.zipIdx.foldl (fun cs (x:Value × Nat)=>cs.setIfInBounds (off+x.2) x.1) c=dh c off v.toList:=by
 have e1:v.zipIdx.foldl (fun cs (x:Value × Nat)=>cs.setIfInBounds (off+x.2) x.1) c=(v.toList.zipIdx 0).foldl (fun cs (x:Value × Nat)=>cs.setIfInBounds (off+x.2) x.1) c:=by
  rw [← Array.foldl_toList];simp
 rw [e1]
 obtain ⟨g1,g2⟩:=Go.Great.foldl_set off v.toList 0 c
 apply Array.ext_getElem?
 intro k
 rw [g2 k,gx (by simpa using h)]
 simp only [Nat.add_zero,Array.length_toList]
 by_cases hk:off≤k∧k<off+v.size
 ·rw [if_pos ⟨hk.1,hk.2,by omega⟩,if_pos hk]
 ·rw [if_neg (fun q=>hk ⟨q.1,q.2.1⟩),if_neg hk]
theorem qP (hT:du P tab) (ha:eb w B β tm a) {place:Nat→Option (Nat × Nat)} {fs:List (Nat × Nat)}
  (hp:∀ i off ft ti,fs[i]?=some (off,ft)→tab ft=some ti→place i=some (off,ti.size)) :
  ∀ (parts:List (Nat × Operand)) {ps:List (Nat × PV)} {cells r:List PV} {c:Array Value},kV tm parts=some ps→fillParts tab fs cells ps=some r→
   Vs w B β cells c.toList→(∀ v∈c.toList,v.oneCell'=true)→
   ∃ c',Instr.fill place c (parts.map fun x=>(x.1,a.eval x.2))=some c'∧Vs w B β r c'.toList∧(∀ v∈c'.toList,v.oneCell'=true)
 | [],ps,cells,r,c,h1,h2,h3,h4=>by
  simp [kV] at h1;subst h1
  simp [fillParts] at h2;subst h2
  exact ⟨c,rfl,h3,h4⟩
 | (i,x)::parts,ps,cells,r,c,h1,h2,h3,h4=>by
  simp only [kV] at h1
  split at h1
  ·rename_i v vs hv hvs
   simp at h1;subst h1
   simp only [fillParts] at h2
   split at h2
   ·rename_i off ft hf
    split at h2
    ·rename_i ti cs hti hcs
     split at h2
     ·rename_i hc
      simp only [Bool.and_eq_true,beq_iff_eq,decide_eq_true_eq] at hc
      obtain ⟨q1,q2⟩:=mN (ck ha hv) hcs
      have hsz:(a.eval x).cells.size=ti.size:=by rw [← hc.1,q1.1];simp
      have hcl:cells.length=c.size:=by rw [h3.1];simp
      have hle:off+(a.eval x).cells.size≤c.size:=by rw [hsz,← hcl,← hc.1];exact hc.2
      obtain ⟨c',g1,g2,g3⟩:=qP hT ha hp parts (c:=dh c off (a.eval x).cells.toList) hvs h2 (h3.splice q1 hc.2) (fun v hv=>(BC hv).elim (h4 v) (q2 v))
      refine ⟨c',?_,g2,g3⟩
      rw [← g1]
      simp only [List.map_cons]
      conv=>lhs;unfold Instr.fill
      simp only [hp i off ft ti hf hti]
      rw [if_neg (by simp;omega)]
      rw [← D6 c off _ hle]
     ·simp at h2
    ·simp at h2
   ·simp at h2
  ·simp at h1
theorem QT (hT:du P tab) (ha:eb w B β tm a) {nid t:Nat} {parts:Array (Nat × Operand)} {o:Oper} (ho:o.op=.build t parts) {e:Eff} (h:bM tab rd nid tm o=some e) :
  Quiet P w B β a o e:=by
 have fin:∀ (fs:List (Nat × Nat)) (ti:TI) (ps:List (Nat × PV)) (place:Nat→Option (Nat × Nat)),tab t=some ti→kV tm parts.toList=some ps→
   (fillParts tab fs ti.zero ps).map (fun cs=>(⟨.agg cs,[],[]⟩:Eff))=some e→
   (∀ i off ft ti,fs[i]?=some (off,ft)→tab ft=some ti→place i=some (off,ti.size))→
   (∀ info z,P.info? t=some info→info.zero=some z→∀ l,P.built t l=Instr.fill place z.cells l)→Quiet P w B β a o e:=by
  intro fs ti ps place ht hps hf hp hb
  simp only [Option.map_eq_some_iff] at hf
  obtain ⟨cs,hcs,rfl⟩:=hf
  obtain ⟨z,hz,z1,z2,z3⟩:=qg (hT t ti ht)
  obtain ⟨info,z',i1,i2,i3,i4,i5,i6⟩:=(hT t ti ht).info
  have hzz:z'=z:=by have:=hz w;simpa [zeroValue,typeInfo,i1,i4] using this
  subst hzz
  obtain ⟨c',g1,g2,g3⟩:=qP hT ha hp parts.toList hps hcs (z1 w B β) z2
  refine quiet_of (s:=Instr.build t (parts.map fun (i,x)=>(i,a.eval x))) (v:=.agg c') ?_ ?_ ?_
  ·simp only [execOp,ho]
  ·refine run_build w t _ c' ?_
   rw [hb info z' i1 i4,Array.toList_map]
   exact g1
  ·have:=Vs.agg g2 g3
   simpa using this
 unfold bM at h
 rw [ho] at h
 simp only at h
 split at h
 ·rename_i fs _ z _ _ ps ht hps
  have hk:=(hT t _ ht).kind
  simp only at hk
  obtain ⟨fields,hk1,hk2⟩:=hk
  obtain ⟨places,p1,p2⟩:=xQ fields.toList ((hT t _ ht).parts fields hk1)
  refine fin fs _ ps (fun i=>places[i]?) ht hps h (fun i off ft ti hi hti=>?_) (fun info z hi hz l=>?_)
  ·rw [← hk2,List.getElem?_map] at hi
   simp only [Option.map_eq_some_iff] at hi
   obtain ⟨f,hf,hfe⟩:=hi
   simp at hfe
   obtain ⟨inf,z1,j1,j2,j3⟩:=(hT ft ti hti).info
   rw [← hfe.2] at j1
   have:=p2 i f inf hf j1
   rw [this,hfe.1,j2]
  ·simp [Program.built,hi,hk1,hz,p1]
 ·rename_i n el _ z _ _ ps ht hps
  have hk:=(hT t _ ht).kind
  simp only at hk
  split at h
  ·rename_i sz hsz
   obtain ⟨tie,hte,rfl⟩:∃ tie,tab el=some tie∧tie.size=sz:=by
    unfold e8 at hsz;simpa [Option.map_eq_some_iff] using hsz
   obtain ⟨inf,z1,j1,j2,j3⟩:=(hT el tie hte).info
   refine fin _ _ ps (fun i=>some (i*tie.size,tie.size)) ht hps h (fun i off ft ti hi hti=>?_) (fun info z hi hz l=>?_)
   ·rw [List.getElem?_map] at hi
    simp only [Option.map_eq_some_iff] at hi
    obtain ⟨j,hj,hje⟩:=hi
    have:j=i:=by
     rw [List.getElem?_range] at hj
     ·simpa using hj.symm
     ·rcases Nat.lt_or_ge i n with h' | h'
      ·exact h'
      ·simp [List.getElem?_eq_none,h'] at hj
    simp at hje
    obtain ⟨rfl,rfl⟩:=hje
    rw [hte] at hti;simp at hti;subst hti
    rw [this]
   ·simp [Program.built,hi,hk,hz,j1,j2]
  ·simp at h
 ·simp at h
theorem CJ {o:Oper} {nid:Nat} {e:Eff} {s:Sem Value} {q:Value} {w':World} {B':Nat→Prop} {β':Map} (he:execOp a.eval o=(do pure (.value (← s)))) (h1:s.run P w=.ok q w')
  (h2:Step w B β rd w' B' β' (rdU rd e.upd)) (h3:V w' B' β' e.val q) (h4:∀ b,b≠nid→β' b=β b):Turn P w B β rd a o nid e:=
 ⟨_,q,w',B',β',by rw [he];simp [h1],.inl rfl,h2,h3,h4⟩
theorem jB {p:PV} {e:Eff} (h:ok p=some e):e=⟨p,[],[]⟩:=by simp [ok] at h;exact h.symm
theorem ew {o:Oper} {s:Sem Value} {e:Eff} (he:execOp a.eval o=(do pure (.value (← s)))) (h:e.upd=[]∧∃ v,s.run P w=.ok v w∧V w B β e.val v):Quiet P w B β a o e:=by
 obtain ⟨h1,v,h2,h3⟩:=h
 exact ⟨h1,v,by rw [he];simp [h2],h3⟩
theorem FM (hT:du P tab) (hs:Sim w B β rd) {nid:Nat} {b:Builtin} {ts:List Nat} {ps:List PV} {us:List Value} {e:Eff} (h:de tab rd nid b ts ps=some e) (hu:Vs w B β ps us)
  (hβ:β nid=none) (hr:rd nid=none) (ty:TypeId) (cs:Array Bool) :
  ∃ nx v w' B' β',(builtin b ts.toArray ty cs us.toArray).run P w=.ok nx w'∧(nx=.value v∨nx=.skip∧v=Go.undef)∧
   Step w B β rd w' B' β' (rdU rd e.upd)∧V w' B' β' e.val v∧(∀ b,b≠nid→β' b=β b):=by
 have quiet:∀ (s:Sem Value) (q:Value),builtin b ts.toArray ty cs us.toArray=(do pure (.value (← s)))→s.run P w=.ok q w→e.upd=[]→V w B β e.val q→
   ∃ nx v w' B' β',(builtin b ts.toArray ty cs us.toArray).run P w=.ok nx w'∧(nx=.value v∨nx=.skip∧v=Go.undef)∧
   Step w B β rd w' B' β' (rdU rd e.upd)∧V w' B' β' e.val v∧(∀ b,b≠nid→β' b=β b):=by
  intro s q he hq h1 h2
  refine ⟨_,q,w,B,β,by rw [he];simp [hq],.inl rfl,?_,h2,fun _ _=>rfl⟩
  rw [h1];exact .refl hs
 have turn:∀ (s:Sem Value),builtin b ts.toArray ty cs us.toArray=(do pure (.value (← s)))→(∃ q w' B' β',s.run P w=.ok q w'∧Step w B β rd w' B' β' (rdU rd e.upd)∧V w' B' β' e.val q∧(∀ b,b≠nid→β' b=β b))→
   ∃ nx v w' B' β',(builtin b ts.toArray ty cs us.toArray).run P w=.ok nx w'∧(nx=.value v∨nx=.skip∧v=Go.undef)∧
   Step w B β rd w' B' β' (rdU rd e.upd)∧V w' B' β' e.val v∧(∀ b,b≠nid→β' b=β b):=by
  rintro s he ⟨q,w',B',β',h1,h2,h3,h4⟩
  exact ⟨_,q,w',B',β',by rw [he];simp [h1],.inl rfl,h2,h3,h4⟩
 unfold de at h
 split at h
 ·rename_i t rest v
  obtain ⟨u,us',rfl,h1,h2⟩:=hu.cN
  rw [h2.of_nil] at *
  split at h
  ·rename_i el _ _ _ _ ht
   split at h
   ·simp at h
   ·rename_i hns
    simp only [Option.map_eq_some_iff] at h
    obtain ⟨n,hn,rfl⟩:=h
    exact quiet (Builtin.len_ (t::rest).toArray ty #[u]) (.int .i64 n) rfl (acL hT ht rfl hn (fun s hs=>hns s hs) h1 rest ty) rfl (.int ..)
  ·rename_i s ht
   have:=jB h;subst this
   have:=h1.Rw;subst this
   exact quiet (Builtin.len_ (t::rest).toArray ty #[.string s]) _ rfl (J0 hT ht rfl s rest ty) rfl (.int ..)
  ·rename_i n _ _ _ _ _ ht
   have:=jB h;subst this
   exact quiet (Builtin.len_ (t::rest).toArray ty #[u]) _ rfl (J1 hT ht rfl u rest ty) rfl (.int ..)
  ·simp at h
 ·rename_i t t' s x
  obtain ⟨u,us',rfl,h1,h2⟩:=hu.cN
  obtain ⟨v,afS,rfl,h3,h4⟩:=h2.cN
  rw [h4.of_nil] at *
  split at h
  ·rename_i ht'
   exact turn (Builtin.append_ #[t,t'] ty #[u,v]) rfl (Lz hT hs h ht' rfl h1 h3 hβ hr ty)
  ·simp at h
 ·rename_i t t' d x
  obtain ⟨u,us',rfl,h1,h2⟩:=hu.cN
  obtain ⟨v,afS,rfl,h3,h4⟩:=h2.cN
  rw [h4.of_nil] at *
  obtain ⟨q,w',B',g1,g2,g3⟩:=Vi (P:=P) (t':=t') hT hs h h1 h3 ty
  exact turn (Builtin.copy_ #[t,t'] ty #[u,v]) rfl ⟨q,w',B',β,g1,g2,g3,fun _ _=>rfl⟩
 ·rename_i t rest d
  obtain ⟨u,us',rfl,h1,h2⟩:=hu.cN
  rw [h2.of_nil] at *
  obtain ⟨q,w',B',g1,g2,g3⟩:=QM (P:=P) (ts:=rest) hT hs h h1 ty
  exact turn (Builtin.clear_ (t::rest).toArray ty #[u]) rfl ⟨q,w',B',β,g1,g2,g3,fun _ _=>rfl⟩
 ·rename_i k n r
  obtain ⟨u,us',rfl,h1,h2⟩:=hu.cN
  have:=h1.qI;subst this
  simp only [Option.map_eq_some_iff] at h
  obtain ⟨m,hm,rfl⟩:=h
  refine quiet (Builtin.min_ ts.toArray ty (Value.int k n::us').toArray) (.int k m) rfl ?_ rfl (.int ..)
  have:=N1 (k:=k) hm h2 (P:=P)
  first | exact this | simpa [Builtin.min_] using this
 ·rename_i k n r
  obtain ⟨u,us',rfl,h1,h2⟩:=hu.cN
  have:=h1.qI;subst this
  simp only [Option.map_eq_some_iff] at h
  obtain ⟨m,hm,rfl⟩:=h
  refine quiet (Builtin.max_ ts.toArray ty (Value.int k n::us').toArray) (.int k m) rfl ?_ rfl (.int ..)
  have:=N2 (k:=k) hm h2 (P:=P)
  first | exact this | simpa [Builtin.max_] using this
 ·simp at h
theorem Q1 (hT:du P tab) (hs:Sim w B β rd) (ha:eb w B β tm a) {nid:Nat} {o:Oper} {e:Eff} (h:bM tab rd nid tm o=some e) (hβ:β nid=none) (hr:rd nid=none) :
  Turn P w B β rd a o nid e:=by
 have h0:=h
 unfold bM at h
 split at h
 ·rename_i x ho
  simp only [Option.map_eq_some_iff] at h;obtain ⟨p,hp,rfl⟩:=h
  exact .quiet hs ⟨rfl,a.eval x,by simp [execOp,ho],ck ha hp⟩
 ·rename_i x ho
  simp only [Option.map_eq_some_iff] at h;obtain ⟨p,hp,rfl⟩:=h
  exact .quiet hs ⟨rfl,a.eval x,by simp [execOp,ho],ck ha hp⟩
 ·rename_i c x y ho
  split at h
  ·rename_i b p q hc hx hy
   have:=jB h;subst this
   have hb:=(ck ha hc).wM
   refine .quiet hs ⟨rfl,if b then a.eval x else a.eval y,?_,?_⟩
   ·simp only [execOp,ho,hb,asBool,Sem.run_bind,Sem.run_pure,Result.andThen_ok]
   ·cases b
    ·exact ck ha hy
    ·exact ck ha hx
  ·simp at h
 ·rename_i t ho
  split at h
  ·rename_i ti ht
   simp at h;subst h
   exact Q6 hT hs ht hβ hr ho
  ·simp at h
 ·rename_i t x ho
  split at h
  ·rename_i cs hcs
   simp at h;subst h
   simp only [Option.bind_eq_some_iff] at hcs
   obtain ⟨p,hp,hc⟩:=hcs
   exact afo hs (ck ha hp) hc hβ hr ho
  ·simp at h
 ·rename_i t parts ho
  exact .quiet hs (QT hT ha ho h0)
 ·rename_i t n parts ho
  exact xp hT hs ha ho h0 hβ hr
 ·rename_i t x ho
  split at h
  ·rename_i ti p ht hp
   exact .quiet hs (ew (s:=Instr.loadAt t (a.eval x)) (by simp only [execOp,ho]) (G2 hs (hT t ti ht) h (ck ha hp)))
  ·simp at h
 ·rename_i t x y ho
  split at h
  ·rename_i ti p q ht hp hq
   obtain ⟨w',B',g1,g2,g3⟩:=LN hT hs ht h (ck ha hp) (ck ha hq)
   refine ⟨.skip,Go.undef,w',B',β,?_,.inr ⟨rfl,rfl⟩,g2,by rw [g3];exact .void,fun _ _=>rfl⟩
   simp [execOp,ho,g1]
  ·simp at h
 ·rename_i x ho
  have key:∀ (p:PV) (v:Value),cj tm x=some p→V w B β p v→ok p=some e→execOp a.eval o=pure (.value v)→Turn P w B β rd a o nid e:=by
   intro p v hp hv he hx
   have:=jB he;subst this
   exact .quiet hs ⟨rfl,v,by rw [hx];simp,hv⟩
  split at h
  ·rename_i b k hp
   have hv:=ck ha hp
   generalize hg:a.eval x=g at hv
   have hv':=hv
   cases hv
   exact key _ _ hp hv' h (by simp [execOp,ho,hg])
  ·rename_i b i k hp
   have hv:=ck ha hp
   generalize hg:a.eval x=g at hv
   have hv':=hv
   cases hv
   exact key _ _ hp hv' h (by simp [execOp,ho,hg])
  ·rename_i xs i k hp
   have hv:=ck ha hp
   generalize hg:a.eval x=g at hv
   have hv':=hv
   cases hv
   exact key _ _ hp hv' h (by simp [execOp,ho,hg])
  ·rename_i f cs hp
   have hv:=ck ha hp
   generalize hg:a.eval x=g at hv
   have hv':=hv
   cases hv
   exact key _ _ hp hv' h (by simp [execOp,ho,hg])
  ·simp at h
 ·rename_i op t x y _ ho
  split at h
  ·rename_i p q hp hq
   simp only [Option.map_eq_some_iff] at h;obtain ⟨r,hr',rfl⟩:=h
   obtain ⟨v,g1,g2⟩:=afr hT hr' (ck ha hp) (ck ha hq) x y
   exact .quiet hs (ew (s:=(do eqGuard op t x y (a.eval x) (a.eval y);binOp op t (a.eval x) (a.eval y))) (by simp only [execOp,ho]) ⟨rfl,v,g1,g2⟩)
  ·simp at h
 ·rename_i op _ x ho
  split at h
  ·rename_i p hp
   simp only [Option.map_eq_some_iff] at h;obtain ⟨r,hr',rfl⟩:=h
   exact .quiet hs (ew (s:=Op.unary op (a.eval x)) (by simp only [execOp,ho]) ⟨rfl,afY hr' (ck ha hp)⟩)
  ·simp at h
 ·rename_i sr d x ho
  split at h
  ·rename_i k1 _ _ _ _ k2 _ _ _ _ k3 n h1 h2 hx
   have:=jB h;subst this
   have hv:=(ck ha hx).qI
   have u1:=(hT sr _ h1).kind
   have u2:=(hT d _ h2).kind
   simp only at u1 u2
   refine .quiet hs (ew (s:=convert sr d (a.eval x)) (by simp only [execOp,ho]) ⟨rfl,.int k2 (k2.wrap n),?_,.int ..⟩)
   rw [hv]
   unfold convert
   simp only [Sem.run_bind,run_underlying u1,run_underlying u2,Result.andThen_ok,Conv.intToInt,Sem.run_pure]
  ·simp at h
 ·rename_i f first iF ho
  split at h
  ·rename_i hf
   simp only [Option.map_eq_some_iff] at h;obtain ⟨cs,hcs,rfl⟩:=h
   have hf':first=#[]:=by simpa using hf
   have hv:=qy ha hcs
   refine .quiet hs (ew (s:=Instr.makeFunc (.func f) (first.map a.eval) (iF.map a.eval)) (by simp only [execOp,ho]) ⟨rfl,.func (.func f) #[] (iF.map a.eval),?_,?_⟩)
   ·rw [hf'];simp [Instr.makeFunc]
   ·exact .fn f cs _ (by have:=hv.1;simpa using this) fun i c v h1 h2=>hv.2 i c v h1 (by simpa using h2)
  ·simp at h
 ·rename_i t l c ho
  split at h
  ·rename_i el _ _ _ _ ln cn ht hl hc
   split at h
   ·rename_i ti hti
    split at h
    ·rename_i hb
     simp at h;subst h
     obtain ⟨q,w',β',g1,g2,g3,g4⟩:=za (P:=P) hT hs ht rfl hti hb hβ hr
     refine CJ (s:=Instr.makeSlice t (a.eval l) (a.eval c)) (by simp only [execOp,ho]) ?_ g2 g3 g4
     rw [(ck ha hl).qI,(ck ha hc).qI];exact g1
    ·simp at h
   ·simp at h
  ·simp at h
 ·rename_i t x lo hi ho
  split at h
  ·rename_i p l k hx hl hh
   have e1:CC w B β l (lo.map a.eval):=by
    cases lo with
    | none=>simp at hl;subst hl;trivial
    | some v=>simp [Option.map_eq_some_iff] at hl;obtain ⟨y,hy,rfl⟩:=hl;exact ck ha hy
   have e2:CC w B β k (hi.map a.eval):=by
    cases hi with
    | none=>simp at hh;subst hh;trivial
    | some v=>simp [Option.map_eq_some_iff] at hh;obtain ⟨y,hy,rfl⟩:=hh;exact ck ha hy
   exact .quiet hs (ew (s:=Instr.sliceAt t (a.eval x) (lo.map a.eval) (hi.map a.eval) none) (by simp only [execOp,ho,Option.map_none]) (ae1 hT h (ck ha hx) e1 e2))
  ·simp at h
 ·rename_i st x f ho
  split at h
  ·rename_i p hp
   exact .quiet hs (ew (s:=Instr.fieldAt st (a.eval x) f) (by simp only [execOp,ho]) (zR hT h (ck ha hp)))
  ·simp at h
 ·rename_i st x f ho
  split at h
  ·rename_i p hp
   exact .quiet hs (ew (s:=Instr.field st (a.eval x) f) (by simp only [execOp,ho]) (Pw hT h (ck ha hp)))
  ·simp at h
 ·rename_i t x i ho
  split at h
  ·rename_i p q hp hq
   exact .quiet hs (ew (s:=Instr.indexAt t (a.eval x) (a.eval i)) (by simp only [execOp,ho]) (zJ hT h (ck ha hp) (ck ha hq)))
  ·simp at h
 ·rename_i t x i ho
  split at h
  ·rename_i p q hp hq
   exact .quiet hs (ew (s:=Instr.index t (a.eval x) (a.eval i)) (by simp only [execOp,ho]) (Pf hT h (ck ha hp) (ck ha hq)))
  ·simp at h
 ·rename_i x i ho
  split at h
  ·rename_i vs hx
   split at h
   ·rename_i v hv
    have:=jB h;subst this
    exact .quiet hs (ew (s:=Instr.extract (a.eval x) i) (by simp only [execOp,ho]) ⟨rfl,Fw hv (ck ha hx)⟩)
   ·simp at h
  ·simp at h
 ·rename_i bi args ats ho
  split at h
  ·rename_i vs hvs
   obtain ⟨nx,v,w',B',β',g1,g2⟩:=FM hT hs h (qy ha hvs) hβ hr o.type (args.map fun | .const _=>true | _=>false)
   refine ⟨nx,v,w',B',β',?_,g2⟩
   have e1:(args.toList.map a.eval).toArray=args.map a.eval:=by rw [← Array.toList_map]
   rw [e1] at g1
   simp only [Array.toArray_toList] at g1
   simp only [execOp,ho,resolve,Sem.run_bind,Sem.run_pure,Result.andThen_ok,invoke]
   exact g1
  ·simp at h
 ·simp at h
end
end Go.Pm
end
