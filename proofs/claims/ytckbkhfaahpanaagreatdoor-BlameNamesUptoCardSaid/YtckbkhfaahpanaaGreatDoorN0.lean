/- Part 0 of the proof that quiltlaw38.BlameNames returns true: no statement of its own. -/
import Derived.WalkKit
set_option linter.all false
namespace Go.Proofs.Ev
inductive AV where
 | undef
 | bool (b:Bool)
 | int (k:IntKind) (n:Int)
 | str (s:List UInt8)
 | nilp
 | ptr (b g esz i off:Nat)
 | eptr (cells:List AV)
 | lst (rows:List (List AV)) (exact:Bool)
 | nils
 | sl (b g esz lo len:Nat)
 | asl (b g esz i off len:Nat)
 | nilm
 | map (b:Nat)
 | nilf
 | fn (f:FuncId) (caps:List AV)
 | yld (b:Nat)
 | agg (cells:List AV)
 | tup (vs:List AV)
 deriving Inhabited
inductive Blk where
 | dead
 | rows (esz g:Nat) (rs:List (List AV))
 | map (es:List (AV×AV))
 | loop (ready:Bool) (pending:Option Code) (slots:List AV) (ps:List Tmp) (assign body:Code)
 | it (m:AV) (n st:Nat)
 deriving Inhabited
abbrev Heap:=List Blk
def AV.leaf:AV→Bool
 | .undef | .agg _ | .tup _=>false
 | _=>true
def AV.cells:AV→List AV
 | .agg cs=>cs
 | v=>[v]
mutual
def AV.beq:AV→AV→Bool
 | .undef,.undef=>true
 | .bool a,.bool b=>a==b
 | .int j a,.int k b=>decide (j=k)&&a==b
 | .str a,.str b=>a==b
 | .nilp,.nilp=>true
 | .ptr a b c d e,.ptr a' b' c' d' e'=>a==a'&&b==b'&&c==c'&&d==d'&&e==e'
 | .eptr a,.eptr b=>AV.beqs a b
 | .lst a x,.lst b y=>AV.beqss a b&&x==y
 | .sl a b c d e,.sl a' b' c' d' e'=>a==a'&&b==b'&&c==c'&&d==d'&&e==e'
 | .asl a b c d e f,.asl a' b' c' d' e' f'=>a==a'&&b==b'&&c==c'&&d==d'&&e==e'&&f==f'
 | .nilm,.nilm=>true
 | .nils,.nils=>true
 | .map a,.map b=>a==b
 | .nilf,.nilf=>true
 | .fn f a,.fn g b=>f==g&&AV.beqs a b
 | .yld a,.yld b=>a==b
 | .agg a,.agg b=>AV.beqs a b
 | .tup a,.tup b=>AV.beqs a b
 | _,_=>false
def AV.beqs:List AV→List AV→Bool
 | [],[]=>true
 | a::l,b::m=>AV.beq a b&&AV.beqs l m
 | _,_=>false
def AV.beqss:List (List AV)→List (List AV)→Bool
 | [],[]=>true
 | a::l,b::m=>AV.beqs a b&&AV.beqss l m
 | _,_=>false
end
mutual
def AV.closed:AV→Bool
 | .undef | .ptr .. | .sl .. | .asl .. | .map _ | .yld _=>false
 | .eptr cs=>AV.closeds cs
 | .lst rs _=>AV.closedss rs
 | .fn _ cs=>AV.closeds cs
 | .agg cs=>AV.closeds cs
 | .tup cs=>AV.closeds cs
 | _=>true
def AV.closeds:List AV→Bool
 | []=>true
 | v::l=>AV.closed v&&AV.closeds l
def AV.closedss:List (List AV)→Bool
 | []=>true
 | v::l=>AV.closeds v&&AV.closedss l
end
mutual
def AV.flat:AV→Bool
 | .bool _ | .int _ _ | .str _ | .nilp | .nils | .nilm | .nilf=>true
 | .agg cs=>AV.flats cs
 | .tup cs=>AV.flats cs
 | _=>false
def AV.flats:List AV→Bool
 | []=>true
 | v::l=>AV.flat v&&AV.flats l
end
def ofLeaf:Value→AV
 | .bool b=>.bool b
 | .int k n=>.int k n
 | .string s=>.str s.data.toList
 | .pointer none=>.nilp
 | .slice none 0 0=>.nils
 | .map none=>.nilm
 | .nilFunc=>.nilf
 | _=>.undef
def ofValue:Value→AV
 | .agg cs=>let l:=cs.toList.map ofLeaf;if l.all AV.leaf then .agg l else .undef
 | v=>ofLeaf v
def AV.denil:AV→AV
 | .nils=>.lst [] true
 | v=>v
def evalOperand (slots:List AV):Operand→AV
 | .tmp t=>slots.getD t .undef
 | .const v=>ofValue v
 | .global _=>.undef
 | .func f=>.fn f []
section ops
variable (P:Program)
def szOf (t:TypeId):Option Nat:=(P.info? t).map (·.size)
def bytesOf (t:TypeId):Option Nat:=(P.info? t).map (·.bytes)
def isAggT (t:TypeId):Option Bool:=(P.underlying t).map fun | .struct _ | .array _ _=>true | _=>false
def takeVal (t:TypeId) (cells:List AV):Option AV :=
 match isAggT P t with
 | some true =>
  match szOf P t with
  | some n=>if n≤cells.length then some (.agg (cells.take n)) else none
  | none=>none
 | some false=>cells.head?
 | none=>none
def cellsAt (H:Heap):AV→Option (List AV)
 | .ptr b g esz i off =>
  match H[b]? with
  | some (.rows esz' g' rs)=>if g=g'∧esz=esz' then (rs[i]?).map (·.drop off) else none
  | _=>none
 | .eptr cells=>some cells
 | _=>none
def loadA (H:Heap) (t:TypeId) (x:AV):Option AV:=(cellsAt H x).bind (takeVal P t)
def storeA (base:Nat) (H:Heap) (t:TypeId) (x v:AV):Option Heap :=
 match x,szOf P t with
 | .ptr b g esz i off,some n =>
  let cs:=v.cells
  if base≤b∧cs.length=n∧cs.all AV.leaf=true then
   match H[b]? with
   | some (.rows esz' g' rs) =>
    if g=g'∧esz=esz' then
     match rs[i]? with
     | some row=>if off+n≤row.length then some (H.set b (.rows esz' g' (rs.set i (row.take off++cs++row.drop (off+n))))) else none
     | none=>none
    else none
   | _=>none
  else none
 | _,_=>none
def addOff (x:AV) (n:Nat):Option AV :=
 match x with
 | .ptr b g esz i off=>some (.ptr b g esz i (off+n))
 | .eptr cells=>if n≤cells.length then some (.eptr (cells.drop n)) else none
 | _=>none
def fieldA (t:TypeId) (x:AV) (f:Nat):Option AV :=
 match P.underlying t with
 | some (.struct fields) =>
  match fields[f]? with
  | some fd =>
   match szOf P fd.type with
   | some (_+1)=>addOff x fd.offset
   | _=>none
  | none=>none
 | _=>none
def idx (v:AV) (len:Nat):Option Nat :=
 match v with
 | .int _ i=>if 0≤i∧i<len then some i.toNat else none
 | _=>none
def indexAddrA (t:TypeId) (x ix:AV):Option AV :=
 match P.underlying t with
 | some (.array len elem) =>
  match idx ix len,szOf P elem with
  | some i,some n=>addOff x (i*n)
  | _,_=>none
 | some (.slice elem) =>
  match szOf P elem,x with
  | some n,.sl b g esz lo len=>if n=esz then (idx ix len).map fun i=>.ptr b g esz (lo+i) 0 else none
  | some n,.asl b g esz i off len=>if n=1 then (idx ix len).map fun k=>.ptr b g esz i (off+k) else none
  | some n,.lst rows _ =>
   match idx ix rows.length with
   | some i =>
    match rows[i]? with
    | some row=>if row.length=n then some (.eptr row) else none
    | none=>none
   | none=>none
  | _,_=>none
 | _=>none
def partA (t:TypeId) (cells:List AV) (off:Nat):Option AV :=
 if off≤cells.length then takeVal P t (cells.drop off) else none
def indexA (t:TypeId) (x ix:AV):Option AV :=
 match P.underlying t,x with
 | some (.array len elem),.agg cs =>
  match idx ix len,szOf P elem with
  | some i,some n=>partA P elem cs (i*n)
  | _,_=>none
 | some .string,.str s =>
  match idx ix s.length with
  | some i=>(s[i]?).map fun b=>.int .u8 b.toNat
  | none=>none
 | _,_=>none
def boundsA (len cap:Nat) (lo hi:Option AV):Option (Nat×Nat) :=
 match (match hi with | some v=>idx v (cap+1) | none=>some len) with
 | some h =>
  match (match lo with | some v=>idx v (h+1) | none=>some 0) with
  | some l=>some (l,h)
  | none=>none
 | none=>none
def wide (n:Option Nat):List (List AV)→Bool
 | []=>n.isSome
 | r::_=>n==some r.length
def sliceA (t:TypeId) (x:AV) (lo hi mx:Option AV):Option AV :=
 match P.underlying t,x,mx with
 | some .string,.str s,none=>(boundsA s.length s.length lo hi).map fun (l,h)=>.str ((s.take h).drop l)
 | some (.slice elem),.lst rows e,none =>
  if wide (szOf P elem) rows then (boundsA rows.length rows.length lo hi).map fun (l,h)=>.lst ((rows.take h).drop l) (e&&h==rows.length) else none
 | some (.slice elem),.sl b g esz a len,none =>
  if szOf P elem=some esz then (boundsA len len lo hi).map fun (l,h)=>if h=l then .lst [] false else .sl b g esz (a+l) (h-l) else none
 | some (.slice elem),.asl b g esz i off len,none =>
  if szOf P elem=some 1 then (boundsA len len lo hi).map fun (l,h)=>if h=l then .lst [] false else .asl b g esz i (off+l) (h-l) else none
 | some (.slice elem),.lst rows _,some m =>
  match idx m (rows.length+1),hi with
  | some m,some hi=>if wide (szOf P elem) rows then (boundsA m m lo (some hi)).map fun (l,h)=>.lst ((rows.take h).drop l) (h==m) else none
  | _,_=>none
 | some (.slice elem),.sl _ _ _ _ len,some m =>
  match idx m (len+1),hi,szOf P elem with
  | some m,some hi,some _=>(boundsA m m lo (some hi)).bind fun (l,h)=>if h=l then some (.lst [] (h==m)) else none
  | _,_,_=>none
 | some (.array n elem),.ptr b g esz i off,none =>
  if szOf P elem=some 1 then
   (boundsA n n lo hi).map fun (l,h)=>if h=l then .lst [] false else .asl b g esz i (off+l) (h-l)
  else none
 | some (.array n elem),.eptr cells,none =>
  if szOf P elem=some 1∧n≤cells.length then
   (boundsA n n lo hi).map fun (l,h)=>.lst (((cells.take h).drop l).map fun c=>[c]) false
  else none
 | _,_,_=>none
def ofZero (t:TypeId):Option AV :=
 match (P.info? t).bind (·.zero) with
 | some v=>match ofValue v with | .undef=>none | a=>some a
 | none=>none
def allocG (H:Heap) (g:Nat) (v:AV):AV×Heap :=
 let cs:=v.cells
 (.ptr H.length g cs.length 0 0,H++[.rows cs.length g [cs]])
def allocA (H:Heap) (v:AV):AV×Heap:=allocG H 0 v
def tagG (t:TypeId):Nat :=
 match P.underlying t with
 | some (.struct fs) =>
  match fs[0]? with
  | some f=>match P.underlying f.type with | some (.pointer u)=>if u=t then 1 else 0 | _=>0
  | none=>0
 | _=>0
def fillA (place:Nat→Option (Nat×Nat)) (cells:List AV):List (Nat×AV)→Option (List AV)
 | []=>some cells
 | (i,v)::rest =>
  match place i with
  | none=>none
  | some (off,size) =>
   let cs:=v.cells
   if cs.length=size∧off+size≤cells.length∧cs.all AV.leaf=true then fillA place (cells.take off++cs++cells.drop (off+size)) rest else none
def buildA (t:TypeId) (parts:List (Nat×AV)):Option AV :=
 match ofZero P t,P.underlying t with
 | some z,some (.struct fields) =>
  match fields.toList.mapM (fun f=>(szOf P f.type).map fun s=>(f.offset,s)) with
  | some places=>(fillA (places[·]?) z.cells parts).map .agg
  | none=>none
 | some z,some (.array _ elem) =>
  match szOf P elem with
  | some s=>(fillA (fun i=>some (i*s,s)) z.cells parts).map .agg
  | none=>none
 | _,_=>none
def fillRows (s:Nat) (rows:List (List AV)):List (Nat×AV)→Option (List (List AV))
 | []=>some rows
 | (i,v)::rest =>
  let cs:=v.cells
  if cs.length=s∧i<rows.length∧cs.all AV.leaf=true then fillRows s (rows.set i cs) rest else none
def buildSliceA (t:TypeId) (len:Nat) (parts:List (Nat×AV)):Option AV :=
 match P.underlying t with
 | some (.slice elem) =>
  match szOf P elem with
  | some s =>
   if len*s≤2^24∧0<s then
    if len=0 then (if parts.isEmpty then some (.lst [] true) else none) else
    match ofZero P elem with
    | some z=>if z.cells.length=s then (fillRows s (List.replicate len z.cells) parts).map (.lst · true) else none
    | none=>none
   else none
  | none=>none
 | _=>none
def makeSliceA (H:Heap) (t:TypeId) (len cap:AV):Option (AV×Heap) :=
 match P.underlying t,len,cap with
 | some (.slice elem),.int .i64 l,.int .i64 c =>
  match szOf P elem,bytesOf P elem,ofZero P elem with
  | some s,some by_,some z =>
   if l≤c∧0≤l∧by_*c≤2^46∧c≤2^46∧z.cells.length=s∧0<s then
    some (.sl H.length 0 s 0 l.toNat,H++[.rows s 0 (List.replicate l.toNat z.cells)])
   else none
  | _,_,_=>none
 | _,_,_=>none
def rowsOf (H:Heap):AV→Option (List (List AV))
 | .lst rows _=>some rows
 | .sl b g esz lo len =>
  match H[b]? with
  | some (.rows esz' g' rs)=>if g=g'∧esz=esz'∧lo+len≤rs.length then some ((rs.drop lo).take len) else none
  | _=>none
 | .asl b g esz i off len =>
  match H[b]? with
  | some (.rows esz' g' rs) =>
   if g=g'∧esz=esz' then
    match rs[i]? with
    | some row=>if off+len≤row.length then some (((row.drop off).take len).map fun c=>[c]) else none
    | none=>none
   else none
  | _=>none
 | _=>none
def tailRows (H:Heap):TypeDesc→AV→Option (List (List AV))
 | .string,.str l=>some (l.map fun b=>[AV.int .u8 b.toNat])
 | .slice _,x=>rowsOf H x
 | _,_=>none
def clsG (t:TypeId) (sz:Nat):Nat :=
 if sz=1 then
  match P.info? t with
  | some i=>match i.desc with | .int .u8=>2 | _=>0
  | none=>0
 else 0
def nextG (t:TypeId) (sz g:Nat):Nat:=if g % 4=2∧clsG P t sz=2 then 4*g+6 else 4*g+4
def appendA (base:Nat) (H:Heap) (argTypes:Array TypeId) (s x:AV):Option (AV×Heap) :=
 match (argTypes[0]?).bind P.underlying,(argTypes[1]?).bind P.underlying with
 | some (.slice elem),some xd =>
  match szOf P elem,bytesOf P elem with
  | some sz,some by_ =>
   match tailRows H xd x with
   | some ys =>
    if ys.all (fun r=>decide (r.length=sz))∧0<sz∧(ofZero P elem).map (fun z=>z.cells.length)=some sz then
     match s with
     | .lst rows e =>
      if ys.isEmpty then some (s,H) else
      if e=true∧(rows.length+ys.length)*(by_+1)≤2^45∧rows.all (fun r=>decide (r.length=sz)) then
       some (.sl H.length (clsG P elem sz) sz 0 (rows.length+ys.length),H++[.rows sz (clsG P elem sz) (rows++ys)])
      else none
     | .sl b g esz 0 len =>
      match H[b]? with
      | some (.rows esz' g' rs) =>
       if base≤b∧g=g'∧esz=esz'∧sz=esz∧len=rs.length∧(len+ys.length)*(by_+1)≤2^45 then
        some (.sl b (nextG P elem esz g) esz 0 (len+ys.length),H.set b (.rows esz (nextG P elem esz g) (rs++ys)))
       else none
      | _=>none
     | _=>none
    else none
   | none=>none
  | _,_=>none
 | _,_=>none
inductive LK where
 | int (k:IntKind) | str | bool
 deriving DecidableEq,Inhabited
structure Cfg where
 prim:FuncId→Option (Nat→List AV→Heap→Option (AV×Heap))
 pure:FuncId→Bool
 frz:FuncId→Bool:=fun _=>false
 kinds:TypeId→Option (List LK)
def cellKind:AV→Option LK
 | .int k _=>some (.int k)
 | .str _=>some .str
 | .bool _=>some .bool
 | _=>none
def cellEq:AV→AV→Bool
 | .int _ a,.int _ b=>a==b
 | .str a,.str b=>a==b
 | .bool a,.bool b=>a==b
 | _,_=>false
def conf:List LK→List AV→Bool
 | [],[]=>true
 | k::ks,c::cs=>cellKind c==some k&&conf ks cs
 | _,_=>false
def cellsEq:List AV→List AV→Bool
 | a::l,b::m=>cellEq a b&&cellsEq l m
 | _,_=>true
variable (C:Cfg)
def eqA (t:TypeId) (x y:AV):Option Bool :=
 match x,y with
 | .agg xs,.agg ys =>
  match C.kinds t with
  | some ks=>if conf ks xs&&conf ks ys then some (cellsEq xs ys) else none
  | none=>none
 | .bool a,.bool b=>match P.underlying t with | some .bool=>some (a==b) | _=>none
 | .nilp,.nilp=>match P.underlying t with | some (.pointer _)=>some true | _=>none
 | .nilp,.ptr ..=>match P.underlying t with | some (.pointer _)=>some false | _=>none
 | .nilp,.eptr ..=>match P.underlying t with | some (.pointer _)=>some false | _=>none
 | .ptr ..,.nilp=>match P.underlying t with | some (.pointer _)=>some false | _=>none
 | .eptr ..,.nilp=>match P.underlying t with | some (.pointer _)=>some false | _=>none
 | .nils,.nils=>match P.underlying t with | some (.slice _)=>some true | _=>none
 | .lst (_::_) _,.nils=>match P.underlying t with | some (.slice _)=>some false | _=>none
 | .sl ..,.nils=>match P.underlying t with | some (.slice _)=>some false | _=>none
 | .asl ..,.nils=>match P.underlying t with | some (.slice _)=>some false | _=>none
 | _,_=>none
def binA (op:BinOp) (t:TypeId) (x y:AV):Option AV :=
 match x,y with
 | .int k a,.int k' b =>
  match op with
  | .shl=>if 0≤b then some (.int k (k.wrap (a*2^(min b.toNat k.bits)))) else none
  | .shr=>if 0≤b then some (.int k (a.fdiv (2^(min b.toNat k.bits)))) else none
  | op =>
   if k=k' then
    match op with
    | .add=>some (.int k (k.wrap (a+b)))
    | .sub=>some (.int k (k.wrap (a-b)))
    | .mul=>some (.int k (k.wrap (a*b)))
    | .quo=>if b=0 then none else some (.int k (k.wrap (a.tdiv b)))
    | .rem=>if b=0 then none else some (.int k (a.tmod b))
    | .and=>some (.int k (k.wrap (BitVec.ofInt k.bits a &&& BitVec.ofInt k.bits b).toNat))
    | .or=>some (.int k (k.wrap (BitVec.ofInt k.bits a ||| BitVec.ofInt k.bits b).toNat))
    | .xor=>some (.int k (k.wrap (BitVec.ofInt k.bits a ^^^ BitVec.ofInt k.bits b).toNat))
    | .andNot=>some (.int k (k.wrap (BitVec.ofInt k.bits a &&& ~~~(BitVec.ofInt k.bits b)).toNat))
    | .eql=>some (.bool (a==b))
    | .neq=>some (.bool (a != b))
    | .lss=>some (.bool (a<b))
    | .leq=>some (.bool (a≤b))
    | .gtr=>some (.bool (a > b))
    | .geq=>some (.bool (a≥b))
    | _=>none
   else none
 | .str a,.str b =>
  match op with
  | .add=>if ((a.length+b.length:Nat):Int)≤9223372036854775807 then some (.str (a++b)) else none
  | .eql=>some (.bool (a==b))
  | .neq=>some (.bool !(a==b))
  | .lss=>some (.bool (Op.bytesLess a b))
  | .leq=>some (.bool (Op.bytesLess a b||a==b))
  | .gtr=>some (.bool !(Op.bytesLess a b||a==b))
  | .geq=>some (.bool !(Op.bytesLess a b))
  | _=>none
 | x,y =>
  match op with
  | .eql=>(eqA P C t x y).map .bool
  | .neq=>(eqA P C t x y).map fun b=>.bool !b
  | _=>none
def unA (op:UnOp) (x:AV):Option AV :=
 match op,x with
 | .neg,.int k n=>some (.int k (k.wrap (0-n)))
 | .xor,.int k n=>some (.int k (k.wrap (BitVec.ofInt k.bits (if k.signed then -1 else k.max) ^^^ BitVec.ofInt k.bits n).toNat))
 | .not,.bool b=>some (.bool !b)
 | _,_=>none
def bytesA:List (List AV)→Option (List UInt8)
 | []=>some []
 | [.int .u8 n]::l=>(bytesA l).map (UInt8.ofNat n.toNat::·)
 | _=>none
def convertA (H:Heap) (src dst:TypeId) (x:AV):Option (AV×Heap) :=
 match P.underlying src,P.underlying dst,x with
 | some _,some (.int k),.int _ n=>some (.int k (k.wrap n),H)
 | some .string,some .string,.str s=>some (.str s,H)
 | some .string,some (.slice e),.str s =>
  match P.underlying e with
  | some (.int .u8)=>if s.length≤2^46 then some (.sl H.length 0 1 0 s.length,H++[.rows 1 0 (s.map fun b=>[.int .u8 b.toNat])]) else none
  | _=>none
 | some (.slice e),some .string,x =>
  match P.underlying e with
  | some (.int .u8)=>((rowsOf H x).bind bytesA).map fun l=>(.str l,H)
  | _=>none
 | _,_,_=>none
def keyEqA (t:TypeId) (k k':AV):Option Bool :=
 match k,k' with
 | .int a x,.int b y=>if a=b then some (x==y) else none
 | .str x,.str y=>some (x==y)
 | x,y=>eqA P C t x y
def findA (t:TypeId) (k:AV):List (AV×AV)→Nat→Option (Option (Nat×AV))
 | [],_=>some none
 | (k',v)::es,i =>
  match keyEqA P C t k k' with
  | some true=>some (some (i,v))
  | some false=>findA t k es (i+1)
  | none=>none
def keyOk (t:TypeId) (k:AV):Bool :=
 match k,P.underlying t with
 | .int _ _,some (.int _)=>true
 | .str _,some .string=>true
 | .bool _,some .bool=>true
 | .agg cs,some _=>match C.kinds t with | some ks=>conf ks cs | none=>false
 | _,_=>false
def entsA (H:Heap):AV→Option (List (AV×AV))
 | .nilm=>some []
 | .map b=>match H[b]? with | some (.map es)=>some es | _=>none
 | _=>none
def lookupA (H:Heap) (t:TypeId) (m k:AV) (commaOk:Bool):Option AV :=
 match P.underlying t with
 | some (.map kt et) =>
  if keyOk P C kt k then
   match entsA H m with
   | some es =>
    match findA P C kt k es 0,ofZero P et with
    | some (some (_,v)),_=>some (if commaOk then .tup [v,.bool true] else v)
    | some none,some z=>some (if commaOk then .tup [z,.bool false] else z)
    | _,_=>none
   | none=>none
  else none
 | _=>none
def updateA (base:Nat) (H:Heap) (t:TypeId) (m k v:AV):Option Heap :=
 match P.underlying t,m with
 | some (.map kt _),.map b =>
  if base≤b∧keyOk P C kt k=true then
   match H[b]? with
   | some (.map es) =>
    match findA P C kt k es 0 with
    | some (some (i,_))=>some (H.set b (.map (es.set i (k,v))))
    | some none=>some (H.set b (.map (es++[(k,v)])))
    | none=>none
   | _=>none
  else none
 | _,_=>none
def mapEntryA (base:Nat) (H:Heap) (t:TypeId) (m k:AV):Option (AV×Heap) :=
 match P.underlying t,m with
 | some (.map kt et),.map b =>
  if base≤b∧keyOk P C kt k=true then
   match H[b]? with
   | some (.map es) =>
    match findA P C kt k es 0 with
    | some (some (i,v))=>some (.tup [v,.int .i64 i],H.set b (.map (es.set i (k,v))))
    | some none=>match ofZero P et with | some z=>some (.tup [z,.int .i64 es.length],H.set b (.map (es++[(k,z)]))) | none=>none
    | none=>none
   | _=>none
  else none
 | _,_=>none
def entryStoreA (base:Nat) (H:Heap) (m s x:AV):Option Heap :=
 match m,s with
 | .map b,.int .i64 n =>
  if base≤b∧0≤n then
   match H[b]? with
   | some (.map es)=>match es[n.toNat]? with | some (k,_)=>some (H.set b (.map (es.set n.toNat (k,x)))) | none=>none
   | _=>none
  else none
 | _,_=>none
def lenA (H:Heap) (t:TypeId) (x:AV):Option AV :=
 match P.underlying t,x with
 | some .string,.str s=>some (.int .i64 s.length)
 | some (.array n _),_=>some (.int .i64 n)
 | some (.slice _),.lst rows _=>some (.int .i64 rows.length)
 | some (.slice _),.sl _ _ _ _ len=>some (.int .i64 len)
 | some (.slice _),.asl _ _ _ _ _ len=>some (.int .i64 len)
 | some (.map _ _),.nilm=>some (.int .i64 0)
 | some (.map _ _),.map b=>match H[b]? with | some (.map es)=>some (.int .i64 es.length) | _=>none
 | _,_=>none
def clearA (base:Nat) (H:Heap) (t:TypeId) (x:AV):Option Heap :=
 match P.underlying t,x with
 | some (.slice elem),.sl b g esz lo len =>
  match H[b]?,szOf P elem,ofZero P elem with
  | some (.rows esz' g' rs),some sz,some z =>
   if base≤b∧g=g'∧esz=esz'∧sz=esz∧z.cells.length=esz∧lo+len=rs.length∧0<len∧0<esz then
    some (H.set b (.rows esz' g' (rs.take lo++List.replicate len z.cells)))
   else none
  | _,_,_=>none
 | some (.slice _),.lst [] _=>some H
 | _,_=>none
def rangeA (H:Heap) (t:TypeId) (x:AV):Option (AV×Heap) :=
 match P.underlying t,x with
 | some (.map _ _),.nilm=>some (.ptr H.length 0 0 0 0,H++[.it .nilm 0 0])
 | some (.map _ _),.map b =>
  match H[b]? with
  | some (.map es)=>if es.length≤1 then some (.ptr H.length 0 0 0 0,H++[.it (.map b) es.length 0]) else none
  | _=>none
 | _,_=>none
def nextA (base:Nat) (H:Heap) (x:AV):Option (AV×Heap) :=
 match x with
 | .ptr b 0 0 0 0 =>
  match H[b]? with
  | some (.it m n st) =>
   match m,entsA H m with
   | .nilm,_=>some (.tup [.bool false],H)
   | .map _,some []=>if st=0 then some (.tup [.bool false],H) else none
   | .map _,some [(k,v)]=>if n=1 then if st=0 then if base≤b then some (.tup [.bool true,k,v],H.set b (.it m n 1)) else none else some (.tup [.bool false],H) else none
   | _,_=>none
  | _=>none
 | _=>none
def entryA (H:Heap) (x:AV):Option AV :=
 match x with
 | .ptr b 0 0 0 0 =>
  match H[b]? with
  | some (.it (.map mb) n st)=>if n=1∧st=1 then match H[mb]? with | some (.map [(k,v)])=>some (.tup [k,v]) | _=>none else none
  | _=>none
 | _=>none
def retV (H:Heap):Option AV→Option (AV×Heap)
 | some x=>some (x,H)
 | none=>none
def retU:Option Heap→Option (AV×Heap)
 | some h=>some (.tup [],h)
 | none=>none
def opA (base:Nat) (H:Heap) (ρ:Operand→AV) (o:Oper):Option (AV×Heap) :=
 match o.op with
 | .move x | .assign x=>some (ρ x,H)
 | .pick c a b=>match ρ c with | .bool t=>some (if t then ρ a else ρ b,H) | _=>none
 | .alloc t=>match ofZero P t with | some z=>if some z.cells.length=szOf P t then some (allocG H (tagG P t) z) else none | none=>none
 | .box _ x=>if (ρ x).cells.all AV.leaf then some (allocA H (ρ x)) else none
 | .build t ps=>retV H (buildA P t (ps.toList.map fun (i,x)=>(i,ρ x)))
 | .buildSlice t len ps=>retV H (buildSliceA P t len (ps.toList.map fun (i,x)=>(i,ρ x)))
 | .load t a=>retV H (loadA P H t (ρ a))
 | .store t a x=>retU (storeA P base H t (ρ a) (ρ x))
 | .nilCheck x=>match ρ x with | .ptr b g e i f=>some (.ptr b g e i f,H) | .eptr c=>some (.eptr c,H) | .fn f c=>some (.fn f c,H) | _=>none
 | .binOp op t x y _=>retV H (binA P C op t (ρ x) (ρ y))
 | .unOp op _ x=>retV H (unA op (ρ x))
 | .convert s d x=>convertA P H s d (ρ x).denil
 | .makeFunc (.func f) first caps=>if first.isEmpty then some (.fn f (caps.toList.map ρ),H) else none
 | .makeMap _ none=>some (.map H.length,H++[.map []])
 | .makeSlice t l c=>makeSliceA P H t (ρ l) (ρ c)
 | .slice t x lo hi mx=>retV H (sliceA P t (ρ x).denil (lo.map ρ) (hi.map ρ) (mx.map ρ))
 | .fieldAddr t x f=>retV H (fieldA P t (ρ x) f)
 | .indexAddr t x i=>retV H (indexAddrA P t (ρ x) (ρ i))
 | .index t x i=>retV H (indexA P t (ρ x).denil (ρ i))
 | .lookup t m k ok=>retV H (lookupA P C H t (ρ m) (ρ k) ok)
 | .mapUpdate t m k x | .insert t m k x=>retU (updateA P C base H t (ρ m) (ρ k) (ρ x))
 | .mapEntry t m k=>mapEntryA P C base H t (ρ m) (ρ k)
 | .entryStore _ m s x=>retU (entryStoreA base H (ρ m) (ρ s) (ρ x))
 | .range t x=>rangeA P H t (ρ x)
 | .next x false=>nextA base H (ρ x)
 | .entry x=>retV H (entryA H (ρ x))
 | .extract x i=>match ρ x with | .tup vs=>retV H (vs[i]?) | _=>none
 | .call { callee:=.builtin .len,args,argTypes } =>
  match argTypes[0]?,args[0]? with | some t,some x=>retV H (lenA P H t (ρ x).denil) | _,_=>none
 | .call { callee:=.builtin .clear,args,argTypes } =>
  match argTypes[0]?,args[0]? with | some t,some x=>retU (clearA P base H t (ρ x).denil) | _,_=>none
 | .call { callee:=.builtin .append,args,argTypes } =>
  match args[0]?,args[1]? with | some s,some x=>appendA P base H argTypes (ρ s).denil (ρ x).denil | _,_=>none
 | _=>none
end ops
end Go.Proofs.Ev
namespace Go.Proofs.Ev
inductive AExit where
 | normal
 | exit (id:Nat)
 | ret
 deriving DecidableEq,Inhabited
def AExit.code:AExit→Option Code
 | .normal=>none
 | .exit id=>some (.exit id)
 | .ret=>some .ret
def wantedA (ops:Array Oper) (slots:List AV) (o:Oper):Option Bool :=
 match o.guard with
 | none=>some true
 | some (j,want) =>
  match (ops[j]?).bind (·.dst) with
  | some d=>match slots[d]? with | some (.bool b)=>some (b==want) | some .undef=>none | _=>some false
  | none=>some false
def putA (slots:List AV) (dst:Option Tmp) (v:AV):List AV :=
 match dst with
 | some d=>slots.set d v
 | none=>slots
def freezeA (H:Heap) (k:Nat):Nat→AV→Option AV
 | 0,v=>if v.closed then some v else none
 | d+1,v =>
  if v.closed then some v else
  match v with
  | .sl b g esz lo len=>if k≤b then ((rowsOf H (.sl b g esz lo len)).bind fun rows=>if AV.closedss rows then some rows else rows.mapM fun r=>r.mapM (freezeA H k d)).map (.lst · false) else none
  | .asl b g esz i off len=>if k≤b then ((rowsOf H (.asl b g esz i off len)).bind fun rows=>if AV.closedss rows then some rows else none).map (.lst · false) else none
  | .agg cs=>(cs.mapM (freezeA H k d)).map .agg
  | .tup vs=>(vs.mapM (freezeA H k d)).map .tup
  | .lst rows e=>(rows.mapM fun (r:List AV)=>r.mapM (freezeA H k d)).map (.lst · e)
  | _=>none
def setParams (ps:List Tmp) (args slots:List AV):List AV :=
 match ps,args with
 | p::ps,v::args=>setParams ps args (slots.set p v)
 | _,_=>slots
def resultsA (P:Program) (H:Heap) (slots:List AV):List ResultVar→Option (List AV)
 | []=>some []
 | .tmp t::l=>(resultsA P H slots l).map (slots.getD t .undef::·)
 | .cell a t::l =>
  match loadA P H t (slots.getD a .undef),resultsA P H slots l with
  | some v,some vs=>some (v::vs)
  | _,_=>none
def packA:List AV→AV
 | [v]=>v
 | vs=>.tup vs
def kindA (P:Program):Op→Nat
 | .move _ | .assign _ | .pick .. | .build .. | .buildSlice .. | .nilCheck _ | .binOp .. | .unOp .. | .makeFunc .. | .slice .. | .fieldAddr .. | .indexAddr .. | .index .. | .extract ..=>0
 | .load .. | .lookup .. | .call { callee:=.builtin .len,.. }=>1
 | .convert _ d _=>match P.underlying d with | some (.int _)=>0 | some .string=>1 | _=>2
 | .alloc t=>if tagG P t=0 then 3 else 2
 | _=>2
structure Tr where
 s:List AV
 h:Heap
 v:AV
 c:Nat
 deriving Inhabited
def looks (ops:Array Oper) (o:Oper):List Tmp :=
 (o.op.operands.toList.filterMap fun | .tmp t=>some t | _=>none) ++
 (match o.guard with
  | some (g,_)=>((ops[g]?).bind (·.dst)).toList
  | none=>[])
def cutS (l:List Tmp) (s:List AV):List AV:=l.foldl (fun m t=>m.set t (s.getD t .undef)) (List.replicate s.length .undef)
def runT (P:Program) (ops:Array Oper) (step:Oper→List AV→Heap→Option (AV×Heap)):List Oper→List AV→Heap→Option (List Tr×List AV×Heap)
 | [],s,H=>some ([],s,H)
 | o::l,s,H =>
  match step o (cutS (looks ops o) s) H with
  | some (v,H') =>
   match runT P ops step l (putA s o.dst v) H' with
   | some (t,s',H'')=>some (⟨cutS (looks ops o) s,H,v,match wantedA ops (cutS (looks ops o) s) o with | some true=>kindA P o.op | _=>0⟩::t,s',H'')
   | none=>none
  | none=>none
def befGo:List Oper→List Nat→List Nat
 | [],acc=>acc
 | o::l,acc=>befGo l (acc++[o.after.toList.foldl (fun m e=>if Region.binds .any e then (m ||| 2^e.on) ||| acc.getD e.on 0 else m) 0])
def drawOk (ops:Array Oper) (n:Nat) (bef:Nat→Nat→Bool) (cls:Nat→Nat) (dst:Nat→Option Tmp) (val:Nat→AV) (ch:List Nat) (again:Nat→Nat→Option (AV×Heap)):Bool :=
 (List.range n).all fun i =>
  match ops[i]? with
  | none=>false
  | some o =>
   (o.after.toList.all fun e=>!Region.binds .any e||decide (e.on<i)) &&
   ((List.range n).all fun k=>k==i||(match dst k with
     | some d=>dst i != some d&&(!(looks ops o).contains d||bef k i||bef i k)
     | none=>true)) &&
   (decide (cls i<2)||cls i==3||ch.all fun k=>decide (i≤k)||bef k i) &&
   (cls i != 3||(List.range n).all fun j=>!bef i j||ch.all fun k=>decide (i≤k)||bef k j) &&
   (cls i != 1||((ch++[n]).all fun p=>!(ch.all fun k=>(!bef k i||decide (k<p))&&(!bef i k||decide (p≤k))) ||
    match again i p with | some (v,_)=>AV.beq v (val i) | none=>false))
def drawOkT (ops:Array Oper) (tr:List Tr) (H':Heap) (again:Oper→List AV→Heap→Option (AV×Heap)):Bool :=
 let n:=tr.length
 let B:=befGo ops.toList []
 let cls (i:Nat):Nat:=(tr.getD i default).c
 drawOk ops n (fun k i=>(B.getD i 0).testBit k) cls (fun i=>(ops[i]?).bind (·.dst)) (fun i=>(tr.getD i default).v) ((List.range n).filter fun i=>2≤cls i)
  (fun i p=>match ops[i]? with | some o=>again o (tr.getD i default).s (if p<n then (tr.getD p default).h else H') | none=>none)
section run
variable (P:Program) (C:Cfg)
mutual
def codeA:Nat→Nat→Code→List AV→Heap→Option (AExit×List AV×Heap)
 | 0,_,_,_,_=>none
 | n+1,base,c,s,H =>
  match c with
  | .skip=>some (.normal,s,H)
  | .label _=>some (.normal,s,H)
  | .ret=>some (.ret,s,H)
  | .exit id=>some (.exit id,s,H)
  | .seq a b =>
   match codeA n base a s H with
   | some (.normal,s',H')=>codeA n base b s' H'
   | r=>r
  | .cond x a b =>
   match evalOperand s x with
   | .bool true=>codeA n base a s H
   | .bool false=>codeA n base b s H
   | _=>none
  | .block id b =>
   match codeA n base b s H with
   | some (.exit i,s',H')=>if i=id then some (.normal,s',H') else some (.exit i,s',H')
   | r=>r
  | .loop b =>
   match codeA n base b s H with
   | some (.normal,s',H')=>codeA n base (.loop b) s' H'
   | r=>r
  | .region _ ops false =>
   match seqA n base ops ops.toList s H with
   | some (s',H')=>some (.normal,s',H')
   | none=>none
  | .region _ ops true =>
   match runT P ops (fun o s H=>stepA n base ops o s H) ops.toList s H with
   | some (tr,s',H')=>if drawOkT ops tr H' (fun o s H=>stepA n base ops o s H) then some (.normal,s',H') else none
   | none=>none
  | .rangeFunc g ps assign body =>
   match evalOperand s g with
   | .fn f caps =>
    match funcA n base f (.yld H.length::caps) (H++[.loop true none s ps.toList assign body]) with
    | some (_,H2) =>
     match H2[H.length]? with
     | some (.loop true none _ _ _ _)=>some (.normal,s,H2.set H.length .dead)
     | some (.loop false (some c) _ _ _ _)=>codeA n base c s (H2.set H.length .dead)
     | _=>none
    | none=>none
   | _=>none
  | _=>none
def seqA:Nat→Nat→Array Oper→List Oper→List AV→Heap→Option (List AV×Heap)
 | 0,_,_,_,_,_=>none
 | _+1,_,_,[],s,H=>some (s,H)
 | n+1,base,ops,o::rest,s,H =>
  match stepA n base ops o s H with
  | some (v,H')=>seqA n base ops rest (putA s o.dst v) H'
  | none=>none
def stepA:Nat→Nat→Array Oper→Oper→List AV→Heap→Option (AV×Heap)
 | 0,_,_,_,_,_=>none
 | n+1,base,ops,o,s,H =>
  match wantedA ops s o with
  | some true =>
   match o.op with
   | .call { callee:=.value f,args,.. }=>callA n base (evalOperand s f) (args.toList.map (evalOperand s)) H
   | _=>opA P C base H (evalOperand s) o
  | some false=>some (.tup [],H)
  | none=>none
def callA:Nat→Nat→AV→List AV→Heap→Option (AV×Heap)
 | 0,_,_,_,_=>none
 | n+1,base,f,args,H =>
  match f with
  | .fn f caps =>
   if C.pure f then
    match funcA n H.length f (args++caps) H with
    | some (r,H')=>match freezeA H' H.length 3 r with | some r'=>some (r',H) | none=>none
    | none=>none
   else if C.frz f then
    match (args++caps).mapM (freezeA H 0 6) with
    | some aS =>
     match funcA n 0 f aS [] with
     | some (r,_)=>if r.flat then some (r,H) else none
     | none=>none
    | none=>none
   else funcA n base f (args++caps) H
  | .yld b =>
   match H[b]? with
   | some (.loop true none slots ps assign body) =>
    if base≤b∧args.length=ps.length then
     match codeA n base assign (setParams ps args slots) H with
     | some (.normal,s1,H1) =>
      match H1[b]? with
      | some (.loop true none l1 p1 a1 b1) =>
       match codeA n base body s1 (H1.set b (.loop false none l1 p1 a1 b1)) with
       | some (e,_,H3) =>
        match H3[b]? with
        | some (.loop false none l3 p3 a3 b3)=>some (.bool e.code.isNone,H3.set b (.loop e.code.isNone e.code l3 p3 a3 b3))
        | _=>none
       | none=>none
      | _=>none
     | _=>none
    else none
   | _=>none
  | _=>none
def funcA:Nat→Nat→FuncId→List AV→Heap→Option (AV×Heap)
 | 0,_,_,_,_=>none
 | n+1,base,f,args,H =>
  match C.prim f with
  | some p=>p base args H
  | none =>
   match P.funcs[f]? with
   | some fn =>
    match fn.body with
    | some c =>
     match codeA n base c (args++List.replicate (fn.ntmps-args.length) (.tup [])) H with
     | some (.normal,s',H')=>(resultsA P H' s' fn.results.toList).map fun vs=>(packA vs,H')
     | some (.ret,s',H')=>(resultsA P H' s' fn.results.toList).map fun vs=>(packA vs,H')
     | _=>none
    | none=>none
   | none=>none
end
end run
end Go.Proofs.Ev
namespace Go.Proofs.Ev
variable {P:Program} {C:Cfg}
theorem runT_mono {ops:Array Oper} {f g:Oper→List AV→Heap→Option (AV×Heap)} (h:∀o s H r,f o s H=some r→g o s H=some r) :
 ∀{l:List Oper} {s:List AV} {H:Heap} {r:List Tr×List AV×Heap},runT P ops f l s H=some r→runT P ops g l s H=some r
 | [],_,_,_,e=>e
 | o::l,s,H,r,e=>by
  unfold runT at e ⊢
  cases h1:f o (cutS (looks ops o) s) H with
  | none=>rw [h1] at e;cases e
  | some vh =>
   obtain ⟨v,H1⟩:=vh
   rw [h1] at e
   rw [h _ _ _ _ h1]
   simp only at e ⊢
   cases h2:runT P ops f l (putA s o.dst v) H1 with
   | none=>rw [h2] at e;cases e
   | some x=>rw [h2] at e;rw [runT_mono h h2];exact e
theorem drawOk_mono {ops:Array Oper} {n:Nat} {bef:Nat→Nat→Bool} {cls:Nat→Nat} {dst:Nat→Option Tmp} {val:Nat→AV} {ch:List Nat} {f g:Nat→Nat→Option (AV×Heap)}
 (h:∀i p r,f i p=some r→g i p=some r) (e:drawOk ops n bef cls dst val ch f=true):drawOk ops n bef cls dst val ch g=true:=by
 unfold drawOk at e ⊢
 rw [List.all_eq_true] at e ⊢
 intro i hi
 have:=e i hi
 cases h1:ops[i]? with
 | none=>rw [h1] at this;cases this
 | some o =>
  rw [h1] at this
  simp only [Bool.and_eq_true,Bool.or_eq_true] at this ⊢
  refine ⟨this.1,?_⟩
  rcases this.2 with h2 | h2
  ·exact .inl h2
  ·right
   rw [List.all_eq_true] at h2 ⊢
   intro p hp
   have h3:=h2 p hp
   rw [Bool.or_eq_true] at h3 ⊢
   rcases h3 with h3 | h3
   ·exact .inl h3
   ·right
    cases h4:f i p with
    | none=>rw [h4] at h3;cases h3
    | some x=>rw [h4] at h3;rw [h _ _ _ h4];exact h3
theorem drawOkT_mono {ops:Array Oper} {tr:List Tr} {H':Heap} {f g:Oper→List AV→Heap→Option (AV×Heap)} (h:∀o s H r,f o s H=some r→g o s H=some r)
 (e:drawOkT ops tr H' f=true):drawOkT ops tr H' g=true:=by
 refine drawOk_mono (fun i p r hr=>?_) e
 revert hr
 cases ops[i]? with
 | none=>intro hr;cases hr
 | some o=>exact h _ _ _ _
theorem codeA_loop {n base:Nat} {b:Code} {s:List AV} {H:Heap}:codeA P C (n+1) base (.loop b) s H =
 (match codeA P C n base b s H with
  | some (.normal,s',H')=>codeA P C n base (.loop b) s' H'
  | r=>r):=by
 conv=>lhs;unfold codeA
 all_goals rfl
def MonoAt (P:Program) (C:Cfg) (n:Nat):Prop :=
 (∀base c s H r,codeA P C n base c s H=some r→codeA P C (n+1) base c s H=some r)∧
 (∀base ops l s H r,seqA P C n base ops l s H=some r→seqA P C (n+1) base ops l s H=some r)∧
 (∀base ops o s H r,stepA P C n base ops o s H=some r→stepA P C (n+1) base ops o s H=some r)∧
 (∀base f args H r,callA P C n base f args H=some r→callA P C (n+1) base f args H=some r)∧
 (∀base f args H r,funcA P C n base f args H=some r→funcA P C (n+1) base f args H=some r)
theorem mono_code {n:Nat} (hi:MonoAt P C n) (base:Nat) (c:Code) (s:List AV) (H:Heap) (r:AExit×List AV×Heap)
 (e:codeA P C (n+1) base c s H=some r):codeA P C (n+2) base c s H=some r:=by
 obtain ⟨hc,hs,ht,hl,hf⟩:=hi
 cases c with
 | skip=>simpa only [codeA] using e
 | label _=>simpa only [codeA] using e
 | ret=>simpa only [codeA] using e
 | exit _=>simpa only [codeA] using e
 | scope _=>unfold codeA at e;cases e
 | goto _=>unfold codeA at e;cases e
 | refuse _=>unfold codeA at e;cases e
 | seq a b =>
  simp only [codeA] at e ⊢
  cases h1:codeA P C n base a s H with
  | none=>rw [h1] at e;cases e
  | some x =>
   obtain ⟨x,s',H'⟩:=x
   rw [h1] at e;rw [hc _ _ _ _ _ h1]
   cases x with
   | normal=>exact hc _ _ _ _ _ e
   | exit _=>exact e
   | ret=>exact e
 | cond x a b =>
  simp only [codeA] at e ⊢
  revert e
  split
  ·exact hc _ _ _ _ _
  ·exact hc _ _ _ _ _
  ·intro e;cases e
 | block id b =>
  simp only [codeA] at e ⊢
  cases h1:codeA P C n base b s H with
  | none=>rw [h1] at e;cases e
  | some x =>
   rw [h1] at e;rw [hc _ _ _ _ _ h1];exact e
 | loop b =>
  rw [codeA_loop] at e ⊢
  cases h1:codeA P C n base b s H with
  | none=>rw [h1] at e;cases e
  | some x =>
   obtain ⟨x,s',H'⟩:=x
   rw [h1] at e;rw [hc _ _ _ _ _ h1]
   cases x with
   | normal=>exact hc _ _ _ _ _ e
   | exit _=>exact e
   | ret=>exact e
 | region id ops d =>
  cases d with
  | false =>
   simp only [codeA] at e ⊢
   cases h1:seqA P C n base ops ops.toList s H with
   | none=>rw [h1] at e;cases e
   | some x=>rw [h1] at e;rw [hs _ _ _ _ _ _ h1];exact e
  | true =>
   simp only [codeA] at e ⊢
   cases h1:runT P ops (fun o s H=>stepA P C n base ops o s H) ops.toList s H with
   | none=>rw [h1] at e;cases e
   | some x =>
    obtain ⟨tr,s',H'⟩:=x
    rw [h1] at e
    rw [runT_mono (g:=fun o s H=>stepA P C (n+1) base ops o s H) (fun o s H r h=>ht _ _ _ _ _ _ h) h1]
    simp only at e ⊢
    split at e
    ·rename_i h2
     rw [if_pos (drawOkT_mono (fun o s H r h=>ht _ _ _ _ _ _ h) h2)];exact e
    ·cases e
 | rangeFunc g ps assign body =>
  simp only [codeA] at e ⊢
  cases h0:evalOperand s g with
  | fn f caps =>
   rw [h0] at e
   simp only at e ⊢
   cases h1:funcA P C n base f (.yld H.length::caps) (H++[.loop true none s ps.toList assign body]) with
   | none=>rw [h1] at e;cases e
   | some x =>
    obtain ⟨x,H2⟩:=x
    rw [h1] at e;rw [hf _ _ _ _ _ h1]
    simp only at e ⊢
    revert e
    split
    ·exact id
    ·exact hc _ _ _ _ _
    ·intro e;cases e
  | _=>rw [h0] at e;cases e
theorem mono_seq {n:Nat} (hi:MonoAt P C n) (base:Nat) (ops:Array Oper) (l:List Oper) (s:List AV) (H:Heap) (r:List AV×Heap)
 (e:seqA P C (n+1) base ops l s H=some r):seqA P C (n+2) base ops l s H=some r:=by
 obtain ⟨hc,hs,ht,hl,hf⟩:=hi
 cases l with
 | nil=>unfold seqA at e ⊢;exact e
 | cons o l =>
  unfold seqA at e ⊢
  cases h1:stepA P C n base ops o s H with
  | none=>rw [h1] at e;cases e
  | some x=>rw [h1] at e;rw [ht _ _ _ _ _ _ h1];exact hs _ _ _ _ _ _ e
theorem mono_step {n:Nat} (hi:MonoAt P C n) (base:Nat) (ops:Array Oper) (o:Oper) (s:List AV) (H:Heap) (r:AV×Heap)
 (e:stepA P C (n+1) base ops o s H=some r):stepA P C (n+2) base ops o s H=some r:=by
 obtain ⟨hc,hs,ht,hl,hf⟩:=hi
 unfold stepA at e ⊢
 revert e
 split
 ·split
  ·exact hl _ _ _ _ _
  ·exact id
 ·exact id
 ·exact id
theorem mono_call {n:Nat} (hi:MonoAt P C n) (base:Nat) (f:AV) (args:List AV) (H:Heap) (r:AV×Heap)
 (e:callA P C (n+1) base f args H=some r):callA P C (n+2) base f args H=some r:=by
 obtain ⟨hc,hs,ht,hl,hf⟩:=hi
 cases f with
 | fn f caps =>
  unfold callA at e ⊢
  simp only at e ⊢
  split at e
  ·rename_i hp
   rw [if_pos hp]
   cases h1:funcA P C n H.length f (args++caps) H with
   | none=>rw [h1] at e;cases e
   | some x=>rw [h1] at e;rw [hf _ _ _ _ _ h1];exact e
  ·rename_i hp
   rw [if_neg hp]
   split at e
   ·rename_i hz
    rw [if_pos hz]
    cases ha:(args++caps).mapM (freezeA H 0 6) with
    | none=>rw [ha] at e;cases e
    | some aS =>
     rw [ha] at e
     simp only at e ⊢
     cases h1:funcA P C n 0 f aS [] with
     | none=>rw [h1] at e;cases e
     | some x=>rw [h1] at e;rw [hf _ _ _ _ _ h1];exact e
   ·rename_i hz
    rw [if_neg hz]
    exact hf _ _ _ _ _ e
 | yld b =>
  unfold callA at e ⊢
  simp only at e ⊢
  revert e
  split
  ·split
   ·rename_i slots ps assign body hb hlen
    intro e
    cases h1:codeA P C n base assign (setParams ps args slots) H with
    | none=>rw [h1] at e;cases e
    | some x =>
     obtain ⟨x,s1,H1⟩:=x
     rw [h1] at e;rw [hc _ _ _ _ _ h1]
     cases x with
     | normal =>
      simp only at e ⊢
      revert e
      split
      ·rename_i l1 p1 a1 b1 hb1
       intro e
       cases h2:codeA P C n base body s1 (H1.set b (.loop false none l1 p1 a1 b1)) with
       | none=>rw [h2] at e;cases e
       | some y=>rw [h2] at e;rw [hc _ _ _ _ _ h2];exact e
      ·exact id
     | exit _=>exact e
     | ret=>exact e
   ·exact id
  ·exact id
 | _=>unfold callA at e;cases e
theorem mono_func {n:Nat} (hi:MonoAt P C n) (base:Nat) (f:FuncId) (args:List AV) (H:Heap) (r:AV×Heap)
 (e:funcA P C (n+1) base f args H=some r):funcA P C (n+2) base f args H=some r:=by
 obtain ⟨hc,hs,ht,hl,hf⟩:=hi
 unfold funcA at e ⊢
 revert e
 split
 ·exact id
 ·split
  ·rename_i fn hfn
   cases fn.body with
   | none=>exact id
   | some c =>
    intro e
    simp only at e ⊢
    cases h1:codeA P C n base c (args++List.replicate (fn.ntmps-args.length) (.tup [])) H with
    | none=>rw [h1] at e;cases e
    | some x=>rw [h1] at e;rw [hc _ _ _ _ _ h1];exact e
  ·exact id
theorem mono_at:∀n,MonoAt P C n
 | 0=>⟨fun _ _ _ _ _ e=>(by unfold codeA at e;cases e),fun _ _ _ _ _ _ e=>(by unfold seqA at e;cases e),fun _ _ _ _ _ _ e=>(by unfold stepA at e;cases e),
  fun _ _ _ _ _ e=>(by unfold callA at e;cases e),fun _ _ _ _ _ e=>(by unfold funcA at e;cases e)⟩
 | n+1=>⟨mono_code (mono_at n),mono_seq (mono_at n),mono_step (mono_at n),mono_call (mono_at n),mono_func (mono_at n)⟩
theorem codeA_mono {n m:Nat} (h:n≤m) {base:Nat} {c:Code} {s:List AV} {H:Heap} {r:AExit×List AV×Heap} (e:codeA P C n base c s H=some r):codeA P C m base c s H=some r:=by
 induction h with
 | refl=>exact e
 | step _ ih=>exact (mono_at _).1 _ _ _ _ _ ih
theorem seqA_mono {n m:Nat} (h:n≤m) {base:Nat} {ops:Array Oper} {l:List Oper} {s:List AV} {H:Heap} {r:List AV×Heap} (e:seqA P C n base ops l s H=some r):seqA P C m base ops l s H=some r:=by
 induction h with
 | refl=>exact e
 | step _ ih=>exact (mono_at _).2.1 _ _ _ _ _ _ ih
theorem stepA_mono {n m:Nat} (h:n≤m) {base:Nat} {ops:Array Oper} {o:Oper} {s:List AV} {H:Heap} {r:AV×Heap} (e:stepA P C n base ops o s H=some r):stepA P C m base ops o s H=some r:=by
 induction h with
 | refl=>exact e
 | step _ ih=>exact (mono_at _).2.2.1 _ _ _ _ _ _ ih
theorem callA_mono {n m:Nat} (h:n≤m) {base:Nat} {f:AV} {args:List AV} {H:Heap} {r:AV×Heap} (e:callA P C n base f args H=some r):callA P C m base f args H=some r:=by
 induction h with
 | refl=>exact e
 | step _ ih=>exact (mono_at _).2.2.2.1 _ _ _ _ _ ih
theorem funcA_mono {n m:Nat} (h:n≤m) {base:Nat} {f:FuncId} {args:List AV} {H:Heap} {r:AV×Heap} (e:funcA P C n base f args H=some r):funcA P C m base f args H=some r:=by
 induction h with
 | refl=>exact e
 | step _ ih=>exact (mono_at _).2.2.2.2 _ _ _ _ _ ih
end Go.Proofs.Ev
namespace Go.Proofs.Ev
abbrev Sl:=Nat→AV
def upd (s:Sl) (d:Nat) (v:AV):Sl:=fun t=>if t=d then v else s t
theorem upd_other {s:Sl} {d t:Nat} {v:AV} (h:t≠d):upd s d v t=s t:=if_neg h
def Rep (N:Nat) (l:List AV) (s:Sl):Prop:=l.length=N∧∀t,l.getD t .undef=s t
def putF (s:Sl) (dst:Option Tmp) (v:AV):Sl:=match dst with | some d=>upd s d v | none=>s
def dstOk (N:Nat):Option Tmp→Prop | some d=>d<N | none=>True
def valF (s:Sl):Operand→AV
 | .tmp t=>s t
 | .const v=>ofValue v
 | .global _=>.undef
 | .func f=>.fn f []
def wantedF (ops:Array Oper) (s:Sl) (o:Oper):Option Bool :=
 match o.guard with
 | none=>some true
 | some (j,want) =>
  match (ops[j]?).bind (·.dst) with
  | some d=>match s d with | .bool b=>some (b==want) | .undef=>none | _=>some false
  | none=>some false
theorem Rep.val {N:Nat} {l:List AV} {s:Sl} (h:Rep N l s) (x:Operand):evalOperand l x=valF s x:=by
 cases x with
 | tmp t=>exact h.2 t
 | _=>rfl
theorem Rep.put {N:Nat} {l:List AV} {s:Sl} (h:Rep N l s) {dst:Option Tmp} (hd:dstOk N dst) (v:AV):Rep N (putA l dst v) (putF s dst v):=by
 cases dst with
 | none=>exact h
 | some d =>
  refine ⟨by simp [putA,h.1],fun t=>?_⟩
  have hd':d<l.length:=by rw [h.1];exact hd
  by_cases e:t=d
  ·subst e;simp [putA,putF,upd,hd',List.getD_eq_getElem?_getD]
  ·rw [putF,upd_other e,←h.2 t];simp only [putA,List.getD_eq_getElem?_getD];rw [List.getElem?_set_ne (Ne.symm e)]
theorem Rep.wanted {N:Nat} {l:List AV} {s:Sl} (h:Rep N l s) {ops:Array Oper} {o:Oper} {b:Bool} (hw:wantedF ops s o=some b):wantedA ops l o=some b:=by
 unfold wantedF at hw;unfold wantedA
 cases hg:o.guard with
 | none=>rw [hg] at hw;exact hw
 | some jw =>
  obtain ⟨j,want⟩:=jw
  rw [hg] at hw
  simp only at hw ⊢
  cases hd:(ops[j]?).bind (·.dst) with
  | none=>rw [hd] at hw;exact hw
  | some d =>
   rw [hd] at hw
   simp only at hw ⊢
   have h1:=h.2 d
   rw [List.getD_eq_getElem?_getD] at h1
   cases hl:l[d]? with
   | none=>rw [hl] at h1;simp at h1;rw [←h1] at hw;cases hw
   | some x=>rw [hl] at h1;simp at h1;rw [←h1] at hw;cases x<;>exact hw
section wp
variable (P:Program) (C:Cfg) (N base:Nat)
def CallW (f:AV) (args:List AV) (H:Heap) (K:AV→Heap→Prop):Prop:=∃n v H',callA P C n base f args H=some (v,H')∧K v H'
def FuncW (f:FuncId) (args:List AV) (H:Heap) (K:AV→Heap→Prop):Prop:=∃n v H',funcA P C n base f args H=some (v,H')∧K v H'
def OpW (ρ:Operand→AV) (o:Oper) (H:Heap) (K:AV→Heap→Prop):Prop :=
 match opA P C base H ρ o with | some (v,H')=>K v H' | none=>False
def wpOp (o:Oper) (s:Sl) (H:Heap) (K:AV→Heap→Prop):Prop :=
 match o.op with
 | .call { callee:=.value f,args,.. }=>CallW P C base (valF s f) (args.toList.map (valF s)) H K
 | _=>OpW P C base (valF s) o H K
def wantW (b:Option Bool) (K:Prop) (A:Prop):Prop:=match b with | some true=>A | some false=>K | none=>False
def wpStep (ops:Array Oper) (o:Oper) (s:Sl) (H:Heap) (K:AV→Heap→Prop):Prop :=
 wantW (wantedF ops s o) (K (.tup []) H) (wpOp P C base o s H K)
def wpOps (ops:Array Oper):List Oper→Sl→Heap→(Sl→Heap→Prop)→Prop
 | [],s,H,Q=>Q s H
 | o::l,s,H,Q=>dstOk N o.dst∧wpStep P C base ops o s H fun v H'=>wpOps ops l (putF s o.dst v) H' Q
abbrev Post:=AExit→Sl→Heap→Prop
def seqQ (W:Sl→Heap→Post→Prop) (Q:Post):Post:=fun e s H=>match e with | .normal=>W s H Q | .exit i=>Q (.exit i) s H | .ret=>Q .ret s H
def condW (v:AV) (A B:Prop):Prop:=match v with | .bool true=>A | .bool false=>B | _=>False
def blockQ (id:Nat) (Q:Post):Post:=fun e s H=>match e with | .exit i=>if i=id then Q .normal s H else Q (.exit i) s H | .normal=>Q .normal s H | .ret=>Q .ret s H
def loopN (W:Sl→Heap→Post→Prop) (Q:Post):Nat→Sl→Heap→Prop
 | 0,_,_=>False
 | n+1,s,H=>W s H fun e s' H'=>match e with | .normal=>loopN W Q n s' H' | .exit i=>Q (.exit i) s' H' | .ret=>Q .ret s' H'
def LoopW (W:Sl→Heap→Post→Prop) (s:Sl) (H:Heap) (Q:Post):Prop:=∃n,loopN W Q n s H
def DrawW (ops:Array Oper) (s:Sl) (H:Heap) (Q:Sl→Heap→Prop):Prop :=
 ∀l,Rep N l s→∃n tr l' s' H',runT P ops (fun o s H=>stepA P C n base ops o s H) ops.toList l H=some (tr,l',H')∧drawOkT ops tr H' (fun o s H=>stepA P C n base ops o s H)=true∧Rep N l' s'∧Q s' H'
end wp
variable {P:Program} {C:Cfg} {N base:Nat}
theorem CallW.mono {f:AV} {args:List AV} {H:Heap} {K K':AV→Heap→Prop} (h:CallW P C base f args H K) (hk:∀v H,K v H→K' v H):CallW P C base f args H K':=by
 obtain ⟨n,v,H',h1,h2⟩:=h;exact ⟨n,v,H',h1,hk _ _ h2⟩
theorem FuncW.mono {f:FuncId} {args:List AV} {H:Heap} {K K':AV→Heap→Prop} (h:FuncW P C base f args H K) (hk:∀v H,K v H→K' v H):FuncW P C base f args H K':=by
 obtain ⟨n,v,H',h1,h2⟩:=h;exact ⟨n,v,H',h1,hk _ _ h2⟩
theorem wpOp_iff {o:Oper} {s:Sl} {H:Heap} {K:AV→Heap→Prop} (h:wpOp P C base o s H K) :
 (∃f args ats,o.op=.call { callee:=.value f,args,argTypes:=ats }∧CallW P C base (valF s f) (args.toList.map (valF s)) H K)∨
 ((∀f args ats,o.op≠.call { callee:=.value f,args,argTypes:=ats })∧OpW P C base (valF s) o H K):=by
 unfold wpOp at h
 split at h
 ·rename_i f args ats e;exact .inl ⟨f,args,ats,e,h⟩
 ·rename_i hne;exact .inr ⟨fun f args ats e=>hne f args ats e,h⟩
theorem stepA_op {n:Nat} {ops:Array Oper} {o:Oper} {l:List AV} {H:Heap} (hw:wantedA ops l o=some true) (hne:∀f args ats,o.op≠.call { callee:=.value f,args,argTypes:=ats }) :
 stepA P C (n+1) base ops o l H=opA P C base H (evalOperand l) o:=by
 unfold stepA
 rw [hw]
 simp only
theorem stepA_call {n:Nat} {ops:Array Oper} {o:Oper} {l:List AV} {H:Heap} (hw:wantedA ops l o=some true) {f:Operand} {args:Array Operand} {ats:Array TypeId} (e:o.op=.call { callee:=.value f,args,argTypes:=ats }) :
 stepA P C (n+1) base ops o l H=callA P C n base (evalOperand l f) (args.toList.map (evalOperand l)) H:=by
 simp only [stepA,hw,e]
theorem stepA_idle {n:Nat} {ops:Array Oper} {o:Oper} {l:List AV} {H:Heap} (hw:wantedA ops l o=some false):stepA P C (n+1) base ops o l H=some (.tup [],H):=by
 unfold stepA
 rw [hw]
theorem wpStep_sound {ops:Array Oper} {o:Oper} {s:Sl} {H:Heap} {K:AV→Heap→Prop} (h:wpStep P C base ops o s H K) {l:List AV} (hr:Rep N l s) :
 ∃n v H',stepA P C n base ops o l H=some (v,H')∧K v H':=by
 unfold wpStep wantW at h
 have hρ:evalOperand l=valF s:=funext hr.val
 split at h
 ·rename_i hw
  have hw:=hr.wanted hw
  rcases wpOp_iff h with ⟨f,args,ats,e,n,v,H',h1,h2⟩ | ⟨hne,h1⟩
  ·exact ⟨n+1,v,H',by rw [stepA_call hw e,hρ];exact h1,h2⟩
  ·unfold OpW at h1
   split at h1
   ·rename_i v H' ho;exact ⟨1,v,H',by rw [stepA_op hw hne,hρ];exact ho,h1⟩
   ·exact h1.elim
 ·rename_i hw;exact ⟨1,.tup [],H,stepA_idle (hr.wanted hw),h⟩
 ·exact h.elim
theorem wpOps_sound {ops:Array Oper}:∀{os:List Oper} {s:Sl} {H:Heap} {Q:Sl→Heap→Prop} (_:wpOps P C N base ops os s H Q) {l:List AV} (_:Rep N l s),
 ∃n l' s' H',seqA P C n base ops os l H=some (l',H')∧Rep N l' s'∧Q s' H'
 | [],s,H,Q,h,l,hr=>⟨1,l,s,H,by unfold seqA;rfl,hr,h⟩
 | o::os,s,H,Q,h,l,hr=>by
  unfold wpOps at h
  obtain ⟨n,v,H',h1,h2⟩:=wpStep_sound h.2 hr
  obtain ⟨m,l',s',H'',h3,h4,h5⟩:=wpOps_sound h2 (hr.put h.1 v)
  refine ⟨n+m+1,l',s',H'',?_,h4,h5⟩
  unfold seqA
  rw [stepA_mono (Nat.le_add_right n m) h1]
  exact seqA_mono (Nat.le_add_left m n) h3
theorem wantW_mono {b:Option Bool} {K K' A A':Prop} (h:wantW b K A) (hk:K→K') (ha:A→A'):wantW b K' A':=by
 unfold wantW at h ⊢
 split at h
 ·exact ha h
 ·exact hk h
 ·exact h.elim
theorem wpStep_mono {ops:Array Oper} {o:Oper} {s:Sl} {H:Heap} {K K':AV→Heap→Prop} (h:wpStep P C base ops o s H K) (hk:∀v H,K v H→K' v H):wpStep P C base ops o s H K':=by
 refine wantW_mono h (hk _ _) fun h=>?_
 unfold wpOp at h ⊢
 split at h
 ·exact h.mono hk
 ·unfold OpW at h ⊢
  split at h
  ·exact hk _ _ h
  ·exact h.elim
theorem wpOps_mono {ops:Array Oper} {Q Q':Sl→Heap→Prop} (hq:∀s H,Q s H→Q' s H):∀{os:List Oper} {s:Sl} {H:Heap},wpOps P C N base ops os s H Q→wpOps P C N base ops os s H Q'
 | [],s,H,h=>hq s H h
 | _::_,_,_,h=>⟨h.1,wpStep_mono h.2 fun _ _ h=>wpOps_mono hq h⟩
end Go.Proofs.Ev
