/- Part 0 of the proof that quiltlaw38.BlameTouching returns true: no statement of its own. -/
import Derived.WalkKit
set_option linter.all false
namespace Go.Proofs.Ev
inductive AV where
 | undef
 | bool (b:Bool)
 | int (k:IntKind) (n:Int)
 | str (s:List UInt8)
 | nilp
 | ptr (b g esz i off:Nat)
 | eptr (cells:List AV)
 | lst (rows:List (List AV)) (exact:Bool)
 | nils
 | sl (b g esz lo len:Nat)
 | asl (b g esz i off len:Nat)
 | nilm
 | map (b:Nat)
 | nilf
 | fn (f:FuncId) (caps:List AV)
 | yld (b:Nat)
 | agg (cells:List AV)
 | tup (vs:List AV)
 deriving Inhabited
inductive bQ where
 | dead
 | rows (esz g:Nat) (rs:List (List AV))
 | map (es:List (AV×AV))
 | loop (ready:Bool) (pending:Option Code) (slots:List AV) (ps:List Tmp) (assign body:Code)
 | it (m:AV) (n st:Nat)
 deriving Inhabited
abbrev ag:=List bQ
def AV.leaf:AV→Bool
 | .undef | .agg _ | .tup _=>false
 | _=>true
def AV.cells:AV→List AV
 | .agg cs=>cs
 | v=>[v]
mutual
def AV.beq:AV→AV→Bool
 | .undef,.undef=>true
 | .bool a,.bool b=>a==b
 | .int j a,.int k b=>decide (j=k)&&a==b
 | .str a,.str b=>a==b
 | .nilp,.nilp=>true
 | .ptr a b c d e,.ptr a' b' c' d' e'=>a==a'&&b==b'&&c==c'&&d==d'&&e==e'
 | .eptr a,.eptr b=>AV.beqs a b
 | .lst a x,.lst b y=>AV.beqss a b&&x==y
 | .sl a b c d e,.sl a' b' c' d' e'=>a==a'&&b==b'&&c==c'&&d==d'&&e==e'
 | .asl a b c d e f,.asl a' b' c' d' e' f'=>a==a'&&b==b'&&c==c'&&d==d'&&e==e'&&f==f'
 | .nilm,.nilm=>true
 | .nils,.nils=>true
 | .map a,.map b=>a==b
 | .nilf,.nilf=>true
 | .fn f a,.fn g b=>f==g&&AV.beqs a b
 | .yld a,.yld b=>a==b
 | .agg a,.agg b=>AV.beqs a b
 | .tup a,.tup b=>AV.beqs a b
 | _,_=>false
def AV.beqs:List AV→List AV→Bool
 | [],[]=>true
 | a::l,b::m=>AV.beq a b&&AV.beqs l m
 | _,_=>false
def AV.beqss:List (List AV)→List (List AV)→Bool
 | [],[]=>true
 | a::l,b::m=>AV.beqs a b&&AV.beqss l m
 | _,_=>false
end
mutual
def AV.closed:AV→Bool
 | .undef | .ptr .. | .sl .. | .asl .. | .map _ | .yld _=>false
 | .eptr cs=>AV.closeds cs
 | .lst rs _=>AV.closedss rs
 | .fn _ cs=>AV.closeds cs
 | .agg cs=>AV.closeds cs
 | .tup cs=>AV.closeds cs
 | _=>true
def AV.closeds:List AV→Bool
 | []=>true
 | v::l=>AV.closed v&&AV.closeds l
def AV.closedss:List (List AV)→Bool
 | []=>true
 | v::l=>AV.closeds v&&AV.closedss l
end
mutual
def AV.flat:AV→Bool
 | .bool _ | .int _ _ | .str _ | .nilp | .nils | .nilm | .nilf=>true
 | .agg cs=>AV.flats cs
 | .tup cs=>AV.flats cs
 | _=>false
def AV.flats:List AV→Bool
 | []=>true
 | v::l=>AV.flat v&&AV.flats l
end
def nx:Value→AV
 | .bool b=>.bool b
 | .int k n=>.int k n
 | .string s=>.str s.data.toList
 | .pointer none=>.nilp
 | .slice none 0 0=>.nils
 | .map none=>.nilm
 | .nilFunc=>.nilf
 | _=>.undef
def ofValue:Value→AV
 | .agg cs=>let l:=cs.toList.map nx;if l.all AV.leaf then .agg l else .undef
 | v=>nx v
def AV.denil:AV→AV
 | .nils=>.lst [] true
 | v=>v
def aU (slots:List AV):Operand→AV
 | .tmp t=>slots.getD t .undef
 | .const v=>ofValue v
 | .global _=>.undef
 | .func f=>.fn f []
section ops
variable (P:Program)
def bF (t:TypeId):Option Nat:=(P.info? t).map (·.size)
def bytesOf (t:TypeId):Option Nat:=(P.info? t).map (·.bytes)
def bb (t:TypeId):Option Bool:=(P.underlying t).map fun | .struct _ | .array _ _=>true | _=>false
def gG (t:TypeId) (cells:List AV):Option AV :=
 match bb P t with
 | some true =>
  match bF P t with
  | some n=>if n≤cells.length then some (.agg (cells.take n)) else none
  | none=>none
 | some false=>cells.head?
 | none=>none
def me (H:ag):AV→Option (List AV)
 | .ptr b g esz i off =>
  match H[b]? with
  | some (.rows esz' g' rs)=>if g=g'∧esz=esz' then (rs[i]?).map (·.drop off) else none
  | _=>none
 | .eptr cells=>some cells
 | _=>none
def jH (H:ag) (t:TypeId) (x:AV):Option AV:=(me H x).bind (gG P t)
def ao (base:Nat) (H:ag) (t:TypeId) (x v:AV):Option ag :=
 match x,bF P t with
 | .ptr b g esz i off,some n =>
  let cs:=v.cells
  if base≤b∧cs.length=n∧cs.all AV.leaf=true then
   match H[b]? with
   | some (.rows esz' g' rs) =>
    if g=g'∧esz=esz' then
     match rs[i]? with
     | some row=>if off+n≤row.length then some (H.set b (.rows esz' g' (rs.set i (row.take off++cs++row.drop (off+n))))) else none
     | none=>none
    else none
   | _=>none
  else none
 | _,_=>none
def bp (x:AV) (n:Nat):Option AV :=
 match x with
 | .ptr b g esz i off=>some (.ptr b g esz i (off+n))
 | .eptr cells=>if n≤cells.length then some (.eptr (cells.drop n)) else none
 | _=>none
def bD (t:TypeId) (x:AV) (f:Nat):Option AV :=
 match P.underlying t with
 | some (.struct fields) =>
  match fields[f]? with
  | some fd =>
   match bF P fd.type with
   | some (_+1)=>bp x fd.offset
   | _=>none
  | none=>none
 | _=>none
def ii (v:AV) (len:Nat):Option Nat :=
 match v with
 | .int _ i=>if 0≤i∧i<len then some i.toNat else none
 | _=>none
def aY (t:TypeId) (x ix:AV):Option AV :=
 match P.underlying t with
 | some (.array len elem) =>
  match ii ix len,bF P elem with
  | some i,some n=>bp x (i*n)
  | _,_=>none
 | some (.slice elem) =>
  match bF P elem,x with
  | some n,.sl b g esz lo len=>if n=esz then (ii ix len).map fun i=>.ptr b g esz (lo+i) 0 else none
  | some n,.asl b g esz i off len=>if n=1 then (ii ix len).map fun k=>.ptr b g esz i (off+k) else none
  | some n,.lst rows _ =>
   match ii ix rows.length with
   | some i =>
    match rows[i]? with
    | some row=>if row.length=n then some (.eptr row) else none
    | none=>none
   | none=>none
  | _,_=>none
 | _=>none
def nC (t:TypeId) (cells:List AV) (off:Nat):Option AV :=
 if off≤cells.length then gG P t (cells.drop off) else none
def lf (t:TypeId) (x ix:AV):Option AV :=
 match P.underlying t,x with
 | some (.array len elem),.agg cs =>
  match ii ix len,bF P elem with
  | some i,some n=>nC P elem cs (i*n)
  | _,_=>none
 | some .string,.str s =>
  match ii ix s.length with
  | some i=>(s[i]?).map fun b=>.int .u8 b.toNat
  | none=>none
 | _,_=>none
def bJ (len cap:Nat) (lo hi:Option AV):Option (Nat×Nat) :=
 match (match hi with | some v=>ii v (cap+1) | none=>some len) with
 | some h =>
  match (match lo with | some v=>ii v (h+1) | none=>some 0) with
  | some l=>some (l,h)
  | none=>none
 | none=>none
def wide (n:Option Nat):List (List AV)→Bool
 | []=>n.isSome
 | r::_=>n==some r.length
def cX (t:TypeId) (x:AV) (lo hi mx:Option AV):Option AV :=
 match P.underlying t,x,mx with
 | some .string,.str s,none=>(bJ s.length s.length lo hi).map fun (l,h)=>.str ((s.take h).drop l)
 | some (.slice elem),.lst rows e,none =>
  if wide (bF P elem) rows then (bJ rows.length rows.length lo hi).map fun (l,h)=>.lst ((rows.take h).drop l) (e&&h==rows.length) else none
 | some (.slice elem),.sl b g esz a len,none =>
  if bF P elem=some esz then (bJ len len lo hi).map fun (l,h)=>if h=l then .lst [] false else .sl b g esz (a+l) (h-l) else none
 | some (.slice elem),.asl b g esz i off len,none =>
  if bF P elem=some 1 then (bJ len len lo hi).map fun (l,h)=>if h=l then .lst [] false else .asl b g esz i (off+l) (h-l) else none
 | some (.slice elem),.lst rows _,some m =>
  match ii m (rows.length+1),hi with
  | some m,some hi=>if wide (bF P elem) rows then (bJ m m lo (some hi)).map fun (l,h)=>.lst ((rows.take h).drop l) (h==m) else none
  | _,_=>none
 | some (.slice elem),.sl _ _ _ _ len,some m =>
  match ii m (len+1),hi,bF P elem with
  | some m,some hi,some _=>(bJ m m lo (some hi)).bind fun (l,h)=>if h=l then some (.lst [] (h==m)) else none
  | _,_,_=>none
 | some (.array n elem),.ptr b g esz i off,none =>
  if bF P elem=some 1 then
   (bJ n n lo hi).map fun (l,h)=>if h=l then .lst [] false else .asl b g esz i (off+l) (h-l)
  else none
 | some (.array n elem),.eptr cells,none =>
  if bF P elem=some 1∧n≤cells.length then
   (bJ n n lo hi).map fun (l,h)=>.lst (((cells.take h).drop l).map fun c=>[c]) false
  else none
 | _,_,_=>none
def aQ (t:TypeId):Option AV :=
 match (P.info? t).bind (·.zero) with
 | some v=>match ofValue v with | .undef=>none | a=>some a
 | none=>none
def iK (H:ag) (g:Nat) (v:AV):AV×ag :=
 let cs:=v.cells
 (.ptr H.length g cs.length 0 0,H++[.rows cs.length g [cs]])
def fq (H:ag) (v:AV):AV×ag:=iK H 0 v
def dO (t:TypeId):Nat :=
 match P.underlying t with
 | some (.struct fs) =>
  match fs[0]? with
  | some f=>match P.underlying f.type with | some (.pointer u)=>if u=t then 1 else 0 | _=>0
  | none=>0
 | _=>0
def aE (place:Nat→Option (Nat×Nat)) (cells:List AV):List (Nat×AV)→Option (List AV)
 | []=>some cells
 | (i,v)::rest =>
  match place i with
  | none=>none
  | some (off,size) =>
   let cs:=v.cells
   if cs.length=size∧off+size≤cells.length∧cs.all AV.leaf=true then aE place (cells.take off++cs++cells.drop (off+size)) rest else none
def ed (t:TypeId) (parts:List (Nat×AV)):Option AV :=
 match aQ P t,P.underlying t with
 | some z,some (.struct fields) =>
  match fields.toList.mapM (fun f=>(bF P f.type).map fun s=>(f.offset,s)) with
  | some places=>(aE (places[·]?) z.cells parts).map .agg
  | none=>none
 | some z,some (.array _ elem) =>
  match bF P elem with
  | some s=>(aE (fun i=>some (i*s,s)) z.cells parts).map .agg
  | none=>none
 | _,_=>none
def au (s:Nat) (rows:List (List AV)):List (Nat×AV)→Option (List (List AV))
 | []=>some rows
 | (i,v)::rest =>
  let cs:=v.cells
  if cs.length=s∧i<rows.length∧cs.all AV.leaf=true then au s (rows.set i cs) rest else none
def aj (t:TypeId) (len:Nat) (parts:List (Nat×AV)):Option AV :=
 match P.underlying t with
 | some (.slice elem) =>
  match bF P elem with
  | some s =>
   if len*s≤2^24∧0<s then
    if len=0 then (if parts.isEmpty then some (.lst [] true) else none) else
    match aQ P elem with
    | some z=>if z.cells.length=s then (au s (List.replicate len z.cells) parts).map (.lst · true) else none
    | none=>none
   else none
  | none=>none
 | _=>none
def pr (H:ag) (t:TypeId) (len cap:AV):Option (AV×ag) :=
 match P.underlying t,len,cap with
 | some (.slice elem),.int .i64 l,.int .i64 c =>
  match bF P elem,bytesOf P elem,aQ P elem with
  | some s,some by_,some z =>
   if l≤c∧0≤l∧by_*c≤2^46∧c≤2^46∧z.cells.length=s∧0<s then
    some (.sl H.length 0 s 0 l.toNat,H++[.rows s 0 (List.replicate l.toNat z.cells)])
   else none
  | _,_,_=>none
 | _,_,_=>none
def cF (H:ag):AV→Option (List (List AV))
 | .lst rows _=>some rows
 | .sl b g esz lo len =>
  match H[b]? with
  | some (.rows esz' g' rs)=>if g=g'∧esz=esz'∧lo+len≤rs.length then some ((rs.drop lo).take len) else none
  | _=>none
 | .asl b g esz i off len =>
  match H[b]? with
  | some (.rows esz' g' rs) =>
   if g=g'∧esz=esz' then
    match rs[i]? with
    | some row=>if off+len≤row.length then some (((row.drop off).take len).map fun c=>[c]) else none
    | none=>none
   else none
  | _=>none
 | _=>none
def cQ (H:ag):TypeDesc→AV→Option (List (List AV))
 | .string,.str l=>some (l.map fun b=>[AV.int .u8 b.toNat])
 | .slice _,x=>cF H x
 | _,_=>none
def c8 (t:TypeId) (sz:Nat):Nat :=
 if sz=1 then
  match P.info? t with
  | some i=>match i.desc with | .int .u8=>2 | _=>0
  | none=>0
 else 0
def fm (t:TypeId) (sz g:Nat):Nat:=if g % 4=2∧c8 P t sz=2 then 4*g+6 else 4*g+4
def bA (base:Nat) (H:ag) (argTypes:Array TypeId) (s x:AV):Option (AV×ag) :=
 match (argTypes[0]?).bind P.underlying,(argTypes[1]?).bind P.underlying with
 | some (.slice elem),some xd =>
  match bF P elem,bytesOf P elem with
  | some sz,some by_ =>
   match cQ H xd x with
   | some ys =>
    if ys.all (fun r=>decide (r.length=sz))∧0<sz∧(aQ P elem).map (fun z=>z.cells.length)=some sz then
     match s with
     | .lst rows e =>
      if ys.isEmpty then some (s,H) else
      if e=true∧(rows.length+ys.length)*(by_+1)≤2^45∧rows.all (fun r=>decide (r.length=sz)) then
       some (.sl H.length (c8 P elem sz) sz 0 (rows.length+ys.length),H++[.rows sz (c8 P elem sz) (rows++ys)])
      else none
     | .sl b g esz 0 len =>
      match H[b]? with
      | some (.rows esz' g' rs) =>
       if base≤b∧g=g'∧esz=esz'∧sz=esz∧len=rs.length∧(len+ys.length)*(by_+1)≤2^45 then
        some (.sl b (fm P elem esz g) esz 0 (len+ys.length),H.set b (.rows esz (fm P elem esz g) (rs++ys)))
       else none
      | _=>none
     | _=>none
    else none
   | none=>none
  | _,_=>none
 | _,_=>none
inductive LK where
 | int (k:IntKind) | str | bool
 deriving DecidableEq,Inhabited
structure bG where
 prim:FuncId→Option (Nat→List AV→ag→Option (AV×ag))
 pure:FuncId→Bool
 frz:FuncId→Bool:=fun _=>false
 kinds:TypeId→Option (List LK)
def gj:AV→Option LK
 | .int k _=>some (.int k)
 | .str _=>some .str
 | .bool _=>some .bool
 | _=>none
def mc:AV→AV→Bool
 | .int _ a,.int _ b=>a==b
 | .str a,.str b=>a==b
 | .bool a,.bool b=>a==b
 | _,_=>false
def dq:List LK→List AV→Bool
 | [],[]=>true
 | k::ks,c::cs=>gj c==some k&&dq ks cs
 | _,_=>false
def bP:List AV→List AV→Bool
 | a::l,b::m=>mc a b&&bP l m
 | _,_=>true
variable (C:bG)
def pI (t:TypeId) (x y:AV):Option Bool :=
 match x,y with
 | .agg xs,.agg ys =>
  match C.kinds t with
  | some ks=>if dq ks xs&&dq ks ys then some (bP xs ys) else none
  | none=>none
 | .bool a,.bool b=>match P.underlying t with | some .bool=>some (a==b) | _=>none
 | .nilp,.nilp=>match P.underlying t with | some (.pointer _)=>some true | _=>none
 | .nilp,.ptr ..=>match P.underlying t with | some (.pointer _)=>some false | _=>none
 | .nilp,.eptr ..=>match P.underlying t with | some (.pointer _)=>some false | _=>none
 | .ptr ..,.nilp=>match P.underlying t with | some (.pointer _)=>some false | _=>none
 | .eptr ..,.nilp=>match P.underlying t with | some (.pointer _)=>some false | _=>none
 | .nils,.nils=>match P.underlying t with | some (.slice _)=>some true | _=>none
 | .lst (_::_) _,.nils=>match P.underlying t with | some (.slice _)=>some false | _=>none
 | .sl ..,.nils=>match P.underlying t with | some (.slice _)=>some false | _=>none
 | .asl ..,.nils=>match P.underlying t with | some (.slice _)=>some false | _=>none
 | _,_=>none
def bU (op:BinOp) (t:TypeId) (x y:AV):Option AV :=
 match x,y with
 | .int k a,.int k' b =>
  match op with
  | .shl=>if 0≤b then some (.int k (k.wrap (a*2^(min b.toNat k.bits)))) else none
  | .shr=>if 0≤b then some (.int k (a.fdiv (2^(min b.toNat k.bits)))) else none
  | op =>
   if k=k' then
    match op with
    | .add=>some (.int k (k.wrap (a+b)))
    | .sub=>some (.int k (k.wrap (a-b)))
    | .mul=>some (.int k (k.wrap (a*b)))
    | .quo=>if b=0 then none else some (.int k (k.wrap (a.tdiv b)))
    | .rem=>if b=0 then none else some (.int k (a.tmod b))
    | .and=>some (.int k (k.wrap (BitVec.ofInt k.bits a &&& BitVec.ofInt k.bits b).toNat))
    | .or=>some (.int k (k.wrap (BitVec.ofInt k.bits a ||| BitVec.ofInt k.bits b).toNat))
    | .xor=>some (.int k (k.wrap (BitVec.ofInt k.bits a ^^^ BitVec.ofInt k.bits b).toNat))
    | .andNot=>some (.int k (k.wrap (BitVec.ofInt k.bits a &&& ~~~(BitVec.ofInt k.bits b)).toNat))
    | .eql=>some (.bool (a==b))
    | .neq=>some (.bool (a != b))
    | .lss=>some (.bool (a<b))
    | .leq=>some (.bool (a≤b))
    | .gtr=>some (.bool (a > b))
    | .geq=>some (.bool (a≥b))
    | _=>none
   else none
 | .str a,.str b =>
  match op with
  | .add=>if ((a.length+b.length:Nat):Int)≤9223372036854775807 then some (.str (a++b)) else none
  | .eql=>some (.bool (a==b))
  | .neq=>some (.bool !(a==b))
  | .lss=>some (.bool (Op.bytesLess a b))
  | .leq=>some (.bool (Op.bytesLess a b||a==b))
  | .gtr=>some (.bool !(Op.bytesLess a b||a==b))
  | .geq=>some (.bool !(Op.bytesLess a b))
  | _=>none
 | x,y =>
  match op with
  | .eql=>(pI P C t x y).map .bool
  | .neq=>(pI P C t x y).map fun b=>.bool !b
  | _=>none
def Lu (op:UnOp) (x:AV):Option AV :=
 match op,x with
 | .neg,.int k n=>some (.int k (k.wrap (0-n)))
 | .xor,.int k n=>some (.int k (k.wrap (BitVec.ofInt k.bits (if k.signed then -1 else k.max) ^^^ BitVec.ofInt k.bits n).toNat))
 | .not,.bool b=>some (.bool !b)
 | _,_=>none
def gi:List (List AV)→Option (List UInt8)
 | []=>some []
 | [.int .u8 n]::l=>(gi l).map (UInt8.ofNat n.toNat::·)
 | _=>none
def bi (H:ag) (src dst:TypeId) (x:AV):Option (AV×ag) :=
 match P.underlying src,P.underlying dst,x with
 | some _,some (.int k),.int _ n=>some (.int k (k.wrap n),H)
 | some .string,some .string,.str s=>some (.str s,H)
 | some .string,some (.slice e),.str s =>
  match P.underlying e with
  | some (.int .u8)=>if s.length≤2^46 then some (.sl H.length 0 1 0 s.length,H++[.rows 1 0 (s.map fun b=>[.int .u8 b.toNat])]) else none
  | _=>none
 | some (.slice e),some .string,x =>
  match P.underlying e with
  | some (.int .u8)=>((cF H x).bind gi).map fun l=>(.str l,H)
  | _=>none
 | _,_,_=>none
def fN (t:TypeId) (k k':AV):Option Bool :=
 match k,k' with
 | .int a x,.int b y=>if a=b then some (x==y) else none
 | .str x,.str y=>some (x==y)
 | x,y=>pI P C t x y
def eh (t:TypeId) (k:AV):List (AV×AV)→Nat→Option (Option (Nat×AV))
 | [],_=>some none
 | (k',v)::es,i =>
  match fN P C t k k' with
  | some true=>some (some (i,v))
  | some false=>eh t k es (i+1)
  | none=>none
def i8 (t:TypeId) (k:AV):Bool :=
 match k,P.underlying t with
 | .int _ _,some (.int _)=>true
 | .str _,some .string=>true
 | .bool _,some .bool=>true
 | .agg cs,some _=>match C.kinds t with | some ks=>dq ks cs | none=>false
 | _,_=>false
def iw (H:ag):AV→Option (List (AV×AV))
 | .nilm=>some []
 | .map b=>match H[b]? with | some (.map es)=>some es | _=>none
 | _=>none
def cu (H:ag) (t:TypeId) (m k:AV) (commaOk:Bool):Option AV :=
 match P.underlying t with
 | some (.map kt et) =>
  if i8 P C kt k then
   match iw H m with
   | some es =>
    match eh P C kt k es 0,aQ P et with
    | some (some (_,v)),_=>some (if commaOk then .tup [v,.bool true] else v)
    | some none,some z=>some (if commaOk then .tup [z,.bool false] else z)
    | _,_=>none
   | none=>none
  else none
 | _=>none
def dB (base:Nat) (H:ag) (t:TypeId) (m k v:AV):Option ag :=
 match P.underlying t,m with
 | some (.map kt _),.map b =>
  if base≤b∧i8 P C kt k=true then
   match H[b]? with
   | some (.map es) =>
    match eh P C kt k es 0 with
    | some (some (i,_))=>some (H.set b (.map (es.set i (k,v))))
    | some none=>some (H.set b (.map (es++[(k,v)])))
    | none=>none
   | _=>none
  else none
 | _,_=>none
def gE (base:Nat) (H:ag) (t:TypeId) (m k:AV):Option (AV×ag) :=
 match P.underlying t,m with
 | some (.map kt et),.map b =>
  if base≤b∧i8 P C kt k=true then
   match H[b]? with
   | some (.map es) =>
    match eh P C kt k es 0 with
    | some (some (i,v))=>some (.tup [v,.int .i64 i],H.set b (.map (es.set i (k,v))))
    | some none=>match aQ P et with | some z=>some (.tup [z,.int .i64 es.length],H.set b (.map (es++[(k,z)]))) | none=>none
    | none=>none
   | _=>none
  else none
 | _,_=>none
def gt (base:Nat) (H:ag) (m s x:AV):Option ag :=
 match m,s with
 | .map b,.int .i64 n =>
  if base≤b∧0≤n then
   match H[b]? with
   | some (.map es)=>match es[n.toNat]? with | some (k,_)=>some (H.set b (.map (es.set n.toNat (k,x)))) | none=>none
   | _=>none
  else none
 | _,_=>none
def fc (H:ag) (t:TypeId) (x:AV):Option AV :=
 match P.underlying t,x with
 | some .string,.str s=>some (.int .i64 s.length)
 | some (.array n _),_=>some (.int .i64 n)
 | some (.slice _),.lst rows _=>some (.int .i64 rows.length)
 | some (.slice _),.sl _ _ _ _ len=>some (.int .i64 len)
 | some (.slice _),.asl _ _ _ _ _ len=>some (.int .i64 len)
 | some (.map _ _),.nilm=>some (.int .i64 0)
 | some (.map _ _),.map b=>match H[b]? with | some (.map es)=>some (.int .i64 es.length) | _=>none
 | _,_=>none
def mf (base:Nat) (H:ag) (t:TypeId) (x:AV):Option ag :=
 match P.underlying t,x with
 | some (.slice elem),.sl b g esz lo len =>
  match H[b]?,bF P elem,aQ P elem with
  | some (.rows esz' g' rs),some sz,some z =>
   if base≤b∧g=g'∧esz=esz'∧sz=esz∧z.cells.length=esz∧lo+len=rs.length∧0<len∧0<esz then
    some (H.set b (.rows esz' g' (rs.take lo++List.replicate len z.cells)))
   else none
  | _,_,_=>none
 | some (.slice _),.lst [] _=>some H
 | _,_=>none
def Cg (H:ag) (t:TypeId) (x:AV):Option (AV×ag) :=
 match P.underlying t,x with
 | some (.map _ _),.nilm=>some (.ptr H.length 0 0 0 0,H++[.it .nilm 0 0])
 | some (.map _ _),.map b =>
  match H[b]? with
  | some (.map es)=>if es.length≤1 then some (.ptr H.length 0 0 0 0,H++[.it (.map b) es.length 0]) else none
  | _=>none
 | _,_=>none
def Hn (base:Nat) (H:ag) (x:AV):Option (AV×ag) :=
 match x with
 | .ptr b 0 0 0 0 =>
  match H[b]? with
  | some (.it m n st) =>
   match m,iw H m with
   | .nilm,_=>some (.tup [.bool false],H)
   | .map _,some []=>if st=0 then some (.tup [.bool false],H) else none
   | .map _,some [(k,v)]=>if n=1 then if st=0 then if base≤b then some (.tup [.bool true,k,v],H.set b (.it m n 1)) else none else some (.tup [.bool false],H) else none
   | _,_=>none
  | _=>none
 | _=>none
def Bp (H:ag) (x:AV):Option AV :=
 match x with
 | .ptr b 0 0 0 0 =>
  match H[b]? with
  | some (.it (.map mb) n st)=>if n=1∧st=1 then match H[mb]? with | some (.map [(k,v)])=>some (.tup [k,v]) | _=>none else none
  | _=>none
 | _=>none
def mz (H:ag):Option AV→Option (AV×ag)
 | some x=>some (x,H)
 | none=>none
def xS:Option ag→Option (AV×ag)
 | some h=>some (.tup [],h)
 | none=>none
def wm (base:Nat) (H:ag) (ρ:Operand→AV) (o:Oper):Option (AV×ag) :=
 match o.op with
 | .move x | .assign x=>some (ρ x,H)
 | .pick c a b=>match ρ c with | .bool t=>some (if t then ρ a else ρ b,H) | _=>none
 | .alloc t=>match aQ P t with | some z=>if some z.cells.length=bF P t then some (iK H (dO P t) z) else none | none=>none
 | .box _ x=>if (ρ x).cells.all AV.leaf then some (fq H (ρ x)) else none
 | .build t ps=>mz H (ed P t (ps.toList.map fun (i,x)=>(i,ρ x)))
 | .buildSlice t len ps=>mz H (aj P t len (ps.toList.map fun (i,x)=>(i,ρ x)))
 | .load t a=>mz H (jH P H t (ρ a))
 | .store t a x=>xS (ao P base H t (ρ a) (ρ x))
 | .nilCheck x=>match ρ x with | .ptr b g e i f=>some (.ptr b g e i f,H) | .eptr c=>some (.eptr c,H) | .fn f c=>some (.fn f c,H) | _=>none
 | .binOp op t x y _=>mz H (bU P C op t (ρ x) (ρ y))
 | .unOp op _ x=>mz H (Lu op (ρ x))
 | .convert s d x=>bi P H s d (ρ x).denil
 | .makeFunc (.func f) first caps=>if first.isEmpty then some (.fn f (caps.toList.map ρ),H) else none
 | .makeMap _ none=>some (.map H.length,H++[.map []])
 | .makeSlice t l c=>pr P H t (ρ l) (ρ c)
 | .slice t x lo hi mx=>mz H (cX P t (ρ x).denil (lo.map ρ) (hi.map ρ) (mx.map ρ))
 | .fieldAddr t x f=>mz H (bD P t (ρ x) f)
 | .indexAddr t x i=>mz H (aY P t (ρ x) (ρ i))
 | .index t x i=>mz H (lf P t (ρ x).denil (ρ i))
 | .lookup t m k ok=>mz H (cu P C H t (ρ m) (ρ k) ok)
 | .mapUpdate t m k x | .insert t m k x=>xS (dB P C base H t (ρ m) (ρ k) (ρ x))
 | .mapEntry t m k=>gE P C base H t (ρ m) (ρ k)
 | .entryStore _ m s x=>xS (gt base H (ρ m) (ρ s) (ρ x))
 | .range t x=>Cg P H t (ρ x)
 | .next x false=>Hn base H (ρ x)
 | .entry x=>mz H (Bp H (ρ x))
 | .extract x i=>match ρ x with | .tup vs=>mz H (vs[i]?) | _=>none
 | .call { callee:=.builtin .len,args,argTypes } =>
  match argTypes[0]?,args[0]? with | some t,some x=>mz H (fc P H t (ρ x).denil) | _,_=>none
 | .call { callee:=.builtin .clear,args,argTypes } =>
  match argTypes[0]?,args[0]? with | some t,some x=>xS (mf P base H t (ρ x).denil) | _,_=>none
 | .call { callee:=.builtin .append,args,argTypes } =>
  match args[0]?,args[1]? with | some s,some x=>bA P base H argTypes (ρ s).denil (ρ x).denil | _,_=>none
 | _=>none
end ops
end Go.Proofs.Ev
namespace Go.Proofs.Ev
inductive jG where
 | normal
 | exit (id:Nat)
 | ret
 deriving DecidableEq,Inhabited
def jG.code:jG→Option Code
 | .normal=>none
 | .exit id=>some (.exit id)
 | .ret=>some .ret
def dL (ops:Array Oper) (slots:List AV) (o:Oper):Option Bool :=
 match o.guard with
 | none=>some true
 | some (j,want) =>
  match (ops[j]?).bind (·.dst) with
  | some d=>match slots[d]? with | some (.bool b)=>some (b==want) | some .undef=>none | _=>some false
  | none=>some false
def nF (slots:List AV) (dst:Option Tmp) (v:AV):List AV :=
 match dst with
 | some d=>slots.set d v
 | none=>slots
def aJ (H:ag) (k:Nat):Nat→AV→Option AV
 | 0,v=>if v.closed then some v else none
 | d+1,v =>
  if v.closed then some v else
  match v with
  | .sl b g esz lo len=>if k≤b then ((cF H (.sl b g esz lo len)).bind fun rows=>if AV.closedss rows then some rows else rows.mapM fun r=>r.mapM (aJ H k d)).map (.lst · false) else none
  | .asl b g esz i off len=>if k≤b then ((cF H (.asl b g esz i off len)).bind fun rows=>if AV.closedss rows then some rows else none).map (.lst · false) else none
  | .agg cs=>(cs.mapM (aJ H k d)).map .agg
  | .tup vs=>(vs.mapM (aJ H k d)).map .tup
  | .lst rows e=>(rows.mapM fun (r:List AV)=>r.mapM (aJ H k d)).map (.lst · e)
  | _=>none
def dJ (ps:List Tmp) (args slots:List AV):List AV :=
 match ps,args with
 | p::ps,v::args=>dJ ps args (slots.set p v)
 | _,_=>slots
def dR (P:Program) (H:ag) (slots:List AV):List ResultVar→Option (List AV)
 | []=>some []
 | .tmp t::l=>(dR P H slots l).map (slots.getD t .undef::·)
 | .cell a t::l =>
  match jH P H t (slots.getD a .undef),dR P H slots l with
  | some v,some vs=>some (v::vs)
  | _,_=>none
def ja:List AV→AV
 | [v]=>v
 | vs=>.tup vs
def ku (P:Program):Op→Nat
 | .move _ | .assign _ | .pick .. | .build .. | .buildSlice .. | .nilCheck _ | .binOp .. | .unOp .. | .makeFunc .. | .slice .. | .fieldAddr .. | .indexAddr .. | .index .. | .extract ..=>0
 | .load .. | .lookup .. | .call { callee:=.builtin .len,.. }=>1
 | .convert _ d _=>match P.underlying d with | some (.int _)=>0 | some .string=>1 | _=>2
 | .alloc t=>if dO P t=0 then 3 else 2
 | _=>2
structure Tr where
 s:List AV
 h:ag
 v:AV
 c:Nat
 deriving Inhabited
def looks (ops:Array Oper) (o:Oper):List Tmp :=
 (o.op.operands.toList.filterMap fun | .tmp t=>some t | _=>none) ++
 (match o.guard with
  | some (g,_)=>((ops[g]?).bind (·.dst)).toList
  | none=>[])
def iN (l:List Tmp) (s:List AV):List AV:=l.foldl (fun m t=>m.set t (s.getD t .undef)) (List.replicate s.length .undef)
def mB (P:Program) (ops:Array Oper) (step:Oper→List AV→ag→Option (AV×ag)):List Oper→List AV→ag→Option (List Tr×List AV×ag)
 | [],s,H=>some ([],s,H)
 | o::l,s,H =>
  match step o (iN (looks ops o) s) H with
  | some (v,H') =>
   match mB P ops step l (nF s o.dst v) H' with
   | some (t,s',H'')=>some (⟨iN (looks ops o) s,H,v,match dL ops (iN (looks ops o) s) o with | some true=>ku P o.op | _=>0⟩::t,s',H'')
   | none=>none
  | none=>none
def vG:List Oper→List Nat→List Nat
 | [],acc=>acc
 | o::l,acc=>vG l (acc++[o.after.toList.foldl (fun m e=>if Region.binds .any e then (m ||| 2^e.on) ||| acc.getD e.on 0 else m) 0])
def m8 (ops:Array Oper) (n:Nat) (bef:Nat→Nat→Bool) (cls:Nat→Nat) (dst:Nat→Option Tmp) (val:Nat→AV) (ch:List Nat) (again:Nat→Nat→Option (AV×ag)):Bool :=
 (List.range n).all fun i =>
  match ops[i]? with
  | none=>false
  | some o =>
   (o.after.toList.all fun e=>!Region.binds .any e||decide (e.on<i)) &&
   ((List.range n).all fun k=>k==i||(match dst k with
     | some d=>dst i != some d&&(!(looks ops o).contains d||bef k i||bef i k)
     | none=>true)) &&
   (decide (cls i<2)||cls i==3||ch.all fun k=>decide (i≤k)||bef k i) &&
   (cls i != 3||(List.range n).all fun j=>!bef i j||ch.all fun k=>decide (i≤k)||bef k j) &&
   (cls i != 1||((ch++[n]).all fun p=>!(ch.all fun k=>(!bef k i||decide (k<p))&&(!bef i k||decide (p≤k))) ||
    match again i p with | some (v,_)=>AV.beq v (val i) | none=>false))
def jO (ops:Array Oper) (tr:List Tr) (H':ag) (again:Oper→List AV→ag→Option (AV×ag)):Bool :=
 let n:=tr.length
 let B:=vG ops.toList []
 let cls (i:Nat):Nat:=(tr.getD i default).c
 m8 ops n (fun k i=>(B.getD i 0).testBit k) cls (fun i=>(ops[i]?).bind (·.dst)) (fun i=>(tr.getD i default).v) ((List.range n).filter fun i=>2≤cls i)
  (fun i p=>match ops[i]? with | some o=>again o (tr.getD i default).s (if p<n then (tr.getD p default).h else H') | none=>none)
section run
variable (P:Program) (C:bG)
mutual
def aV:Nat→Nat→Code→List AV→ag→Option (jG×List AV×ag)
 | 0,_,_,_,_=>none
 | n+1,base,c,s,H =>
  match c with
  | .skip=>some (.normal,s,H)
  | .label _=>some (.normal,s,H)
  | .ret=>some (.ret,s,H)
  | .exit id=>some (.exit id,s,H)
  | .seq a b =>
   match aV n base a s H with
   | some (.normal,s',H')=>aV n base b s' H'
   | r=>r
  | .cond x a b =>
   match aU s x with
   | .bool true=>aV n base a s H
   | .bool false=>aV n base b s H
   | _=>none
  | .block id b =>
   match aV n base b s H with
   | some (.exit i,s',H')=>if i=id then some (.normal,s',H') else some (.exit i,s',H')
   | r=>r
  | .loop b =>
   match aV n base b s H with
   | some (.normal,s',H')=>aV n base (.loop b) s' H'
   | r=>r
  | .region _ ops false =>
   match jC n base ops ops.toList s H with
   | some (s',H')=>some (.normal,s',H')
   | none=>none
  | .region _ ops true =>
   match mB P ops (fun o s H=>bL n base ops o s H) ops.toList s H with
   | some (tr,s',H')=>if jO ops tr H' (fun o s H=>bL n base ops o s H) then some (.normal,s',H') else none
   | none=>none
  | .rangeFunc g ps assign body =>
   match aU s g with
   | .fn f caps =>
    match cD n base f (.yld H.length::caps) (H++[.loop true none s ps.toList assign body]) with
    | some (_,H2) =>
     match H2[H.length]? with
     | some (.loop true none _ _ _ _)=>some (.normal,s,H2.set H.length .dead)
     | some (.loop false (some c) _ _ _ _)=>aV n base c s (H2.set H.length .dead)
     | _=>none
    | none=>none
   | _=>none
  | _=>none
def jC:Nat→Nat→Array Oper→List Oper→List AV→ag→Option (List AV×ag)
 | 0,_,_,_,_,_=>none
 | _+1,_,_,[],s,H=>some (s,H)
 | n+1,base,ops,o::rest,s,H =>
  match bL n base ops o s H with
  | some (v,H')=>jC n base ops rest (nF s o.dst v) H'
  | none=>none
def bL:Nat→Nat→Array Oper→Oper→List AV→ag→Option (AV×ag)
 | 0,_,_,_,_,_=>none
 | n+1,base,ops,o,s,H =>
  match dL ops s o with
  | some true =>
   match o.op with
   | .call { callee:=.value f,args,.. }=>dp n base (aU s f) (args.toList.map (aU s)) H
   | _=>wm P C base H (aU s) o
  | some false=>some (.tup [],H)
  | none=>none
def dp:Nat→Nat→AV→List AV→ag→Option (AV×ag)
 | 0,_,_,_,_=>none
 | n+1,base,f,args,H =>
  match f with
  | .fn f caps =>
   if C.pure f then
    match cD n H.length f (args++caps) H with
    | some (r,H')=>match aJ H' H.length 3 r with | some r'=>some (r',H) | none=>none
    | none=>none
   else if C.frz f then
    match (args++caps).mapM (aJ H 0 6) with
    | some aS =>
     match cD n 0 f aS [] with
     | some (r,_)=>if r.flat then some (r,H) else none
     | none=>none
    | none=>none
   else cD n base f (args++caps) H
  | .yld b =>
   match H[b]? with
   | some (.loop true none slots ps assign body) =>
    if base≤b∧args.length=ps.length then
     match aV n base assign (dJ ps args slots) H with
     | some (.normal,s1,H1) =>
      match H1[b]? with
      | some (.loop true none l1 p1 a1 b1) =>
       match aV n base body s1 (H1.set b (.loop false none l1 p1 a1 b1)) with
       | some (e,_,H3) =>
        match H3[b]? with
        | some (.loop false none l3 p3 a3 b3)=>some (.bool e.code.isNone,H3.set b (.loop e.code.isNone e.code l3 p3 a3 b3))
        | _=>none
       | none=>none
      | _=>none
     | _=>none
    else none
   | _=>none
  | _=>none
def cD:Nat→Nat→FuncId→List AV→ag→Option (AV×ag)
 | 0,_,_,_,_=>none
 | n+1,base,f,args,H =>
  match C.prim f with
  | some p=>p base args H
  | none =>
   match P.funcs[f]? with
   | some fn =>
    match fn.body with
    | some c =>
     match aV n base c (args++List.replicate (fn.ntmps-args.length) (.tup [])) H with
     | some (.normal,s',H')=>(dR P H' s' fn.results.toList).map fun vs=>(ja vs,H')
     | some (.ret,s',H')=>(dR P H' s' fn.results.toList).map fun vs=>(ja vs,H')
     | _=>none
    | none=>none
   | none=>none
end
end run
end Go.Proofs.Ev
namespace Go.Proofs.Ev
variable {P:Program} {C:bG}
theorem lO {ops:Array Oper} {f g:Oper→List AV→ag→Option (AV×ag)} (h:∀o s H r,f o s H=some r→g o s H=some r) :
 ∀{l:List Oper} {s:List AV} {H:ag} {r:List Tr×List AV×ag},mB P ops f l s H=some r→mB P ops g l s H=some r
 | [],_,_,_,e=>e
 | o::l,s,H,r,e=>by
  unfold mB at e ⊢
  cases h1:f o (iN (looks ops o) s) H with
  | none=>rw [h1] at e;cases e
  | some vh =>
   obtain ⟨v,H1⟩:=vh
   rw [h1] at e
   rw [h _ _ _ _ h1]
   simp only at e ⊢
   cases h2:mB P ops f l (nF s o.dst v) H1 with
   | none=>rw [h2] at e;cases e
   | some x=>rw [h2] at e;rw [lO h h2];exact e
theorem yY {ops:Array Oper} {n:Nat} {bef:Nat→Nat→Bool} {cls:Nat→Nat} {dst:Nat→Option Tmp} {val:Nat→AV} {ch:List Nat} {f g:Nat→Nat→Option (AV×ag)}
 (h:∀i p r,f i p=some r→g i p=some r) (e:m8 ops n bef cls dst val ch f=true):m8 ops n bef cls dst val ch g=true:=by
 unfold m8 at e ⊢
 rw [List.all_eq_true] at e ⊢
 intro i hi
 have:=e i hi
 cases h1:ops[i]? with
 | none=>rw [h1] at this;cases this
 | some o =>
  rw [h1] at this
  simp only [Bool.and_eq_true,Bool.or_eq_true] at this ⊢
  refine ⟨this.1,?_⟩
  rcases this.2 with h2 | h2
  ·exact .inl h2
  ·right
   rw [List.all_eq_true] at h2 ⊢
   intro p hp
   have h3:=h2 p hp
   rw [Bool.or_eq_true] at h3 ⊢
   rcases h3 with h3 | h3
   ·exact .inl h3
   ·right
    cases h4:f i p with
    | none=>rw [h4] at h3;cases h3
    | some x=>rw [h4] at h3;rw [h _ _ _ h4];exact h3
theorem xm {ops:Array Oper} {tr:List Tr} {H':ag} {f g:Oper→List AV→ag→Option (AV×ag)} (h:∀o s H r,f o s H=some r→g o s H=some r)
 (e:jO ops tr H' f=true):jO ops tr H' g=true:=by
 refine yY (fun i p r hr=>?_) e
 revert hr
 cases ops[i]? with
 | none=>intro hr;cases hr
 | some o=>exact h _ _ _ _
theorem mi {n base:Nat} {b:Code} {s:List AV} {H:ag}:aV P C (n+1) base (.loop b) s H =
 (match aV P C n base b s H with
  | some (.normal,s',H')=>aV P C n base (.loop b) s' H'
  | r=>r):=by
 conv=>lhs;unfold aV
 all_goals rfl
def qO (P:Program) (C:bG) (n:Nat):Prop :=
 (∀base c s H r,aV P C n base c s H=some r→aV P C (n+1) base c s H=some r)∧
 (∀base ops l s H r,jC P C n base ops l s H=some r→jC P C (n+1) base ops l s H=some r)∧
 (∀base ops o s H r,bL P C n base ops o s H=some r→bL P C (n+1) base ops o s H=some r)∧
 (∀base f args H r,dp P C n base f args H=some r→dp P C (n+1) base f args H=some r)∧
 (∀base f args H r,cD P C n base f args H=some r→cD P C (n+1) base f args H=some r)
theorem EQ {n:Nat} (hi:qO P C n) (base:Nat) (c:Code) (s:List AV) (H:ag) (r:jG×List AV×ag)
 (e:aV P C (n+1) base c s H=some r):aV P C (n+2) base c s H=some r:=by
 obtain ⟨hc,hs,ht,hl,hf⟩:=hi
 cases c with
 | skip=>simpa only [aV] using e
 | label _=>simpa only [aV] using e
 | ret=>simpa only [aV] using e
 | exit _=>simpa only [aV] using e
 | scope _=>unfold aV at e;cases e
 | goto _=>unfold aV at e;cases e
 | refuse _=>unfold aV at e;cases e
 | seq a b =>
  simp only [aV] at e ⊢
  cases h1:aV P C n base a s H with
  | none=>rw [h1] at e;cases e
  | some x =>
   obtain ⟨x,s',H'⟩:=x
   rw [h1] at e;rw [hc _ _ _ _ _ h1]
   cases x with
   | normal=>exact hc _ _ _ _ _ e
   | exit _=>exact e
   | ret=>exact e
 | cond x a b =>
  simp only [aV] at e ⊢
  revert e
  split
  ·exact hc _ _ _ _ _
  ·exact hc _ _ _ _ _
  ·intro e;cases e
 | block id b =>
  simp only [aV] at e ⊢
  cases h1:aV P C n base b s H with
  | none=>rw [h1] at e;cases e
  | some x =>
   rw [h1] at e;rw [hc _ _ _ _ _ h1];exact e
 | loop b =>
  rw [mi] at e ⊢
  cases h1:aV P C n base b s H with
  | none=>rw [h1] at e;cases e
  | some x =>
   obtain ⟨x,s',H'⟩:=x
   rw [h1] at e;rw [hc _ _ _ _ _ h1]
   cases x with
   | normal=>exact hc _ _ _ _ _ e
   | exit _=>exact e
   | ret=>exact e
 | region id ops d =>
  cases d with
  | false =>
   simp only [aV] at e ⊢
   cases h1:jC P C n base ops ops.toList s H with
   | none=>rw [h1] at e;cases e
   | some x=>rw [h1] at e;rw [hs _ _ _ _ _ _ h1];exact e
  | true =>
   simp only [aV] at e ⊢
   cases h1:mB P ops (fun o s H=>bL P C n base ops o s H) ops.toList s H with
   | none=>rw [h1] at e;cases e
   | some x =>
    obtain ⟨tr,s',H'⟩:=x
    rw [h1] at e
    rw [lO (g:=fun o s H=>bL P C (n+1) base ops o s H) (fun o s H r h=>ht _ _ _ _ _ _ h) h1]
    simp only at e ⊢
    split at e
    ·rename_i h2
     rw [if_pos (xm (fun o s H r h=>ht _ _ _ _ _ _ h) h2)];exact e
    ·cases e
 | rangeFunc g ps assign body =>
  simp only [aV] at e ⊢
  cases h0:aU s g with
  | fn f caps =>
   rw [h0] at e
   simp only at e ⊢
   cases h1:cD P C n base f (.yld H.length::caps) (H++[.loop true none s ps.toList assign body]) with
   | none=>rw [h1] at e;cases e
   | some x =>
    obtain ⟨x,H2⟩:=x
    rw [h1] at e;rw [hf _ _ _ _ _ h1]
    simp only at e ⊢
    revert e
    split
    ·exact id
    ·exact hc _ _ _ _ _
    ·intro e;cases e
  | _=>rw [h0] at e;cases e
theorem Hj {n:Nat} (hi:qO P C n) (base:Nat) (ops:Array Oper) (l:List Oper) (s:List AV) (H:ag) (r:List AV×ag)
 (e:jC P C (n+1) base ops l s H=some r):jC P C (n+2) base ops l s H=some r:=by
 obtain ⟨hc,hs,ht,hl,hf⟩:=hi
 cases l with
 | nil=>unfold jC at e ⊢;exact e
 | cons o l =>
  unfold jC at e ⊢
  cases h1:bL P C n base ops o s H with
  | none=>rw [h1] at e;cases e
  | some x=>rw [h1] at e;rw [ht _ _ _ _ _ _ h1];exact hs _ _ _ _ _ _ e
theorem ES {n:Nat} (hi:qO P C n) (base:Nat) (ops:Array Oper) (o:Oper) (s:List AV) (H:ag) (r:AV×ag)
 (e:bL P C (n+1) base ops o s H=some r):bL P C (n+2) base ops o s H=some r:=by
 obtain ⟨hc,hs,ht,hl,hf⟩:=hi
 unfold bL at e ⊢
 revert e
 split
 ·split
  ·exact hl _ _ _ _ _
  ·exact id
 ·exact id
 ·exact id
theorem EP {n:Nat} (hi:qO P C n) (base:Nat) (f:AV) (args:List AV) (H:ag) (r:AV×ag)
 (e:dp P C (n+1) base f args H=some r):dp P C (n+2) base f args H=some r:=by
 obtain ⟨hc,hs,ht,hl,hf⟩:=hi
 cases f with
 | fn f caps =>
  unfold dp at e ⊢
  simp only at e ⊢
  split at e
  ·rename_i hp
   rw [if_pos hp]
   cases h1:cD P C n H.length f (args++caps) H with
   | none=>rw [h1] at e;cases e
   | some x=>rw [h1] at e;rw [hf _ _ _ _ _ h1];exact e
  ·rename_i hp
   rw [if_neg hp]
   split at e
   ·rename_i hz
    rw [if_pos hz]
    cases ha:(args++caps).mapM (aJ H 0 6) with
    | none=>rw [ha] at e;cases e
    | some aS =>
     rw [ha] at e
     simp only at e ⊢
     cases h1:cD P C n 0 f aS [] with
     | none=>rw [h1] at e;cases e
     | some x=>rw [h1] at e;rw [hf _ _ _ _ _ h1];exact e
   ·rename_i hz
    rw [if_neg hz]
    exact hf _ _ _ _ _ e
 | yld b =>
  unfold dp at e ⊢
  simp only at e ⊢
  revert e
  split
  ·split
   ·rename_i slots ps assign body hb hlen
    intro e
    cases h1:aV P C n base assign (dJ ps args slots) H with
    | none=>rw [h1] at e;cases e
    | some x =>
     obtain ⟨x,s1,H1⟩:=x
     rw [h1] at e;rw [hc _ _ _ _ _ h1]
     cases x with
     | normal =>
      simp only at e ⊢
      revert e
      split
      ·rename_i l1 p1 a1 b1 hb1
       intro e
       cases h2:aV P C n base body s1 (H1.set b (.loop false none l1 p1 a1 b1)) with
       | none=>rw [h2] at e;cases e
       | some y=>rw [h2] at e;rw [hc _ _ _ _ _ h2];exact e
      ·exact id
     | exit _=>exact e
     | ret=>exact e
   ·exact id
  ·exact id
 | _=>unfold dp at e;cases e
theorem ER {n:Nat} (hi:qO P C n) (base:Nat) (f:FuncId) (args:List AV) (H:ag) (r:AV×ag)
 (e:cD P C (n+1) base f args H=some r):cD P C (n+2) base f args H=some r:=by
 obtain ⟨hc,hs,ht,hl,hf⟩:=hi
 unfold cD at e ⊢
 revert e
 split
 ·exact id
 ·split
  ·rename_i fn hfn
   cases fn.body with
   | none=>exact id
   | some c =>
    intro e
    simp only at e ⊢
    cases h1:aV P C n base c (args++List.replicate (fn.ntmps-args.length) (.tup [])) H with
    | none=>rw [h1] at e;cases e
    | some x=>rw [h1] at e;rw [hc _ _ _ _ _ h1];exact e
  ·exact id
theorem js:∀n,qO P C n
 | 0=>⟨fun _ _ _ _ _ e=>(by unfold aV at e;cases e),fun _ _ _ _ _ _ e=>(by unfold jC at e;cases e),fun _ _ _ _ _ _ e=>(by unfold bL at e;cases e),
  fun _ _ _ _ _ e=>(by unfold dp at e;cases e),fun _ _ _ _ _ e=>(by unfold cD at e;cases e)⟩
 | n+1=>⟨EQ (js n),Hj (js n),ES (js n),EP (js n),ER (js n)⟩
theorem gn {n m:Nat} (h:n≤m) {base:Nat} {c:Code} {s:List AV} {H:ag} {r:jG×List AV×ag} (e:aV P C n base c s H=some r):aV P C m base c s H=some r:=by
 induction h with
 | refl=>exact e
 | step _ ih=>exact (js _).1 _ _ _ _ _ ih
theorem FG {n m:Nat} (h:n≤m) {base:Nat} {ops:Array Oper} {l:List Oper} {s:List AV} {H:ag} {r:List AV×ag} (e:jC P C n base ops l s H=some r):jC P C m base ops l s H=some r:=by
 induction h with
 | refl=>exact e
 | step _ ih=>exact (js _).2.1 _ _ _ _ _ _ ih
theorem iq {n m:Nat} (h:n≤m) {base:Nat} {ops:Array Oper} {o:Oper} {s:List AV} {H:ag} {r:AV×ag} (e:bL P C n base ops o s H=some r):bL P C m base ops o s H=some r:=by
 induction h with
 | refl=>exact e
 | step _ ih=>exact (js _).2.2.1 _ _ _ _ _ _ ih
theorem jg {n m:Nat} (h:n≤m) {base:Nat} {f:AV} {args:List AV} {H:ag} {r:AV×ag} (e:dp P C n base f args H=some r):dp P C m base f args H=some r:=by
 induction h with
 | refl=>exact e
 | step _ ih=>exact (js _).2.2.2.1 _ _ _ _ _ ih
theorem km {n m:Nat} (h:n≤m) {base:Nat} {f:FuncId} {args:List AV} {H:ag} {r:AV×ag} (e:cD P C n base f args H=some r):cD P C m base f args H=some r:=by
 induction h with
 | refl=>exact e
 | step _ ih=>exact (js _).2.2.2.2 _ _ _ _ _ ih
end Go.Proofs.Ev
namespace Go.Proofs.Ev
abbrev Sl:=Nat→AV
def Lv (s:Sl) (d:Nat) (v:AV):Sl:=fun t=>if t=d then v else s t
theorem FO {s:Sl} {d t:Nat} {v:AV} (h:t≠d):Lv s d v t=s t:=if_neg h
def lT (N:Nat) (l:List AV) (s:Sl):Prop:=l.length=N∧∀t,l.getD t .undef=s t
def pw (s:Sl) (dst:Option Tmp) (v:AV):Sl:=match dst with | some d=>Lv s d v | none=>s
def m9 (N:Nat):Option Tmp→Prop | some d=>d<N | none=>True
def bX (s:Sl):Operand→AV
 | .tmp t=>s t
 | .const v=>ofValue v
 | .global _=>.undef
 | .func f=>.fn f []
def sZ (ops:Array Oper) (s:Sl) (o:Oper):Option Bool :=
 match o.guard with
 | none=>some true
 | some (j,want) =>
  match (ops[j]?).bind (·.dst) with
  | some d=>match s d with | .bool b=>some (b==want) | .undef=>none | _=>some false
  | none=>some false
theorem lT.val {N:Nat} {l:List AV} {s:Sl} (h:lT N l s) (x:Operand):aU l x=bX s x:=by
 cases x with
 | tmp t=>exact h.2 t
 | _=>rfl
theorem lT.put {N:Nat} {l:List AV} {s:Sl} (h:lT N l s) {dst:Option Tmp} (hd:m9 N dst) (v:AV):lT N (nF l dst v) (pw s dst v):=by
 cases dst with
 | none=>exact h
 | some d =>
  refine ⟨by simp [nF,h.1],fun t=>?_⟩
  have hd':d<l.length:=by rw [h.1];exact hd
  by_cases e:t=d
  ·subst e;simp [nF,pw,Lv,hd',List.getD_eq_getElem?_getD]
  ·rw [pw,FO e,←h.2 t];simp only [nF,List.getD_eq_getElem?_getD];rw [List.getElem?_set_ne (Ne.symm e)]
theorem lT.wanted {N:Nat} {l:List AV} {s:Sl} (h:lT N l s) {ops:Array Oper} {o:Oper} {b:Bool} (hw:sZ ops s o=some b):dL ops l o=some b:=by
 unfold sZ at hw;unfold dL
 cases hg:o.guard with
 | none=>rw [hg] at hw;exact hw
 | some jw =>
  obtain ⟨j,want⟩:=jw
  rw [hg] at hw
  simp only at hw ⊢
  cases hd:(ops[j]?).bind (·.dst) with
  | none=>rw [hd] at hw;exact hw
  | some d =>
   rw [hd] at hw
   simp only at hw ⊢
   have h1:=h.2 d
   rw [List.getD_eq_getElem?_getD] at h1
   cases hl:l[d]? with
   | none=>rw [hl] at h1;simp at h1;rw [←h1] at hw;cases hw
   | some x=>rw [hl] at h1;simp at h1;rw [←h1] at hw;cases x<;>exact hw
section wp
variable (P:Program) (C:bG) (N base:Nat)
def aD (f:AV) (args:List AV) (H:ag) (K:AV→ag→Prop):Prop:=∃n v H',dp P C n base f args H=some (v,H')∧K v H'
def dW (f:FuncId) (args:List AV) (H:ag) (K:AV→ag→Prop):Prop:=∃n v H',cD P C n base f args H=some (v,H')∧K v H'
def Ph (ρ:Operand→AV) (o:Oper) (H:ag) (K:AV→ag→Prop):Prop :=
 match wm P C base H ρ o with | some (v,H')=>K v H' | none=>False
def dH (o:Oper) (s:Sl) (H:ag) (K:AV→ag→Prop):Prop :=
 match o.op with
 | .call { callee:=.value f,args,.. }=>aD P C base (bX s f) (args.toList.map (bX s)) H K
 | _=>Ph P C base (bX s) o H K
def sy (b:Option Bool) (K:Prop) (A:Prop):Prop:=match b with | some true=>A | some false=>K | none=>False
def mE (ops:Array Oper) (o:Oper) (s:Sl) (H:ag) (K:AV→ag→Prop):Prop :=
 sy (sZ ops s o) (K (.tup []) H) (dH P C base o s H K)
def mK (ops:Array Oper):List Oper→Sl→ag→(Sl→ag→Prop)→Prop
 | [],s,H,Q=>Q s H
 | o::l,s,H,Q=>m9 N o.dst∧mE P C base ops o s H fun v H'=>mK ops l (pw s o.dst v) H' Q
abbrev di:=jG→Sl→ag→Prop
def Ik (W:Sl→ag→di→Prop) (Q:di):di:=fun e s H=>match e with | .normal=>W s H Q | .exit i=>Q (.exit i) s H | .ret=>Q .ret s H
def m5 (v:AV) (A B:Prop):Prop:=match v with | .bool true=>A | .bool false=>B | _=>False
def oU (id:Nat) (Q:di):di:=fun e s H=>match e with | .exit i=>if i=id then Q .normal s H else Q (.exit i) s H | .normal=>Q .normal s H | .ret=>Q .ret s H
def qq (W:Sl→ag→di→Prop) (Q:di):Nat→Sl→ag→Prop
 | 0,_,_=>False
 | n+1,s,H=>W s H fun e s' H'=>match e with | .normal=>qq W Q n s' H' | .exit i=>Q (.exit i) s' H' | .ret=>Q .ret s' H'
def F0 (W:Sl→ag→di→Prop) (s:Sl) (H:ag) (Q:di):Prop:=∃n,qq W Q n s H
def KW (ops:Array Oper) (s:Sl) (H:ag) (Q:Sl→ag→Prop):Prop :=
 ∀l,lT N l s→∃n tr l' s' H',mB P ops (fun o s H=>bL P C n base ops o s H) ops.toList l H=some (tr,l',H')∧jO ops tr H' (fun o s H=>bL P C n base ops o s H)=true∧lT N l' s'∧Q s' H'
end wp
variable {P:Program} {C:bG} {N base:Nat}
theorem aD.mono {f:AV} {args:List AV} {H:ag} {K K':AV→ag→Prop} (h:aD P C base f args H K) (hk:∀v H,K v H→K' v H):aD P C base f args H K':=by
 obtain ⟨n,v,H',h1,h2⟩:=h;exact ⟨n,v,H',h1,hk _ _ h2⟩
theorem dW.mono {f:FuncId} {args:List AV} {H:ag} {K K':AV→ag→Prop} (h:dW P C base f args H K) (hk:∀v H,K v H→K' v H):dW P C base f args H K':=by
 obtain ⟨n,v,H',h1,h2⟩:=h;exact ⟨n,v,H',h1,hk _ _ h2⟩
theorem IU {o:Oper} {s:Sl} {H:ag} {K:AV→ag→Prop} (h:dH P C base o s H K) :
 (∃f args ats,o.op=.call { callee:=.value f,args,argTypes:=ats }∧aD P C base (bX s f) (args.toList.map (bX s)) H K)∨
 ((∀f args ats,o.op≠.call { callee:=.value f,args,argTypes:=ats })∧Ph P C base (bX s) o H K):=by
 unfold dH at h
 split at h
 ·rename_i f args ats e;exact .inl ⟨f,args,ats,e,h⟩
 ·rename_i hne;exact .inr ⟨fun f args ats e=>hne f args ats e,h⟩
theorem Iv {n:Nat} {ops:Array Oper} {o:Oper} {l:List AV} {H:ag} (hw:dL ops l o=some true) (hne:∀f args ats,o.op≠.call { callee:=.value f,args,argTypes:=ats }) :
 bL P C (n+1) base ops o l H=wm P C base H (aU l) o:=by
 unfold bL
 rw [hw]
 simp only
theorem CN {n:Nat} {ops:Array Oper} {o:Oper} {l:List AV} {H:ag} (hw:dL ops l o=some true) {f:Operand} {args:Array Operand} {ats:Array TypeId} (e:o.op=.call { callee:=.value f,args,argTypes:=ats }) :
 bL P C (n+1) base ops o l H=dp P C n base (aU l f) (args.toList.map (aU l)) H:=by
 simp only [bL,hw,e]
theorem CO {n:Nat} {ops:Array Oper} {o:Oper} {l:List AV} {H:ag} (hw:dL ops l o=some false):bL P C (n+1) base ops o l H=some (.tup [],H):=by
 unfold bL
 rw [hw]
theorem jU {ops:Array Oper} {o:Oper} {s:Sl} {H:ag} {K:AV→ag→Prop} (h:mE P C base ops o s H K) {l:List AV} (hr:lT N l s) :
 ∃n v H',bL P C n base ops o l H=some (v,H')∧K v H':=by
 unfold mE sy at h
 have hρ:aU l=bX s:=funext hr.val
 split at h
 ·rename_i hw
  have hw:=hr.wanted hw
  rcases IU h with ⟨f,args,ats,e,n,v,H',h1,h2⟩ | ⟨hne,h1⟩
  ·exact ⟨n+1,v,H',by rw [CN hw e,hρ];exact h1,h2⟩
  ·unfold Ph at h1
   split at h1
   ·rename_i v H' ho;exact ⟨1,v,H',by rw [Iv hw hne,hρ];exact ho,h1⟩
   ·exact h1.elim
 ·rename_i hw;exact ⟨1,.tup [],H,CO (hr.wanted hw),h⟩
 ·exact h.elim
theorem sB {ops:Array Oper}:∀{os:List Oper} {s:Sl} {H:ag} {Q:Sl→ag→Prop} (_:mK P C N base ops os s H Q) {l:List AV} (_:lT N l s),
 ∃n l' s' H',jC P C n base ops os l H=some (l',H')∧lT N l' s'∧Q s' H'
 | [],s,H,Q,h,l,hr=>⟨1,l,s,H,by unfold jC;rfl,hr,h⟩
 | o::os,s,H,Q,h,l,hr=>by
  unfold mK at h
  obtain ⟨n,v,H',h1,h2⟩:=jU h.2 hr
  obtain ⟨m,l',s',H'',h3,h4,h5⟩:=sB h2 (hr.put h.1 v)
  refine ⟨n+m+1,l',s',H'',?_,h4,h5⟩
  unfold jC
  rw [iq (Nat.le_add_right n m) h1]
  exact FG (Nat.le_add_left m n) h3
theorem CW {b:Option Bool} {K K' A A':Prop} (h:sy b K A) (hk:K→K') (ha:A→A'):sy b K' A':=by
 unfold sy at h ⊢
 split at h
 ·exact ha h
 ·exact hk h
 ·exact h.elim
theorem sC {ops:Array Oper} {o:Oper} {s:Sl} {H:ag} {K K':AV→ag→Prop} (h:mE P C base ops o s H K) (hk:∀v H,K v H→K' v H):mE P C base ops o s H K':=by
 refine CW h (hk _ _) fun h=>?_
 unfold dH at h ⊢
 split at h
 ·exact h.mono hk
 ·unfold Ph at h ⊢
  split at h
  ·exact hk _ _ h
  ·exact h.elim
theorem u6 {ops:Array Oper} {Q Q':Sl→ag→Prop} (hq:∀s H,Q s H→Q' s H):∀{os:List Oper} {s:Sl} {H:ag},mK P C N base ops os s H Q→mK P C N base ops os s H Q'
 | [],s,H,h=>hq s H h
 | _::_,_,_,h=>⟨h.1,sC h.2 fun _ _ h=>u6 hq h⟩
end Go.Proofs.Ev
