/- Part 1 of the proof that quiltlaw38.BlameTouching returns true: no statement of its own. -/
import Derived.Test.YtbpaeodbnleoaaaGreatDoorT0
set_option linter.all false
namespace Go.Proofs.Ev
structure DO where
 g:Nat
 cb:Nat
 size:Nat
structure fE where
 loc:Nat→Option DO
 res:Nat→Prop
instance:CoeFun fE fun _=>Nat→Option DO:=⟨fE.loc⟩
def cK (φ:fE) (cb:Nat):Prop:=(∀b L,φ b=some L→L.cb≠cb)∧¬φ.res cb
inductive RV (φ:fE) (n:Nat) (w:World):AV→Value→Prop
 | undef (V:Value):RV φ n w .undef V
 | bool (b:Bool):RV φ n w (.bool b) (.bool b)
 | int (k:IntKind) (i:Int):RV φ n w (.int k i) (.int k i)
 | str (l:List UInt8):RV φ n w (.str l) (.string ⟨⟨l⟩⟩)
 | nilp:RV φ n w .nilp (.pointer none)
 | ptr {b g esz i off:Nat} {a:Addr} (hb:b<n) (h:∀L,φ b=some L→g≤L.g∧(g=L.g→a=⟨L.cb,i*esz+off,none⟩)) :
  RV φ n w (.ptr b g esz i off) (.pointer (some a))
 | eptr {cells:List AV} {a:Addr} (Vs:Nat→Value) (hs:a.spot=none)
  (hc:∀(j:Nat) (v:AV),cells[j]?=some v→v.leaf=true∧cK φ a.block∧w.cell? ⟨a.block,a.off+j,none⟩=some (Vs j))
  (hr:∀(j:Nat) (v:AV),cells[j]?=some v→RV φ n w v (Vs j)):RV φ n w (.eptr cells) (.pointer (some a))
 | lst {rows:List (List AV)} {e:Bool} {base:Option Addr} {len cap:Nat} (Vs:Nat→Nat→Value) (esz:Nat) (hlen:len=rows.length) (hcap:len≤cap) (he:e=true→cap=len)
  (hb:rows≠[]→∃cb off,base=some ⟨cb,off,none⟩∧∀(i:Nat) (row:List AV),rows[i]?=some row→row.length=esz∧∀(j:Nat) (v:AV),row[j]?=some v→v.leaf=true∧cK φ cb∧w.cell? ⟨cb,off+i*esz+j,none⟩=some (Vs i j))
  (hr:∀(i:Nat) (row:List AV),rows[i]?=some row→∀(j:Nat) (v:AV),row[j]?=some v→RV φ n w v (Vs i j)):RV φ n w (.lst rows e) (.slice base len cap)
 | nils:RV φ n w .nils (.slice none 0 0)
 | sl {b g esz lo len cap:Nat} {a:Addr} (hb:b<n) (hcap:len≤cap)
  (h:∀L,φ b=some L→g≤L.g∧(g=L.g→a=⟨L.cb,lo*esz,none⟩∧(lo+cap)*esz≤L.size)):RV φ n w (.sl b g esz lo len) (.slice (some a) len cap)
 | asl {b g esz i off len cap:Nat} {a:Addr} (hb:b<n) (hcap:len≤cap)
  (h:∀L,φ b=some L→g≤L.g∧(g=L.g→a=⟨L.cb,i*esz+off,none⟩)):RV φ n w (.asl b g esz i off len) (.slice (some a) len cap)
 | nilm:RV φ n w .nilm (.map none)
 | map {b cb:Nat} (hb:b<n) (h:∀L,φ b=some L→L.g=0→L.cb=cb):RV φ n w (.map b) (.map (some cb))
 | nilf:RV φ n w .nilf .nilFunc
 | fn {f:FuncId} {caps:List AV} {Vs:Array Value} (hl:Vs.size=caps.length) (h:∀(j:Nat) (v:AV) (V:Value),caps[j]?=some v→Vs[j]?=some V→RV φ n w v V) :
  RV φ n w (.fn f caps) (.func (.func f) #[] Vs)
 | yld {b cb:Nat} (hb:b<n) (h:∀L,φ b=some L→L.g=0→L.cb=cb):RV φ n w (.yld b) (.func (.yield cb) #[] #[])
 | agg {cells:List AV} {cs:Array Value} (hl:cs.size=cells.length) (hf:∀(j:Nat) (v:AV),cells[j]?=some v→v.leaf=true) (h:∀(j:Nat) (v:AV) (V:Value),cells[j]?=some v→cs[j]?=some V→RV φ n w v V) :
  RV φ n w (.agg cells) (.agg cs)
 | tup {vs:List AV} {cs:Array Value} (hl:cs.size=vs.length) (h:∀(j:Nat) (v:AV) (V:Value),vs[j]?=some v→cs[j]?=some V→RV φ n w v V):RV φ n w (.tup vs) (.tuple cs)
def fi (w w':World):Prop:=w'.os=w.os∧w'.tape=w.tape∧w'.output=w.output
theorem fi.refl {w:World}:fi w w:=⟨rfl,rfl,rfl⟩
theorem fi.trans {w w' w'':World} (h:fi w w') (h':fi w' w''):fi w w'':=⟨h'.1.trans h.1,h'.2.1.trans h.2.1,h'.2.2.trans h.2.2⟩
structure mL (φ:fE) (n:Nat) (w:World) (φ':fE) (n':Nat) (w':World):Prop where
 le:n≤n'
 size:w.heap.size≤w'.heap.size
 loc:∀b,b<n→∀L',φ' b=some L'→∃L,φ b=some L∧L.g≤L'.g∧(L.g=L'.g→L=L')
 same:∀cb c T fr,w.heap[cb]?=some (.cells c T fr)→cK φ cb→w'.heap[cb]?=some (.cells c T fr)
 nolive:∀cb,cb<w.heap.size→cK φ cb→cK φ' cb
structure cj (φ:fE) (n:Nat) (w:World) (φ':fE) (n':Nat) (w':World):Prop where
 le:n≤n'
 size:w.heap.size≤w'.heap.size
 loc:∀b,b<n→∀L',φ' b=some L'→∃L,φ b=some L∧L.g≤L'.g∧(L.g=L'.g→L=L')
 same:∀cb o,w.heap[cb]?=some o→cK φ cb→w'.heap[cb]?=some o
 nolive:∀cb,cb<w.heap.size→cK φ cb→cK φ' cb
 loops:∀(cb:Nat) (r:Loop),w.heap[cb]?=some (Obj.loop r)→∃r':Loop,w'.heap[cb]?=some (Obj.loop r')
 res:φ'.res=φ.res
 keep:∀(cb:Nat) (o:Obj),φ.res cb→w.heap[cb]?=some o→w'.heap[cb]?=some o
 env:fi w w'
variable {φ φ' φ'':fE} {n n' n'':Nat} {w w' w'':World}
theorem cj.toC (h:cj φ n w φ' n' w'):mL φ n w φ' n' w':=⟨h.le,h.size,h.loc,fun cb _ _ _ hc hn=>h.same cb _ hc hn,h.nolive⟩
theorem cj.refl:cj φ n w φ n w:=⟨Nat.le_refl _,Nat.le_refl _,fun _ _ L' h=>⟨L',h,Nat.le_refl _,fun _=>rfl⟩,fun _ _ h _=>h,fun _ _ h=>h,fun _ r h=>⟨r,h⟩,rfl,fun _ _ _ h=>h,.refl⟩
theorem cj.trans (h:cj φ n w φ' n' w') (h':cj φ' n' w' φ'' n'' w''):cj φ n w φ'' n'' w'':={
 le:=Nat.le_trans h.le h'.le
 size:=Nat.le_trans h.size h'.size
 loc b hb L'' hL:=by
  obtain ⟨L',h1,h2,h3⟩:=h'.loc b (Nat.lt_of_lt_of_le hb h.le) L'' hL
  obtain ⟨L,h4,h5,h6⟩:=h.loc b hb L' h1
  exact ⟨L,h4,Nat.le_trans h5 h2,fun e=>(h6 (by omega)).trans (h3 (by omega))⟩
 same cb o hc hn:=h'.same cb o (h.same cb o hc hn) (h.nolive cb (Array.getElem?_eq_some_iff.1 hc).1 hn)
 nolive cb hc hn:=h'.nolive cb (Nat.lt_of_lt_of_le hc h.size) (h.nolive cb hc hn)
 loops cb r h0:=by obtain ⟨r',h1⟩:=h.loops cb r h0;exact h'.loops cb r' h1
 res:=h'.res.trans h.res
 keep cb o hr h0:=h'.keep cb o (by rw [h.res];exact hr) (h.keep cb o hr h0)
 env:=h.env.trans h'.env }
theorem xw {a:Addr} {V:Value} (h:w.cell? a=some V):∃c T fr,w.heap[a.block]?=some (.cells c T fr):=by
 unfold World.cell? at h
 split at h
 ·rename_i c T fr hh;exact ⟨c,T,fr,hh⟩
 ·cases h
theorem wY {a:Addr} (h:w'.heap[a.block]?=w.heap[a.block]?):w'.cell? a=w.cell? a:=by
 unfold World.cell?;rw [h]
theorem mL.cell (h:mL φ n w φ' n' w') {a:Addr} {V:Value} (hc:w.cell? a=some V) (hn:cK φ a.block):w'.cell? a=some V∧cK φ' a.block:=by
 obtain ⟨c,T,fr,hh⟩:=xw hc
 exact ⟨(wY ((h.same _ _ _ _ hh hn).trans hh.symm)).trans hc,h.nolive _ (Array.getElem?_eq_some_iff.1 hh).1 hn⟩
theorem RV.monoC (h:mL φ n w φ' n' w') {v:AV} {V:Value} (hv:RV φ n w v V):RV φ' n' w' v V:=by
 induction hv with
 | undef V=>exact .undef V
 | bool b=>exact .bool b
 | int k i=>exact .int k i
 | str l=>exact .str l
 | nilp=>exact .nilp
 | ptr hb hh =>
  refine .ptr (Nat.lt_of_lt_of_le hb h.le) fun L' hL'=>?_
  obtain ⟨L,h1,h2,h3⟩:=h.loc _ hb L' hL'
  obtain ⟨h4,h5⟩:=hh L h1
  exact ⟨Nat.le_trans h4 h2,fun e=>by have e1:L.g=L'.g:=by omega
                                      rw [←h3 e1];exact h5 (by omega)⟩
 | eptr Vs hs hc hr ih =>
  exact .eptr Vs hs (fun j v hj=>by
   obtain ⟨h1,h2,h3⟩:=hc j v hj
   obtain ⟨h4,h5⟩:=h.cell h3 h2
   exact ⟨h1,h5,h4⟩) ih
 | lst Vs esz hlen hcap he hb hr ih =>
  refine .lst Vs esz hlen hcap he (fun hne=>?_) ih
  obtain ⟨cb,off,h1,h2⟩:=hb hne
  refine ⟨cb,off,h1,fun i row hi=>⟨(h2 i row hi).1,fun j v hj=>?_⟩⟩
  obtain ⟨h3,h4,h5⟩:=(h2 i row hi).2 j v hj
  obtain ⟨h6,h7⟩:=h.cell h5 h4
  exact ⟨h3,h7,h6⟩
 | sl hb hcap hh =>
  refine .sl (Nat.lt_of_lt_of_le hb h.le) hcap fun L' hL'=>?_
  obtain ⟨L,h1,h2,h3⟩:=h.loc _ hb L' hL'
  obtain ⟨h4,h5⟩:=hh L h1
  exact ⟨Nat.le_trans h4 h2,fun e=>by have e1:L.g=L'.g:=by omega
                                      rw [←h3 e1];exact h5 (by omega)⟩
 | asl hb hcap hh =>
  refine .asl (Nat.lt_of_lt_of_le hb h.le) hcap fun L' hL'=>?_
  obtain ⟨L,h1,h2,h3⟩:=h.loc _ hb L' hL'
  obtain ⟨h4,h5⟩:=hh L h1
  exact ⟨Nat.le_trans h4 h2,fun e=>by have e1:L.g=L'.g:=by omega
                                      rw [←h3 e1];exact h5 (by omega)⟩
 | nilm=>exact .nilm
 | nils=>exact .nils
 | map hb hh =>
  refine .map (Nat.lt_of_lt_of_le hb h.le) fun L' hL' h0=>?_
  obtain ⟨L,h1,h2,h3⟩:=h.loc _ hb L' hL'
  rw [←h3 (by omega)];exact hh L h1 (by omega)
 | nilf=>exact .nilf
 | fn hl _ ih=>exact .fn hl ih
 | yld hb hh =>
  refine .yld (Nat.lt_of_lt_of_le hb h.le) fun L' hL' h0=>?_
  obtain ⟨L,h1,h2,h3⟩:=h.loc _ hb L' hL'
  rw [←h3 (by omega)];exact hh L h1 (by omega)
 | agg hl hf _ ih=>exact .agg hl hf ih
 | tup hl _ ih=>exact .tup hl ih
theorem RV.mono (h:cj φ n w φ' n' w') {v:AV} {V:Value} (hv:RV φ n w v V):RV φ' n' w' v V:=hv.monoC h.toC
theorem RV.denil {v:AV} {V:Value} (h:RV φ n w v V):RV φ n w v.denil V:=by
 cases h with
 | nils=>exact .lst (fun _ _=>.bool false) 0 rfl (Nat.le_refl _) (fun _=>rfl) (fun h=>absurd rfl h) (fun i row hi=>by simp at hi)
 | undef V=>exact .undef V
 | bool b=>exact .bool b
 | int k i=>exact .int k i
 | str l=>exact .str l
 | nilp=>exact .nilp
 | ptr hb hh=>exact .ptr hb hh
 | eptr Vs hs hc hr=>exact .eptr Vs hs hc hr
 | lst Vs esz hlen hcap he hb hr=>exact .lst Vs esz hlen hcap he hb hr
 | sl hb hcap hh=>exact .sl hb hcap hh
 | asl hb hcap hh=>exact .asl hb hcap hh
 | nilm=>exact .nilm
 | map hb hh=>exact .map hb hh
 | nilf=>exact .nilf
 | fn hl h=>exact .fn hl h
 | yld hb hh=>exact .yld hb hh
 | agg hl hf h=>exact .agg hl hf h
 | tup hl h=>exact .tup hl h
def cH (φ:fE) (n:Nat) (w:World) (esz:Nat) (rs:List (List AV)) (cs:Array Value):Prop :=
 rs.length*esz≤cs.size∧∀(i:Nat) (row:List AV),rs[i]?=some row→row.length=esz∧∀(j:Nat) (v:AV),row[j]?=some v→v.leaf=true∧∃V:Value,cs[i*esz+j]?=some V∧RV φ n w v V
def lV (fr:Nat×Nat) (n:Nat):Prop:=∀off,off<n→¬(fr.1≤off∧off<fr.2)
def eI (φ:fE) (n:Nat) (w:World) (es:List (AV×AV)) (ents:Array MapEntry) (clock:Nat):Prop :=
 ents.size=es.length∧(∀(i:Nat) (k v:AV),es[i]?=some (k,v)→∃e:MapEntry,ents[i]?=some e∧RV φ n w k e.key∧RV φ n w v e.val)∧clock=ents.size∧∀(i:Nat) (e:MapEntry),ents[i]?=some e→e.born=i
def bM (φ:fE) (n:Nat) (w:World) (slots:List AV) (tmps:Array Value):Prop :=
 tmps.size=slots.length∧∀(t:Nat) (v:AV),slots[t]?=some v→∃V:Value,tmps[t]?=some V∧RV φ n w v V
structure gA where
 n:Nat
 tag:Nat→TypeId→Prop
 keep:Nat→Option (Array Value×TypeId×(Nat×Nat))
def tb (N:gA) (esz g:Nat) (T:TypeId) (fr:Nat×Nat) (n:Nat):Prop:=lV fr n∧((g % 4=1→N.tag 1 T)∧(g % 4=2→N.tag 2 T))∧(esz≠1→lV fr (n+1))
theorem tb.even {N:gA} {g:Nat} {T:TypeId} {fr:Nat×Nat} {n:Nat} (hg:g % 4=0) (h:lV fr n):tb N 1 g T fr n:=⟨h,⟨fun h1=>by omega,fun h1=>by omega⟩,fun h=>absurd rfl h⟩
theorem lV.zero (n:Nat):lV (0,0) n:=fun off _ h=>by simp at h
theorem tb.zero {N:gA} {esz g:Nat} {T:TypeId} {n:Nat} (hg:g % 4=0):tb N esz g T (0,0) n:=⟨.zero _,⟨fun h1=>by omega,fun h1=>by omega⟩,fun _=>.zero _⟩
def FX (N:gA) (φ:fE) (w:World):Prop:=∀cb c T fr,N.keep cb=some (c,T,fr)→w.heap[cb]?=some (.cells c T fr)∧cK φ cb
theorem FX.monoC {N:gA} (h:mL φ n w φ' n' w') (hk:FX N φ w):FX N φ' w':=fun cb c T fr hc =>
 let ⟨a,b⟩:=hk cb c T fr hc
 ⟨h.same _ _ _ _ a b,h.nolive _ (Array.getElem?_eq_some_iff.1 a).1 b⟩
def iA (M:Option Nat) (k st:Nat):Obj:=.mapIter M k (if st=0 then #[] else #[0]) (if st=0 then k else 1)
structure HR (N:gA) (φ:fE) (H:ag) (w:World):Prop where
 low:N.n≤w.heap.size
 kept:FX N φ w
 dead:∀b,H[b]?=none∨H[b]?=some .dead→φ b=none
 base:∀b L,φ b=some L→N.n≤L.cb∧L.cb<w.heap.size
 inj:∀b b' L L',φ b=some L→φ b'=some L'→L.cb=L'.cb→b=b'
 resn:∀b L,φ b=some L→¬φ.res L.cb
 ress:∀cb,φ.res cb→cb<w.heap.size
 rows:∀b esz g rs,H[b]?=some (.rows esz g rs)→∃L cs T fr,φ b=some L∧L.g=g∧w.heap[L.cb]?=some (.cells cs T fr)∧cs.size=L.size∧tb N esz g T fr cs.size∧cH φ H.length w esz rs cs
 map:∀b es,H[b]?=some (.map es)→∃L ents clock,φ b=some L∧L.g=0∧w.heap[L.cb]?=some (.map ents clock)∧eI φ H.length w es ents clock
 loop:∀b ready pend slots ps assign body,H[b]?=some (.loop ready pend slots ps assign body)→∃L r,φ b=some L∧L.g=0∧w.heap[L.cb]?=some (.loop r)∧
  r.state=(if ready then .ready else if pend.isNone then .busy else .done)∧r.pending=pend∧r.params.toList=ps∧r.assign=assign∧r.body=body∧bM φ H.length w slots r.tmps
 it:∀b m k st,H[b]?=some (.it m k st)→∃L M,φ b=some L∧L.g=0∧w.heap[L.cb]?=some (iA M k st)∧RV φ H.length w m (.map M)
theorem cH.monoC (h:mL φ n w φ' n' w') {esz:Nat} {rs:List (List AV)} {cs:Array Value} (hr:cH φ n w esz rs cs):cH φ' n' w' esz rs cs :=
 ⟨hr.1,fun i row hi=>⟨(hr.2 i row hi).1,fun j v hj=>let ⟨a,V,b,c⟩:=(hr.2 i row hi).2 j v hj;⟨a,V,b,c.monoC h⟩⟩⟩
theorem eI.monoC (h:mL φ n w φ' n' w') {es:List (AV×AV)} {ents:Array MapEntry} {clock:Nat} (hr:eI φ n w es ents clock):eI φ' n' w' es ents clock :=
 ⟨hr.1,fun i k v hi=>let ⟨e,a,b,c⟩:=hr.2.1 i k v hi;⟨e,a,b.monoC h,c.monoC h⟩,hr.2.2⟩
theorem bM.monoC (h:mL φ n w φ' n' w') {slots:List AV} {tmps:Array Value} (hr:bM φ n w slots tmps):bM φ' n' w' slots tmps :=
 ⟨hr.1,fun t v ht=>let ⟨V,a,b⟩:=hr.2 t v ht;⟨V,a,b.monoC h⟩⟩
theorem cH.mono (h:cj φ n w φ' n' w') {esz:Nat} {rs:List (List AV)} {cs:Array Value} (hr:cH φ n w esz rs cs):cH φ' n' w' esz rs cs:=hr.monoC h.toC
theorem eI.mono (h:cj φ n w φ' n' w') {es:List (AV×AV)} {ents:Array MapEntry} {clock:Nat} (hr:eI φ n w es ents clock):eI φ' n' w' es ents clock:=hr.monoC h.toC
theorem bM.mono (h:cj φ n w φ' n' w') {slots:List AV} {tmps:Array Value} (hr:bM φ n w slots tmps):bM φ' n' w' slots tmps:=hr.monoC h.toC
inductive pJ (k:Nat):AV→Prop
 | undef:pJ k .undef
 | bool (b:Bool):pJ k (.bool b)
 | int (i:IntKind) (m:Int):pJ k (.int i m)
 | str (l:List UInt8):pJ k (.str l)
 | nilp:pJ k .nilp
 | ptr {b g esz i off:Nat} (hb:b<k):pJ k (.ptr b g esz i off)
 | eptr {cells:List AV} (h:∀(j:Nat) (v:AV),cells[j]?=some v→pJ k v):pJ k (.eptr cells)
 | lst {rows:List (List AV)} {e:Bool} (h:∀(i:Nat) (row:List AV),rows[i]?=some row→∀(j:Nat) (v:AV),row[j]?=some v→pJ k v):pJ k (.lst rows e)
 | sl {b g esz lo len:Nat} (hb:b<k):pJ k (.sl b g esz lo len)
 | asl {b g esz i off len:Nat} (hb:b<k):pJ k (.asl b g esz i off len)
 | nilm:pJ k .nilm
 | nils:pJ k .nils
 | map {b:Nat} (hb:b<k):pJ k (.map b)
 | nilf:pJ k .nilf
 | fn {f:FuncId} {caps:List AV} (h:∀(j:Nat) (v:AV),caps[j]?=some v→pJ k v):pJ k (.fn f caps)
 | yld {b:Nat} (hb:b<k):pJ k (.yld b)
 | agg {cells:List AV} (h:∀(j:Nat) (v:AV),cells[j]?=some v→pJ k v):pJ k (.agg cells)
 | tup {vs:List AV} (h:∀(j:Nat) (v:AV),vs[j]?=some v→pJ k v):pJ k (.tup vs)
theorem wU {α:Type} {l:List AV} {cs:Array α} (hl:cs.size=l.length) {j:Nat} {v:AV} (hj:l[j]?=some v):∃V,cs[j]?=some V :=
 ⟨_,Array.getElem?_eq_getElem (by rw [hl];exact (List.getElem?_eq_some_iff.1 hj).1)⟩
theorem RV.bnd {v:AV} {V:Value} (h:RV φ n w v V):pJ n v:=by
 induction h with
 | undef V=>exact .undef
 | bool b=>exact .bool b
 | int k i=>exact .int k i
 | str l=>exact .str l
 | nilp=>exact .nilp
 | ptr hb _=>exact .ptr hb
 | eptr _ _ _ _ ih=>exact .eptr ih
 | lst _ _ _ _ _ _ _ ih=>exact .lst ih
 | sl hb _ _=>exact .sl hb
 | asl hb _ _=>exact .asl hb
 | nilm=>exact .nilm
 | nils=>exact .nils
 | map hb _=>exact .map hb
 | nilf=>exact .nilf
 | fn hl _ ih =>
  exact .fn fun j v hj=>by
   obtain ⟨V,hV⟩:=wU hl hj
   exact ih j v V hj hV
 | yld hb _=>exact .yld hb
 | agg hl _ _ ih =>
  exact .agg fun j v hj=>by
   obtain ⟨V,hV⟩:=wU hl hj
   exact ih j v V hj hV
 | tup hl _ ih =>
  exact .tup fun j v hj=>by
   obtain ⟨V,hV⟩:=wU hl hj
   exact ih j v V hj hV
def cI (φ:fE) (k:Nat):fE:=⟨fun b=>if b<k then φ b else none,φ.res⟩
theorem cK.cut {cb k:Nat} (h:cK φ cb):cK (cI φ k) cb:=by
 refine ⟨fun b L hL=>?_,h.2⟩
 simp only [cI] at hL
 split at hL
 ·exact h.1 b L hL
 ·cases hL
theorem RV.cut {k:Nat} {v:AV} {V:Value} (h:RV φ n w v V) (hb:pJ k v):RV (cI φ k) k w v V:=by
 have cl:∀{b L},cI φ k b=some L→φ b=some L:=by
  intro b L hL
  simp only [cI] at hL
  split at hL
  ·exact hL
  ·cases hL
 induction h with
 | undef V=>exact .undef V
 | bool b=>exact .bool b
 | int k i=>exact .int k i
 | str l=>exact .str l
 | nilp=>exact .nilp
 | ptr _ hh=>cases hb with | ptr hb=>exact .ptr hb fun L hL=>hh L (cl hL)
 | eptr Vs hs hc _ ih =>
  cases hb with
  | eptr hb=>exact .eptr Vs hs (fun j v hj=>⟨(hc j v hj).1,(hc j v hj).2.1.cut,(hc j v hj).2.2⟩) fun j v hj=>ih j v hj (hb j v hj)
 | lst Vs esz hlen hcap he hbb _ ih =>
  cases hb with
  | lst hb =>
   refine .lst Vs esz hlen hcap he (fun hne=>?_) fun i row hi j v hj=>ih i row hi j v hj (hb i row hi j v hj)
   obtain ⟨cb,off,h1,h2⟩:=hbb hne
   exact ⟨cb,off,h1,fun i row hi=>⟨(h2 i row hi).1,fun j v hj=>⟨((h2 i row hi).2 j v hj).1,((h2 i row hi).2 j v hj).2.1.cut,((h2 i row hi).2 j v hj).2.2⟩⟩⟩
 | sl _ hcap hh=>cases hb with | sl hb=>exact .sl hb hcap fun L hL=>hh L (cl hL)
 | asl _ hcap hh=>cases hb with | asl hb=>exact .asl hb hcap fun L hL=>hh L (cl hL)
 | nilm=>exact .nilm
 | nils=>exact .nils
 | map _ hh=>cases hb with | map hb=>exact .map hb fun L hL=>hh L (cl hL)
 | nilf=>exact .nilf
 | fn hl _ ih=>cases hb with | fn hb=>exact .fn hl fun j v V hj hV=>ih j v V hj hV (hb j v hj)
 | yld _ hh=>cases hb with | yld hb=>exact .yld hb fun L hL=>hh L (cl hL)
 | agg hl hf _ ih=>cases hb with | agg hb=>exact .agg hl hf fun j v V hj hV=>ih j v V hj hV (hb j v hj)
 | tup hl _ ih=>cases hb with | tup hb=>exact .tup hl fun j v V hj hV=>ih j v V hj hV (hb j v hj)
structure fC (P:Program) (N:gA):Prop where
 one:∀t:TypeId,dO P t=1→N.tag 1 t
 two:∀t:TypeId,c8 P t 1=2→N.tag 2 t
theorem ID {P:Program} {N:gA} (h:fC P N) {t:TypeId}:(dO P t % 4=1→N.tag 1 t)∧(dO P t % 4=2→N.tag 2 t):=by
 have h0:dO P t=0∨dO P t=1:=by
  unfold dO
  split
  ·split
   ·split
    ·split
     ·exact .inr rfl
     ·exact .inl rfl
    ·exact .inl rfl
   ·exact .inl rfl
  ·exact .inl rfl
 rcases h0 with h0 | h0
 ·rw [h0];exact ⟨fun h=>absurd h (by decide),fun h=>absurd h (by decide)⟩
 ·rw [h0];exact ⟨fun _=>h.one t h0,fun h1=>absurd h1 (by decide)⟩
theorem C5 {P:Program} {t:TypeId} {sz:Nat}:c8 P t sz=0∨(sz=1∧c8 P t sz=2):=by
 by_cases hs:sz=1
 ·subst hs
  have h:c8 P t 1=0∨c8 P t 1=2:=by
   unfold c8
   rw [if_pos rfl]
   split
   ·split
    ·exact .inr rfl
    ·exact .inl rfl
   ·exact .inl rfl
  exact h.imp id fun h=>⟨rfl,h⟩
 ·left;unfold c8;rw [if_neg hs]
theorem GA {P:Program} {N:gA} (h:fC P N) {t:TypeId} {sz:Nat}:(c8 P t sz % 4=1→N.tag 1 t)∧(c8 P t sz % 4=2→N.tag 2 t):=by
 rcases C5 (P:=P) (t:=t) (sz:=sz) with h0 | ⟨rfl,h0⟩
 ·rw [h0];exact ⟨fun h=>absurd h (by decide),fun h=>absurd h (by decide)⟩
 ·rw [h0];exact ⟨fun h1=>absurd h1 (by decide),fun _=>h.two t h0⟩
theorem zO {P:Program} {t:TypeId} {sz g:Nat}:g<fm P t sz g:=by unfold fm;split<;>omega
theorem EV {P:Program} {N:gA} (h:fC P N) {t:TypeId} {sz g:Nat}:(fm P t sz g % 4=1→N.tag 1 t)∧(fm P t sz g % 4=2→N.tag 2 t):=by
 unfold fm
 split
 ·rename_i h1
  rcases C5 (P:=P) (t:=t) (sz:=sz) with h0 | ⟨rfl,h0⟩
  ·omega
  ·exact ⟨fun h=>by omega,fun _=>h.two t h0⟩
 ·exact ⟨fun h=>by omega,fun h=>by omega⟩
theorem B6 {P:Program} {N:gA} {t T:TypeId} {sz g:Nat} (h:(g % 4=1→N.tag 1 T)∧(g % 4=2→N.tag 2 T)):(fm P t sz g % 4=1→N.tag 1 T)∧(fm P t sz g % 4=2→N.tag 2 T):=by
 unfold fm
 split
 ·rename_i h1
  exact ⟨fun h=>by omega,fun _=>h.2 h1.1⟩
 ·exact ⟨fun h=>by omega,fun h=>by omega⟩
@[simp] theorem Pr {P:Program} {t:TypeId} {sz:Nat} (h:sz≠1):c8 P t sz=0:=by unfold c8;rw [if_neg h]
end Go.Proofs.Ev
namespace Go.Proofs.Ev
open Go.RowKit
variable {N:gA} {φ φ':fE} {H H':ag} {w w':World}
theorem HR.changeC (h:HR N φ H w) (hx:mL φ H.length w φ' H'.length w') (hres:∀cb,φ'.res cb→φ.res cb) (b0:Nat)
 (ho:∀b,b≠b0→H'[b]?=H[b]?) (hφ:∀b,b≠b0→φ' b=φ b)
 (hw:∀b L,b≠b0→φ b=some L→w'.heap[L.cb]?=w.heap[L.cb]?)
 (hd:H'[b0]?=none∨H'[b0]?=some .dead→φ' b0=none)
 (hb:∀L,φ' b0=some L→N.n≤L.cb∧L.cb<w'.heap.size∧(∀b L',b≠b0→φ b=some L'→L'.cb≠L.cb)∧¬φ'.res L.cb)
 (hr:∀esz g rs,H'[b0]?=some (.rows esz g rs)→∃L cs T fr,φ' b0=some L∧L.g=g∧w'.heap[L.cb]?=some (.cells cs T fr)∧cs.size=L.size∧tb N esz g T fr cs.size∧cH φ' H'.length w' esz rs cs)
 (hm:∀es,H'[b0]?=some (.map es)→∃L ents clock,φ' b0=some L∧L.g=0∧w'.heap[L.cb]?=some (.map ents clock)∧eI φ' H'.length w' es ents clock)
 (hl:∀ready pend slots ps assign body,H'[b0]?=some (.loop ready pend slots ps assign body)→∃L r,φ' b0=some L∧L.g=0∧w'.heap[L.cb]?=some (.loop r)∧
  r.state=(if ready then .ready else if pend.isNone then .busy else .done)∧r.pending=pend∧r.params.toList=ps∧r.assign=assign∧r.body=body∧bM φ' H'.length w' slots r.tmps)
 (hi:∀m k st,H'[b0]?=some (.it m k st)→∃L M,φ' b0=some L∧L.g=0∧w'.heap[L.cb]?=some (iA M k st)∧RV φ' H'.length w' m (.map M)) :
 HR N φ' H' w':={
 low:=Nat.le_trans h.low hx.size
 kept:=h.kept.monoC hx
 dead b hb':=by
  by_cases e:b=b0
  ·subst e;exact hd hb'
  ·rw [hφ b e];rw [ho b e] at hb';exact h.dead b hb'
 base b L hL:=by
  by_cases e:b=b0
  ·subst e;exact ⟨(hb L hL).1,(hb L hL).2.1⟩
  ·rw [hφ b e] at hL
   exact ⟨(h.base b L hL).1,Nat.lt_of_lt_of_le (h.base b L hL).2 hx.size⟩
 inj b b' L L' hL hL' he:=by
  by_cases e:b=b0
  ·by_cases e':b'=b0
   ·rw [e,e']
   ·subst e;rw [hφ b' e'] at hL';exact absurd he.symm ((hb L hL).2.2.1 b' L' e' hL')
  ·by_cases e':b'=b0
   ·subst e';rw [hφ b e] at hL;exact absurd he ((hb L' hL').2.2.1 b L e hL)
   ·rw [hφ b e] at hL;rw [hφ b' e'] at hL';exact h.inj b b' L L' hL hL' he
 resn b L hL:=by
  by_cases e:b=b0
  ·subst e;exact (hb L hL).2.2.2
  ·rw [hφ b e] at hL;exact fun hr'=>h.resn b L hL (hres _ hr')
 ress cb hr':=Nat.lt_of_lt_of_le (h.ress cb (hres _ hr')) hx.size
 rows b esz g rs hb':=by
  by_cases e:b=b0
  ·subst e;exact hr esz g rs hb'
  ·rw [ho b e] at hb'
   obtain ⟨L,cs,T,fr,h1,h2,h3,h4,h5,h6⟩:=h.rows b esz g rs hb'
   exact ⟨L,cs,T,fr,by rw [hφ b e];exact h1,h2,by rw [hw b L e h1];exact h3,h4,h5,h6.monoC hx⟩
 map b es hb':=by
  by_cases e:b=b0
  ·subst e;exact hm es hb'
  ·rw [ho b e] at hb'
   obtain ⟨L,ents,clock,h1,h2,h3,h4⟩:=h.map b es hb'
   exact ⟨L,ents,clock,by rw [hφ b e];exact h1,h2,by rw [hw b L e h1];exact h3,h4.monoC hx⟩
 loop b ready pend slots ps assign body hb':=by
  by_cases e:b=b0
  ·subst e;exact hl _ _ _ _ _ _ hb'
  ·rw [ho b e] at hb'
   obtain ⟨L,r,h1,h2,h3,h4,h5,h6,h7,h8,h9⟩:=h.loop b _ _ _ _ _ _ hb'
   exact ⟨L,r,by rw [hφ b e];exact h1,h2,by rw [hw b L e h1];exact h3,h4,h5,h6,h7,h8,h9.monoC hx⟩
 it b m k st hb':=by
  by_cases e:b=b0
  ·subst e;exact hi _ _ _ hb'
  ·rw [ho b e] at hb'
   obtain ⟨L,M,h1,h2,h3,h4⟩:=h.it b _ _ _ hb'
   exact ⟨L,M,by rw [hφ b e];exact h1,h2,by rw [hw b L e h1];exact h3,h4.monoC hx⟩ }
theorem HR.change (h:HR N φ H w) (hx:cj φ H.length w φ' H'.length w') (b0:Nat)
 (ho:∀b,b≠b0→H'[b]?=H[b]?) (hφ:∀b,b≠b0→φ' b=φ b)
 (hw:∀b L,b≠b0→φ b=some L→w'.heap[L.cb]?=w.heap[L.cb]?)
 (hd:H'[b0]?=none∨H'[b0]?=some .dead→φ' b0=none)
 (hb:∀L,φ' b0=some L→N.n≤L.cb∧L.cb<w'.heap.size∧(∀b L',b≠b0→φ b=some L'→L'.cb≠L.cb)∧¬φ.res L.cb)
 (hr:∀esz g rs,H'[b0]?=some (.rows esz g rs)→∃L cs T fr,φ' b0=some L∧L.g=g∧w'.heap[L.cb]?=some (.cells cs T fr)∧cs.size=L.size∧tb N esz g T fr cs.size∧cH φ' H'.length w' esz rs cs)
 (hm:∀es,H'[b0]?=some (.map es)→∃L ents clock,φ' b0=some L∧L.g=0∧w'.heap[L.cb]?=some (.map ents clock)∧eI φ' H'.length w' es ents clock)
 (hl:∀ready pend slots ps assign body,H'[b0]?=some (.loop ready pend slots ps assign body)→∃L r,φ' b0=some L∧L.g=0∧w'.heap[L.cb]?=some (.loop r)∧
  r.state=(if ready then .ready else if pend.isNone then .busy else .done)∧r.pending=pend∧r.params.toList=ps∧r.assign=assign∧r.body=body∧bM φ' H'.length w' slots r.tmps)
 (hi:∀m k st,H'[b0]?=some (.it m k st)→∃L M,φ' b0=some L∧L.g=0∧w'.heap[L.cb]?=some (iA M k st)∧RV φ' H'.length w' m (.map M)) :
 HR N φ' H' w' :=
 h.changeC hx.toC (fun cb hr'=>by rw [←hx.res];exact hr') b0 ho hφ hw hd (fun L hL=>by rw [hx.res];exact hb L hL) hr hm hl hi
def bK (φ:fE) (b:Nat) (L:DO):fE:=⟨fun k=>if k=b then some L else φ k,φ.res⟩
def dU (φ:fE) (b:Nat):fE:=⟨fun k=>if k=b then none else φ k,φ.res⟩
theorem HR.fresh_cb (h:HR N φ H w) {b:Nat} {L:DO} (hL:φ b=some L):L.cb≠w.heap.size:=by have:=(h.base b L hL).2;omega
theorem aX {w:World} {o:Obj} {i:Nat} (h:i<w.heap.size):(w.alloc o).heap[i]?=w.heap[i]?:=by
 show (w.heap.push o)[i]?=_
 rw [Array.getElem?_push,if_neg (Nat.ne_of_lt h)]
theorem be {w:World} {o:Obj}:(w.alloc o).heap[w.heap.size]?=some o:=by
 show (w.heap.push o)[w.heap.size]?=_
 simp
theorem cj.alloc (o:Obj) (g size:Nat):cj φ H.length w (bK φ H.length ⟨g,w.heap.size,size⟩) (H.length+1) (w.alloc o):={
 le:=by omega
 size:=by simp
 loc b hb L' hL:=by
  simp only [bK,Nat.ne_of_lt hb,if_false] at hL
  exact ⟨L',hL,Nat.le_refl _,fun _=>rfl⟩
 same cb o' hc hn:=(aX (Array.getElem?_eq_some_iff.1 hc).1).trans hc
 nolive cb hc hn:=by
  refine ⟨fun b L hL=>?_,hn.2⟩
  simp only [bK] at hL
  split at hL
  ·cases hL;simp;omega
  ·exact hn.1 b L hL
 res:=rfl
 env:=.refl
 keep cb o' _ hc:=(aX (Array.getElem?_eq_some_iff.1 hc).1).trans hc
 loops cb r hc:=⟨r,(aX (Array.getElem?_eq_some_iff.1 hc).1).trans hc⟩ }
theorem HR.alloc (h:HR N φ H w) (o:Obj) (g size:Nat) (x:bQ)
 (hd:x≠.dead)
 (hr:∀esz g' rs,x=.rows esz g' rs→∃cs T fr,g=g'∧o=.cells cs T fr∧cs.size=size∧tb N esz g' T fr cs.size∧cH φ H.length w esz rs cs)
 (hm:∀es,x=.map es→∃ents clock,g=0∧o=.map ents clock∧eI φ H.length w es ents clock)
 (hl:∀ready pend slots ps assign body,x=.loop ready pend slots ps assign body→∃r,g=0∧o=.loop r∧
  r.state=(if ready then .ready else if pend.isNone then .busy else .done)∧r.pending=pend∧r.params.toList=ps∧r.assign=assign∧r.body=body∧bM φ H.length w slots r.tmps)
 (hi:∀m k st,x=.it m k st→∃M,g=0∧o=iA M k st∧RV φ H.length w m (.map M):=by simp) :
 HR N (bK φ H.length ⟨g,w.heap.size,size⟩) (H++[x]) (w.alloc o):=by
 have hx:cj φ H.length w _ _ _:=cj.alloc o g size
 have hlen:(H++[x]).length=H.length+1:=by simp
 have hnew:(H++[x])[H.length]?=some x:=by simp
 have hloc:bK φ H.length ⟨g,w.heap.size,size⟩ H.length=some ⟨g,w.heap.size,size⟩:=by simp [bK]
 refine h.change (by rw [hlen];exact hx) H.length ?_ ?_ ?_ ?_ ?_ ?_ ?_ ?_ ?_
 ·intro b hb
  rcases Nat.lt_or_ge b H.length with hlt | hge
  ·simp [List.getElem?_append,hlt]
  ·rw [List.getElem?_eq_none (by simp;omega),List.getElem?_eq_none (by omega)]
 ·intro b hb;simp [bK,hb]
 ·intro b L hb hL;exact aX (h.base b L hL).2
 ·intro hdd;rw [hnew] at hdd;rcases hdd with e | e<;>cases e;exact absurd rfl hd
 ·intro L hL
  rw [hloc] at hL;cases hL
  exact ⟨h.low,by simp,fun b L' _ hL'=>h.fresh_cb hL',fun hr=>by have:=h.ress _ hr;simp at this⟩
 ·intro esz g' rs hb
  rw [hnew] at hb;cases hb
  obtain ⟨cs,T,fr,h1,h2,h3,h4,h5⟩:=hr _ _ _ rfl
  subst h2
  exact ⟨_,cs,T,fr,hloc,h1,be,h3,h4,by rw [hlen];exact h5.mono hx⟩
 ·intro es hb
  rw [hnew] at hb;cases hb
  obtain ⟨ents,clock,h1,h2,h3⟩:=hm _ rfl
  subst h2
  exact ⟨_,ents,clock,hloc,h1,be,by rw [hlen];exact h3.mono hx⟩
 ·intro ready pend slots ps assign body hb
  rw [hnew] at hb;cases hb
  obtain ⟨r,h1,h2,h3,h4,h5,h6,h7,h8⟩:=hl _ _ _ _ _ _ rfl
  subst h2
  exact ⟨_,r,hloc,h1,be,h3,h4,h5,h6,h7,by rw [hlen];exact h8.mono hx⟩
 ·intro m k st hb
  rw [hnew] at hb;cases hb
  obtain ⟨M,h1,h2,h3⟩:=hi _ _ _ rfl
  subst h2
  exact ⟨_,M,hloc,h1,be,by rw [hlen];exact h3.mono hx⟩
def bE (w:World) (cb:Nat) (o:Obj):World:={ w with heap:=w.heap.setIfInBounds cb o }
theorem cM {cb:Nat} {o:Obj} (h:cb<w.heap.size):(bE w cb o).heap[cb]?=some o:=by simp [bE,h]
theorem bq {cb k:Nat} {o:Obj} (h:cb≠k):(bE w cb o).heap[k]?=w.heap[k]?:=by simp [bE,Array.getElem?_setIfInBounds_ne h]
@[simp] theorem Lp (cb:Nat) (o:Obj):(bE w cb o).heap.size=w.heap.size:=by simp [bE]
theorem oF (cb:Nat) (o o':Obj):bE (bE w cb o) cb o'=bE w cb o':=by simp [bE]
theorem cj.put (h:HR N φ H w) {b:Nat} {L:DO} (hL:φ b=some L) (o:Obj) (hlp:∀r:Loop,w.heap[L.cb]?=some (Obj.loop r)→∃r':Loop,o=Obj.loop r'):cj φ H.length w φ H.length (bE w L.cb o):={
 le:=Nat.le_refl _
 size:=by simp
 loc b hb L' hL:=⟨L',hL,Nat.le_refl _,fun _=>rfl⟩
 same cb o' hc hn:=(bq (hn.1 b L hL)).trans hc
 nolive cb hc hn:=hn
 res:=rfl
 env:=.refl
 keep cb o' hr hc:=(bq fun e=>h.resn b L hL (by rw [e];exact hr)).trans hc
 loops cb r hc:=by
  by_cases e:L.cb=cb
  ·subst e
   obtain ⟨r',rfl⟩:=hlp r hc
   exact ⟨r',cM (Array.getElem?_eq_some_iff.1 hc).1⟩
  ·exact ⟨r,(bq e).trans hc⟩ }
theorem HR.put (h:HR N φ H w) {b:Nat} {L:DO} (hL:φ b=some L) (o:Obj) (x:bQ) (hlp:∀r:Loop,w.heap[L.cb]?=some (Obj.loop r)→∃r':Loop,o=Obj.loop r') (hd:x≠.dead)
 (hr:∀esz g' rs,x=.rows esz g' rs→∃cs T fr,L.g=g'∧o=.cells cs T fr∧cs.size=L.size∧tb N esz g' T fr cs.size∧cH φ H.length w esz rs cs)
 (hm:∀es,x=.map es→∃ents clock,L.g=0∧o=.map ents clock∧eI φ H.length w es ents clock)
 (hl:∀ready pend slots ps assign body,x=.loop ready pend slots ps assign body→∃r,L.g=0∧o=.loop r∧
  r.state=(if ready then .ready else if pend.isNone then .busy else .done)∧r.pending=pend∧r.params.toList=ps∧r.assign=assign∧r.body=body∧bM φ H.length w slots r.tmps)
 (hi:∀m k st,x=.it m k st→∃M,L.g=0∧o=iA M k st∧RV φ H.length w m (.map M):=by simp) :
 HR N φ (H.set b x) (bE w L.cb o):=by
 have hx:cj φ H.length w _ _ _:=cj.put h hL o hlp
 have hlt:b<H.length:=by
  rcases Nat.lt_or_ge b H.length with h1 | h1
  ·exact h1
  ·rw [h.dead b (.inl (List.getElem?_eq_none h1))] at hL;cases hL
 have hnew:(H.set b x)[b]?=some x:=by simp [hlt]
 refine h.change (by simpa using hx) b ?_ ?_ ?_ ?_ ?_ ?_ ?_ ?_ ?_
 ·intro k hk;exact List.getElem?_set_ne (Ne.symm hk)
 ·intro k hk;rfl
 ·intro k L' hk hL';exact bq fun e=>hk (h.inj k b L' L hL' hL e.symm)
 ·intro hdd;rw [hnew] at hdd;rcases hdd with e | e<;>cases e;exact absurd rfl hd
 ·intro L' hL'
  rw [hL] at hL';cases hL'
  exact ⟨(h.base b L hL).1,by simpa using (h.base b L hL).2,fun k L' hk hL' e=>hk (h.inj k b L' L hL' hL e),h.resn b L hL⟩
 ·intro esz g' rs hb
  rw [hnew] at hb;cases hb
  obtain ⟨cs,T,fr,h1,h2,h3,h4,h5⟩:=hr _ _ _ rfl
  subst h2
  exact ⟨L,cs,T,fr,hL,h1,cM (h.base b L hL).2,h3,h4,by simpa using h5.mono hx⟩
 ·intro es hb
  rw [hnew] at hb;cases hb
  obtain ⟨ents,clock,h1,h2,h3⟩:=hm _ rfl
  subst h2
  exact ⟨L,ents,clock,hL,h1,cM (h.base b L hL).2,by simpa using h3.mono hx⟩
 ·intro ready pend slots ps assign body hb
  rw [hnew] at hb;cases hb
  obtain ⟨r,h1,h2,h3,h4,h5,h6,h7,h8⟩:=hl _ _ _ _ _ _ rfl
  subst h2
  exact ⟨L,r,hL,h1,cM (h.base b L hL).2,h3,h4,h5,h6,h7,by simpa using h8.mono hx⟩
 ·intro m k st hb
  rw [hnew] at hb;cases hb
  obtain ⟨M,h1,h2,h3⟩:=hi _ _ _ rfl
  subst h2
  exact ⟨L,M,hL,h1,cM (h.base b L hL).2,by simpa using h3.mono hx⟩
theorem cj.del (b:Nat):cj φ H.length w (dU φ b) H.length w:={
 env:=.refl
 le:=Nat.le_refl _
 size:=Nat.le_refl _
 loc k hk L' hL:=by
  simp only [dU] at hL
  split at hL
  ·cases hL
  ·exact ⟨L',hL,Nat.le_refl _,fun _=>rfl⟩
 same cb o hc _:=hc
 nolive cb _ hn:=by
  refine ⟨fun k L hL=>?_,hn.2⟩
  simp only [dU] at hL
  split at hL
  ·cases hL
  ·exact hn.1 k L hL
 res:=rfl
 keep cb o' _ hc:=hc
 loops cb r hc:=⟨r,hc⟩ }
theorem HR.del (h:HR N φ H w) (b:Nat):HR N (dU φ b) (H.set b .dead) w:=by
 have hx:cj φ H.length w (dU φ b) H.length w:=cj.del b
 have hno:∀y:bQ,y≠.dead→(H.set b .dead)[b]?≠some y:=by
  intro y hy e
  rcases Nat.lt_or_ge b H.length with h1 | h1
  ·simp [h1] at e;exact hy e.symm
  ·rw [List.getElem?_eq_none (by simpa using h1)] at e;cases e
 refine h.change (by simpa using hx) b ?_ ?_ ?_ ?_ ?_ ?_ ?_ ?_ ?_
 ·intro k hk;exact List.getElem?_set_ne (Ne.symm hk)
 ·intro k hk;simp [dU,hk]
 ·intro k L' hk hL';rfl
 ·intro _;simp [dU]
 ·intro L' hL';simp [dU] at hL'
 ·intro _ _ _ hb;exact absurd hb (hno _ (by simp))
 ·intro _ hb;exact absurd hb (hno _ (by simp))
 ·intro _ _ _ _ _ _ hb;exact absurd hb (hno _ (by simp))
 ·intro _ _ _ hb;exact absurd hb (hno _ (by simp))
end Go.Proofs.Ev
namespace Go.Proofs.Ev
open Go.RowKit
variable {P:Program} {N:gA} {φ φ':fE} {H H':ag} {w w':World}
def Good (N:gA) (base:Nat) (φ:fE) (H:ag) (w:World) (v:AV) (H':ag) (r:Result Next):Prop :=
 ∃V w' φ',(r=.ok (.value V) w'∨(r=.ok .skip w'∧V=Go.undef))∧RV φ' H'.length w' v V∧HR N φ' H' w'∧cj φ H.length w φ' H'.length w'∧∀b,b<base→H'[b]?=H[b]?
theorem iO {base:Nat} {v:AV} {V:Value} {r:Result Next} (hH:HR N φ H w) (hr:r=.ok (.value V) w) (hv:RV φ H.length w v V):Good N base φ H w v H r :=
 ⟨V,w,φ,.inl hr,hv,hH,.refl,fun _ _=>rfl⟩
theorem rJ {t:TypeId} {n:Nat} (h:bF P t=some n):∃i,P.info? t=some i∧i.size=n:=by
 unfold bF at h
 cases hi:P.info? t with
 | none=>rw [hi] at h;cases h
 | some i=>rw [hi] at h;exact ⟨i,rfl,by simpa using h⟩
theorem p6 {t:TypeId} {n:Nat} (h:bytesOf P t=some n):∃i,P.info? t=some i∧i.bytes=n:=by
 unfold bytesOf at h
 cases hi:P.info? t with
 | none=>rw [hi] at h;cases h
 | some i=>rw [hi] at h;exact ⟨i,rfl,by simpa using h⟩
theorem bI {t:TypeId} {n:Nat} (h:bF P t=some n) (w:World):(sizeOf t).run P w=.ok n w:=by
 obtain ⟨i,hi,rfl⟩:=rJ h
 simp [sizeOf,typeInfo,hi]
theorem aL {t:TypeId} {d:TypeDesc} (h:P.underlying t=some d) (w:World):(underlying t).run P w=.ok d w:=by
 simp [underlying,h]
theorem oa {t:TypeId} {b:Bool} (h:bb P t=some b) (w:World):(isAgg t).run P w=.ok b w:=by
 unfold bb at h
 cases hd:P.underlying t with
 | none=>rw [hd] at h;cases h
 | some d =>
  rw [hd] at h
  simp only [isAgg,Sem.run_bind,aL hd,Result.andThen]
  cases d<;>simp at h<;>subst h<;>rfl
theorem dQ {a:Addr} (hs:a.spot=none) (n:Nat):a.add n=⟨a.block,a.off+n,none⟩:=by
 obtain ⟨b,o,s⟩:=a
 simp at hs
 subst hs
 unfold Addr.add
 split
 ·next h=>subst h;rfl
 ·rfl
theorem ou (hH:HR N φ H w) {x:AV} {X:Value} (hx:RV φ H.length w x X) {cells:List AV} (h:me H x=some cells) :
 ∃a,X=.pointer (some a)∧a.spot=none∧∀j v,cells[j]?=some v→v.leaf=true∧∃U,w.cell? ⟨a.block,a.off+j,none⟩=some U∧RV φ H.length w v U:=by
 cases hx<;>simp only [me] at h<;>try (cases h;done)
 ·rename_i b g esz i off a hb hh
  split at h
  ·rename_i esz' g' rs hblk
   split at h
   ·rename_i hg
    obtain ⟨rfl,rfl⟩:=hg
    obtain ⟨L,cs,T,fr,h1,h2,h3,h4,h5,h6⟩:=hH.rows _ _ _ _ hblk
    obtain ⟨_,h8⟩:=hh L h1
    have ha:=h8 h2.symm
    subst ha
    cases hrow:rs[i]? with
    | none=>rw [hrow] at h;cases h
    | some row =>
     rw [hrow] at h
     simp only [Option.map_some,Option.some.injEq] at h
     subst h
     refine ⟨_,rfl,rfl,fun j v hj=>?_⟩
     rw [List.getElem?_drop] at hj
     obtain ⟨h9,U,h10,h11⟩:=(h6.2 i row hrow).2 _ v hj
     refine ⟨h9,U,?_,h11⟩
     unfold World.cell?
     simp only [h3,Option.isSome_none]
     rw [Nat.add_assoc]
     exact h10
   ·cases h
  ·cases h
 ·rename_i a Vs hs hc hr
  cases h
  exact ⟨a,rfl,hs,fun j v hj=>⟨(hc j v hj).1,Vs j,(hc j v hj).2.2,hr j v hj⟩⟩
theorem qC {t:TypeId} {cells:List AV} {a:Addr} (hs:a.spot=none)
 (hc:∀j v,cells[j]?=some v→v.leaf=true∧∃U,w.cell? ⟨a.block,a.off+j,none⟩=some U∧RV φ H.length w v U) {v:AV} (h:gG P t cells=some v) :
 ∃V,(loadVar t a).run P w=.ok V w∧RV φ H.length w v V:=by
 unfold gG at h
 split at h
 ·rename_i hagg
  split at h
  ·rename_i n hn
   split at h
   ·rename_i hle
    cases h
    have hcell:∀j,j<n→∃U,w.cell? (a.add j)=some U:=fun j hj=>by
     obtain ⟨_,U,h1,_⟩:=hc j cells[j] (List.getElem?_eq_getElem (by omega))
     exact ⟨U,by rw [dQ hs];exact h1⟩
    have hl:=run_loadCells (P:=P) w a n (fun j=>(w.cell? (a.add j)).getD Go.undef) (fun j hj=>by
     obtain ⟨U,hU⟩:=hcell j hj
     simp [hU])
    refine ⟨.agg ((List.range n).map fun j=>(w.cell? (a.add j)).getD Go.undef).toArray,?_,.agg (by simp;omega) ?_ ?_⟩
    ·simp only [loadVar,Sem.run_bind,oa hagg,Result.andThen,if_true,bI hn,hl,Sem.run_pure]
    ·intro j v hj
     rw [List.getElem?_take] at hj
     split at hj
     ·exact (hc j v hj).1
     ·cases hj
    ·intro j v V hj hV
     rw [List.getElem?_take] at hj
     split at hj
     ·rename_i hjn
      obtain ⟨_,U,h1,h2⟩:=hc j v hj
      simp only [List.getElem?_toArray,List.getElem?_map,List.getElem?_range hjn,Option.map_some,Option.some.injEq] at hV
      rw [dQ hs,h1] at hV
      simp at hV
      subst hV
      exact h2
     ·cases hj
   ·cases h
  ·cases h
 ·rename_i hagg
  cases cells with
  | nil=>cases h
  | cons c rest =>
   simp only [List.head?_cons,Option.some.injEq] at h
   subst h
   obtain ⟨_,U,h1,h2⟩:=hc 0 c rfl
   refine ⟨U,?_,h2⟩
   have ha:(⟨a.block,a.off+0,none⟩:Addr)=a:=by obtain ⟨b,o,s⟩:=a;simp at hs;subst hs;rfl
   rw [ha] at h1
   simp only [loadVar,Sem.run_bind,oa hagg,Result.andThen,Bool.false_eq_true,if_false,run_load,h1]
 ·cases h
theorem se (hH:HR N φ H w) {t:TypeId} {x v:AV} {X:Value} (hx:RV φ H.length w x X) (h:jH P H t x=some v) :
 ∃V,(Instr.loadAt t X).run P w=.ok V w∧RV φ H.length w v V:=by
 unfold jH at h
 cases hc:me H x with
 | none=>rw [hc] at h;cases h
 | some cells =>
  rw [hc] at h
  obtain ⟨a,rfl,hs,hcs⟩:=ou hH hx hc
  obtain ⟨V,h1,h2⟩:=qC (P:=P) hs hcs h
  exact ⟨V,by simp only [Instr.loadAt,Instr.sureAddr,Sem.run_bind,Sem.run_pure,Result.andThen,h1],h2⟩
theorem lj {g:Nat} {cs cs':Array Value} {T:TypeId} {fr:Nat×Nat} (hg:w.heap[g]?=some (.cells cs T fr)):w.setRow g cs'=bE w g (.cells cs' T fr):=by
 have hlt:=(Array.getElem?_eq_some_iff.1 hg).1
 have key:(w.setRow g cs').heap=(bE w g (.cells cs' T fr)).heap:=by
  apply Array.ext_getElem?
  intro i
  by_cases h:g=i
  ·subst h
   exact (setRow_heap w g cs cs' T fr hg).trans (cM hlt).symm
  ·rw [bq h]
   simp [World.setRow,Array.getElem?_modify,h]
 exact congrArg (fun h=>({ w with heap:=h }:World)) key
def lR (cs:Array Value) (o:Nat) (vs:List Value):Array Value:=(cs.toList.take o++vs++cs.toList.drop (o+vs.length)).toArray
theorem eD (g o:Nat) (T:TypeId) (fr:Nat×Nat):∀(vs:List Value) (i:Nat) (cur:Array Value) (w:World),w.heap[g]?=some (.cells cur T fr)→o+i+vs.length≤cur.size→lV fr cur.size→(∀v∈vs,v.oneCell'=true)→
 (storeCells ⟨g,o,none⟩ vs i).run P w=.ok () (bE w g (.cells (lR cur (o+i) vs) T fr))
 | [],i,cur,w,hg,_,_,_=>by
  simp only [storeCells,Sem.run_pure,lR,List.append_nil,List.length_nil,Nat.add_zero,List.take_append_drop,Array.toArray_toList]
  rw [←lj hg,setRow_self w g cur T fr hg]
 | v::rest,i,cur,w,hg,hl,hfr,h1=>by
  have hi:o+i<cur.size:=by simp at hl;omega
  have hadd:(⟨g,o,none⟩:Addr).add i=⟨g,o+i,none⟩:=dQ rfl i
  have hcell:w.cell? ⟨g,o+i,none⟩=some cur[o+i]:=by simp [World.cell?,hg,hi]
  have hfro:w.frozen? ⟨g,o+i,none⟩=false:=by
   have:=hfr (o+i) hi
   simp only [World.frozen?,hg,Bool.and_eq_false_iff,decide_eq_false_iff_not]
   by_cases h:fr.1≤o+i
   ·exact .inr fun h'=>this ⟨h,h'⟩
   ·exact .inl h
  have hst:(store ((⟨g,o,none⟩:Addr).add i) v).run P w=.ok () (w.setRow g (cur.setIfInBounds (o+i) v)):=by
   rw [hadd,run_store P w _ v _ (h1 v (by simp)),hcell]
   simp [hfro,setCell_eq_setRow w g (o+i) cur T fr v hg]
  have hg':(w.setRow g (cur.setIfInBounds (o+i) v)).heap[g]?=some (.cells (cur.setIfInBounds (o+i) v) T fr):=by
   rw [lj hg];exact cM (Array.getElem?_eq_some_iff.1 hg).1
  have ih:=eD g o T fr rest (i+1) (cur.setIfInBounds (o+i) v) _ hg' (by simp at hl ⊢;omega) (by simpa using hfr) (fun x hx=>h1 x (by simp [hx]))
  simp only [storeCells,Sem.run_bind,hst,Result.andThen_ok,ih]
  rw [lj hg,oF]
  congr 3
  unfold lR
  have e:=list_seg_step cur.toList (o+i) v rest (by simp at hl ⊢;omega)
  simpa [Array.toList_setIfInBounds,Nat.add_assoc] using e
theorem fo {cs:Array Value} {o:Nat} {vs:List Value} (h:o+vs.length≤cs.size):(lR cs o vs).size=cs.size:=by
 simp [lR];omega
theorem kI {cs:Array Value} {o:Nat} {vs:List Value} (h:o+vs.length≤cs.size) (k:Nat) :
 (lR cs o vs)[k]?=if o≤k∧k<o+vs.length then vs[k-o]? else cs[k]?:=by
 unfold lR
 rw [List.getElem?_toArray,List.append_assoc]
 by_cases h1:k<o
 ·rw [List.getElem?_append_left (by simp;omega),List.getElem?_take_of_lt h1,if_neg (by omega)];simp
 ·rw [List.getElem?_append_right (by simp;omega)]
  have hl:(cs.toList.take o).length=o:=by simp;omega
  rw [hl]
  by_cases h2:k<o+vs.length
  ·rw [List.getElem?_append_left (by omega),if_pos ⟨by omega,h2⟩]
  ·rw [List.getElem?_append_right (by omega),List.getElem?_drop,if_neg (by omega)]
   have:o+vs.length+(k-o-vs.length)=k:=by omega
   rw [this];simp
theorem RV.oneCell {n:Nat} {v:AV} {V:Value} (h:RV φ n w v V) (hl:v.leaf=true):V.oneCell'=true:=by
 cases h<;>first | rfl | simp [AV.leaf] at hl
theorem RV.cells {n:Nat} {v:AV} {V:Value} (h:RV φ n w v V) (hl:v.cells.all AV.leaf=true) :
 V.cells.size=v.cells.length∧(∀(j:Nat) x,v.cells[j]?=some x→x.leaf=true∧∃X,V.cells[j]?=some X∧RV φ n w x X)∧∀X∈V.cells.toList,X.oneCell'=true:=by
 rw [List.all_eq_true] at hl
 have key:V.cells.size=v.cells.length∧(∀(j:Nat) x,v.cells[j]?=some x→x.leaf=true∧∃X,V.cells[j]?=some X∧RV φ n w x X):=by
  cases h
  case agg cells cs hlen hf hh =>
   refine ⟨hlen,fun j x hj=>⟨hf j x hj,?_⟩⟩
   have hj':j<cs.size:=by rw [hlen];exact (List.getElem?_eq_some_iff.1 hj).1
   exact ⟨cs[j],Array.getElem?_eq_getElem hj',hh j x _ hj (Array.getElem?_eq_getElem hj')⟩
  case undef=>have:=hl .undef (by simp [AV.cells]);simp [AV.leaf] at this
  case tup vs cs h1 h2=>have:=hl (.tup vs) (by simp [AV.cells]);simp [AV.leaf] at this
  all_goals
   refine ⟨rfl,fun j x hj=>?_⟩
   have hx:=hl _ (List.mem_of_getElem? hj)
   cases j with
   | succ j=>simp [AV.cells] at hj
   | zero =>
    simp only [AV.cells,List.getElem?_cons_zero,Option.some.injEq] at hj
    subst hj
    refine ⟨hx,_,rfl,?_⟩
    first | (simp [AV.leaf] at hx;done) | (constructor<;>assumption)
 refine ⟨key.1,key.2,fun X hX=>?_⟩
 obtain ⟨j,hj⟩:=List.getElem?_of_mem hX
 have hj':j<v.cells.length:=by rw [←key.1];simpa using (List.getElem?_eq_some_iff.1 hj).1
 obtain ⟨h1,X',h2,h3⟩:=key.2 j v.cells[j] (List.getElem?_eq_getElem hj')
 rw [Array.getElem?_toList,h2] at hj
 cases hj
 exact h3.oneCell h1
end Go.Proofs.Ev
namespace Go.Proofs.Ev
open Go.RowKit
variable {P:Program} {N:gA} {φ φ':fE} {H H':ag} {w w':World}
theorem bh {α:Type} {l:List α} {i:Nat} {x:α} (h:l[i]?=some x):i<l.length:=(List.getElem?_eq_some_iff.1 h).1
theorem dV {base b:Nat} {x:bQ} (h:base≤b):∀k,k<base→(H.set b x)[k]?=H[k]?:=fun _ hk=>List.getElem?_set_ne (by omega)
theorem rH {α:Type} (row cs:List α) (off:Nat) (h:off+cs.length≤row.length) (j:Nat) :
 (row.take off++cs++row.drop (off+cs.length))[j]?=if off≤j∧j<off+cs.length then cs[j-off]? else row[j]?:=by
 rw [List.append_assoc]
 by_cases h1:j<off
 ·rw [List.getElem?_append_left (by simp;omega),List.getElem?_take_of_lt h1,if_neg (by omega)]
 ·rw [List.getElem?_append_right (by simp;omega)]
  have hl:(row.take off).length=off:=by simp;omega
  rw [hl]
  by_cases h2:j<off+cs.length
  ·rw [List.getElem?_append_left (by omega),if_pos ⟨by omega,h2⟩]
  ·rw [List.getElem?_append_right (by omega),List.getElem?_drop,if_neg (by omega)]
   congr 1;omega
theorem oN {α:Type} (row cs:List α) (off:Nat) (h:off+cs.length≤row.length):(row.take off++cs++row.drop (off+cs.length)).length=row.length:=by
 simp;omega
theorem FA {i i2 esz j off n:Nat} (hne:i2≠i) (hj:j<esz) (hn:off+n≤esz):¬(i*esz+off≤i2*esz+j∧i2*esz+j<i*esz+off+n):=by
 rintro ⟨h1,h2⟩
 rcases Nat.lt_or_ge i2 i with h | h
 ·have:=Nat.mul_le_mul_right esz (show i2+1≤i by omega)
  rw [Nat.add_mul,Nat.one_mul] at this
  omega
 ·have:=Nat.mul_le_mul_right esz (show i+1≤i2 by omega)
  rw [Nat.add_mul,Nat.one_mul] at this
  omega
theorem cH.splice {n' esz:Nat} {rs:List (List AV)} {cs:Array Value} (h:cH φ n' w esz rs cs) {i off:Nat} {row news:List AV} (hrow:rs[i]?=some row) (hfit:off+news.length≤row.length)
 {Vs:List Value} (hlen:Vs.length=news.length) (hv:∀(j:Nat) x,news[j]?=some x→x.leaf=true∧∃X,Vs[j]?=some X∧RV φ n' w x X) :
 cH φ n' w esz (rs.set i (row.take off++news++row.drop (off+news.length))) (lR cs (i*esz+off) Vs):=by
 have hes:=(h.2 i row hrow).1
 have hil:=bh hrow
 have hfitc:i*esz+off+Vs.length≤cs.size:=by
  have h1:=Nat.mul_le_mul_right esz (show i+1≤rs.length by omega)
  rw [Nat.add_mul,Nat.one_mul] at h1
  have h2:=h.1
  omega
 refine ⟨by rw [fo hfitc,List.length_set];exact h.1,fun i2 row2 hi2=>?_⟩
 by_cases e:i2=i
 ·subst e
  rw [List.getElem?_set_self hil] at hi2
  cases hi2
  refine ⟨by rw [oN _ _ _ hfit];exact hes,fun j v hj=>?_⟩
  rw [rH _ _ _ hfit] at hj
  rw [kI hfitc]
  split at hj
  ·rename_i hin
   rw [if_pos ⟨by omega,by omega⟩]
   have:i2*esz+j-(i2*esz+off)=j-off:=by omega
   rw [this]
   exact hv _ v hj
  ·rename_i hin
   rw [if_neg (by omega)]
   exact (h.2 i2 row hrow).2 j v hj
 ·rw [List.getElem?_set_ne (Ne.symm e)] at hi2
  obtain ⟨h1,h2⟩:=h.2 i2 row2 hi2
  refine ⟨h1,fun j v hj=>?_⟩
  have hjl:=bh hj
  rw [kI hfitc,if_neg (by rw [hlen];exact FA e (by omega) (by omega))]
  exact h2 j v hj
theorem qF (hH:HR N φ H w) {base:Nat} {t:TypeId} {x v:AV} {X V:Value} (hx:RV φ H.length w x X) (hv:RV φ H.length w v V) (h:ao P base H t x v=some H') :
 ∃w',(Instr.storeAt t X V).run P w=.ok () w'∧HR N φ H' w'∧cj φ H.length w φ H'.length w'∧∀b,b<base→H'[b]?=H[b]?:=by
 unfold ao at h
 split at h
 ·rename_i b g esz i off n hn
  simp only at h
  split at h
  ·rename_i hcond
   obtain ⟨hb0,hln,hleaf⟩:=hcond
   split at h
   ·rename_i esz' g' rs hblk
    split at h
    ·rename_i hg
     obtain ⟨rfl,rfl⟩:=hg
     split at h
     ·rename_i row hrow
      split at h
      ·rename_i hfit
       cases h
       obtain ⟨L,cs,T,fr,h1,h2,h3,h4,h5,h6⟩:=hH.rows _ _ _ _ hblk
       cases hx with
       | ptr hb hh =>
        rename_i a
        have ha:=(hh L h1).2 h2.symm
        subst ha
        obtain ⟨hc1,hc2,hc3⟩:=hv.cells hleaf
        subst hln
        have hsp:cH φ H.length w esz (rs.set i (row.take off++v.cells++row.drop (off+v.cells.length))) (lR cs (i*esz+off) V.cells.toList) :=
         h6.splice hrow hfit (by simpa using hc1) (fun j x hj=>by obtain ⟨a,X,b,c⟩:=hc2 j x hj;exact ⟨a,X,by simpa using b,c⟩)
        have hes:=(h6.2 i row hrow).1
        have hfitc:i*esz+off+0+V.cells.toList.length≤cs.size:=by
         have h7:=Nat.mul_le_mul_right esz (show i+1≤rs.length by have:=bh hrow;omega)
         rw [Nat.add_mul,Nat.one_mul] at h7
         have h8:=h6.1
         simp only [Array.length_toList]
         omega
        have hst:=eD (P:=P) L.cb (i*esz+off) T fr V.cells.toList 0 cs w h3 hfitc h5.1 hc3
        refine ⟨_,?_,hH.put h1 (.cells (lR cs (i*esz+off) V.cells.toList) T fr) _ (fun r hr=>by rw [h3] at hr;cases hr) (by simp) ?_ (by simp) (by simp),by simpa using cj.put hH h1 _ (fun r hr=>by rw [h3] at hr;cases hr),dV hb0⟩
        ·simp only [Instr.storeAt,Instr.sureAddr,storeVar,Sem.run_bind,Sem.run_pure,Result.andThen,bI hn,hc1,ne_eq,not_true_eq_false,if_false]
         exact hst
        ·intro esz' g' rs' e
         cases e
         exact ⟨_,T,fr,h2,rfl,by rw [fo (by simpa using hfitc)];exact h4,by rw [fo (by simpa using hfitc)];exact h5,hsp⟩
      ·cases h
     ·cases h
    ·cases h
   ·cases h
  ·cases h
 ·cases h
theorem pO {n':Nat} {x y:AV} {X:Value} {k:Nat} (hx:RV φ n' w x X) (h:bp x k=some y):∃a,X=.pointer (some a)∧RV φ n' w y (.pointer (some (a.add k))):=by
 unfold bp at h
 split at h
 ·rename_i b g esz i off
  cases h
  cases hx with
  | ptr hb hh =>
   rename_i a
   refine ⟨a,rfl,.ptr hb fun L hL=>⟨(hh L hL).1,fun e=>?_⟩⟩
   rw [(hh L hL).2 e,dQ rfl,Nat.add_assoc]
 ·rename_i cells
  split at h
  ·cases h
   cases hx with
   | eptr Vs hs hc hr =>
    rename_i hle a
    refine ⟨a,rfl,.eptr (fun j=>Vs (k+j)) (by rw [dQ hs]) (fun j v hj=>?_) (fun j v hj=>?_)⟩
    ·rw [List.getElem?_drop] at hj
     obtain ⟨h1,h2,h3⟩:=hc _ v hj
     rw [dQ hs]
     exact ⟨h1,h2,by rw [Nat.add_assoc];exact h3⟩
    ·rw [List.getElem?_drop] at hj
     exact hr _ v hj
  ·cases h
 ·cases h
theorem xo {n':Nat} {t:TypeId} {x y:AV} {X:Value} {f:Nat} (hx:RV φ n' w x X) (h:bD P t x f=some y) :
 ∃Y,(Instr.fieldAt t X f).run P w=.ok Y w∧RV φ n' w y Y:=by
 unfold bD at h
 split at h
 ·rename_i fields hu
  split at h
  ·rename_i fd hfd
   split at h
   ·rename_i k hk
    obtain ⟨a,rfl,hy⟩:=pO hx h
    refine ⟨_,?_,hy⟩
    simp only [Instr.fieldAt,Sem.run_bind,aL hu,Result.andThen,hfd,Instr.sureAddr,Sem.run_pure,fieldPlace,bI hk]
    simp
   ·cases h
  ·cases h
 ·cases h
theorem kr {n':Nat} {v:AV} {V:Value} {len i:Nat} (hv:RV φ n' w v V) (h:ii v len=some i):∃k n,V=.int k n∧0≤n∧n<len∧n.toNat=i:=by
 unfold ii at h
 split at h
 ·rename_i k n
  split at h
  ·rename_i hc
   cases h
   cases hv
   exact ⟨_,_,rfl,hc.1,hc.2,rfl⟩
  ·cases h
 ·cases h
theorem rm {n':Nat} {t:TypeId} {x ix y:AV} {X IX:Value} (hx:RV φ n' w x X) (hix:RV φ n' w ix IX) (h:aY P t x ix=some y) :
 ∃Y,(Instr.indexAt t X IX).run P w=.ok Y w∧RV φ n' w y Y:=by
 unfold aY at h
 split at h
 ·rename_i len elem hu
  split at h
  ·rename_i i n hi hn
   obtain ⟨k,m,rfl,h0,h1,rfl⟩:=kr hix hi
   obtain ⟨a,rfl,hy⟩:=pO hx h
   refine ⟨_,?_,hy⟩
   simp [Instr.indexAt,asIntOf,aL hu,Instr.sureAddr,h0,h1,bI hn,Result.andThen]
  ·cases h
 ·rename_i elem hu
  split at h
  ·rename_i n b g esz lo len hn
   split at h
   ·rename_i he
    subst he
    cases hi:ii ix len with
    | none=>rw [hi] at h;cases h
    | some i =>
     rw [hi] at h
     cases h
     obtain ⟨k,m,rfl,h0,h1,rfl⟩:=kr hix hi
     cases hx with
     | sl hb hcap hh =>
      rename_i cap a
      refine ⟨.pointer (some (a.add (m.toNat*n))),?_,.ptr hb fun L hL=>⟨(hh L hL).1,fun e=>?_⟩⟩
      ·simp [Instr.indexAt,asIntOf,aL hu,h0,h1,bI hn,Result.andThen]
      ·rw [((hh L hL).2 e).1,dQ rfl,Nat.add_mul];rfl
   ·cases h
  ·rename_i n b g esz i off len hn
   split at h
   ·rename_i he
    subst he
    cases hi:ii ix len with
    | none=>rw [hi] at h;cases h
    | some i =>
     rw [hi] at h
     cases h
     obtain ⟨k,m,rfl,h0,h1,rfl⟩:=kr hix hi
     cases hx with
     | asl hb hcap hh =>
      rename_i cap a
      refine ⟨.pointer (some (a.add (m.toNat*1))),?_,.ptr hb fun L hL=>⟨(hh L hL).1,fun e=>?_⟩⟩
      ·simp [Instr.indexAt,asIntOf,aL hu,h0,h1,bI hn,Result.andThen]
      ·rw [(hh L hL).2 e,dQ rfl,Nat.mul_one,Nat.add_assoc]
   ·cases h
  ·rename_i n rows e hn
   split at h
   ·rename_i i hi
    split at h
    ·rename_i row hrow
     split at h
     ·rename_i hlen
      cases h
      obtain ⟨k,m,rfl,h0,h1,rfl⟩:=kr hix hi
      cases hx with
      | lst Vs esz hl hcap he hb hr =>
       rename_i base len cap
       subst hl
       obtain ⟨cb,off,rfl,hcell⟩:=hb (by intro e;rw [e] at hrow;simp at hrow)
       obtain ⟨he1,hc⟩:=hcell _ row hrow
       refine ⟨.pointer (some ((⟨cb,off,none⟩:Addr).add (m.toNat*n))),?_,?_⟩
       ·simp [Instr.indexAt,asIntOf,aL hu,h0,h1,bI hn,Result.andThen]
       ·rw [dQ rfl,←hlen,he1]
        exact .eptr (fun j=>Vs m.toNat j) rfl (fun j v hj=>hc j v hj) (fun j v hj=>hr _ _ hrow j v hj)
     ·cases h
    ·cases h
   ·cases h
  ·cases h
 ·cases h
theorem gw {n':Nat} {t:TypeId} {cells:List AV} {cs:Array Value} {off:Nat} {v:AV} (hx:RV φ n' w (.agg cells) (.agg cs)) (h:nC P t cells off=some v) :
 ∃V,(part t cs off).run P w=.ok V w∧RV φ n' w v V:=by
 cases hx with
 | agg hl hf hh =>
  unfold nC at h
  split at h
  ·rename_i hle
   unfold gG at h
   split at h
   ·rename_i hagg
    split at h
    ·rename_i n hn
     split at h
     ·rename_i hfit
      cases h
      rw [List.length_drop] at hfit
      refine ⟨.agg (cs.extract off (off+n)),?_,.agg (by simp;omega) ?_ ?_⟩
      ·simp only [part,Sem.run_bind,oa hagg,Result.andThen,if_true,bI hn,Sem.run_pure]
      ·intro j v hj
       rw [List.getElem?_take] at hj
       split at hj
       ·rw [List.getElem?_drop] at hj;exact hf _ v hj
       ·cases hj
      ·intro j v V hj hV
       rw [List.getElem?_take] at hj
       split at hj
       ·rename_i hjn
        rw [List.getElem?_drop] at hj
        rw [Array.getElem?_extract] at hV
        split at hV
        ·exact hh _ v V hj hV
        ·cases hV
       ·cases hj
     ·cases h
    ·cases h
   ·rename_i hagg
    cases hd:cells.drop off with
    | nil=>rw [hd] at h;cases h
    | cons c rest =>
     rw [hd] at h
     cases h
     have hc:cells[off]?=some v:=by
      have:=congrArg (·[0]?) hd
      simpa [List.getElem?_drop] using this
     have hlt:=bh hc
     have hcs:cs[off]?=some cs[off]:=Array.getElem?_eq_getElem (by omega)
     refine ⟨cs[off],?_,hh _ v _ hc hcs⟩
     simp only [part,Sem.run_bind,oa hagg,Result.andThen,Bool.false_eq_true,if_false,hcs,Sem.run_pure]
   ·cases h
  ·cases h
theorem Jf (l:List UInt8) (i:Nat):((⟨⟨l⟩⟩:ByteArray)[i]?:Option UInt8)=l[i]?:=by
 rcases Nat.lt_or_ge i l.length with h | h
 ·have h':i<(⟨⟨l⟩⟩:ByteArray).size:=h
  rw [getElem?_pos (⟨⟨l⟩⟩:ByteArray) i h',List.getElem?_eq_getElem h]
  rfl
 ·have h':¬i<(⟨⟨l⟩⟩:ByteArray).size:=Nat.not_lt.2 h
  rw [getElem?_neg (⟨⟨l⟩⟩:ByteArray) i h',List.getElem?_eq_none h]
theorem xz {n':Nat} {t:TypeId} {x ix y:AV} {X IX:Value} (hx:RV φ n' w x X) (hix:RV φ n' w ix IX) (h:lf P t x ix=some y) :
 ∃Y,(Instr.index t X IX).run P w=.ok Y w∧RV φ n' w y Y:=by
 unfold lf at h
 split at h
 ·rename_i len elem cs hu
  split at h
  ·rename_i i n hi hn
   obtain ⟨k,m,rfl,h0,h1,rfl⟩:=kr hix hi
   have hx':=hx
   cases hx with
   | agg hl hf hh =>
    rename_i cs'
    obtain ⟨V,h2,h3⟩:=gw (P:=P) hx' h
    refine ⟨V,?_,h3⟩
    simp [Instr.index,asIntOf,aL hu,h0,h1,bI hn,Result.andThen,h2]
  ·cases h
 ·rename_i s hu
  split at h
  ·rename_i i hi
   obtain ⟨k,m,rfl,h0,h1,rfl⟩:=kr hix hi
   cases hx with
   | str _ =>
    cases hb:s[m.toNat]? with
    | none=>rw [hb] at h;cases h
    | some b =>
     rw [hb] at h
     cases h
     refine ⟨.int .u8 b.toNat,?_,.int _ _⟩
     simp [Instr.index,asIntOf,aL hu,h0,Jf,hb,Result.andThen]
  ·cases h
 ·cases h
theorem BY (hH:HR N φ H w) {t:TypeId} {x y:AV} {X:Value} (hx:RV φ H.length w x X) (h:fc P H t x=some y) (ty:TypeId) :
 ∃Y,(Builtin.len_ #[t] ty #[X]).run P w=.ok Y w∧RV φ H.length w y Y:=by
 unfold fc at h
 split at h
 ·rename_i s hu
  cases h;cases hx
  exact ⟨_,by simp [Builtin.len_,aL hu,Result.andThen,goInt];try rfl,.int _ _⟩
 ·rename_i n e hu
  cases h
  exact ⟨_,by simp [Builtin.len_,aL hu,Result.andThen,goInt];try rfl,.int _ _⟩
 ·rename_i e rows b hu
  cases h;cases hx with
  | lst Vs esz hl hcap he hb hr=>exact ⟨_,by simp [Builtin.len_,aL hu,Result.andThen,goInt];try rfl,by rw [hl];exact .int _ _⟩
 ·rename_i hu
  cases h;cases hx
  exact ⟨_,by simp [Builtin.len_,aL hu,Result.andThen,goInt];try rfl,.int _ _⟩
 ·rename_i hu
  cases h;cases hx
  exact ⟨_,by simp [Builtin.len_,aL hu,Result.andThen,goInt];try rfl,.int _ _⟩
 ·rename_i hu
  cases h;cases hx
  exact ⟨_,by simp [Builtin.len_,aL hu,Result.andThen,goInt];try rfl,.int _ _⟩
 ·rename_i k e b hu
  split at h
  ·rename_i es hblk
   cases h
   obtain ⟨L,ents,clock,h1,h2,h3,h4⟩:=hH.map _ _ hblk
   cases hx with
   | map hb hh =>
    rename_i cb
    have:=hh L h1 h2
    subst this
    exact ⟨_,by simp [Builtin.len_,aL hu,Result.andThen,getObj,Sem.run,h3,goInt];try rfl,by rw [h4.1];exact .int _ _⟩
  ·cases h
 ·cases h
end Go.Proofs.Ev
