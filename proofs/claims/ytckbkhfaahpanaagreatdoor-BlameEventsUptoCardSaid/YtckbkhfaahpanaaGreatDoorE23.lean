/- Part 23 of the proof that quiltlaw38.BlameEvents returns true: no statement of its own. -/
import Derived.Test.YtckbkhfaahpanaaGreatDoorE14
import Derived.Test.YtckbkhfaahpanaaGreatDoorE9
import Derived.Lib.Overlaps
import Derived.Shelf.RegionOpen
import Derived.Test.YtckbkhfaahpanaaGreatDoorE0
import Derived.Test.YtckbkhfaahpanaaGreatDoorE22
set_option linter.all false
namespace Go.Proofs.Ev
open Go.Proofs
variable {N : Low} {φ : Phi} {H : Heap} {w w' : World}
theorem run_copy1 {dT sT ty : TypeId} (hu : Program.underlying Tryz.prog dT = some (.slice 104)) {k o dl dc sl sc : Nat} {a : Addr} {X : List Value} (hX : X.length = 37) (hm : Nat.min sl dl = 1) (hl : ∀ j v,X[j]? = some v → w.cell? (a.add j) = some v) (h1 : ∀ v ∈ X,v.oneCell' = true)
 {cur : Array Value} {T : TypeId} {fr : Nat × Nat} (hd : w.heap[k]? = some (.cells cur T fr)) (hf : o + 37 ≤ cur.size) (hfr : FreeTo fr cur.size) :
 (Builtin.copy_ #[dT,sT] ty #[.slice (some ⟨k,o,none⟩) dl dc,.slice (some a) sl sc]).run Tryz.prog w = .ok (.int .i64 1) (putBlk w k (.cells (spl cur o X) T fr)) := by
 have hld := run_loadCells_list (P := Tryz.prog) (w := w) a X hl
 have hst := run_storeCells_spl (P := Tryz.prog) k o T fr X 0 cur w hd (by omega) hfr h1
 rw [Nat.add_zero] at hst
 rw [hX] at hld
 have hz : ∀ w0 : World,(sizeOf 104).run Tryz.prog w0 = .ok 37 w0 := Tryz.sizeOf104
 simp [Builtin.copy_,run_underlying hu,Builtin.lenOf,hm,hz,Builtin.firstCells,hld,hst,goInt]
theorem run_over0 {P : Program} (tS tR e : TypeId) (ht : P.underlying tS = some (.slice e)) (size : Nat) (hz : ∀ w,(sizeOf e).run P w = .ok size w) {a b : Addr} {la ca lb cb : Nat} (hne : a.block ≠ b.block) {tA tB : TypeId} {kA kB : Nat} (hsa : w.shape? a.block = some (tA,kA)) (hsb : w.shape? b.block = some (tB,kB)) (hkA : kA ≠ 0) (hfb : w.frozen? b = false) (hfe : w.frozen? { block := b.block,off := kB } = false) :
 (Extern.SlicesOverlaps.overlaps #[tS,tS] #[tR] #[.slice (some a) la ca,.slice (some b) lb cb]).run P w = .ok (.bool false) w := by
 have hnb' : (a.block == b.block) = false := by simpa using hne
 delta Extern.SlicesOverlaps.overlaps
 delta Extern.SlicesOverlaps.overlaps.match_4
 dsimp -zeta only
 rw [dif_pos (show (#[Value.slice (some a) la ca,Value.slice (some b) lb cb] : Array Value).size = 2 from rfl)]
 by_cases h0 : la = 0 ∨ lb = 0 ∨ size = 0
 ·simp [Array.getLit,run_underlying ht,hz,h0]
 ·cases kA with
  | zero => exact absurd rfl hkA
  | succ kA =>
   cases hfa : w.frozen? a <;> cases hfe2 : w.frozen? { block := a.block,off := kA + 1 } <;>
    simp [Array.getLit,run_underlying ht,hz,h0,hnb',frozen,noView,viewAt,mayBeOne,stringish,shape,Sem.run,hsa,hsb,hfa,hfb,hfe,hfe2]
set_option maxRecDepth 100000 in
set_option maxHeartbeats 4000000 in
theorem call_ins1 {bs : Nat} {cs : Array Value} {T : TypeId} {fr : Nat × Nat} {A B : List Value} {av : Addr} {capv : Nat} {Tv : TypeId} {cv : Array Value} {fv : Nat × Nat}
 (hs : w.heap[bs]? = some (.cells cs T fr)) (hv : w.heap[av.block]? = some (.cells cv Tv fv)) (hsp : av.spot = none) (hne : av.block ≠ bs)
 (hA : A.length = 37) (hA1 : ∀ v ∈ A,v.oneCell' = true) (hAc : ∀ (j : Nat) (v : Value),A[j]? = some v → cs[j]? = some v)
 (hB : B.length = 37) (hB1 : ∀ v ∈ B,v.oneCell' = true) (hBc : ∀ (j : Nat) (v : Value),B[j]? = some v → cv[av.off + j]? = some v) :
 CallsIn (Fw none) 0 Tryz.prog 46 #[.slice (some ⟨bs,0,none⟩) 1 1,.int .i64 0,.slice (some av) 1 capv] w
  fun e w2 => ∃ newCap Z,2 ≤ newCap ∧ Z.size = newCap * 37 ∧ e = .returned (.slice (some ⟨w.heap.size,0,none⟩) 2 newCap) ∧ w2.heap.size = w.heap.size + 1 ∧ w2.heap[w.heap.size]? = some (.cells (spl (spl Z 0 B) 37 A) 104 (0,0)) ∧ SameEnv w w2 ∧ ∀ k,k < w.heap.size → w2.heap[k]? = w.heap[k]? := by
 have hbs : bs < w.heap.size := (Array.getElem?_eq_some_iff.1 hs).1
 have hbv : av.block < w.heap.size := (Array.getElem?_eq_some_iff.1 hv).1
 obtain ⟨bv,ov,spv⟩ := av
 simp only at hsp hv hne hbv hBc
 subst hsp
 have hadd : ∀ b o j : Nat,((⟨b,o,none⟩ : Addr).add j) = ⟨b,o + j,none⟩ := fun b o j => by by_cases hj : j = 0 <;> simp [Addr.add,hj]
 have mixed : Tryz.prog.follows .mixedOrders = true := by kernel_rfl
 refine callsIn_of_wp Tryz.func46 rfl trivial ?_ rfl
 have hn : Tryz.f46.ntmps = 95 := rfl
 simp only [hn,List.size_toArray,List.length_cons,List.length_nil,Nat.reduceAdd,Nat.reduceSub,Array.replicate_succ,Array.replicate_zero,List.push_toArray,List.append_toArray,List.nil_append,List.cons_append]
 gi_wp2
 have hcut : 2 ≤ (Question.appendCap 2 1 104).cut (w.tape w.drawn (Question.appendCap 2 1 104)) := by simp [Question.cut]
 generalize (Question.appendCap 2 1 104).cut (w.tape w.drawn (Question.appendCap 2 1 104)) = newCap at *
 obtain ⟨Zv,hZv,hZs0⟩ : ∃ Zv : Array Value,Zv = (List.replicate 32 (Value.int .u8 0) ++ [Value.string ⟨#[]⟩,Value.string ⟨#[]⟩,Value.int .i64 0,Value.slice none 0 0,Value.slice none 0 0]).toArray ∧ Zv.size = 37 := ⟨_,rfl,rfl⟩
 simp only [List.replicate_succ,List.replicate_zero,List.nil_append,List.cons_append] at hZv
 rw [← hZv]
 obtain ⟨Z,hZ⟩ : ∃ Z,Z = Builtin.zeroCells Zv 2 ++ Builtin.zeroCells Zv (newCap - 2) := ⟨_,rfl⟩
 have hZs : Z.size = newCap * 37 := by rw [hZ]; simp [Builtin.zeroCells,hZs0]; omega
 rw [← hZ]
 clear hZ hZv hZs0 Zv
 generalize hW1 : (w.alloc (.cells Z 104 (0,0))).drew = W1
 have hg1 : W1.heap[w.heap.size]? = some (.cells Z 104 (0,0)) := by rw [← hW1]; exact heap_alloc_new (w := w)
 have ho1 : ∀ k,k < w.heap.size → W1.heap[k]? = w.heap[k]? := fun k hk => by rw [← hW1]; exact heap_alloc_old (w := w) hk
 have hsz1 : W1.heap.size = w.heap.size + 1 := by rw [← hW1]; simp [World.drew]
 have he1 : SameEnv w W1 := by rw [← hW1]; exact .refl
 have hs1 := (ho1 bs hbs).trans hs
 have hv1 := (ho1 bv hbv).trans hv
 have hC1 := run_copy1 (w := W1) (dT := 23) (sT := 22) (ty := 3) Tryz.underlying23 (k := w.heap.size) (o := 0) (dl := 2) (dc := newCap) (sl := 1) (sc := capv) (a := ⟨bv,ov,none⟩) hB rfl (fun j v hj => by
  rw [hadd]; simp only [World.cell?,hv1]; exact hBc j v hj) hB1 hg1 (by omega) (.zero _)
 rw [hC1]
 simp only [Result.andThen]
 generalize hW2 : putBlk W1 w.heap.size (.cells (spl Z 0 B) 104 (0,0)) = W2
 have hZ2 : (spl Z 0 B).size = Z.size := spl_size (by omega)
 have hg2 : W2.heap[w.heap.size]? = some (.cells (spl Z 0 B) 104 (0,0)) := by rw [← hW2]; exact putBlk_same (by omega)
 have ho2 : ∀ k,k < w.heap.size → W2.heap[k]? = w.heap[k]? := fun k hk => by rw [← hW2]; exact (putBlk_other (by omega)).trans (ho1 k hk)
 have hsz2 : W2.heap.size = w.heap.size + 1 := by rw [← hW2]; simpa using hsz1
 have he2 : SameEnv w W2 := by rw [← hW2]; exact he1
 have hs2 := (ho2 bs hbs).trans hs
 have hC2 := run_copy1 (w := W2.drew) (dT := 23) (sT := 23) (ty := 3) Tryz.underlying23 (k := w.heap.size) (o := 37) (dl := 1) (dc := newCap - 1) (sl := 1) (sc := 1) (a := ⟨bs,0,none⟩) hA rfl (fun j v hj => by
  have hs2' : W2.drew.heap[bs]? = some (.cells cs T fr) := hs2
  rw [hadd]; simp only [World.cell?,hs2',Nat.zero_add]; exact hAc j v hj) hA1 hg2 (by omega) (.zero _)
 have hle : (1 : Int) ≤ newCap := by omega
 clear hC1 hW1 hW2
 gi_wp2
 gi_region
 gi_wp2
 go_ret
 refine ⟨newCap,Z,hcut,hZs,rfl,by simpa using hsz2,putBlk_same (by show w.heap.size < W2.heap.size; omega),he2,fun k hk => (putBlk_other (by omega)).trans (ho2 k hk)⟩
set_option maxRecDepth 100000 in
set_option maxHeartbeats 4000000 in
theorem call_ins2 {bs cap : Nat} {cs : Array Value} {T : TypeId} {fr : Nat × Nat} {A B : List Value} {av : Addr} {capv : Nat} {Tv : TypeId} {cv : Array Value} {fv : Nat × Nat}
 (hs : w.heap[bs]? = some (.cells cs T fr)) (hv : w.heap[av.block]? = some (.cells cv Tv fv)) (hsp : av.spot = none) (hne : av.block ≠ bs) (hcap : 2 ≤ cap) (hfit : cap * 37 ≤ cs.size) (hfr : FreeTo fr (cs.size + 1))
 (hA : A.length = 37) (hA1 : ∀ v ∈ A,v.oneCell' = true) (hAc : ∀ (j : Nat) (v : Value),A[j]? = some v → cs[j]? = some v)
 (hB : B.length = 37) (hB1 : ∀ v ∈ B,v.oneCell' = true) (hBc : ∀ (j : Nat) (v : Value),B[j]? = some v → cv[av.off + j]? = some v) :
 CallsIn (Fw none) 0 Tryz.prog 46 #[.slice (some ⟨bs,0,none⟩) 1 cap,.int .i64 0,.slice (some av) 1 capv] w
  fun e w2 => e = .returned (.slice (some ⟨bs,0,none⟩) 2 cap) ∧ w2 = putBlk w.drew bs (.cells (spl (spl cs 37 A) 0 B) T fr) := by
 have hbs : bs < w.heap.size := (Array.getElem?_eq_some_iff.1 hs).1
 have hbv : av.block < w.heap.size := (Array.getElem?_eq_some_iff.1 hv).1
 have hfr0 : FreeTo fr cs.size := fun off h => hfr off (by omega)
 obtain ⟨bv,ov,spv⟩ := av
 simp only at hsp hv hne hbv hBc
 subst hsp
 have hadd : ∀ b o j : Nat,((⟨b,o,none⟩ : Addr).add j) = ⟨b,o + j,none⟩ := fun b o j => by by_cases hj : j = 0 <;> simp [Addr.add,hj]
 have mixed : Tryz.prog.follows .mixedOrders = true := by kernel_rfl
 have hcvz : cv.size ≠ 0 := by
  have h0 : B[0]? = some B[0] := List.getElem?_eq_getElem (by omega)
  have := (Array.getElem?_eq_some_iff.1 (hBc 0 _ h0)).1
  omega
 have hO := run_over0 (P := Tryz.prog) (w := w) 22 4 104 Tryz.underlying22 37 Tryz.sizeOf104 (a := ⟨bv,ov,none⟩) (b := ⟨bs,37,none⟩) (la := 1) (ca := capv) (lb := 1) (cb := cap - 1) hne (tA := Tv) (tB := T) (kA := cv.size) (kB := cs.size) (by simp [World.shape?,hv]) (by simp [World.shape?,hs]) hcvz
  (by simp only [World.frozen?,hs]; rw [Bool.eq_false_iff]; intro hh; exact hfr 37 (by omega) (by simpa using hh)) (by simp only [World.frozen?,hs]; rw [Bool.eq_false_iff]; intro hh; exact hfr cs.size (by omega) (by simpa using hh))
 have hC1 := run_copy1 (w := w.drew) (dT := 23) (sT := 23) (ty := 3) Tryz.underlying23 (k := bs) (o := 37) (dl := 1) (dc := cap - 1) (sl := 2) (sc := cap) (a := ⟨bs,0,none⟩) hA rfl (fun j v hj => by
  have hs' : w.drew.heap[bs]? = some (.cells cs T fr) := hs
  rw [hadd]; simp only [World.cell?,hs',Nat.zero_add]; exact hAc j v hj) hA1 hs (by omega) hfr0
 generalize hW1 : putBlk w.drew bs (.cells (spl cs 37 A) T fr) = W1 at hC1
 have hZ1 : (spl cs 37 A).size = cs.size := spl_size (by omega)
 have hg1 : W1.heap[bs]? = some (.cells (spl cs 37 A) T fr) := by rw [← hW1]; exact putBlk_same hbs
 have hv1 : W1.heap[bv]? = some (.cells cv Tv fv) := by rw [← hW1]; exact (putBlk_other (Ne.symm hne)).trans hv
 have hC2 := run_copy1 (w := W1) (dT := 23) (sT := 22) (ty := 3) Tryz.underlying23 (k := bs) (o := 0) (dl := 2) (dc := cap) (sl := 1) (sc := capv) (a := ⟨bv,ov,none⟩) hB rfl (fun j v hj => by
  rw [hadd]; simp only [World.cell?,hv1]; exact hBc j v hj) hB1 hg1 (by omega) (by rw [hZ1]; exact hfr0)
 have hle : ¬ ((cap : Int) < 2) := by omega
 have hle2 : (2 : Int) ≤ cap := by omega
 refine callsIn_of_wp Tryz.func46 rfl trivial ?_ rfl
 have hn : Tryz.f46.ntmps = 95 := rfl
 simp only [hn,List.size_toArray,List.length_cons,List.length_nil,Nat.reduceAdd,Nat.reduceSub,Array.replicate_succ,Array.replicate_zero,List.push_toArray,List.append_toArray,List.nil_append,List.cons_append]
 gi_wp2
 rw [run_callFunc_extern Tryz.func82 (by kernel_rfl) (by kernel_rfl) (by kernel_rfl) (e := Extern.SlicesOverlaps.overlaps #[22,22] #[4]) (by kernel_rfl),hO]
 simp only [Result.andThen]
 gi_wp2
 gi_region
 gi_wp2
 go_ret
 exact ⟨rfl,by rw [← hW1,putBlk_putBlk]⟩
theorem row_list {n : Nat} {φ : Phi} {w : World} {cs : Array Value} : ∀ {row : List AV} {o : Nat},(∀ (j : Nat) (v : AV),row[j]? = some v → v.leaf = true ∧ ∃ V,cs[o + j]? = some V ∧ RV φ n w v V) →
 ∃ A : List Value,A.length = row.length ∧ (∀ v ∈ A,v.oneCell' = true) ∧ (∀ (j : Nat) (v : Value),A[j]? = some v → cs[o + j]? = some v) ∧ ∀ (j : Nat) (v : AV),row[j]? = some v → ∃ V,A[j]? = some V ∧ RV φ n w v V
 | [],o,_ => ⟨[],rfl,by simp,by simp,by simp⟩
 | x :: row,o,h => by
  obtain ⟨hl,V,h1,h2⟩ := h 0 x rfl
  obtain ⟨A,a1,a2,a3,a4⟩ := row_list (row := row) (o := o + 1) fun j v hj => by
   have := h (j + 1) v hj
   rwa [show o + (j + 1) = o + 1 + j by omega] at this
  refine ⟨V :: A,by simp [a1],fun v hv => ?_,fun j v hj => ?_,fun j v hj => ?_⟩
  ·rcases List.mem_cons.1 hv with rfl | hv
   ·exact h2.oneCell hl
   ·exact a2 v hv
  ·cases j with
   | zero => simp at hj; subst hj; simpa using h1
   | succ j => rw [show o + (j + 1) = o + 1 + j by omega]; exact a3 j v hj
  ·cases j with
   | zero => simp at hj; subst hj; exact ⟨V,rfl,h2⟩
   | succ j => exact a4 j v hj
theorem rows_two {n : Nat} {Z : Array Value} {A B : List Value} {r q : List AV} (hZ : 2 * 37 ≤ Z.size) (hr : r.length = 37) (hq : q.length = 37) (hA : A.length = 37) (hB : B.length = 37) {C : Array Value} (hC : C.size = Z.size)
 (c0 : ∀ j,j < 37 → C[j]? = B[j]?) (c1 : ∀ j,j < 37 → C[37 + j]? = A[j]?)
 (rB : ∀ (j : Nat) (v : AV),r[j]? = some v → v.leaf = true ∧ ∃ V,B[j]? = some V ∧ RV φ n w v V) (rA : ∀ (j : Nat) (v : AV),q[j]? = some v → v.leaf = true ∧ ∃ V,A[j]? = some V ∧ RV φ n w v V) : RowsAt φ n w 37 [r,q] C := by
 refine ⟨by rw [hC]; exact hZ,fun i row hi => ?_⟩
 match i,hi with
 | 0,hi =>
  simp at hi; subst hi
  refine ⟨hr,fun j v hj => ?_⟩
  obtain ⟨a,V,b,c⟩ := rB j v hj
  have := lt_of_get hj
  exact ⟨a,V,by rw [Nat.zero_mul,Nat.zero_add,c0 j (by omega)]; exact b,c⟩
 | 1,hi =>
  simp at hi; subst hi
  refine ⟨hq,fun j v hj => ?_⟩
  obtain ⟨a,V,b,c⟩ := rA j v hj
  have := lt_of_get hj
  exact ⟨a,V,by rw [Nat.one_mul,c1 j (by omega)]; exact b,c⟩
 | i + 2,hi => simp at hi
def pIns (base : Nat) (args : List AV) (H : Heap) : Option (AV × Heap) :=
 match args with
 | [.nils,.int .i64 0,.lst [r] _] => if r.length = 37 then some (.sl H.length 0 37 0 1,H ++ [.rows 37 0 [r]]) else none
 | [.sl b g 37 0 1,.int .i64 0,.lst [r] _] =>
  match H[b]? with
  | some (.rows 37 g' [q]) => if base ≤ b ∧ g = g' ∧ r.length = 37 then some (.sl b (4 * g' + 4) 37 0 2,H.set b (.rows 37 (4 * g' + 4) [r,q])) else none
  | _ => none
 | _ => none
theorem two_three {α β : Type} {R : α → β → Prop} {a b c : α} {Vs : Array β} (h : Two R [a,b,c] Vs.toList) : ∃ X Y Z,Vs = #[X,Y,Z] ∧ R a X ∧ R b Y ∧ R c Z := by
 obtain ⟨l⟩ := Vs
 cases h with
 | cons h1 t =>
  cases t with
  | cons h2 t =>
   cases t with
   | cons h3 t =>
    cases t
    exact ⟨_,_,_,rfl,h1,h2,h3⟩
theorem ins_nil (base : Nat) (H : Heap) (r : List AV) (x : Bool) (hr : r.length = 37) : FuncW Tryz.prog cfg0 base 46 [.nils,.int .i64 0,.lst [r] x] H fun v X => v = .sl H.length 0 37 0 1 ∧ X = H ++ [.rows 37 0 [r]] := by
 refine func_rule Tryz.func46 rfl rfl (by simp) (by kernel_rfl) ?_
 unfold Tryz.f46
 have ha := app_first (P := Tryz.prog) (base := base) (ts := #[23,22]) (e := 104) (e' := 104) (by simp) (by simp) sz104 by104 (by simp [show digest0.length = 32 by decide]) (by decide) H (x := x) hr (by decide)
 have hs : sliceA Tryz.prog 23 (.lst [] true) (some (.int .i64 0)) none none = some (.lst [] true) := by kernel_rfl
 simp [argS,ha,hs,AV.denil]
theorem ins_ok (hT : TagOK Tryz.prog N) : PrimOK Tryz.prog N 46 pIns := by
 refine ⟨⟨_,Tryz.func46,rfl⟩,fun base args H v H' h φ w Vs hb hH ht => ?_⟩
 unfold pIns at h
 split at h
 ·rename_i r x
  split at h
  ·rename_i hr
   cases h
   obtain ⟨n,v1,X,h1,rfl,rfl⟩ := ins_nil base H r x hr
   exact ((all_ok (cfg0_sound hT) n).2.2.2.2.1 base _ _ H _ _ h1).2 hb hH ht
  ·cases h
 ·rename_i b g r x
  split at h
  ·rename_i g' q hblk
   split at h
   ·rename_i hc
    obtain ⟨hbb,rfl,hr⟩ := hc
    cases h
    obtain ⟨X,Y,V,rfl,h1,h2,h3⟩ := two_three ht
    obtain ⟨L,cs,T,fr,e1,e2,e3,e4,e5,e6⟩ := hH.rows _ _ _ _ hblk
    have hq := (e6.2 0 q rfl).1
    obtain ⟨A,a1,a2,a3,a4⟩ := row_list (row := q) (o := 0) (cs := cs) (φ := φ) (n := H.length) (w := w) fun j v hj => by
     obtain ⟨x1,V,x2,x3⟩ := (e6.2 0 q rfl).2 j v hj
     exact ⟨x1,V,by simpa using x2,x3⟩
    simp only [Nat.zero_add] at a3
    cases h2
    cases h1 with
    | sl hbn hcap hh =>
     rename_i cap a
     obtain ⟨ha,hfit⟩ := (hh L e1).2 e2.symm
     simp only [Nat.zero_mul,Nat.zero_add] at ha hfit
     subst ha
     have hH' := hH
     cases h3 with
     | lst Us esz hlen hcv he hbv hrv =>
      rename_i bv lv capv
      have hl1 : lv = 1 := hlen
      subst hl1
      obtain ⟨cb,off,rfl,hrow⟩ := hbv (by simp)
      obtain ⟨hre,hcell⟩ := hrow 0 r rfl
      have hez : esz = 37 := by rw [← hre]; exact hr
      obtain ⟨c0,hc0⟩ : ∃ v,r[0]? = some v := ⟨r[0]'(by omega),List.getElem?_eq_getElem _⟩
      obtain ⟨_,hnl,hw0⟩ := hcell 0 c0 hc0
      have hne : cb ≠ L.cb := fun h => hnl.1 b L e1 h.symm
      obtain ⟨cv,Tv,fv,hv⟩ : ∃ cv Tv fv,w.heap[cb]? = some (.cells cv Tv fv) := by
       simp only [World.cell?] at hw0
       cases hg : w.heap[cb]? with
       | none => rw [hg] at hw0; cases hw0
       | some o =>
        rw [hg] at hw0
        cases o with
        | cells c T fr => exact ⟨c,T,fr,rfl⟩
        | _ => cases hw0
      obtain ⟨B,b1,b2,b3,b4⟩ := row_list (row := r) (o := off) (cs := cv) (φ := φ) (n := H.length) (w := w) fun j v hj => by
       obtain ⟨x1,_,x2⟩ := hcell j v hj
       simp only [World.cell?,hv,Nat.zero_mul,Nat.add_zero] at x2
       exact ⟨x1,_,x2,hrv 0 r rfl j v hj⟩
      have rB : ∀ (j : Nat) (v : AV),r[j]? = some v → v.leaf = true ∧ ∃ V,B[j]? = some V ∧ RV φ H.length w v V := fun j v hj => ⟨(hcell j v hj).1,b4 j v hj⟩
      have rA : ∀ (j : Nat) (v : AV),q[j]? = some v → v.leaf = true ∧ ∃ V,A[j]? = some V ∧ RV φ H.length w v V := fun j v hj => ⟨((e6.2 0 q rfl).2 j v hj).1,a4 j v hj⟩
      have hcs : 37 ≤ cs.size := by have := e6.1; simpa using this
      have hone : ((⟨cb,off,none⟩ : Addr)).spot = none := rfl
      by_cases hc2 : 2 ≤ cap
      ·refine (call_ins2 (bs := L.cb) (cap := cap) (av := ⟨cb,off,none⟩) (capv := capv) e3 hv rfl hne hc2 (by rw [e4]; exact hfit) (e5.2.2 (by decide)) (by omega) a2 a3 (by omega) b2 b3).mono ?_
       rintro e w2 ⟨rfl,rfl⟩
       have hz1 : (spl cs 37 A).size = cs.size := spl_size (by have := Nat.mul_le_mul_right 37 hc2; omega)
       have hz2 : (spl (spl cs 37 A) 0 B).size = cs.size := by rw [spl_size (by omega),hz1]
       have h74 : 2 * 37 ≤ cs.size := by have := Nat.mul_le_mul_right 37 hc2; omega
       obtain ⟨r1,r2⟩ := hH.drew.regen e1 (g' := 4 * g + 4) (by omega) (T := T) (fr := fr) (fun r hr => by rw [show w.drew.heap = w.heap from rfl,e3] at hr; cases hr) (by rw [hz2]; exact e4) ⟨by rw [hz2]; exact e5.1,⟨fun h => by omega,fun h => by omega⟩,fun h => by rw [hz2]; exact e5.2.2 h⟩
        (rows_two (Z := cs) (A := A) (B := B) h74 hr hq (by omega) (by omega) hz2 (fun j hj => by rw [spl_at (by omega),if_pos (by omega)]; simp) (fun j hj => by rw [spl_at (by omega),if_neg (by omega),spl_at (by omega),if_pos (by omega)]; simp) (fun j v hj => by obtain ⟨x,V,y,z⟩ := rB j v hj; exact ⟨x,V,y,z.mono .drew⟩) (fun j v hj => by obtain ⟨x,V,y,z⟩ := rA j v hj; exact ⟨x,V,y,z.mono .drew⟩))
       refine ⟨_,_,rfl,?_,r1,by simpa using Ext.trans Ext.drew r2,fun k hk => List.getElem?_set_ne (by omega)⟩
       refine .sl (by simpa using hbn) hc2 fun L' hL' => ?_
       simp only [addLoc,if_true,Option.some.injEq] at hL'
       subst hL'
       exact ⟨Nat.le_refl _,fun _ => ⟨by simp,by simpa using hfit⟩⟩
      ·have hc1 : cap = 1 := by omega
       subst hc1
       refine (call_ins1 (bs := L.cb) (av := ⟨cb,off,none⟩) (capv := capv) e3 hv rfl hne (by omega) a2 a3 (by omega) b2 b3).mono ?_
       rintro e w2 ⟨newCap,Z,hn2,hZ,rfl,k1,k2,k4,k3⟩
       have h74 : 2 * 37 ≤ Z.size := by have := Nat.mul_le_mul_right 37 hn2; omega
       have hz1 : (spl Z 0 B).size = Z.size := spl_size (by omega)
       have hz2 : (spl (spl Z 0 B) 37 A).size = Z.size := by rw [spl_size (by omega),hz1]
       obtain ⟨r1,r2⟩ := hH.move e1 (g' := 4 * g + 4) (by omega) (T := 104) (fr := (0,0)) (.zero (by omega))
        (rows_two (Z := Z) (A := A) (B := B) h74 hr hq (by omega) (by omega) hz2 (fun j hj => by rw [spl_at (by omega),if_neg (by omega),spl_at (by omega),if_pos (by omega)]; simp) (fun j hj => by rw [spl_at (by omega),if_pos (by omega)]; simp) rB rA)
       have hk : ∀ (cb : Nat) (o : Obj),(w.alloc (.cells (spl (spl Z 0 B) 37 A) 104 (0,0))).heap[cb]? = some o → w2.heap[cb]? = some o := by
        intro cb o ho
        have hlt := (Array.getElem?_eq_some_iff.1 ho).1
        simp only [World.alloc,Array.size_push] at hlt
        rcases Nat.lt_or_ge cb w.heap.size with h | h
        ·rw [heap_alloc_old h] at ho; rw [k3 cb h]; exact ho
        ·have : cb = w.heap.size := by omega
         subst this
         rw [heap_alloc_new] at ho; rw [k2]; exact ho
       have hs : (w.alloc (.cells (spl (spl Z 0 B) 37 A) 104 (0,0))).heap.size ≤ w2.heap.size := by rw [k1]; simp
       refine ⟨_,_,rfl,?_,r1.keeps hs hk (k4),by simpa using r2.trans (Ext.keeps hs hk k4),fun k hk => List.getElem?_set_ne (by omega)⟩
       refine .sl (by simpa using hbn) hn2 fun L' hL' => ?_
       simp only [addLoc,if_true,Option.some.injEq] at hL'
       subst hL'
       exact ⟨Nat.le_refl _,fun _ => ⟨by simp,by simp [hz2,hZ]⟩⟩
   ·cases h
  ·cases h
 ·cases h
end Go.Proofs.Ev
namespace Go.Proofs.Ev
inductive Req where
 | code (base : Nat) (c : Code) (s : List AV) (H : Heap)
 | seq (base : Nat) (ops : Array Oper) (l : List Oper) (s : List AV) (H : Heap)
 | step (base : Nat) (ops : Array Oper) (o : Oper) (s : List AV) (H : Heap)
 | call (base : Nat) (f : AV) (args : List AV) (H : Heap)
 | func (base : Nat) (f : FuncId) (args : List AV) (H : Heap)
inductive Rsp where
 | code (e : AExit) (s : List AV) (H : Heap)
 | seq (s : List AV) (H : Heap)
 | val (v : AV) (H : Heap)
def Rsp.c : Option Rsp → Option (AExit × List AV × Heap) | some (.code e s H) => some (e,s,H) | _ => none
def Rsp.q : Option Rsp → Option (List AV × Heap) | some (.seq s H) => some (s,H) | _ => none
def Rsp.v : Option Rsp → Option (AV × Heap) | some (.val v H) => some (v,H) | _ => none
def Rsp.ofC : Option (AExit × List AV × Heap) → Option Rsp | some (e,s,H) => some (.code e s H) | none => none
def Rsp.ofQ : Option (List AV × Heap) → Option Rsp | some (s,H) => some (.seq s H) | none => none
def Rsp.ofV : Option (AV × Heap) → Option Rsp | some (v,H) => some (.val v H) | none => none
theorem Rsp.c_of (x : Option (AExit × List AV × Heap)) : Rsp.c (Rsp.ofC x) = x := by cases x <;> rfl
theorem Rsp.q_of (x : Option (List AV × Heap)) : Rsp.q (Rsp.ofQ x) = x := by cases x <;> rfl
theorem Rsp.v_of (x : Option (AV × Heap)) : Rsp.v (Rsp.ofV x) = x := by cases x <;> rfl
def forceI {α : Type} (n : Int) (k : Int → α) : α := Int.casesOn n (fun m => Nat.casesOn m (k 0) fun m' => k (Int.ofNat (m' + 1))) (fun m => k (Int.negSucc m))
def forceV {α : Type} (v : AV) (k : AV → α) : α := match v with | .int i n => forceI n fun n' => k (.int i n') | .bool b => (match b with | true => k (.bool true) | false => k (.bool false)) | v => k v
noncomputable def forceL {α β : Type} (l : List β) (k : List β → α) : α := List.rec (motive := fun _ => (List β → α) → α) (fun k => k []) (fun a _ ih k => ih fun l' => k (a :: l')) l k
theorem forceI_eq {α : Type} (n : Int) (k : Int → α) : forceI n k = k n := by
 cases n with
 | ofNat m => cases m <;> rfl
 | negSucc m => rfl
theorem forceV_eq {α : Type} (v : AV) (k : AV → α) : forceV v k = k v := by
 unfold forceV
 split
 ·exact forceI_eq _ _
 ·split <;> rfl
 ·rfl
theorem forceL_eq {α β : Type} : ∀ (l : List β) (k : List β → α),forceL l k = k l
 | [],_ => rfl
 | a :: l,k => forceL_eq l fun l' => k (a :: l')
def quietOp : Op → Bool
 | .move _ | .assign _ | .pick .. | .build .. | .buildSlice .. | .load .. | .nilCheck _ | .binOp .. | .unOp .. | .makeFunc .. | .slice .. | .fieldAddr .. | .indexAddr .. | .index .. | .lookup .. | .extract .. | .call { callee := .builtin .len,.. } => true
 | _ => false
noncomputable section
section run
variable (P : Program) (C : Cfg) (ih : Req → Option Rsp)
def codeI (base : Nat) (c : Code) (s : List AV) (H : Heap) := Rsp.c (ih (.code base c s H))
def seqI (base : Nat) (ops : Array Oper) (l : List Oper) (s : List AV) (H : Heap) := Rsp.q (ih (.seq base ops l s H))
def stepI (base : Nat) (ops : Array Oper) (o : Oper) (s : List AV) (H : Heap) := Rsp.v (ih (.step base ops o s H))
def callI (base : Nat) (f : AV) (args : List AV) (H : Heap) := Rsp.v (ih (.call base f args H))
def funcI (base : Nat) (f : FuncId) (args : List AV) (H : Heap) := Rsp.v (ih (.func base f args H))
def codeB (base : Nat) (c : Code) (s : List AV) (H : Heap) : Option (AExit × List AV × Heap) :=
 match c with
 | .skip => some (.normal,s,H)
 | .label _ => some (.normal,s,H)
 | .ret => some (.ret,s,H)
 | .exit id => some (.exit id,s,H)
 | .seq a b =>
  match codeI ih base a s H with
  | some (.normal,s',H') => codeI ih base b s' H'
  | r => r
 | .cond x a b =>
  match evalOperand s x with
  | .bool true => codeI ih base a s H
  | .bool false => codeI ih base b s H
  | _ => none
 | .block id b =>
  match codeI ih base b s H with
  | some (.exit i,s',H') => if i = id then some (.normal,s',H') else some (.exit i,s',H')
  | r => r
 | .loop b =>
  match codeI ih base b s H with
  | some (.normal,s',H') => codeI ih base (.loop b) s' H'
  | r => r
 | .region _ ops false =>
  match seqI ih base ops ops.toList s H with
  | some (s',H') => some (.normal,s',H')
  | none => none
 | .region _ ops true =>
  match runT P ops (fun o s H => stepI ih base ops o s H) ops.toList s H with
  | some (tr,s',H') => if drawOkT ops tr H' (fun o s H => stepI ih base ops o s H) then forceL s' fun s' => forceL H' fun H' => some (.normal,s',H') else none
  | none => none
 | .rangeFunc g ps assign body =>
  match evalOperand s g with
  | .fn f caps =>
   match funcI ih base f (.yld H.length :: caps) (H ++ [.loop true none s ps.toList assign body]) with
   | some (_,H2) =>
    match H2[H.length]? with
    | some (.loop true none _ _ _ _) => forceL (H2.set H.length .dead) fun H3 => some (.normal,s,H3)
    | some (.loop false (some c) _ _ _ _) => codeI ih base c s (H2.set H.length .dead)
    | _ => none
   | none => none
  | _ => none
 | _ => none
def seqB (base : Nat) (ops : Array Oper) (l : List Oper) (s : List AV) (H : Heap) : Option (List AV × Heap) :=
 match l with
 | [] => some (s,H)
 | o :: rest =>
  match stepI ih base ops o s H with
  | some (v,H') => forceV v fun v => forceL (putA s o.dst v) fun s1 => if quietOp o.op then seqI ih base ops rest s1 H' else forceL H' fun H1 => seqI ih base ops rest s1 H1
  | none => none
def stepB (base : Nat) (ops : Array Oper) (o : Oper) (s : List AV) (H : Heap) : Option (AV × Heap) :=
 match wantedA ops s o with
 | some true =>
  match o.op with
  | .call { callee := .value f,args,.. } => callI ih base (evalOperand s f) (args.toList.map (evalOperand s)) H
  | _ => opA P C base H (evalOperand s) o
 | some false => some (.tup [],H)
 | none => none
def callB (base : Nat) (f : AV) (args : List AV) (H : Heap) : Option (AV × Heap) :=
 match f with
 | .fn f caps =>
  if C.pure f then
   match funcI ih H.length f (args ++ caps) H with
   | some (r,H') => match freezeA H' H.length 3 r with | some r' => some (r',H) | none => none
   | none => none
  else if C.frz f then
   match (args ++ caps).mapM (freezeA H 0 6) with
   | some aS =>
    match funcI ih 0 f aS [] with
    | some (r,_) => if r.flat then some (r,H) else none
    | none => none
   | none => none
  else funcI ih base f (args ++ caps) H
 | .yld b =>
  match H[b]? with
  | some (.loop true none slots ps assign body) =>
   if base ≤ b ∧ args.length = ps.length then
    match codeI ih base assign (setParams ps args slots) H with
    | some (.normal,s1,H1) =>
     match H1[b]? with
     | some (.loop true none l1 p1 a1 b1) =>
      match codeI ih base body s1 (H1.set b (.loop false none l1 p1 a1 b1)) with
      | some (e,_,H3) =>
       match H3[b]? with
       | some (.loop false none l3 p3 a3 b3) => some (.bool e.code.isNone,H3.set b (.loop e.code.isNone e.code l3 p3 a3 b3))
       | _ => none
      | none => none
     | _ => none
    | _ => none
   else none
  | _ => none
 | _ => none
def funcB (base : Nat) (f : FuncId) (args : List AV) (H : Heap) : Option (AV × Heap) :=
 match C.prim f with
 | some p => p base args H
 | none =>
  match P.funcs[f]? with
  | some fn =>
   match fn.body with
   | some c =>
    forceL (args ++ List.replicate (fn.ntmps - args.length) (.tup [])) fun s0 =>
    match codeI ih base c s0 H with
    | some (.normal,s',H') => (resultsA P H' s' fn.results.toList).map fun vs => (packA vs,H')
    | some (.ret,s',H') => (resultsA P H' s' fn.results.toList).map fun vs => (packA vs,H')
    | _ => none
   | none => none
  | none => none
def stepB1 : Req → Option Rsp
 | .code base c s H => Rsp.ofC (codeB P ih base c s H)
 | .seq base ops l s H => Rsp.ofQ (seqB ih base ops l s H)
 | .step base ops o s H => Rsp.ofV (stepB P C ih base ops o s H)
 | .call base f args H => Rsp.ofV (callB C ih base f args H)
 | .func base f args H => Rsp.ofV (funcB P C ih base f args H)
end run
def evK (P : Program) (C : Cfg) (n : Nat) : Req → Option Rsp := Nat.rec (fun _ => none) (fun _ ih r => stepB1 P C ih r) n
theorem evK_eq (P : Program) (C : Cfg) : ∀ n : Nat,(∀ base c s H,evK P C n (.code base c s H) = Rsp.ofC (codeA P C n base c s H)) ∧ (∀ base ops l s H,evK P C n (.seq base ops l s H) = Rsp.ofQ (seqA P C n base ops l s H)) ∧
 (∀ base ops o s H,evK P C n (.step base ops o s H) = Rsp.ofV (stepA P C n base ops o s H)) ∧ (∀ base f args H,evK P C n (.call base f args H) = Rsp.ofV (callA P C n base f args H)) ∧ (∀ base f args H,evK P C n (.func base f args H) = Rsp.ofV (funcA P C n base f args H)) := by
 intro n
 induction n with
 | zero =>
  refine ⟨fun _ _ _ _ => ?_,fun _ _ _ _ _ => ?_,fun _ _ _ _ _ => ?_,fun _ _ _ _ => ?_,fun _ _ _ _ => ?_⟩
  ·rw [codeA]; rfl
  ·rw [seqA]; rfl
  ·rw [stepA]; rfl
  ·rw [callA]; rfl
  ·rw [funcA]; rfl
 | succ n ih =>
  obtain ⟨i1,i2,i3,i4,i5⟩ := ih
  have e1 : ∀ base c s H,codeI (evK P C n) base c s H = codeA P C n base c s H := fun base c s H => by rw [codeI,i1,Rsp.c_of]
  have e2 : ∀ base ops l s H,seqI (evK P C n) base ops l s H = seqA P C n base ops l s H := fun base ops l s H => by rw [seqI,i2,Rsp.q_of]
  have e3 : ∀ base ops o s H,stepI (evK P C n) base ops o s H = stepA P C n base ops o s H := fun base ops o s H => by rw [stepI,i3,Rsp.v_of]
  have e4 : ∀ base f args H,callI (evK P C n) base f args H = callA P C n base f args H := fun base f args H => by rw [callI,i4,Rsp.v_of]
  have e5 : ∀ base f args H,funcI (evK P C n) base f args H = funcA P C n base f args H := fun base f args H => by rw [funcI,i5,Rsp.v_of]
  refine ⟨fun base c s H => ?_,fun base ops l s H => ?_,fun base ops o s H => ?_,fun base f args H => ?_,fun base f args H => ?_⟩
  ·show Rsp.ofC (codeB P (evK P C n) base c s H) = _
   congr 1
   cases c with
   | region id ops draw =>
    cases draw
    ·simp only [codeA,codeB,e2]
     cases seqA P C n base ops ops.toList s H <;> rfl
    ·simp only [codeA,codeB,e3,forceL_eq]
     cases runT P ops (fun o s H => stepA P C n base ops o s H) ops.toList s H <;> rfl
   | seq a b =>
    simp only [codeA,codeB,e1]
    cases codeA P C n base a s H with
    | none => rfl
    | some x => obtain ⟨e,s',H'⟩ := x; cases e <;> rfl
   | cond x a b =>
    simp only [codeA,codeB,e1]
    cases evalOperand s x with
    | bool t => cases t <;> rfl
    | _ => rfl
   | block id b =>
    simp only [codeA,codeB,e1]
    cases codeA P C n base b s H with
    | none => rfl
    | some x => obtain ⟨e,s',H'⟩ := x; cases e <;> rfl
   | loop b =>
    simp only [codeA,codeB,e1]
    cases codeA P C n base b s H with
    | none => rfl
    | some x => obtain ⟨e,s',H'⟩ := x; cases e <;> rfl
   | rangeFunc g ps assign body =>
    simp only [codeA,codeB,e1,e5,forceL_eq]
    cases evalOperand s g with
    | fn f caps =>
     simp only
     cases funcA P C n base f (.yld H.length :: caps) (H ++ [.loop true none s ps.toList assign body]) with
     | none => rfl
     | some x =>
      obtain ⟨v,H2⟩ := x
      simp only
      cases H2[H.length]? with
      | none => rfl
      | some y =>
       cases y with
       | loop r p l ps a b => cases r <;> cases p <;> rfl
       | _ => rfl
    | _ => rfl
   | _ => simp only [codeA,codeB]
  ·show Rsp.ofQ (seqB (evK P C n) base ops l s H) = _
   congr 1
   cases l with
   | nil => rw [seqA]; rfl
   | cons o rest =>
    rw [seqA]
    unfold seqB
    simp only [e2,e3,forceL_eq,forceV_eq,ite_self]
    cases stepA P C n base ops o s H <;> rfl
  ·show Rsp.ofV (stepB P C (evK P C n) base ops o s H) = _
   congr 1
   rw [stepA]
   unfold stepB
   simp only [e4]
   cases wantedA ops s o with
   | none => rfl
   | some b =>
    cases b with
    | false => rfl
    | true =>
     simp only
     cases o.op with
     | call c =>
      obtain ⟨callee,args,ats⟩ := c
      cases callee <;> rfl
     | _ => rfl
  ·show Rsp.ofV (callB C (evK P C n) base f args H) = _
   congr 1
   cases f with
   | fn f caps =>
    simp only [callA,callB,e5]
    split
    ·cases funcA P C n H.length f (args ++ caps) H with
     | none => rfl
     | some x =>
      obtain ⟨r,H'⟩ := x
      simp only
      cases freezeA H' H.length 3 r <;> rfl
    ·split
     ·cases (args ++ caps).mapM (freezeA H 0 6) with
      | none => rfl
      | some av =>
       simp only
       cases funcA P C n 0 f av [] with
       | none => rfl
       | some x => obtain ⟨r,H'⟩ := x; rfl
     ·rfl
   | yld b =>
    simp only [callA,callB,e1]
    cases H[b]? with
    | none => rfl
    | some y =>
     cases y with
     | loop r p l ps a bd =>
      cases r
      ·rfl
      ·cases p
       ·simp only
        split
        ·cases codeA P C n base a (setParams ps args l) H with
         | none => rfl
         | some x =>
          obtain ⟨e,s1,H1⟩ := x
          cases e
          ·simp only
           cases H1[b]? with
           | none => rfl
           | some y =>
            cases y with
            | loop r p l1 p1 a1 b1 =>
             cases r
             ·rfl
             ·cases p
              ·simp only
               cases codeA P C n base bd s1 (H1.set b (.loop false none l1 p1 a1 b1)) with
               | none => rfl
               | some x =>
                obtain ⟨e,s2,H3⟩ := x
                simp only
                cases H3[b]? with
                | none => rfl
                | some y =>
                 cases y with
                 | loop r p l3 p3 a3 b3 => cases r <;> cases p <;> rfl
                 | _ => rfl
              ·rfl
            | _ => rfl
          ·rfl
          ·rfl
        ·rfl
       ·rfl
     | _ => rfl
   | _ => simp only [callA,callB]
  ·show Rsp.ofV (funcB P C (evK P C n) base f args H) = _
   congr 1
   rw [funcA]
   unfold funcB
   simp only [e1,forceL_eq]
   cases C.prim f with
   | some p => rfl
   | none =>
    simp only
    cases P.funcs[f]? with
    | none => rfl
    | some fn =>
     simp only
     cases fn.body with
     | none => rfl
     | some c =>
      simp only
      cases codeA P C n base c (args ++ List.replicate (fn.ntmps - args.length) (.tup [])) H with
      | none => rfl
      | some x => obtain ⟨e,s',H'⟩ := x; cases e <;> rfl
theorem evK_func {P : Program} {C : Cfg} {n base : Nat} {f : FuncId} {args : List AV} {H : Heap} : Rsp.v (evK P C n (.func base f args H)) = funcA P C n base f args H := by
 rw [((evK_eq P C n).2.2.2.2) base f args H,Rsp.v_of]
end
end Go.Proofs.Ev
namespace Go.Proofs.Ev
open Go.Proofs
variable {N : Low} {φ φ' : Phi} {H : Heap} {w w' : World} {n n' : Nat}
theorem closeds_mem : ∀ {l : List AV},AV.closeds l = true → ∀ {j : Nat} {v : AV},l[j]? = some v → v.closed = true
 | [],_,_,_,h => by simp at h
 | a :: l,hc,j,v,h => by
  rw [AV.closeds,Bool.and_eq_true] at hc
  cases j with
  | zero => simp at h; subst h; exact hc.1
  | succ j => exact closeds_mem hc.2 (by simpa using h)
theorem closedss_mem : ∀ {l : List (List AV)},AV.closedss l = true → ∀ {i : Nat} {r : List AV},l[i]? = some r → AV.closeds r = true
 | [],_,_,_,h => by simp at h
 | a :: l,hc,i,r,h => by
  rw [AV.closedss,Bool.and_eq_true] at hc
  cases i with
  | zero => simp at h; subst h; exact hc.1
  | succ i => exact closedss_mem hc.2 (by simpa using h)
theorem RV.move {v : AV} {V : Value} (hn : ∀ cb,NotLive φ cb → NotLive φ' cb) (h : RV φ n w v V) (hc : v.closed = true) : RV φ' n' w v V := by
 induction h with
 | undef V => cases hc
 | bool b => exact .bool b
 | int k i => exact .int k i
 | str l => exact .str l
 | nilp => exact .nilp
 | ptr _ _ => cases hc
 | eptr Vs hs hcc _ ih => exact .eptr Vs hs (fun j v hj => ⟨(hcc j v hj).1,hn _ (hcc j v hj).2.1,(hcc j v hj).2.2⟩) fun j v hj => ih j v hj (closeds_mem hc hj)
 | lst Vs esz hlen hcap he hbb _ ih =>
  refine .lst Vs esz hlen hcap he (fun hne => ?_) fun i row hi j v hj => ih i row hi j v hj (closeds_mem (closedss_mem hc hi) hj)
  obtain ⟨cb,off,h1,h2⟩ := hbb hne
  exact ⟨cb,off,h1,fun i row hi => ⟨(h2 i row hi).1,fun j v hj => ⟨((h2 i row hi).2 j v hj).1,hn _ ((h2 i row hi).2 j v hj).2.1,((h2 i row hi).2 j v hj).2.2⟩⟩⟩
 | sl _ _ _ => cases hc
 | asl _ _ _ => cases hc
 | nilm => exact .nilm
 | nils => exact .nils
 | map _ _ => cases hc
 | nilf => exact .nilf
 | fn hl _ ih => exact .fn hl fun j v V hj hV => ih j v V hj hV (closeds_mem hc hj)
 | yld _ _ => cases hc
 | agg hl hf _ ih => exact .agg hl hf fun j v V hj hV => ih j v V hj hV (closeds_mem hc hj)
 | tup hl _ ih => exact .tup hl fun j v V hj hV => ih j v V hj hV (closeds_mem hc hj)
def holdAll (φ : Phi) : Phi := ⟨fun _ => none,fun cb => φ.res cb ∨ ∃ b L,φ b = some L ∧ L.cb = cb⟩
theorem holdAll_live {cb : Nat} : NotLive (holdAll φ) cb ↔ NotLive φ cb := by
 constructor
 ·rintro ⟨_,h⟩
  exact ⟨fun b L hL e => h (.inr ⟨b,L,hL,e⟩),fun hr => h (.inl hr)⟩
 ·rintro ⟨h1,h2⟩
  refine ⟨fun b L hL => by simp [holdAll] at hL,?_⟩
  rintro (h | ⟨b,L,hL,e⟩)
  ·exact h2 h
  ·exact h1 b L hL e
theorem HR.hide (h : HR N φ H w) : HR N (holdAll φ) [] w := {
 low := h.low
 kept := fun cb c T fr hc => ⟨(h.kept cb c T fr hc).1,holdAll_live.2 (h.kept cb c T fr hc).2⟩
 dead b _ := rfl
 base b L hL := by simp [holdAll] at hL
 inj b b' L L' hL := by simp [holdAll] at hL
 resn b L hL := by simp [holdAll] at hL
 ress cb hr := by
  rcases hr with hr | ⟨b,L,hL,rfl⟩
  ·exact h.ress cb hr
  ·exact (h.base b L hL).2
 rows b esz g rs hb := by simp at hb
 map b es hb := by simp at hb
 loop b r p s ps a c hb := by simp at hb
 it b m k st hb := by simp at hb }
theorem closed_run {P : Program} {C : Cfg} (hS : C.Sound P N) {n : Nat} {f : FuncId} {av : List AV} {v : AV} (hf : ((funcA P C n 0 f av []).bind fun r => freezeA r.2 0 6 r.1) = some v) (ha : AV.closeds av = true) (hv : v.closed = true) (hH : HR N φ H w) {Vs : Array Value} (hargs : Two (fun v V => RV φ H.length w v V) av Vs.toList) :
 CallsIn (Fw none) 0 P f Vs w fun e w' => ∃ V,e = .returned V ∧ RV φ H.length w' v V ∧ HR N φ H w' ∧ Ext φ H.length w φ H.length w' := by
 cases hf1 : funcA P C n 0 f av [] with
 | none => rw [hf1] at hf; cases hf
 | some r =>
  obtain ⟨v1,H1⟩ := r
  rw [hf1] at hf
  simp only [Option.bind_some] at hf
  obtain ⟨_,hc⟩ := (all_ok hS n).2.2.2.2.1 0 f av [] _ _ hf1
  have hall0 : Two (fun v V => RV (holdAll φ) 0 w v V) av Vs.toList := by
   have h1 := hargs.get
   refine Two.of_get h1.1 fun i x y hx hy => ?_
   obtain ⟨V,h2,h3⟩ := h1.2 i x hx
   rw [h2] at hy; cases hy
   exact h3.move (fun cb => holdAll_live.2) (closeds_mem ha hx)
  refine (hc (Nat.le_refl _) hH.hide hall0).mono ?_
  rintro e w' ⟨V,φ',rfl,hrv,h1,hx,hlow⟩
  have hres : ∀ cb,φ'.res cb ↔ (holdAll φ).res cb := fun cb => by rw [hx.res]
  have pres : ∀ (cb : Nat) (o : Obj),w.heap[cb]? = some o → w'.heap[cb]? = some o := by
   intro cb o ho
   by_cases hr : (holdAll φ).res cb
   ·exact hx.keep cb o hr ho
   ·exact hx.same cb o ho ⟨fun b L hL => by simp [holdAll] at hL,hr⟩
  refine ⟨V,rfl,?_,hH.keeps hx.size pres hx.env,Ext.keeps hx.size pres hx.env⟩
  refine (freeze_sound h1 6 hf hrv).move (fun cb hn => ?_) hv
  refine holdAll_live.1 ⟨fun b L hL => by simp [holdAll] at hL,fun hr => hn.2 ?_⟩
  exact (hres cb).2 hr
structure Row where
 f : FuncId
 a : List AV
 v : AV
def RowOK (N : Low) (r : Row) : Prop := (∃ fn : Func,Tryz.prog.funcs[r.f]? = some fn ∧ fn.body.isSome = true) ∧ ∀ φ H w (Vs : Array Value),HR N φ H w → Two (fun v V => RV φ H.length w v V) r.a Vs.toList →
 CallsIn (Fw none) 0 Tryz.prog r.f Vs w fun e w' => ∃ V φ',e = .returned V ∧ RV φ' H.length w' r.v V ∧ HR N φ' H w' ∧ Ext φ H.length w φ' H.length w'
def tabP (T : List Row) (f : FuncId) (_ : Nat) (args : List AV) (H : Heap) : Option (AV × Heap) :=
 match T.find? fun r => r.f == f && AV.beqs r.a args with
 | some r => some (r.v,H)
 | none => none
theorem tab_ok {T : List Row} (hT : ∀ r ∈ T,RowOK N r) {f : FuncId} (hf : T.any (fun r => r.f == f) = true) : PrimOK Tryz.prog N f (tabP T f) := by
 obtain ⟨r0,h0,h1⟩ := List.any_eq_true.1 hf
 have h1 : r0.f = f := by simpa using h1
 refine ⟨h1 ▸ (hT r0 h0).1,fun base args H v H' h φ w Vs hb hH ht => ?_⟩
 unfold tabP at h
 split at h
 ·rename_i r hr
  cases h
  have hm := List.mem_of_find?_eq_some hr
  have hp := List.find?_some hr
  simp only [Bool.and_eq_true,beq_iff_eq] at hp
  obtain ⟨rfl,hb2⟩ := hp
  have := beqs_eq _ _ hb2
  subst this
  refine ((hT r hm).2 φ H w Vs hH ht).mono ?_
  rintro e w' ⟨V,φ',h1,h2,h3,h4⟩
  exact ⟨V,φ',h1,h2,h3,h4,fun _ _ => rfl⟩
 ·cases h
theorem row_ret {C : Cfg} (hS : C.Sound Tryz.prog N) {f : FuncId} {a : List AV} {v : AV} (hp : C.pure f = true) (hr : Ret Tryz.prog C f [] a v) (hb : ∃ fn : Func,Tryz.prog.funcs[f]? = some fn ∧ fn.body.isSome = true) : RowOK N ⟨f,a,v⟩ := by
 refine ⟨hb,fun φ H w Vs hH ht => ?_⟩
 obtain ⟨n,h⟩ := hr 0 H
 cases n with
 | zero => simp [callA] at h
 | succ n =>
  simp only [callA,hp,if_true,List.append_nil] at h
  cases hf : funcA Tryz.prog C n H.length f a H with
  | none => rw [hf] at h; cases h
  | some vh =>
   obtain ⟨v1,H1⟩ := vh
   rw [hf] at h
   simp only at h
   cases hfr : freezeA H1 H.length 3 v1 with
   | none => rw [hfr] at h; cases h
   | some v2 =>
    rw [hfr] at h; cases h
    obtain ⟨_,hc⟩ := (all_ok hS n).2.2.2.2.1 H.length f a H v1 H1 hf
    refine (hc (Nat.le_refl _) hH ht).mono ?_
    rintro e w' ⟨V,φ',rfl,hv,h1,hx,hlow⟩
    exact ⟨V,cutLoc φ' H.length,rfl,freeze_sound h1 3 hfr hv,hH.cut h1 hlow,hx.cut⟩
theorem row_run {C : Cfg} (hS : C.Sound Tryz.prog N) {n : Nat} {f : FuncId} {a : List AV} {v : AV} (hf : ((funcA Tryz.prog C n 0 f a []).bind fun r => freezeA r.2 0 6 r.1) = some v) (ha : AV.closeds a = true) (hv : v.closed = true) (hb : ∃ fn : Func,Tryz.prog.funcs[f]? = some fn ∧ fn.body.isSome = true) : RowOK N ⟨f,a,v⟩ :=
 ⟨hb,fun φ H w Vs hH ht => (closed_run hS hf ha hv hH ht).mono fun e w' ⟨V,h1,h2,h3,h4⟩ => ⟨V,φ,h1,h2,h3,h4⟩⟩
end Go.Proofs.Ev
namespace Go.Proofs.Ev
open Go.Proofs Go.Sort
def chA : ChV := { zeroCh with kind := 1,type := 1 }
def chB : ChV := { zeroCh with kind := 2,parent := rootId,name := [102] }
def chC : ChV := { zeroCh with kind := 5,lines := [[120],[121]],linesK := .exact }
def p1 : PatchV := ⟨[97,110,110],[],0,[],.nil,[chA,chB,chC],.exact⟩
def d1 : DigV := ⟨[226,249,67,36,224,136,119,52,116,112,63,225,173,69,214,183,113,16,111,186,229,28,180,40,14,159,111,192,115,126,3,9],by decide,by decide⟩
def idA (d : DigV) (n : Int) : IdV := ⟨d.d,n,d.h,d.b⟩
def p2 : PatchV := ⟨[98,111,98],[],0,[],.nil,[{ zeroCh with kind := 7,over := [idA d1 2],overK := .exact }],.exact⟩
def d2 : DigV := ⟨[180,232,99,19,238,250,85,112,0,7,167,54,126,144,140,62,33,237,98,193,158,36,208,198,45,253,132,232,210,167,111,29],by decide,by decide⟩
theorem p1_good : p1.Good := {
 fit := (fit_of ⟨by simp [p1],by simp [p1],by simp [p1],by simp [p1],by
  intro c hc
  simp only [p1,List.mem_cons,List.not_mem_nil,or_false] at hc
  rcases hc with rfl | rfl | rfl <;> exact ⟨by decide,by decide,by decide,by decide,by decide⟩⟩ (by kernel_rfl)).1
 ok := by kernel_rfl
 n := by have : (checkL p1).length = 7 := by kernel_rfl
         omega }
theorem p2_good : p2.Good := {
 fit := (fit_of ⟨by simp [p2],by simp [p2],by simp [p2],by simp [p2],by
  intro c hc
  simp only [p2,List.mem_cons,List.not_mem_nil,or_false] at hc
  subst hc
  exact ⟨by decide,by decide,by decide,by decide,by decide⟩⟩ (by kernel_rfl)).1
 ok := by kernel_rfl
 n := by have : (checkL p2).length = 1 := by kernel_rfl
         omega }
theorem p1_dig : p1.dig = d1 := DigV.ext' (by kernel_rfl)
theorem p2_dig : p2.dig = d2 := DigV.ext' (by kernel_rfl)
theorem sortL_short {α : Type} [Inhabited α] {cf : α → α → Int} (hO : SWO (ltOf cf)) {l : List α} (h : l.length ≤ 1) : sortL cf l = l := by
 have hp := sortL_perm hO l
 match l,h with
 | [],_ => exact hp.eq_nil
 | [x],_ => exact List.perm_singleton.1 hp
 | _ :: _ :: _,h => simp at h
def sig0 : Sorts := ⟨id,id⟩
theorem atoms0 {p : PatchV} (h : ∀ x ∈ checkL p,x.over.length ≤ 1) : atomsP sigT p = (checkL p).map (atP sig0 p.dig) := by
 refine List.map_congr_left fun x hx => ?_
 unfold atP
 have := sortL_short swo_id (l := x.over.map fun z => wholeV z p.dig) (by rw [List.length_map]; exact h x hx)
 show ({ at4 p.dig (at3 p.dig (at2 p.dig (atI p.dig x))) with over := sortL cmpI (x.over.map fun z => wholeV z p.dig),overK := nlK x.over } : AtV) = _
 rw [this]; rfl
theorem over1 {l : List AtV} (h : (l.all fun x => decide (x.over.length ≤ 1)) = true) : ∀ x ∈ l,x.over.length ≤ 1 := fun x hx => by simpa using List.all_eq_true.1 h x hx
variable {N : Low}
theorem prim0_ok : PrimOK Tryz.prog N 6 (fun _ _ _ => none) := ⟨⟨_,Tryz.func6,rfl⟩,fun _ _ _ _ _ h => by cases h⟩
def atV (p : PatchV) (d : DigV) : AV := .tup [.lst (((checkL p).map (atP sig0 d)).map AtV.cells) false,.int .i64 0]
def rows0 : List Row := [⟨40,[.agg p1.cells],.tup [.agg d1.cells,.int .i64 0]⟩,⟨40,[.agg p2.cells],.tup [.agg d2.cells,.int .i64 0]⟩,
 ⟨26,[.agg p1.cells],atV p1 d1⟩,⟨26,[.agg p2.cells],atV p2 d2⟩,
 ⟨78,[.agg p1.cells],.lst [] true⟩,⟨78,[.agg p2.cells],.lst [d1.cells] false⟩]
theorem needs1 : needsP sigT p1 = [] := by
 have h : needL p1 = [] := by rfl
 have : sortL (fun a b : DigV => cmpD a.d b.d) [] = [] := sortL_short swo_dig (by simp)
 unfold needsP sigT
 rw [h]
 simp only
 rw [this]; rfl
theorem needs2 : needL p2 = [d1] := by rfl
theorem rows0_ok (hT : TagOK Tryz.prog N) (hG : TagHere N) (hL : LowTab N) : ∀ r ∈ rows0,RowOK N r := by
 have hS := soundT hT hG hL (prim0_ok (N := N))
 have hQ : SettingQ (cfgT fun _ _ _ => none) sigT := isSettingQ
 have hR : SettingR (cfgT fun _ _ _ => none) sigT := isSettingR
 intro r hr
 simp only [rows0,List.mem_cons,List.not_mem_nil,or_false] at hr
 rcases hr with rfl | rfl | rfl | rfl | rfl | rfl
 ·have := ret_IdP isSettingP p1 p1_good (C := cfgT fun _ _ _ => none)
  rw [p1_dig] at this
  exact row_ret hS (by kernel_rfl) this ⟨_,Tryz.func40,rfl⟩
 ·have := ret_IdP isSettingP p2 p2_good (C := cfgT fun _ _ _ => none)
  rw [p2_dig] at this
  exact row_ret hS (by kernel_rfl) this ⟨_,Tryz.func40,rfl⟩
 ·have := ret_Atoms hQ p1 p1_good
  rw [atoms0 (over1 (by kernel_rfl)),p1_dig] at this
  exact row_ret hS (by kernel_rfl) this ⟨_,Tryz.func26,rfl⟩
 ·have := ret_Atoms hQ p2 p2_good
  rw [atoms0 (over1 (by kernel_rfl)),p2_dig] at this
  exact row_ret hS (by kernel_rfl) this ⟨_,Tryz.func26,rfl⟩
 ·have := ret_Needs hR p1 p1_good
  rw [needs1] at this
  exact row_ret hS (by kernel_rfl) this ⟨_,Tryz.func78,rfl⟩
 ·have := ret_Needs hR p2 p2_good
  have hn : needsP sigT p2 = [d1] := by
   unfold needsP sigT
   rw [needs2]
   simp only
   rw [sortL_short swo_dig (by simp)]; rfl
  rw [hn,needs2] at this
  exact row_ret hS (by kernel_rfl) this ⟨_,Tryz.func78,rfl⟩
end Go.Proofs.Ev
namespace Go.Proofs.Ev
open Go.Proofs
variable {N : Low}
def k32 : List LK := List.replicate 32 (.int .u8)
def kindsA (t : TypeId) : Option (List LK) :=
 if t = 25 then some k32 else if t = 27 then some (k32 ++ [.int .i64]) else
 if t = 40 then some (.int .i64 :: (k32 ++ (k32 ++ [.int .i64]))) else if t = 70 then some (k32 ++ [.int .i64,.str,.int .i64]) else
 if t = 183 then some [.int .i64,.int .i64] else if t = 240 then some (k32 ++ [.int .i64,.str]) else none
def pureA : List FuncId := [299,286,234,233,232,222,221,208,205,204,202,159,156,154,153,152,150,148,145,144,140,129,128,103,98,97,95,92,91,89,85,78,77,76,74,62,61,57,56,54,53,51,49,48,43,41,40,27,26,25,22,21,20,19,18,17,16,15,8,7]
def primA (T : List Row) (f : FuncId) : Option (Nat → List AV → Heap → Option (AV × Heap)) :=
 if f = 128 then some pCmp else if f = 46 then some pIns else if T.any (fun r => r.f == f) then some (tabP T f) else none
def cfgR (T : List Row) : Cfg := ⟨primA T,fun f => pureA.contains f,fun _ => false,kindsA⟩
theorem kindsA_ok : ∀ t ks,kindsA t = some ks → flatKinds Tryz.prog 20 t = some ks ∧ Tryz.prog.eqGuardType Tryz.prog.depth t = false ∧ isAggT Tryz.prog t = some true := by
 intro t ks h
 unfold kindsA at h
 split at h
 ·rename_i ht; subst ht; cases h; exact ⟨by kernel_rfl,by kernel_rfl,by kernel_rfl⟩
 split at h
 ·rename_i ht; subst ht; cases h; exact ⟨by kernel_rfl,by kernel_rfl,by kernel_rfl⟩
 split at h
 ·rename_i ht; subst ht; cases h; exact ⟨by kernel_rfl,by kernel_rfl,by kernel_rfl⟩
 split at h
 ·rename_i ht; subst ht; cases h; exact ⟨by kernel_rfl,by kernel_rfl,by kernel_rfl⟩
 split at h
 ·rename_i ht; subst ht; cases h; exact ⟨by kernel_rfl,by kernel_rfl,by kernel_rfl⟩
 split at h
 ·rename_i ht; subst ht; cases h; exact ⟨by kernel_rfl,by kernel_rfl,by kernel_rfl⟩
 cases h
theorem soundR (hT : TagOK Tryz.prog N) {T : List Row} (hr : ∀ r ∈ T,RowOK N r) : (cfgR T).Sound Tryz.prog N := {
 fits := ⟨kindsA_ok⟩
 mixed := by kernel_rfl
 tag := hT
 names := names_ok
 prim f q h := by
  change primA T f = some q at h
  unfold primA at h
  split at h
  ·rename_i hf; subst hf; cases h; exact cmp_ok N
  split at h
  ·rename_i hf; subst hf; cases h; exact ins_ok hT
  split at h
  ·rename_i hf; cases h; exact tab_ok hr hf
  cases h }
theorem itoa_row (hL : LowTab N) : RowOK N ⟨145,[.int .i64 0],.str [48]⟩ := by
 refine ⟨⟨_,Tryz.func145,rfl⟩,fun φ H w Vs hH ht => ?_⟩
 have h : pItoa 0 [.int .i64 0] H = some (.str [48],H) := by
  show (if (-9223372036854775808 : Int) ≤ 0 ∧ (0 : Int) ≤ 9223372036854775807 then some (AV.str (decI 0),H) else none) = _
  rw [if_pos ⟨by decide,by decide⟩]
  have : decI 0 = [48] := by simp [decI,decN]
  rw [this]
 refine ((itoa_ok hL).2 0 _ H _ _ h φ w Vs (Nat.zero_le _) hH ht).mono ?_
 rintro e w' ⟨V,φ',h1,h2,h3,h4,_⟩
 exact ⟨V,φ',h1,h2,h3,h4⟩
def rowsI : List Row := ⟨145,[.int .i64 0],.str [48]⟩ :: rows0
theorem rowsI_ok (hT : TagOK Tryz.prog N) (hG : TagHere N) (hL : LowTab N) : ∀ r ∈ rowsI,RowOK N r := by
 intro r hr
 rcases List.mem_cons.1 hr with rfl | hr
 ·exact itoa_row hL
 ·exact rows0_ok hT hG hL r hr
theorem row_fast {T : List Row} (hT : TagOK Tryz.prog N) (hr : ∀ r ∈ T,RowOK N r) {n : Nat} {f : FuncId} {a : List AV} {v : AV} (hf : ((Rsp.v (evK Tryz.prog (cfgR T) n (.func 0 f a []))).bind fun r => freezeA r.2 0 6 r.1) = some v) (ha : AV.closeds a = true) (hv : v.closed = true) (hb : ∃ fn : Func,Tryz.prog.funcs[f]? = some fn ∧ fn.body.isSome = true) : RowOK N ⟨f,a,v⟩ :=
 row_run (soundR hT hr) (by rw [evK_func] at hf; exact hf) ha hv hb
end Go.Proofs.Ev
namespace Go.Proofs.Ev
open Go.Proofs
variable {N : Low}
def st1 : List AV := d1.cells ++ p1.cells
def st2 : List AV := d2.cells ++ p2.cells
def set1 : AV := .lst [st1] false
def set2 : AV := .lst [st2,st1] false
set_option maxRecDepth 100000 in
theorem run_add1 : ((Rsp.v (evK Tryz.prog (cfgR rowsI) 3000 (.func 0 15 [.nils,.agg p1.cells] []))).bind fun r => freezeA r.2 0 6 r.1) = some (.tup [set1,.agg d1.cells,.int .i64 0]) := by kernel_rfl
set_option maxRecDepth 100000 in
theorem run_add2 : ((Rsp.v (evK Tryz.prog (cfgR rowsI) 3000 (.func 0 15 [set1,.agg p2.cells] []))).bind fun r => freezeA r.2 0 6 r.1) = some (.tup [set2,.agg d2.cells,.int .i64 0]) := by kernel_rfl
end Go.Proofs.Ev
namespace Go.Proofs.Ev
open Go.Proofs
set_option maxRecDepth 100000 in
theorem run_events : ((Rsp.v (evK Tryz.prog (cfgR rowsI) 3000 (.func 0 7 [set2,.agg (idA d1 2).cells] []))).bind fun r => freezeA r.2 0 6 r.1) = some (.tup [.lst [.int .i64 1 :: (d1.cells ++ (idA d1 2).cells),.int .i64 2 :: (d2.cells ++ (idA d2 0).cells)] false,.int .i64 0]) := by kernel_rfl
set_option maxRecDepth 100000 in
theorem run_touch : ((Rsp.v (evK Tryz.prog (cfgR rowsI) 3000 (.func 0 18 [set2,.agg (idA d1 0).cells] []))).bind fun r => freezeA r.2 0 6 r.1) = some (.tup [.lst [d1.cells,d2.cells] false,.int .i64 0]) := by kernel_rfl
end Go.Proofs.Ev
namespace Go.Proofs.Ev
open Go.Proofs
set_option maxRecDepth 100000 in
theorem run_paths : ((Rsp.v (evK Tryz.prog (cfgR rowsI) 3000 (.func 0 48 [set2] []))).bind fun r => freezeA r.2 0 6 r.1) = some (.lst [.str [102] :: (idA d1 0).cells] false) := by kernel_rfl
end Go.Proofs.Ev
namespace Go.Proofs.Ev
open Go.Proofs
def grA : AV := .agg [.lst [(idA d1 2).cells ++ [.str [120],.bool false],(idA d1 3).cells ++ [.str [121],.bool true]] false,.lst [[.int .i64 (-1),.int .i64 0],[.int .i64 0,.int .i64 1],[.int .i64 1,.int .i64 (-1)]] false]
set_option maxRecDepth 100000 in
theorem run_of : ((Rsp.v (evK Tryz.prog (cfgR rowsI) 3000 (.func 0 49 [set2,.agg (idA d1 0).cells] []))).bind fun r => freezeA r.2 0 6 r.1) = some (.tup [grA,.int .i64 0]) := by kernel_rfl
end Go.Proofs.Ev
namespace Go.Proofs.Ev
open Go.Proofs
set_option maxRecDepth 100000 in
theorem run_regions : ((Rsp.v (evK Tryz.prog (cfgR rowsI) 3000 (.func 0 51 [grA] []))).bind fun r => freezeA r.2 0 6 r.1) = some (.lst [[.bool false,.lst [[.int .i64 1]] false,.nils]] false) := by kernel_rfl
end Go.Proofs.Ev
