/- Part 27 of the proof that quiltlaw38.BlameEvents returns true: no statement of its own. -/
import Derived.Test.YtckbkhfaahpanaaGreatDoorE26
import Derived.Test.YtckbkhfaahpanaaGreatDoorE23
import Derived.Test.YtckbkhfaahpanaaGreatDoorE12
import Derived.Lib.LaidTab
import Derived.Stop.LaidErr
import Derived.MakeChecks
import Derived.Below
import Derived.Test.YtckbkhfaahpanaaGreatDoorTie
import Derived.JoinedCond
import Derived.KernelRfl
set_option linter.all false
namespace Go.Proofs.Ev
open Go.Proofs
variable {σ : Sorts}
def FromA (A : List AtV) (M : List (IdV × List IdV)) : Prop := ∀ x ∈ M,∀ z ∈ x.2,∃ a ∈ A,a.id = z ∧ x.1 ∈ a.over
theorem FromA.add {A : List AtV} {a : AtV} {d : IdV} (ha : a ∈ A) (hd : d ∈ a.over) : ∀ {M : List (IdV × List IdV)},FromA A M → FromA A (addM M d a.id)
 | [],_ => by
  intro x hx z hz
  simp [addM] at hx; subst hx
  simp at hz; subst hz
  exact ⟨a,ha,rfl,hd⟩
 | y :: M,h => by
  intro x hx z hz
  rw [addM] at hx
  split at hx
  ·rename_i hs
   rcases List.mem_cons.1 hx with rfl | hx
   ·rcases List.mem_append.1 hz with hz | hz
    ·exact h y (by simp) z hz
    ·simp at hz; subst hz
     refine ⟨a,ha,rfl,?_⟩
     have := (sameId_eq hs)
     simp only [this]; exact hd
   ·exact h x (by simp [hx]) z hz
  ·rcases List.mem_cons.1 hx with rfl | hx
   ·exact h _ (by simp) z hz
   ·exact FromA.add ha hd (M := M) (fun x hx => h x (by simp [hx])) x hx z hz
theorem FromA.ops {A : List AtV} {a : AtV} (ha : a ∈ A) : ∀ (l : List IdV) (k : KS),(∀ d ∈ l,d ∈ a.over) → FromA A k.2 → FromA A (l.foldl (stepO a) k).2
 | [],k,_,h => h
 | d :: l,k,hl,h => FromA.ops ha l (stepO a k d) (fun x hx => hl x (by simp [hx])) (h.add ha (hl d (by simp)))
theorem FromA.steps {A : List AtV} : ∀ (l : List AtV) (k : KS),(∀ a ∈ l,a ∈ A) → FromA A k.2 → FromA A (l.foldl stepK k).2
 | [],k,_,h => h
 | a :: l,k,hl,h => by
  refine FromA.steps l (stepK k a) (fun x hx => hl x (by simp [hx])) ?_
  unfold stepK
  split
  ·exact h
  ·exact FromA.ops (hl a (by simp)) _ _ (fun _ h => h) h
theorem look_from {A : List AtV} : ∀ {M : List (IdV × List IdV)} {d z : IdV},FromA A M → z ∈ lookM M d → ∃ a ∈ A,a.id = z ∧ d ∈ a.over
 | [],d,z,_,hz => by simp [lookM] at hz
 | x :: M,d,z,h,hz => by
  rw [lookM] at hz
  split at hz
  ·rename_i hs
   rw [← (sameId_eq hs)]
   exact h x (by simp) z hz
  ·exact look_from (M := M) (fun x hx => h x (by simp [hx])) hz
theorem latA_mem {s : List StoredV} {L : List DigV} {j : Nat} {a : AtV} (h : a ∈ latA σ s L j) : ∃ d ∈ L,a ∈ atomsP σ (getP s d.d) := by
 unfold latA at h
 obtain ⟨l,hl,ha⟩ := List.mem_flatten.1 h
 obtain ⟨d,hd,rfl⟩ := List.mem_map.1 hl
 exact ⟨d,List.mem_reverse.1 (List.mem_of_mem_take hd),by simpa using ha⟩
def Named (s : List StoredV) : Prop := ∀ x ∈ s,x.patch.dig.d = x.id.d
theorem uniq : ∀ {s : List StoredV},s.Pairwise (fun x y => x.id.d ≠ y.id.d) → ∀ {x y : StoredV},x ∈ s → y ∈ s → x.id.d = y.id.d → x = y
 | [],_,x,y,hx,_,_ => by simp at hx
 | a :: s,h,x,y,hx,hy,he => by
  obtain ⟨h1,h2⟩ := List.pairwise_cons.1 h
  rcases List.mem_cons.1 hx with h3 | h3
  ·rcases List.mem_cons.1 hy with h4 | h4
   ·rw [h3,h4]
   ·rw [h3] at he; exact absurd he (h1 y h4)
  ·rcases List.mem_cons.1 hy with h4 | h4
   ·rw [h4] at he; exact absurd he.symm (h1 x h3)
   ·exact uniq h2 h3 h4 he
theorem getP_mem {s : List StoredV} (hs : SetGood s) {x : StoredV} (hx : x ∈ s) : hasS s x.id.d = true ∧ getP s x.id.d = x.patch := by
 have h : hasS s x.id.d = true := by unfold hasS; rw [List.find?_isSome]; exact ⟨x,hx,by simp⟩
 obtain ⟨_,y,hy,h1,h2⟩ := getP_good hs h
 refine ⟨h,?_⟩
 rw [← h2]
 rw [uniq hs.2.1 hy hx h1]
theorem atoms_id {p : PatchV} (hp : p.Good) {i : Nat} {a : AtV} (h : (atomsP σ p)[i]? = some a) : a.id.d = p.dig.d ∧ a.id.n = (i : Int) := by
 unfold atomsP at h
 rw [List.getElem?_map] at h
 cases hc : (checkL p)[i]? with
 | none => rw [hc] at h; cases h
 | some y =>
  rw [hc] at h
  simp at h; subst h
  rw [hp.atoms] at hc
  have := atomsOf_id p.changes [] (by intro i y h; simp at h) i y hc
  have hid : (atP σ p.dig y).id = wholeV y.id p.dig := by
   show (at4 p.dig (at3 p.dig (at2 p.dig (atI p.dig y)))).id = _
   unfold at4 at3 at2
   repeat' split
   all_goals rfl
  rw [hid,this]
  have hz : zeroD zeroId.d = true := by decide
  have hw : wholeV (ownId (i : Int)) p.dig = ⟨p.dig.d,(i : Int),p.dig.h,p.dig.b⟩ := by
   unfold wholeV ownId
   rw [if_pos (by simp [hz])]
  rw [hw]
  exact ⟨rfl,rfl⟩
theorem over_len {p : PatchV} (hp : p.Good) {a : AtV} (h : a ∈ atomsP σ p) (hi : ∀ l,(σ.i l).Perm l) : a.over.length ≤ 2 ^ 10 := by
 unfold atomsP at h
 obtain ⟨y,hy,rfl⟩ := List.mem_map.1 h
 have h1 := hp.fit.atomOver y hy
 show (σ.i (y.over.map fun z => wholeV z p.dig)).length ≤ _
 rw [(hi _).length_eq,List.length_map]; exact h1
theorem atoms_find {p : PatchV} (hp : p.Good) {a : AtV} (h : a ∈ atomsP σ p) : (atomsP σ p).find? (fun x => sameId x.id a.id) = some a := by
 obtain ⟨i,hi,rfl⟩ := List.getElem_of_mem h
 obtain ⟨L,hL⟩ : ∃ L,L = atomsP σ p := ⟨_,rfl⟩
 have hid := fun j a => atoms_id (σ := σ) hp (i := j) (a := a)
 rw [← hL] at hid
 simp only [← hL] at hi ⊢
 obtain ⟨d1,n1⟩ := hid i _ (List.getElem?_eq_getElem hi)
 rw [List.find?_eq_some_iff_getElem]
 refine ⟨same_id _,i,hi,rfl,fun j hj => ?_⟩
 obtain ⟨d2,n2⟩ := hid j _ (List.getElem?_eq_getElem (by omega))
 simp [sameId,n1,n2]
 exact .inr (by omega)
theorem find_mem {s : List StoredV} (hs : SetGood s) (hn : Named s) {x : StoredV} (hx : x ∈ s) {a : AtV} (ha : a ∈ atomsP σ x.patch) : findP σ s a.id = some a := by
 have hp := hs.1 x hx
 obtain ⟨i,hi⟩ := List.getElem?_of_mem ha
 have hd := (atoms_id hp hi).1
 rw [hn x hx] at hd
 obtain ⟨h1,h2⟩ := getP_mem hs hx
 unfold findP
 rw [hd,h1,if_pos rfl,h2]
 exact atoms_find hp ha
theorem kill_at {s : List StoredV} (hs : SetGood s) (hn : Named s) (hi : ∀ l,(σ.i l).Perm l) (ids : List DigV) (line z : IdV) (hz : z ∈ killersP σ (keepP s ids) line) : KlAt σ s line z := by
 have hpg := keepP_good hs ids
 have hpm : ∀ x ∈ keepP s ids,x ∈ s := fun x hx => (List.mem_filter.1 hx).1
 unfold killersP at hz
 split at hz
 rotate_left
 ·simp at hz
 have hz := (hi _).mem_iff.1 hz
 obtain ⟨P,hP⟩ : ∃ P,P = keepP s ids := ⟨_,rfl⟩
 rw [← hP] at hz hpg hpm
 have hF : FromA (latA σ P (ordP σ P P.length []) (ordP σ P P.length []).length) (killP σ P).2 := by
  unfold killP
  exact FromA.steps _ _ (fun _ h => h) (by intro x hx; simp at hx)
 obtain ⟨a,ha,rfl,ho⟩ := look_from hF hz
 obtain ⟨d,hd,hap⟩ := latA_mem ha
 rcases ordP_mem P _ _ d hd with h | ⟨x,hx,rfl⟩
 ·simp at h
 obtain ⟨_,h2⟩ := getP_mem hpg hx
 rw [h2] at hap
 refine ⟨a,find_mem hs hn (hpm x hx) hap,List.any_eq_true.2 ⟨line,ho,same_id _⟩,?_⟩
 have := over_len (hpg.1 x hx) hap hi
 omega
end Go.Proofs.Ev
namespace Go.Proofs.Ev
open Go.Proofs
variable {σ : Sorts}
theorem cover {α : Type} [DecidableEq α] : ∀ {l m : List α},l.Nodup → (∀ x ∈ l,x ∈ m) → m.length ≤ l.length → (∀ x ∈ m,x ∈ l) ∧ m.Nodup
 | [],m,_,_,h => by
  have : m = [] := List.length_eq_zero_iff.1 (by simpa using h)
  subst this; simp
 | a :: l,m,hn,hs,h => by
  obtain ⟨h1,h2⟩ := List.nodup_cons.1 hn
  have ha := hs a (by simp)
  have hp := List.perm_cons_erase ha
  have hlen := List.length_erase_of_mem ha
  have hpos : 0 < m.length := List.length_pos_of_mem ha
  obtain ⟨i1,i2⟩ := cover (l := l) (m := m.erase a) h2 (fun x hx => (List.mem_erase_of_ne (fun e => h1 (by rw [← e]; exact hx))).2 (hs x (by simp [hx]))) (by simp at h; omega)
  refine ⟨fun x hx => ?_,?_⟩
  ·rcases List.mem_cons.1 (hp.mem_iff.1 hx) with e | e
   ·rw [e]; simp
   ·exact List.mem_cons_of_mem _ (i1 x e)
  ·rw [hp.nodup_iff]
   exact List.nodup_cons.2 ⟨fun hc => h1 (i1 a hc),i2⟩
def digs (l : List DigV) : List (List Nat) := l.map fun x => x.d
theorem hasD_mem {l : List DigV} {d : List Nat} : hasD l d = true ↔ d ∈ digs l := by rw [hasD_iff]; simp [digs]
theorem digs_snoc {out : List DigV} {d : DigV} (h : (digs out).Nodup) (h1 : hasD out d.d = false) : (digs (out ++ [d])).Nodup := by
 have : digs (out ++ [d]) = digs out ++ [d.d] := by simp [digs]
 rw [this,List.nodup_append]
 refine ⟨h,by simp,fun a ha b hb => ?_⟩
 simp at hb; subst hb
 rintro rfl
 rw [hasD_mem.2 ha] at h1; cases h1
theorem Ordered.nodup {s : List StoredV} {out : List DigV} (h : Ordered s out) : (digs out).Nodup ∧ ∀ d ∈ digs out,d ∈ digs (s.map fun x => x.id) := by
 induction h with
 | nil => simp [digs]
 | snoc h hx h1 h2 ih =>
  refine ⟨digs_snoc ih.1 h1,fun d hd => ?_⟩
  simp only [digs,List.map_append,List.mem_append,List.map_cons,List.map_nil,List.mem_singleton] at hd
  rcases hd with hd | rfl
  ·exact ih.2 d hd
  ·simp only [digs,List.map_map,List.mem_map]; exact ⟨_,hx,rfl⟩
theorem Ordered.next {s : List StoredV} {O out : List DigV} (h : Ordered s O) : (∀ d ∈ digs O,hasD out d = true) ∨ ∃ x ∈ s,hasD out x.id.d = false ∧ allD out (needsR x.patch).2 = true := by
 induction h with
 | nil => exact .inl (by simp [digs])
 | snoc h hx h1 h2 ih =>
  rename_i O x
  rcases ih with ih | ih
  ·by_cases hh : hasD out x.id.d = true
   ·refine .inl fun d hd => ?_
    simp only [digs,List.map_append,List.mem_append,List.map_cons,List.map_nil,List.mem_singleton] at hd
    rcases hd with hd | rfl
    ·exact ih d hd
    ·exact hh
   ·refine .inr ⟨x,hx,by simpa using hh,?_⟩
    unfold allD at h2 ⊢
    rw [List.all_eq_true] at h2 ⊢
    intro y hy
    exact ih _ (hasD_mem.1 (h2 y hy))
  ·exact .inr ih
theorem ordP_nodup (s : List StoredV) : ∀ (n : Nat) (out : List DigV),(digs out).Nodup → (digs (ordP σ s n out)).Nodup
 | 0,out,h => h
 | n + 1,out,h => by
  rw [ordP]
  cases hf : s.find? (okP σ out) with
  | none => exact h
  | some x =>
   have := List.find?_some hf
   simp only [okP,Bool.and_eq_true,Bool.not_eq_true'] at this
   exact ordP_nodup s n _ (digs_snoc h this.1)
theorem ordP_full {s : List StoredV} {O : List DigV} (hO : Ordered s O) (hN : ∀ x ∈ s,∀ out,allD out (needsR x.patch).2 = true → allD out (needsP σ x.patch) = true) : ∀ (n : Nat) (out : List DigV),(∀ d ∈ digs O,hasD (ordP σ s n out) d = true) ∨ (ordP σ s n out).length = out.length + n
 | 0,out => .inr rfl
 | n + 1,out => by
  rw [ordP]
  cases hf : s.find? (okP σ out) with
  | none =>
   rcases hO.next (out := out) with h | ⟨x,hx,h1,h2⟩
   ·exact .inl h
   ·rw [List.find?_eq_none] at hf
    have := hf x hx
    simp [okP,h1,hN x hx out h2] at this
  | some x =>
   rcases ordP_full hO hN n (out ++ [x.id]) with h | h
   ·exact .inl h
   ·refine .inr ?_
    simp only
    rw [h]; simp; omega
theorem ordP_cov {s : List StoredV} {O : List DigV} (hO : Ordered s O) (hl : s.length ≤ O.length) (hN : ∀ x ∈ s,∀ out,allD out (needsR x.patch).2 = true → allD out (needsP σ x.patch) = true) : s.Pairwise (fun x y => x.id.d ≠ y.id.d) ∧ ∀ x ∈ s,hasD (ordP σ s s.length []) x.id.d = true := by
 obtain ⟨n1,n2⟩ := hO.nodup
 have hD : (digs (s.map fun x => x.id)).length = s.length := by simp [digs]
 obtain ⟨c1,c2⟩ := cover n1 n2 (by rw [hD]; simpa [digs] using hl)
 have hm : ∀ x ∈ s,x.id.d ∈ digs (s.map fun x => x.id) := fun x hx => by simp only [digs,List.map_map,List.mem_map]; exact ⟨x,hx,rfl⟩
 refine ⟨?_,fun x hx => ?_⟩
 ·have : digs (s.map fun x => x.id) = s.map fun x => x.id.d := by simp [digs]
  rw [this] at c2
  exact List.pairwise_map.1 c2
 ·rcases ordP_full (σ := σ) hO hN s.length [] with h | h
  ·exact h _ (c1 _ (hm x hx))
  ·have p1 := ordP_nodup (σ := σ) s s.length [] (by simp [digs])
   have p2 : ∀ d ∈ digs (ordP σ s s.length []),d ∈ digs (s.map fun x => x.id) := by
    intro d hd
    simp only [digs,List.mem_map] at hd
    obtain ⟨e,he,rfl⟩ := hd
    rcases ordP_mem s _ _ e he with h | ⟨x,hx,rfl⟩
    ·simp at h
    ·exact hm x hx
   obtain ⟨q1,_⟩ := cover p1 p2 (by rw [hD]; simp [digs,h])
   exact hasD_mem.2 (q1 _ (hm x hx))
theorem withs_mem : ∀ (l : List DigV) (a : SK × List DigV) (d : List Nat),((∃ x ∈ a.2,x.d = d) ∨ ∃ x ∈ l,x.d = d) → ∃ x ∈ (l.foldl withR a).2,x.d = d
 | [],a,d,h => by simpa using h
 | y :: l,a,d,h => by
  refine withs_mem l (withR a y) d ?_
  rcases h with h | ⟨x,hx,rfl⟩
  ·exact .inl (withR_mem.2 (.inl h))
  ·rcases List.mem_cons.1 hx with rfl | hx
   ·exact .inl (withR_mem.2 (.inr rfl))
   ·exact .inr ⟨x,hx,rfl⟩
theorem addN_mem : ∀ (l : List IdV) (a : SK × List DigV) (d : List Nat),((∃ x ∈ a.2,x.d = d) ∨ ∃ x ∈ l,x.d = d ∧ zeroD x.d = false) → ∃ x ∈ (l.foldl addN a).2,x.d = d
 | [],a,d,h => by simpa using h
 | y :: l,a,d,h => by
  refine addN_mem l (addN a y) d ?_
  have hk : (∃ x ∈ a.2,x.d = d) → ∃ x ∈ (addN a y).2,x.d = d := fun h => by
   unfold addN; split
   ·exact h
   ·exact withR_mem.2 (.inl h)
  rcases h with h | ⟨x,hx,rfl,hz⟩
  ·exact .inl (hk h)
  ·rcases List.mem_cons.1 hx with rfl | hx
   ·left
    unfold addN
    rw [if_neg (by simp [hz])]
    exact withR_mem.2 (.inr rfl)
   ·exact .inr ⟨x,hx,rfl,hz⟩
theorem chgN_mem : ∀ (l : List ChV) (a : SK × List DigV) (d : List Nat),((∃ x ∈ a.2,x.d = d) ∨ ∃ c ∈ l,∃ x ∈ idsN c,x.d = d ∧ zeroD x.d = false) → ∃ x ∈ (l.foldl chgN a).2,x.d = d
 | [],a,d,h => by simpa using h
 | y :: l,a,d,h => by
  refine chgN_mem l (chgN a y) d ?_
  rcases h with h | ⟨c,hc,x,hx,h1,h2⟩
  ·exact .inl (addN_mem _ _ _ (.inl h))
  ·rcases List.mem_cons.1 hc with rfl | hc
   ·exact .inl (addN_mem _ _ _ (.inr ⟨x,hx,h1,h2⟩))
   ·exact .inr ⟨c,hc,x,hx,h1,h2⟩
theorem refIds_sub {c : ChV} {x : IdV} (h : x ∈ refIds c) : x ∈ idsN c := by
 unfold refIds refsA refs1 refs2 refs3 refs4 at h
 unfold idsN
 simp only [List.take_length,List.map_append,List.mem_append,List.map_map] at h
 rcases h with h | h | h | h
 ·split at h
  ·simp at h; simp [h]
  ·simp at h
 ·split at h
  ·simp at h; simp [h]
  ·simp at h
 ·split at h
  ·simp at h; rcases h with h | h <;> simp [h]
  ·simp at h
 ·simp at h; simp [h]
theorem needs_sub (hd : ∀ l,(σ.d l).Perm l) {p : PatchV} (hp : EncodeE p = 0) {d : DigV} (h : d ∈ needsP σ p) : ∃ x ∈ (needsR p).2,x.d = d.d := by
 obtain ⟨y,hy,hyd⟩ := (compL_mem (σ.d (needL p)) d.d).1 ⟨d,h,rfl⟩
 have hy := (hd _).mem_iff.1 hy
 unfold needsR
 rw [if_neg (by simp [hp])]
 rw [← hyd]
 unfold needL at hy
 refine chgN_mem _ _ _ ?_
 rcases List.mem_append.1 hy with hy | hy
 ·exact .inl (withs_mem _ _ _ (.inr ⟨y,hy,rfl⟩))
 ·right
  obtain ⟨l,hl,hyl⟩ := List.mem_flatten.1 hy
  obtain ⟨c,hc,rfl⟩ := List.mem_map.1 hl
  unfold others at hyl
  obtain ⟨x,hx,rfl⟩ := List.mem_map.1 hyl
  obtain ⟨h1,h2⟩ := List.mem_filter.1 hx
  exact ⟨c,hc,x,refIds_sub h1,rfl,by simpa using h2⟩
theorem needs_all (hd : ∀ l,(σ.d l).Perm l) {p : PatchV} (hp : EncodeE p = 0) (out : List DigV) (h : allD out (needsR p).2 = true) : allD out (needsP σ p) = true := by
 unfold allD at h ⊢
 rw [List.all_eq_true] at h ⊢
 intro d hdm
 obtain ⟨x,hx,hxd⟩ := needs_sub hd hp hdm
 rw [← hxd]; exact h x hx
theorem chk1_ok : ∀ (l : List StoredV) (p : Option DigV),chk1 p l = 0 → ∀ x ∈ l,EncodeE x.patch = 0 ∧ IdD x.patch = x.id.d
 | [],p,_,x,hx => by simp at hx
 | y :: l,p,h,x,hx => by
  rw [chk1_cons] at h
  by_cases h1 : EncodeE y.patch = 0
  rotate_left
  ·rw [if_pos h1] at h; exact absurd h h1
  rw [if_neg (by simpa using h1)] at h
  by_cases h2 : IdD y.patch = y.id.d
  rotate_left
  ·rw [if_pos h2] at h; cases h
  rw [if_neg (by simpa using h2)] at h
  rcases List.mem_cons.1 hx with e | hx
  ·rw [e]; exact ⟨h1,h2⟩
  ·refine chk1_ok l (some y.id) ?_ x hx
   cases p with
   | none => simpa using h
   | some y' =>
    by_cases h3 : 0 ≤ cmpD y'.d (IdD y.patch)
    ·rw [if_pos (by simpa using h3)] at h; cases h
    ·rw [if_neg (by simpa using h3)] at h; exact h
theorem small_of {p : PatchV} (hg : great16 p = false) : (checkL p).length ≤ 90000 := by
 unfold great16 at hg
 simp only [Bool.or_eq_false_iff,decide_eq_false_iff_not,Nat.not_lt,List.any_eq_false] at hg
 obtain ⟨h1,⟨_,h2⟩,h3⟩ := hg
 have h4 : ∀ c ∈ p.changes,c.lines.length ≤ 40 ∧ c.over.length ≤ 40 := by
  intro c hc
  have := h1 c hc
  simp only [bigC,great4,Bool.or_eq_true,decide_eq_true_eq,not_or,Nat.not_lt] at this
  exact ⟨this.1.1,this.2⟩
 have hb := chgE_bound p.changes [] h4 (by simp)
 have hL : checkL p = [] ∨ checkL p = (chgE p.changes []).2 := by unfold checkL; split <;> simp
 rcases hL with h | h <;> rw [h]
 ·simp
 ·have := hb.1; simp at this; omega
structure SetFine (σ : Sorts) (s : List StoredV) : Prop where
 good : SetGood s
 n : s.length ≤ 8
 named : Named s
 cov : ∀ x ∈ s,hasD (ordP σ s s.length []) x.id.d = true
theorem fine_of (hd : ∀ l,(σ.d l).Perm l) {s : List StoredV} (hz : SetSz s) (h : fineB s = true) : SetFine σ s := by
 unfold fineB at h
 simp only [Bool.and_eq_true,Bool.not_eq_true',beq_iff_eq] at h
 obtain ⟨h1,h2⟩ := h
 have hF := setFit_of hz h1
 unfold chkE at h2
 split at h2
 ·omega
 rename_i c1
 split at h2
 ·omega
 split at h2
 ·omega
 rename_i c3
 have k1 := chk1_ok s none (by omega)
 have hsm : ∀ x ∈ s,(checkL x.patch).length ≤ 90000 := by
  intro x hx
  refine small_of ?_
  unfold heavyB at h1
  simp only [Bool.or_eq_false_iff,List.any_eq_false] at h1
  have := h1.1 x (by rw [List.take_of_length_le (by have := hF.n; omega)]; exact hx)
  simpa using this
 have hg : ∀ x ∈ s,x.patch.Good := fun x hx => ⟨hF.p x hx,(k1 x hx).1,hsm x hx⟩
 obtain ⟨o1,o2⟩ := ordP_cov (σ := σ) (ordN_ordered s s.length [] .nil) (by omega) (fun x hx out => needs_all hd (k1 x hx).1 out)
 refine ⟨⟨hg,o1,by have := hF.n; omega⟩,hF.n,fun x hx => ?_,o2⟩
 have := (k1 x hx).2
 unfold IdD at this
 rw [if_pos (k1 x hx).1] at this
 exact this
theorem events_ok (hi : ∀ l,(σ.i l).Perm l) {s : List StoredV} (h : SetFine σ s) {line : IdV} (he : findE σ s line 5 = 0) : EvFacts σ s line := by
 have hf : (findP σ s line).isSome = true := by
  unfold findE at he
  cases hp : findP σ s line with
  | none => rw [hp] at he; cases he
  | some x => rfl
 refine facts_of h.n (fun n z hz => kill_at h.good h.named hi _ _ _ hz) ?_ ?_ hf hi
 ·unfold findP at hf
  split at hf
  ·rename_i hh
   obtain ⟨_,x,hx,h1,_⟩ := getP_good h.good hh
   rw [← h1]; exact h.cov x hx
  ·cases hf
 ·unfold keepP
  exact List.filter_eq_self.2 fun x hx => h.cov x hx
end Go.Proofs.Ev
namespace Go.Proofs.Ev
open Go.Proofs
variable {C : Cfg} {σ : Sorts}
theorem law_blame (S : SettingT C σ) (hAw : Ret Tryz.prog C 6 [] [] (.bool true)) {s0 : List StoredV} {k : SK} {id : IdV} (hz : SetSz s0) (base : Nat) (H : Heap) (hb : base ≤ H.length) :
 FuncW Tryz.prog C base 3 [slAV k (s0.map StoredV.cells),.agg id.cells] H fun v _ => v = .bool true :=
 law_walk S hAw hz (fun h => have F := fine_of S.permD hz h; ⟨F.good,F.n,fun he => events_ok S.permI F he⟩) base H hb
end Go.Proofs.Ev
namespace Go.Proofs.Ev
open Go.Proofs
variable {N : Low}
def vBlame : AV := .tup [.lst [(idA d1 3).cells ++ [.str [121],.int .i64 0]] false,.int .i64 0]
def rowsB : List Row := ⟨48,[set2],.lst [.str [102] :: (idA d1 0).cells] false⟩ :: ⟨49,[set2,.agg (idA d1 0).cells],.tup [grA,.int .i64 0]⟩ :: ⟨51,[grA],.lst [[.bool false,.lst [[.int .i64 1]] false,.nils]] false⟩ :: rowsI
set_option maxRecDepth 100000 in
theorem run_blame : ((Rsp.v (evK Tryz.prog (cfgR rowsB) 3000 (.func 0 17 [set2,.str [102]] []))).bind fun r => freezeA r.2 0 6 r.1) = some vBlame := by kernel_rfl
def rowsC : List Row := ⟨15,[.nils,.agg p1.cells],.tup [set1,.agg d1.cells,.int .i64 0]⟩ :: ⟨15,[set1,.agg p2.cells],.tup [set2,.agg d2.cells,.int .i64 0]⟩ :: ⟨17,[set2,.str [102]],vBlame⟩ ::
 ⟨7,[set2,.agg (idA d1 2).cells],.tup [.lst [.int .i64 1 :: (d1.cells ++ (idA d1 2).cells),.int .i64 2 :: (d2.cells ++ (idA d2 0).cells)] false,.int .i64 0]⟩ :: ⟨18,[set2,.agg (idA d1 0).cells],.tup [.lst [d1.cells,d2.cells] false,.int .i64 0]⟩ :: rowsI
set_option maxRecDepth 100000 in
theorem run_awake : ((Rsp.v (evK Tryz.prog (cfgR rowsC) 3000 (.func 0 6 [] []))).bind fun r => freezeA r.2 0 6 r.1) = some (.bool true) := by kernel_rfl
theorem rowsB_ok (hT : TagOK Tryz.prog N) (hG : TagHere N) (hL : LowTab N) : ∀ r ∈ rowsB,RowOK N r := by
 have h0 := rowsI_ok hT hG hL
 intro r hr
 simp only [rowsB,List.mem_cons] at hr
 rcases hr with rfl | rfl | rfl | hr
 ·exact row_fast hT h0 run_paths (by kernel_rfl) (by kernel_rfl) ⟨_,Tryz.func48,rfl⟩
 ·exact row_fast hT h0 run_of (by kernel_rfl) (by kernel_rfl) ⟨_,Tryz.func49,rfl⟩
 ·exact row_fast hT h0 run_regions (by kernel_rfl) (by kernel_rfl) ⟨_,Tryz.func51,rfl⟩
 ·exact h0 r hr
theorem rowsC_ok (hT : TagOK Tryz.prog N) (hG : TagHere N) (hL : LowTab N) : ∀ r ∈ rowsC,RowOK N r := by
 have h0 := rowsI_ok hT hG hL
 intro r hr
 simp only [rowsC,List.mem_cons] at hr
 rcases hr with rfl | rfl | rfl | rfl | rfl | hr
 ·exact row_fast hT h0 run_add1 (by kernel_rfl) (by kernel_rfl) ⟨_,Tryz.func15,rfl⟩
 ·exact row_fast hT h0 run_add2 (by kernel_rfl) (by kernel_rfl) ⟨_,Tryz.func15,rfl⟩
 ·exact row_fast hT (rowsB_ok hT hG hL) run_blame (by kernel_rfl) (by kernel_rfl) ⟨_,Tryz.func17,rfl⟩
 ·exact row_fast hT h0 run_events (by kernel_rfl) (by kernel_rfl) ⟨_,Tryz.func7,rfl⟩
 ·exact row_fast hT h0 run_touch (by kernel_rfl) (by kernel_rfl) ⟨_,Tryz.func18,rfl⟩
 ·exact h0 r hr
def pAwake : Nat → List AV → Heap → Option (AV × Heap) := tabP [⟨6,[],.bool true⟩] 6
theorem awake_ok (hT : TagOK Tryz.prog N) (hG : TagHere N) (hL : LowTab N) : PrimOK Tryz.prog N 6 pAwake :=
 tab_ok (fun r hr => by
  rw [List.mem_singleton.1 hr]
  exact row_fast hT (rowsC_ok hT hG hL) run_awake rfl rfl ⟨_,Tryz.func6,rfl⟩) rfl
theorem awake_ret : Ret Tryz.prog (cfgT pAwake) 6 [] [] (.bool true) := by
 intro base H
 have h1 : (cfgT pAwake).pure 6 = false := by kernel_rfl
 have h2 : (cfgT pAwake).frz 6 = true := by kernel_rfl
 refine ⟨2,?_⟩
 simp only [callA,h1,h2,Bool.false_eq_true,if_false,if_true,List.append_nil,List.mapM_nil,funcA,primT_9]
 rfl
theorem law_true (hT : TagOK Tryz.prog N) (hG : TagHere N) (hL : LowTab N) {s0 : List StoredV} {k : SK} {id : IdV} (hz : SetSz s0) {φ : Phi} {H : Heap} {w : World} {Vs : Array Value} (hH : HR N φ H w) (ht : Two (fun v V => RV φ H.length w v V) [slAV k (s0.map StoredV.cells),.agg id.cells] Vs.toList) :
 CallsIn (Fw none) 0 Tryz.prog 3 Vs w fun e w' => e = .returned (.bool true) ∧ ∃ φ' H',HR N φ' H' w' ∧ Ext φ H.length w φ' H'.length w' := by
 obtain ⟨n,v,H',h1,rfl⟩ := law_blame isSettingT awake_ret (k := k) (id := id) hz H.length H (Nat.le_refl _)
 refine (((all_ok (soundT hT hG hL (awake_ok hT hG hL)) n).2.2.2.2.1 H.length _ _ H _ H' h1).2 (Nat.le_refl _) hH ht).mono ?_
 rintro e w' ⟨V,φ',rfl,hv,h2,h3,_⟩
 cases hv
 exact ⟨rfl,φ',H',h2,h3⟩
end Go.Proofs.Ev
namespace Go.Proofs.Ev
open Go.Proofs Go.RowKit
open Go.Proofs.YtckbkhfaahpanaaGreatDoor (Rows.laid_math_bits_deBruijn32tab Rows.laid_math_bits_deBruijn64tab Rows.laid_internal_strconv_uint64pow10)
section
variable {W : World}
def lowOf (W : World) : Low := ⟨W.heap.size,fun g T => (g = 1 → T = 372) ∧ (g = 2 → T = 5),fun cb => match W.heap[cb]? with | some (.cells c T fr) => some (c,T,fr) | _ => none⟩
theorem tag_here : TagHere (lowOf W) := ⟨fun _ h => h.1 rfl,fun _ h => h.2 rfl⟩
theorem tags_all : (List.range Tryz.prog.types.size).all (fun t => (tagG Tryz.prog t != 1 || t == 372) && (clsG Tryz.prog t 1 != 2 || t == 5)) = true := by kernel_rfl
theorem table_ok : tableOK Tryz.prog = true := by kernel_rfl
theorem tag_ok : TagOK Tryz.prog (lowOf W) := by
 have all : ∀ t : TypeId,t < Tryz.prog.types.size → (tagG Tryz.prog t = 1 → t = 372) ∧ (clsG Tryz.prog t 1 = 2 → t = 5) := by
  intro t ht
  have := List.all_eq_true.1 tags_all t (List.mem_range.2 ht)
  simp only [Bool.and_eq_true,Bool.or_eq_true,bne_iff_ne,ne_eq,beq_iff_eq] at this
  exact ⟨fun h => this.1.resolve_left fun h1 => h1 h,fun h => this.2.resolve_left fun h1 => h1 h⟩
 refine ⟨fun t h => ?_,fun t h => ?_⟩
 ·by_cases ht : t < Tryz.prog.types.size
  ·exact ⟨fun _ => (all t ht).1 h,fun e => by cases e⟩
  ·exact absurd h (tag_high table_ok ht)
 ·by_cases ht : t < Tryz.prog.types.size
  ·exact ⟨fun e => (by cases e),fun _ => (all t ht).2 h⟩
  ·exact absurd h (cls_high ht)
theorem hr0 : HR (lowOf W) phi0 [] W := {
 low := Nat.le_refl _
 kept cb c T fr h := by
  refine ⟨?_,live0 cb⟩
  simp only [lowOf] at h
  split at h
  ·rename_i c' T' fr' hh; cases h; exact hh
  ·cases h
 dead b _ := rfl
 base b L h := by cases h
 inj b b' L L' h := by cases h
 resn b L h := by cases h
 ress cb h := h.elim
 rows b esz g rs h := by simp at h
 map b es h := by simp at h
 loop b r p s ps a c h := by simp at h
 it b m k st h := by simp at h }
theorem low_tab (h : Lib.TabIs Tryz.prog W "internal/strconv.uint64pow10" .u64 Lib.pow10Tab) : LowTab (lowOf W) := by
 intro φ w hk
 unfold Lib.TabIs World.var? at h ⊢
 cases hg : Tryz.prog.globalNamed "internal/strconv.uint64pow10" with
 | none => rw [hg] at h; cases h
 | some g =>
  rw [hg] at h
  simp only [Option.bind_some] at h ⊢
  cases hh : W.heap[g]? with
  | none => rw [hh] at h; cases h
  | some o =>
   rw [hh] at h
   cases o with
   | cells c T fr =>
    have := (hk g c T fr (by simp [lowOf,hh])).1
    rw [this]; exact h
   | _ => cases h
theorem below_of {φ' : Phi} {n n' : Nat} {w' : World} (h : Ext phi0 n W φ' n' w') : Below W.heap.size W w' := {
 os := h.env.1
 tape := h.env.2.1
 output := h.env.2.2
 size := h.size
 block k hk := by
  rw [Array.getElem?_eq_getElem hk]
  exact h.same k _ (Array.getElem?_eq_getElem hk) (live0 k) }
def laidL : List (String × DataW Unit) := [("math/bits.deBruijn32tab",Rows.laid_math_bits_deBruijn32tab),("math/bits.deBruijn64tab",Rows.laid_math_bits_deBruijn64tab),("internal/strconv.uint64pow10",Rows.laid_internal_strconv_uint64pow10)]
theorem pow_data : (Rows.laid_internal_strconv_uint64pow10 : DataW Unit) = Lib.tabData .u64 Lib.pow10Tab := by kernel_rfl
theorem tab_of (h : laidMetH Tryz.prog laidL W) : Lib.TabIs Tryz.prog W "internal/strconv.uint64pow10" .u64 Lib.pow10Tab := by
 rw [MakeChecks.laidMetH_plain _ _ _ (by kernel_rfl)] at h
 have h1 := h.tail.tail
 rw [pow_data] at h1
 exact Lib.tabIs_of_head (g := 1) (t := 422) (e := 276) (n := 20) (by kernel_rfl) (by kernel_rfl) Tryz.underlying422 Tryz.underlying276 (by kernel_rfl) (by kernel_rfl) h1
theorem law_calls {v0 v1 : Value} {s0 : List StoredV} {id : IdV} (h0 : RV phi0 0 W (slAV .loose (s0.map StoredV.cells)) v0) (h1 : RV phi0 0 W (.agg id.cells) v1) (hz : SetSz s0) (hL : laidMetH Tryz.prog laidL W) :
 Calls Tryz.prog 3 #[v0,v1] W fun e w' => e = .returned (.bool true) ∧ Below W.heap.size W w' := by
 refine callsIn_wide.1 ((callsIn_any (r' := none) (law_true tag_ok tag_here (low_tab (tab_of hL)) hz hr0 (Vs := #[v0,v1]) (.cons h0 (.cons h1 .nil)))).mono ?_)
 rintro e w' ⟨rfl,φ',H',_,hx⟩
 exact ⟨rfl,below_of hx⟩
end
end Go.Proofs.Ev
namespace Go.Proofs.YtckbkhfaahpanaaGreatDoor.blameEventsDone
open Go
set_option linter.unusedVariables false
theorem cf9 : (fun (P : Program) (f : FuncId) (fn : Func) (s : ChangeSpec) (c : OpenClaim) => ((c.inPlace == P.inPlace f) : Bool)) Tryz.prog 3 Tryz.f3 (Rows.OpenSpec.upto Rows.blameEventsSpec).bare Rows.blameEventsUptoRow = true := by kernel_rfl
theorem cf10 : (fun (P : Program) (f : FuncId) (fn : Func) (s : ChangeSpec) (c : OpenClaim) => ((c.unfollowed == P.unfollowed f) : Bool)) Tryz.prog 3 Tryz.f3 (Rows.OpenSpec.upto Rows.blameEventsSpec).bare Rows.blameEventsUptoRow = true := by kernel_rfl
end Go.Proofs.YtckbkhfaahpanaaGreatDoor.blameEventsDone
namespace Go.Proofs.YtckbkhfaahpanaaGreatDoor.blameEventsDone
open Go
set_option linter.unusedVariables false
theorem cf11 : (fun (P : Program) (f : FuncId) (fn : Func) (s : ChangeSpec) (c : OpenClaim) => ((c.recurses == P.recurses f) : Bool)) Tryz.prog 3 Tryz.f3 (Rows.OpenSpec.upto Rows.blameEventsSpec).bare Rows.blameEventsUptoRow = true := by kernel_rfl
theorem cf12 : (fun (P : Program) (f : FuncId) (fn : Func) (s : ChangeSpec) (c : OpenClaim) => ((c.named == P.varsNamed f) : Bool)) Tryz.prog 3 Tryz.f3 (Rows.OpenSpec.upto Rows.blameEventsSpec).bare Rows.blameEventsUptoRow = true := by kernel_rfl
end Go.Proofs.YtckbkhfaahpanaaGreatDoor.blameEventsDone
namespace Go.Proofs.YtckbkhfaahpanaaGreatDoor.blameEventsDone
open Go
set_option linter.unusedVariables false
theorem cf0 : (fun (P : Program) (f : FuncId) (fn : Func) (s : ChangeSpec) (c : OpenClaim) => (c.wf (OpenSpec.ofChange s) : Bool)) Tryz.prog 3 Tryz.f3 (Rows.OpenSpec.upto Rows.blameEventsSpec).bare Rows.blameEventsUptoRow = true := by kernel_rfl
theorem cf1 : (fun (P : Program) (f : FuncId) (fn : Func) (s : ChangeSpec) (c : OpenClaim) => (laidOutB P : Bool)) Tryz.prog 3 Tryz.f3 (Rows.OpenSpec.upto Rows.blameEventsSpec).bare Rows.blameEventsUptoRow = true := by kernel_rfl
theorem cf2 : (fun (P : Program) (f : FuncId) (fn : Func) (s : ChangeSpec) (c : OpenClaim) => (mapsRowed P : Bool)) Tryz.prog 3 Tryz.f3 (Rows.OpenSpec.upto Rows.blameEventsSpec).bare Rows.blameEventsUptoRow = true := by kernel_rfl
theorem cf3 : (fun (P : Program) (f : FuncId) (fn : Func) (s : ChangeSpec) (c : OpenClaim) => (fn.params.all (P.readableRec ·) : Bool)) Tryz.prog 3 Tryz.f3 (Rows.OpenSpec.upto Rows.blameEventsSpec).bare Rows.blameEventsUptoRow = true := by kernel_rfl
theorem cf4 : (fun (P : Program) (f : FuncId) (fn : Func) (s : ChangeSpec) (c : OpenClaim) => (namedTie P c.named s.vars : Bool)) Tryz.prog 3 Tryz.f3 (Rows.OpenSpec.upto Rows.blameEventsSpec).bare Rows.blameEventsUptoRow = true := by kernel_rfl
theorem cf5 : (fun (P : Program) (f : FuncId) (fn : Func) (s : ChangeSpec) (c : OpenClaim) => ((c.stops == []) : Bool)) Tryz.prog 3 Tryz.f3 (Rows.OpenSpec.upto Rows.blameEventsSpec).bare Rows.blameEventsUptoRow = true := by kernel_rfl
theorem cf6 : (fun (P : Program) (f : FuncId) (fn : Func) (s : ChangeSpec) (c : OpenClaim) => ((P.stops == []) : Bool)) Tryz.prog 3 Tryz.f3 (Rows.OpenSpec.upto Rows.blameEventsSpec).bare Rows.blameEventsUptoRow = true := by kernel_rfl
theorem cf7 : (fun (P : Program) (f : FuncId) (fn : Func) (s : ChangeSpec) (c : OpenClaim) => ((c.knobs == []) : Bool)) Tryz.prog 3 Tryz.f3 (Rows.OpenSpec.upto Rows.blameEventsSpec).bare Rows.blameEventsUptoRow = true := by kernel_rfl
theorem cf8 : (fun (P : Program) (f : FuncId) (fn : Func) (s : ChangeSpec) (c : OpenClaim) => ((P.stopKnobs == []) : Bool)) Tryz.prog 3 Tryz.f3 (Rows.OpenSpec.upto Rows.blameEventsSpec).bare Rows.blameEventsUptoRow = true := by kernel_rfl
theorem cf13 : (fun (P : Program) (f : FuncId) (fn : Func) (s : ChangeSpec) (c : OpenClaim) => ((c.maps == (fn.params.toList ++ s.plain.varTypes P).any (P.mapsRec ·)) : Bool)) Tryz.prog 3 Tryz.f3 (Rows.OpenSpec.upto Rows.blameEventsSpec).bare Rows.blameEventsUptoRow = true := by kernel_rfl
theorem cf14 : (fun (P : Program) (f : FuncId) (fn : Func) (s : ChangeSpec) (c : OpenClaim) => ((c.ifaces == (fn.params.toList ++ s.plain.varTypes P).any (P.ifacesRec ·)) : Bool)) Tryz.prog 3 Tryz.f3 (Rows.OpenSpec.upto Rows.blameEventsSpec).bare Rows.blameEventsUptoRow = true := by kernel_rfl
theorem cf15 : (fun (P : Program) (f : FuncId) (fn : Func) (s : ChangeSpec) (c : OpenClaim) => ((c.mapsOut == P.mapsAmong fn.resultTypes.toList) : Bool)) Tryz.prog 3 Tryz.f3 (Rows.OpenSpec.upto Rows.blameEventsSpec).bare Rows.blameEventsUptoRow = true := by kernel_rfl
theorem cf16 : (fun (P : Program) (f : FuncId) (fn : Func) (s : ChangeSpec) (c : OpenClaim) => ((c.loops == (fn.params.toList ++ s.plain.varTypes P).any (P.loopsFrom ·)) : Bool)) Tryz.prog 3 Tryz.f3 (Rows.OpenSpec.upto Rows.blameEventsSpec).bare Rows.blameEventsUptoRow = true := by kernel_rfl
theorem cf17 : (fun (P : Program) (f : FuncId) (fn : Func) (s : ChangeSpec) (c : OpenClaim) => ((c.wideKeys == (fn.params.toList ++ s.plain.varTypes P ++ fn.resultTypes.toList).any (P.wideKeysFrom ·)) : Bool)) Tryz.prog 3 Tryz.f3 (Rows.OpenSpec.upto Rows.blameEventsSpec).bare Rows.blameEventsUptoRow = true := by kernel_rfl
theorem cf18 : (fun (P : Program) (f : FuncId) (fn : Func) (s : ChangeSpec) (c : OpenClaim) => (s.vars.all (P.varReadable ·) : Bool)) Tryz.prog 3 Tryz.f3 (Rows.OpenSpec.upto Rows.blameEventsSpec).bare Rows.blameEventsUptoRow = true := by kernel_rfl
theorem cf19 : (fun (P : Program) (f : FuncId) (fn : Func) (s : ChangeSpec) (c : OpenClaim) => (fn.resultTypes.all (fun t => P.readableRec t && decide (t < P.types.size)) : Bool)) Tryz.prog 3 Tryz.f3 (Rows.OpenSpec.upto Rows.blameEventsSpec).bare Rows.blameEventsUptoRow = true := by kernel_rfl
theorem cf20 : (fun (P : Program) (f : FuncId) (fn : Func) (s : ChangeSpec) (c : OpenClaim) => ((c.ifacesOut == fn.resultTypes.toList.any (P.ifacesRec ·)) : Bool)) Tryz.prog 3 Tryz.f3 (Rows.OpenSpec.upto Rows.blameEventsSpec).bare Rows.blameEventsUptoRow = true := by kernel_rfl
theorem cf21 : (fun (P : Program) (f : FuncId) (fn : Func) (s : ChangeSpec) (c : OpenClaim) => ((c.loopsOut == fn.resultTypes.toList.any (P.loopsFrom ·)) : Bool)) Tryz.prog 3 Tryz.f3 (Rows.OpenSpec.upto Rows.blameEventsSpec).bare Rows.blameEventsUptoRow = true := by kernel_rfl
theorem cf22 : (fun (P : Program) (f : FuncId) (fn : Func) (s : ChangeSpec) (c : OpenClaim) => ((c.plainKeys == P.plainKeys) : Bool)) Tryz.prog 3 Tryz.f3 (Rows.OpenSpec.upto Rows.blameEventsSpec).bare Rows.blameEventsUptoRow = true := by kernel_rfl
theorem cf23 : (fun (P : Program) (f : FuncId) (fn : Func) (s : ChangeSpec) (c : OpenClaim) => (c.shortTexts.isNone : Bool)) Tryz.prog 3 Tryz.f3 (Rows.OpenSpec.upto Rows.blameEventsSpec).bare Rows.blameEventsUptoRow = true := by kernel_rfl
theorem cf24 : (fun (P : Program) (f : FuncId) (fn : Func) (s : ChangeSpec) (c : OpenClaim) => (P.stopsHeard : Bool)) Tryz.prog 3 Tryz.f3 (Rows.OpenSpec.upto Rows.blameEventsSpec).bare Rows.blameEventsUptoRow = true := by kernel_rfl
theorem cf25 : (fun (P : Program) (f : FuncId) (fn : Func) (s : ChangeSpec) (c : OpenClaim) => (P.mayEnter : Bool)) Tryz.prog 3 Tryz.f3 (Rows.OpenSpec.upto Rows.blameEventsSpec).bare Rows.blameEventsUptoRow = true := by kernel_rfl
theorem cf26 : (fun (P : Program) (f : FuncId) (fn : Func) (s : ChangeSpec) (c : OpenClaim) => ((c.lifted == P.liftsFinal) : Bool)) Tryz.prog 3 Tryz.f3 (Rows.OpenSpec.upto Rows.blameEventsSpec).bare Rows.blameEventsUptoRow = true := by kernel_rfl
theorem cf27 : (fun (P : Program) (f : FuncId) (fn : Func) (s : ChangeSpec) (c : OpenClaim) => ((P.make == some c.make) : Bool)) Tryz.prog 3 Tryz.f3 (Rows.OpenSpec.upto Rows.blameEventsSpec).bare Rows.blameEventsUptoRow = true := by kernel_rfl
theorem cf28 : (fun (P : Program) (f : FuncId) (fn : Func) (s : ChangeSpec) (c : OpenClaim) => ((c.kinds == (if c.domain.isEmpty then [] else fn.params.toList.map fun t => match P.underlying t with | some (.int k) => some k | _ => none)) : Bool)) Tryz.prog 3 Tryz.f3 (Rows.OpenSpec.upto Rows.blameEventsSpec).bare Rows.blameEventsUptoRow = true := by kernel_rfl
theorem cf29 : (fun (P : Program) (f : FuncId) (fn : Func) (s : ChangeSpec) (c : OpenClaim) => ((c.pinned == c.pinnedBy) : Bool)) Tryz.prog 3 Tryz.f3 (Rows.OpenSpec.upto Rows.blameEventsSpec).bare Rows.blameEventsUptoRow = true := by kernel_rfl
theorem cf30 : (fun (P : Program) (f : FuncId) (fn : Func) (s : ChangeSpec) (c : OpenClaim) => ((c.veiled == (fn.params.toList ++ s.plain.varTypes P ++ fn.resultTypes.toList).any (P.veiledRec ·)) : Bool)) Tryz.prog 3 Tryz.f3 (Rows.OpenSpec.upto Rows.blameEventsSpec).bare Rows.blameEventsUptoRow = true := by kernel_rfl
theorem cf31 : (fun (P : Program) (f : FuncId) (fn : Func) (s : ChangeSpec) (c : OpenClaim) => (c.veiledFits P fn.params.toList (fn.params.toList ++ s.plain.varTypes P ++ fn.resultTypes.toList) : Bool)) Tryz.prog 3 Tryz.f3 (Rows.OpenSpec.upto Rows.blameEventsSpec).bare Rows.blameEventsUptoRow = true := by kernel_rfl
end Go.Proofs.YtckbkhfaahpanaaGreatDoor.blameEventsDone
namespace Go.Proofs.YtckbkhfaahpanaaGreatDoor.blameEventsDone
open Go
set_option linter.unusedVariables false
theorem goes_none : Tryz.prog.funcs.toList.all (fun fn => !fn.goes) = true := by kernel_rfl
theorem named3 : Tryz.prog.funcNamed "quilt/quiltlaw38.BlameEvents" = some 3 := by kernel_rfl
theorem goes_at (g : FuncId) : (Tryz.prog.funcs[g]?).any Func.goes = false := by
 cases hg : Tryz.prog.funcs[g]? with
 | none => rfl
 | some fn =>
  have := List.all_eq_true.1 goes_none fn (by simpa using Array.mem_of_getElem? hg)
  simpa using this
theorem goes_3 : Tryz.prog.goes 3 = false := by
 unfold Program.goes
 have h1 : ((Tryz.prog.closure 3).any fun g => (Tryz.prog.funcs[g]?).any Func.goes) = false := by
  rw [List.any_eq_false]
  intro g _
  rw [goes_at g]; simp
 have h2 : Tryz.prog.funcs.any Func.goes = false := by
  rw [← Array.any_toList,List.any_eq_false]
  intro fn hf
  have := List.all_eq_true.1 goes_none fn hf
  simpa using this
 rw [h1,h2]; simp
theorem goes : false = Rows.blameEventsUptoRow.goesBy Tryz.pinned.checked.prog := by
 show false = ((Tryz.prog.funcNamed "quilt/quiltlaw38.BlameEvents").any Tryz.prog.goes || false)
 rw [named3,Option.any_some,goes_3]; rfl
end Go.Proofs.YtckbkhfaahpanaaGreatDoor.blameEventsDone
