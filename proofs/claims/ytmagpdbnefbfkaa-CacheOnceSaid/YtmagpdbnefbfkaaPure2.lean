/- Plain laws on what a cache holds: a line is laid. -/
import Derived.Test.YtmagpdbnefbfkaaPure
namespace Go.Proofs.Ytmagpdbnefbfkaa
open Go Go.RowKit

/-- The map tells where each line stands. -/
def Agree (L : List (Int × Nat)) (pl : List Pl) : Prop := ∀ line n, asc L line = some n ↔ ∃ p, pl[n]? = some p ∧ p.is = true ∧ p.line = line

theorem Agree.missing {L : List (Int × Nat)} {pl : List Pl} (h : Agree L pl) {line : Int} (hn : asc L line = none) : pl.findIdx? (Pl.has line) = none := by
  rw [List.findIdx?_eq_none_iff]
  intro p hp
  obtain ⟨j, hj, rfl⟩ := List.getElem_of_mem hp
  by_cases hb : Pl.has line pl[j] = true
  · simp only [Pl.has, Bool.and_eq_true, beq_iff_eq] at hb
    have := (h line j).2 ⟨_, List.getElem?_eq_getElem hj, hb.1, hb.2⟩
    rw [hn] at this; cases this
  · simpa using hb

theorem Agree.found {L : List (Int × Nat)} {σ : St} (h : Agree L σ.pl) (hw : WP σ) {line : Int} {n : Nat} (hn : asc L line = some n) : ∃ p, σ.pl[n]? = some p ∧ p.is = true ∧ p.line = line ∧ σ.pl.findIdx? (Pl.has line) = some n := by
  obtain ⟨p, hp, h1, h2⟩ := (h line n).1 hn
  refine ⟨p, hp, h1, h2, ?_⟩
  rw [List.findIdx?_eq_some_iff_getElem]
  have hk := (List.getElem?_eq_some_iff.1 hp).1
  have he := (List.getElem?_eq_some_iff.1 hp).2
  refine ⟨hk, by rw [he]; simp [Pl.has, h1, h2], fun j hj => ?_⟩
  intro hb
  simp only [Pl.has, Bool.and_eq_true, beq_iff_eq] at hb
  have := hw.one j n _ p (List.getElem?_eq_getElem (by omega)) hp hb.1 h1 (by rw [hb.2, h2])
  omega

theorem set_get {α : Type} {l : List α} {i j : Nat} {a x : α} (h : (l.set i a)[j]? = some x) : (j = i ∧ x = a ∧ i < l.length) ∨ (j ≠ i ∧ l[j]? = some x) := by
  rw [List.getElem?_set] at h
  split at h
  · rename_i e
    split at h
    · rename_i hlt; exact .inl ⟨e.symm, (Option.some.inj h).symm, hlt⟩
    · cases h
  · rename_i e; exact .inr ⟨fun e' => e e'.symm, h⟩

theorem get_set {α : Type} {l : List α} {i : Nat} {a : α} (h : i < l.length) : (l.set i a)[i]? = some a := by simp [h]

theorem modify_at {α : Type} {l : List α} {n : Nat} {p : α} (hp : l[n]? = some p) (f : α → α) : l.modify n f = l.set n (f p) := by
  apply List.ext_getElem?
  intro i
  rw [List.getElem?_modify, List.getElem?_set]
  by_cases e : n = i
  · subst e
    obtain ⟨h1, h2⟩ := List.getElem?_eq_some_iff.1 hp
    simp [h1, h2]
  · simp [e]

/-- A line is laid at a place whose line, if any, is gone from the map. -/
theorem Agree.lay {L : List (Int × Nat)} {pl : List Pl} (h : Agree L pl) {n : Nat} {line : Int} {wr : Bool} (hn : n < pl.length) (hfresh : ∀ (j : Nat) p, pl[j]? = some p → p.is = true → p.line ≠ line) (hgone : ∀ l', asc L l' ≠ some n) :
    Agree (upd L line n) (pl.set n ⟨line, true, wr⟩) := by
  intro l' m
  rw [asc_upd]
  constructor
  · intro hm
    split at hm
    · rename_i e; subst e; cases hm
      exact ⟨_, get_set hn, rfl, rfl⟩
    · obtain ⟨p, hp, h1, h2⟩ := (h l' m).1 hm
      have hmn : m ≠ n := fun e => hgone l' (by rw [hm, e])
      exact ⟨p, by rw [List.getElem?_set_ne (Ne.symm hmn)]; exact hp, h1, h2⟩
  · rintro ⟨p, hp, h1, h2⟩
    rcases set_get hp with ⟨rfl, rfl, _⟩ | ⟨hmn, hp'⟩
    · rw [if_pos h2]
    · have hne : ¬ line = l' := fun e => hfresh m p hp' h1 (by rw [h2, e])
      rw [if_neg hne]
      exact (h l' m).2 ⟨p, hp', h1, h2⟩

/-- The same behind the place's line was struck. -/
theorem Agree.gone {L : List (Int × Nat)} {pl : List Pl} (h : Agree L pl) {n : Nat} {p : Pl} (hp : pl[n]? = some p) (hi : p.is = true) (hone : ∀ (i j : Nat) p q, pl[i]? = some p → pl[j]? = some q → p.is = true → q.is = true → p.line = q.line → i = j) :
    Agree (del L p.line) (pl.set n Pl.zero) := by
  have hn := (List.getElem?_eq_some_iff.1 hp).1
  intro l' m
  rw [asc_del]
  constructor
  · intro hm
    split at hm
    · cases hm
    · rename_i hne
      obtain ⟨q, hq, h1, h2⟩ := (h l' m).1 hm
      have hmn : m ≠ n := fun e => by subst e; rw [hp] at hq; cases hq; exact hne h2
      exact ⟨q, by rw [List.getElem?_set_ne (Ne.symm hmn)]; exact hq, h1, h2⟩
  · rintro ⟨q, hq, h1, h2⟩
    rcases set_get hq with ⟨rfl, rfl, _⟩ | ⟨hmn, hq'⟩
    · simp [Pl.zero] at h1
    · have hne : ¬ p.line = l' := fun e => hmn (hone m n q p hq' hp h1 hi (by rw [h2, e]))
      rw [if_neg hne]
      exact (h l' m).2 ⟨q, hq', h1, h2⟩

section
variable {σ : St} (h : WP σ)
include h

theorem WP.set_lt (line : Int) : (line % σ.sets).toNat < σ.sets := by
  have := h.sets1
  have r0 : 0 ≤ line % (σ.sets : Int) := Int.emod_nonneg _ (by omega)
  have r1 : line % (σ.sets : Int) < σ.sets := Int.emod_lt_of_pos _ (by omega)
  omega

theorem WP.first_eq (line : Int) : line % σ.sets * σ.ways = (((line % σ.sets).toNat * σ.ways : Nat) : Int) := by
  have := h.sets1
  have r0 : 0 ≤ line % (σ.sets : Int) := Int.emod_nonneg _ (by omega)
  rw [Int.natCast_mul, Int.toNat_of_nonneg r0]

theorem WP.first_le (line : Int) : (line % σ.sets).toNat * σ.ways + σ.ways ≤ σ.pl.length := by
  have := h.set_lt line
  rw [h.len, ← Nat.succ_mul]
  exact Nat.mul_le_mul_right _ this

omit h in
theorem row_get (line : Int) {j : Nat} (hj : j < σ.ways) : (σ.row (line % σ.sets).toNat)[j]? = σ.pl[(line % σ.sets).toNat * σ.ways + j]? := by
  unfold St.row
  rw [List.getElem?_take, if_pos hj, List.getElem?_drop]

theorem WP.row_len (line : Int) : (σ.row (line % σ.sets).toNat).length = σ.ways := by
  unfold St.row
  have := h.first_le line
  simp; omega

theorem row_some (line : Int) {k : Nat} (hk : (σ.row (line % σ.sets).toNat).findIdx? Pl.free = some k) :
    k < σ.ways ∧ (∀ j p, j < k → σ.pl[(line % σ.sets).toNat * σ.ways + j]? = some p → p.is = true) ∧ ∃ p, σ.pl[(line % σ.sets).toNat * σ.ways + k]? = some p ∧ p.is = false := by
  rw [List.findIdx?_eq_some_iff_getElem] at hk
  obtain ⟨h1, h2, h3⟩ := hk
  have hkw : k < σ.ways := by rw [← h.row_len line]; exact h1
  refine ⟨hkw, fun j p hj hp => ?_, ?_⟩
  · rw [← row_get line (by omega)] at hp
    have h4 := h3 j hj
    rw [(List.getElem?_eq_some_iff.1 hp).2] at h4
    simpa [Pl.free] using h4
  · refine ⟨_, (row_get line hkw).symm.trans (List.getElem?_eq_getElem h1), ?_⟩
    simpa [Pl.free] using h2

omit h in
theorem row_none (line : Int) (hk : (σ.row (line % σ.sets).toNat).findIdx? Pl.free = none) :
    ∀ j p, j < σ.ways → σ.pl[(line % σ.sets).toNat * σ.ways + j]? = some p → p.is = true := by
  rw [List.findIdx?_eq_none_iff] at hk
  intro j p hj hp
  rw [← row_get line hj] at hp
  simpa [Pl.free] using hk p (List.mem_of_getElem? hp)

/-- A line that isn't there, laid in its set. -/
theorem WP.laid {n : Nat} {line : Int} {wr : Bool} {seed : Int} (hl0 : 0 ≤ line) (hl1 : line < 288230376151711744) (hn1 : (line % σ.sets).toNat * σ.ways ≤ n) (hn2 : n < (line % σ.sets).toNat * σ.ways + σ.ways)
    (hfresh : ∀ (j : Nat) p, σ.pl[j]? = some p → p.is = true → p.line ≠ line) : WP { σ with seed := seed, pl := σ.pl.set n ⟨line, true, wr⟩ } := by
  have hs := h.sets1
  have r0 : 0 ≤ line % (σ.sets : Int) := Int.emod_nonneg _ (by omega)
  have hdiv : n / σ.ways = (line % σ.sets).toNat := by
    have hw := h.ways1
    refine Nat.div_eq_of_lt_le hn1 ?_
    rw [Nat.succ_mul]; exact hn2
  refine ⟨h.sets1, h.sets2, h.ways1, h.ways2, by simpa using h.len, ?_, ?_, ?_⟩
  · intro i p hp hi
    rcases set_get hp with ⟨_, rfl, _⟩ | ⟨_, hp'⟩
    · simp at hi
    · exact h.pl0 i p hp' hi
  · intro i p hp hi
    rcases set_get hp with ⟨rfl, rfl, _⟩ | ⟨_, hp'⟩
    · refine ⟨hl0, hl1, ?_⟩
      show line % (σ.sets : Int) = ((i / σ.ways : Nat) : Int)
      rw [hdiv, Int.toNat_of_nonneg r0]
    · exact h.pl1 i p hp' hi
  · intro i j p q hp hq hi hj he
    rcases set_get hp with ⟨rfl, rfl, _⟩ | ⟨_, hp'⟩
    · rcases set_get hq with ⟨rfl, rfl, _⟩ | ⟨_, hq'⟩
      · rfl
      · exact absurd he.symm (hfresh j q hq' hj)
    · rcases set_get hq with ⟨rfl, rfl, _⟩ | ⟨_, hq'⟩
      · exact absurd he (hfresh i p hp' hi)
      · exact h.one i j p q hp' hq' hi hj he
end

end Go.Proofs.Ytmagpdbnefbfkaa
