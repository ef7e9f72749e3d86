/- Plain laws on what a cache holds: a tick, and what was asked. -/
import Derived.Test.YtmagpdbnefbfkaaPure2
namespace Go.Proofs.Ytmagpdbnefbfkaa
open Go Go.RowKit

theorem lay_sets (σ : St) (line : Int) (wr : Bool) : (σ.lay line wr).1.sets = σ.sets ∧ (σ.lay line wr).1.ways = σ.ways ∧ (σ.lay line wr).1.delay = σ.delay ∧ (σ.lay line wr).1.sl = σ.sl ∧ (σ.lay line wr).1.pl.length = σ.pl.length := by
  unfold St.lay
  split <;> simp

theorem lay_sl (σ : St) (sl : List Sl) (line : Int) (wr : Bool) : St.lay { σ with sl := sl } line wr = ({ (σ.lay line wr).1 with sl := sl }, (σ.lay line wr).2) := by
  have e : St.row { σ with sl := sl } = σ.row := rfl
  unfold St.lay
  rw [e]
  dsimp only
  split <;> rfl

/-- What lay does, told by its place. -/
theorem lay_place {σ : St} (h : WP σ) (line : Int) (wr : Bool) : ∃ n, (line % σ.sets).toNat * σ.ways ≤ n ∧ n < (line % σ.sets).toNat * σ.ways + σ.ways ∧ (σ.lay line wr).1.pl = σ.pl.set n ⟨line, true, wr⟩ ∧
    (σ.lay line wr).2.at_ = line * 64 := by
  cases hk : (σ.row (line % σ.sets).toNat).findIdx? Pl.free with
  | some k =>
    obtain ⟨k1, _, _⟩ := row_some h line hk
    refine ⟨(line % σ.sets).toNat * σ.ways + k, by omega, by omega, ?_, ?_⟩ <;> unfold St.lay <;> rw [hk]
  | none =>
    have hw1 := h.ways1
    have m0 : 0 ≤ nextSeed σ.seed / 4294967296 % (σ.ways : Int) := Int.emod_nonneg _ (by omega)
    have m1 : nextSeed σ.seed / 4294967296 % (σ.ways : Int) < σ.ways := Int.emod_lt_of_pos _ (by omega)
    refine ⟨(line % σ.sets).toNat * σ.ways + (nextSeed σ.seed / 4294967296 % (σ.ways : Int)).toNat, by omega, by omega, ?_, ?_⟩ <;> unfold St.lay <;> rw [hk]

theorem WP.lay {σ : St} (h : WP σ) {line : Int} (wr : Bool) (hl : 0 ≤ line ∧ line < 288230376151711744) (hfresh : ∀ (j : Nat) p, σ.pl[j]? = some p → p.is = true → p.line ≠ line) : WP (σ.lay line wr).1 := by
  obtain ⟨n, h1, h2, h3, _⟩ := lay_place h line wr
  obtain ⟨e1, e2, e3, e4, _⟩ := lay_sets σ line wr
  have := h.laid (wr := wr) (seed := σ.seed) hl.1 hl.2 h1 h2 hfresh
  exact ⟨by rw [e1]; exact h.sets1, by rw [e1]; exact h.sets2, by rw [e2]; exact h.ways1, by rw [e2]; exact h.ways2, by rw [e1, e2, h3]; exact this.len, by rw [h3]; exact this.pl0, by rw [h3, e1, e2]; exact this.pl1, by rw [h3]; exact this.one⟩

/-- The ways hold what they hold, whatever the slots do. -/
theorem WP.slots {σ : St} (h : WP σ) (sl : List Sl) : WP { σ with sl := sl } := ⟨h.sets1, h.sets2, h.ways1, h.ways2, h.len, h.pl0, h.pl1, h.one⟩

/-- One slot is emptied or turned at its mark or its number of cycles. -/
theorem WF.turn {σ : St} (h : WF σ) {i : Nat} {s t : Sl} (hs : σ.sl[i]? = some s) (ht0 : t.is = false → t = Sl.zero) (ht1 : t.is = true → s.is = true ∧ t.line = s.line ∧ 1 ≤ t.left ∧ t.left ≤ 64) : WF { σ with sl := σ.sl.set i t } := by
  refine { h.toWP.slots (σ.sl.set i t) with sl1 := by simpa using h.sl1, sl2 := by simpa using h.sl2, del1 := h.del1, del2 := h.del2, sl0 := ?_, sl3 := ?_, sone := ?_, apart := ?_ }
  · intro j u hu hi
    rcases set_get hu with ⟨_, rfl, _⟩ | ⟨_, hu'⟩
    · exact ht0 hi
    · exact h.sl0 j u hu' hi
  · intro j u hu hi
    rcases set_get hu with ⟨rfl, rfl, _⟩ | ⟨_, hu'⟩
    · obtain ⟨a, b, c, d⟩ := ht1 hi
      have := h.sl3 j s hs a
      rw [b]; exact ⟨this.1, this.2.1, c, d⟩
    · exact h.sl3 j u hu' hi
  · intro j k u v hu hv hi hj he
    rcases set_get hu with ⟨rfl, rfl, _⟩ | ⟨hn, hu'⟩
    · rcases set_get hv with ⟨rfl, rfl, _⟩ | ⟨hn', hv'⟩
      · rfl
      · obtain ⟨a, b, _⟩ := ht1 hi
        exact h.sone j k s v hs hv' a hj (by rw [← b, he])
    · rcases set_get hv with ⟨rfl, rfl, _⟩ | ⟨hn', hv'⟩
      · obtain ⟨a, b, _⟩ := ht1 hj
        exact h.sone j k u s hu' hs hi a (by rw [← b, he])
      · exact h.sone j k u v hu' hv' hi hj he
  · intro j k u p hu hp hi hj
    rcases set_get hu with ⟨rfl, rfl, _⟩ | ⟨hn, hu'⟩
    · obtain ⟨a, b, _⟩ := ht1 hi
      rw [b]; exact h.apart j k s p hs hp a hj
    · exact h.apart j k u p hu' hp hi hj

theorem WF.tickAt {σ : St} (h : WF σ) (out : List Dn) (i : Nat) : WF (St.tickAt (σ, out) i).1 := by
  unfold St.tickAt
  dsimp only
  split
  · exact h
  · rename_i s hs
    split
    · rename_i hi
      obtain ⟨l0, l1, l2, l3⟩ := h.sl3 i s hs hi
      split
      · rename_i hl
        have hfresh : ∀ (j : Nat) p, σ.pl[j]? = some p → p.is = true → p.line ≠ s.line := fun j p hp hpi => (h.apart i j s p hs hp hi hpi).symm
        obtain ⟨n, n1, n2, n3, _⟩ := lay_place h.toWP s.line s.wr
        obtain ⟨e1, e2, e3, e4, _⟩ := lay_sets σ s.line s.wr
        have hw := h.toWP.lay s.wr ⟨l0, l1⟩ hfresh
        have ht := h.turn (t := Sl.zero) hs (fun _ => rfl) (fun h => by simp [Sl.zero] at h)
        refine { hw.slots (σ.sl.set i Sl.zero) with sl1 := ht.sl1, sl2 := ht.sl2, del1 := by simpa [e3] using h.del1, del2 := by simpa [e3] using h.del2, sl0 := ht.sl0, sl3 := ht.sl3, sone := ht.sone, apart := ?_ }
        intro j k u p hu hp hui hpi
        dsimp only at hu hp
        rw [n3] at hp
        rcases set_get hp with ⟨rfl, rfl, _⟩ | ⟨_, hp'⟩
        · rcases set_get hu with ⟨_, rfl, _⟩ | ⟨hne, hu'⟩
          · simp [Sl.zero] at hui
          · intro he
            exact hne (h.sone j i u s hu' hs hui hi he)
        · exact ht.apart j k u p hu hp' hui hpi
      · exact h.turn (t := { s with left := s.left - 1 }) hs (fun h' => by rw [show ({ s with left := s.left - 1 } : Sl).is = s.is from rfl, hi] at h'; cases h') (fun _ => ⟨hi, rfl, by show 1 ≤ s.left - 1; omega, by show s.left - 1 ≤ 64; omega⟩)
    · exact h

theorem WF.tickTo {σ : St} (h : WF σ) : ∀ k, WF (σ.tickTo k).1
  | 0 => by simpa [St.tickTo] using h
  | k + 1 => by rw [tickTo_succ]; exact (h.tickTo k).tickAt _ k

theorem WF.tick {σ : St} (h : WF σ) : WF σ.tick.1 := h.tickTo _

theorem tickAt_keeps (x : St × List Dn) (i : Nat) : (St.tickAt x i).1.sl.length = x.1.sl.length ∧ (St.tickAt x i).1.sets = x.1.sets ∧ (St.tickAt x i).1.ways = x.1.ways ∧ (St.tickAt x i).1.delay = x.1.delay ∧ (St.tickAt x i).2.length ≤ x.2.length + 1 ∧
    ∀ j, j ≠ i → (St.tickAt x i).1.sl[j]? = x.1.sl[j]? := by
  unfold St.tickAt
  split
  · exact ⟨rfl, rfl, rfl, rfl, by omega, fun _ _ => rfl⟩
  · rename_i s hs
    obtain ⟨e1, e2, e3, e4, _⟩ := lay_sets x.1 s.line s.wr
    split
    · split
      · exact ⟨by simp, e1, e2, e3, by simp, fun j hj => by simp [Ne.symm hj]⟩
      · exact ⟨by simp, rfl, rfl, rfl, by simp, fun j hj => by simp [Ne.symm hj]⟩
    · exact ⟨rfl, rfl, rfl, rfl, by omega, fun _ _ => rfl⟩

theorem tickTo_keeps (σ : St) : ∀ k, (σ.tickTo k).1.sl.length = σ.sl.length ∧ (σ.tickTo k).1.sets = σ.sets ∧ (σ.tickTo k).1.ways = σ.ways ∧ (σ.tickTo k).1.delay = σ.delay ∧ (σ.tickTo k).2.length ≤ k ∧
    ∀ j, k ≤ j → (σ.tickTo k).1.sl[j]? = σ.sl[j]?
  | 0 => by simp [St.tickTo]
  | k + 1 => by
    obtain ⟨h1, h2, h3, h4, h5, h6⟩ := tickTo_keeps σ k
    obtain ⟨g1, g2, g3, g4, g5, g6⟩ := tickAt_keeps (σ.tickTo k) k
    rw [tickTo_succ]
    exact ⟨g1.trans h1, g2.trans h2, g3.trans h3, g4.trans h4, by omega, fun j hj => (g6 j (by omega)).trans (h6 j (by omega))⟩

end Go.Proofs.Ytmagpdbnefbfkaa
