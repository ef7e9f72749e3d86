/- The law CacheDoes, walked. -/
import Derived.Test.YtmagpdbnefbfkaaW20
namespace Go.Proofs.Ytmagpdbnefbfkaa
open Go Go.RowKit

theorem badP (sets ways slots delay seed : Int) (w : World) (h : ¬ fits sets ways slots delay) :
    Calls Try.prog 6 #[.int .i64 sets, .int .i64 ways, .int .i64 slots, .int .i64 delay, .int .u64 seed] w fun e w' => e = .returned (.pointer none) ∧ w' = w := by
  by_cases hs : isSets sets
  · exact new_no sets ways slots delay seed w hs (fun h' => h ⟨hs, h'⟩)
  · exact new_other sets ways slots delay seed w hs

theorem badR (sets ways slots delay seed : Int) (w : World) (h : ¬ fits sets ways slots delay) :
    Calls Try.prog 7 #[.int .i64 sets, .int .i64 ways, .int .i64 slots, .int .i64 delay, .int .u64 seed] w fun e w' => e = .returned (.pointer none) ∧ w' = w := by
  by_cases hs : isSets sets
  · exact newR_no sets ways slots delay seed w hs (fun h' => h ⟨hs, h'⟩)
  · exact newR_other sets ways slots delay seed w hs

theorem goodP (sets ways slots delay seed : Int) (w : World) (h : fits sets ways slots delay) :
    Calls Try.prog 6 #[.int .i64 sets, .int .i64 ways, .int .i64 slots, .int .i64 delay, .int .u64 seed] w (NewPost w (St.new sets.toNat ways.toNat slots.toNat delay.toNat seed)) := by
  obtain ⟨hs, h1, h2, h3, h4, h5, h6⟩ := h
  have hs0 : 0 ≤ sets := by unfold isSets at hs; omega
  obtain ⟨s, rfl⟩ := Int.eq_ofNat_of_zero_le hs0
  obtain ⟨a, rfl⟩ := Int.eq_ofNat_of_zero_le (show 0 ≤ ways by omega)
  obtain ⟨b, rfl⟩ := Int.eq_ofNat_of_zero_le (show 0 ≤ slots by omega)
  obtain ⟨c, rfl⟩ := Int.eq_ofNat_of_zero_le (show 0 ≤ delay by omega)
  exact new_yes s a b c _ seed w hs rfl (by omega) (by omega) (by omega) (by omega) (by omega) (by omega)

theorem goodR (sets ways slots delay seed : Int) (w : World) (h : fits sets ways slots delay) :
    Calls Try.prog 7 #[.int .i64 sets, .int .i64 ways, .int .i64 slots, .int .i64 delay, .int .u64 seed] w (NewPostR w (St.new sets.toNat ways.toNat slots.toNat delay.toNat seed)) := by
  obtain ⟨hs, h1, h2, h3, h4, h5, h6⟩ := h
  have hs0 : 0 ≤ sets := by unfold isSets at hs; omega
  obtain ⟨s, rfl⟩ := Int.eq_ofNat_of_zero_le hs0
  obtain ⟨a, rfl⟩ := Int.eq_ofNat_of_zero_le (show 0 ≤ ways by omega)
  obtain ⟨b, rfl⟩ := Int.eq_ofNat_of_zero_le (show 0 ≤ slots by omega)
  obtain ⟨c, rfl⟩ := Int.eq_ofNat_of_zero_le (show 0 ≤ delay by omega)
  exact newR_yes s a b c seed w hs (by omega) (by omega) (by omega) (by omega) (by omega) (by omega)

theorem good_wf {sets ways slots delay seed : Int} (h : fits sets ways slots delay) : WF (St.new sets.toNat ways.toNat slots.toNat delay.toNat seed) := by
  obtain ⟨hs, h1, h2, h3, h4, h5, h6⟩ := h
  have hs0 : 0 ≤ sets := by unfold isSets at hs; omega
  obtain ⟨s, rfl⟩ := Int.eq_ofNat_of_zero_le hs0
  exact WF.new hs (by omega) (by omega) (by omega) (by omega) (by omega) (by omega)

/-- The steps that came in. -/
structure StepRow (w : World) (a : Option Addr) (n : Nat) (ks : Nat → Int) (ats : Nat → Int) (ws : Nat → Bool) : Prop where
  cells : ∀ j, j < n → ∃ g o, a = some ⟨g, o, none⟩ ∧ w.cell? ⟨g, o + j * 3, none⟩ = some (.int .i64 (ks j)) ∧ w.cell? ⟨g, o + j * 3 + 1, none⟩ = some (.int .u64 (ats j)) ∧ w.cell? ⟨g, o + j * 3 + 2, none⟩ = some (.bool (ws j))
  ok : ∀ j, j < n → okLine (ats j)

/-- Both caches, in step. -/
def Both (w : World) (c r : Value) (σ : St) (wr : World) : Prop :=
  ∃ b ba bm bs b' bo' bs' rs', c = .pointer (some ⟨b, 0, none⟩) ∧ r = .pointer (some ⟨b', 0, none⟩) ∧ WF σ ∧ RepP wr b ba bm bs σ ∧ RepR wr b' bo' bs' rs' σ ∧
    (∀ x ∈ [b, ba, bm, bs], w.heap.size ≤ x ∧ x ∉ blocksR b' bo' bs' rs') ∧ (∀ x ∈ blocksR b' bo' bs' rs', w.heap.size ≤ x) ∧ Chg [] w wr

def DoesRel (w : World) (n : Nat) (c r i : Value) (wr : World) : Prop := ∃ (k : Nat) (σ : St), k ≤ n ∧ i = .int .i64 k ∧ Both w c r σ wr

set_option maxRecDepth 100000 in
set_option maxHeartbeats 4000000 in
theorem does_bad (sets ways slots delay seed : Int) (a : Option Addr) (n c : Nat) (w : World) (h : ¬ fits sets ways slots delay) :
    Calls Try.prog 3 #[.agg #[.int .i64 sets, .int .i64 ways, .int .i64 slots, .int .i64 delay, .int .u64 seed], .slice a n c] w fun e w' => e = .returned (.bool true) ∧ Chg [] w w' := by
  go_enter Try.func3, Try.ntmps3
  go_wp2_with fail
  refine (fixed_any _).mono ?_
  rintro e w1 ⟨rfl, hC1⟩
  have hb := Row.new w #[.int .i64 sets, .int .i64 ways, .int .i64 slots, .int .i64 delay, .int .u64 seed] 24
  have hb1 := hb.chg hC1 (by simp)
  have c0 := hb1.cell (j := 0) rfl
  have c1 := hb1.cell (j := 1) rfl
  have c2 := hb1.cell (j := 2) rfl
  have c3 := hb1.cell (j := 3) rfl
  have c4 := hb1.cell (j := 4) rfl
  have HH := Lib.hid h
  clear h
  go_wp2_with fail
  refine (badP sets ways slots delay seed _ HH.out).mono ?_
  rintro e w2 ⟨rfl, rfl⟩
  go_wp2_with fail
  refine (badR sets ways slots delay seed _ HH.out).mono ?_
  rintro e w2 ⟨rfl, rfl⟩
  go_wp2
  go_ret
  exact ⟨rfl, ((Chg.refl _ _).alloc _).tr hC1⟩

end Go.Proofs.Ytmagpdbnefbfkaa
