/- The walks of the program's cache: Copy. -/
import Derived.Test.YtmagpdbnefbfkaaW12
import Derived.Lib.SliceRun
namespace Go.Proofs.Ytmagpdbnefbfkaa
open Go Go.RowKit

theorem row_part {w : World} {g N : Nat} {e : TypeId} {xs : List Value} (h : Row w g e N xs) : ∀ j u, xs[j]? = some u → w.cell? ((⟨g, 0, none⟩ : Addr).add j) = some u := by
  intro j u hu
  have hadd : (⟨g, 0, none⟩ : Addr).add j = ⟨g, j, none⟩ := by unfold Addr.add; split <;> simp_all
  rw [hadd]
  exact h.cell hu

theorem one_pl {l : List Pl} : ∀ u ∈ l.flatMap Pl.enc, u.oneCell' = true := by
  intro u hu
  simp only [List.mem_flatMap] at hu
  obtain ⟨p, _, hp⟩ := hu
  simp [Pl.enc] at hp
  rcases hp with rfl | rfl | rfl <;> rfl

theorem one_sl {l : List Sl} : ∀ u ∈ l.flatMap Sl.enc, u.oneCell' = true := by
  intro u hu
  simp only [List.mem_flatMap] at hu
  obtain ⟨p, _, hp⟩ := hu
  simp [Sl.enc] at hp
  rcases hp with rfl | rfl | rfl | rfl <;> rfl

theorem owns_some {w w' : World} {base e s n : Nat} {v : Value} {xs : List Value} (h : w'.ownsRow base e s v (0 + n) ([] ++ xs)) (h1 : 1 ≤ n) (hC : Chg [] w w') :
    ∃ g c', Ending.returned v = .returned (.slice (some ⟨g, 0, none⟩) n c') ∧ base ≤ g ∧ Row w' g e (c' * s) xs ∧ c' ≤ maxLen ∧ Chg [] w w' := by
  rw [Nat.zero_add, List.nil_append] at h
  have h0 := h
  rcases h.2 with ⟨_, h2⟩ | ⟨g, cap, cur, rfl, hb, hg, hnc, hcm, hcs, htake⟩
  · omega
  · obtain ⟨r1, r2, r3, r4, r5⟩ := Row.of_owns h0
    exact ⟨g, cap, rfl, hb, r1, r4, hC⟩

set_option maxRecDepth 100000 in
set_option maxHeartbeats 1000000 in
theorem clonePl {w : World} {ba N c : Nat} {l : List Pl} (hr : Row w ba 65 N (l.flatMap Pl.enc)) (h1 : 1 ≤ l.length) (h2 : l.length ≤ 512) :
    Calls Try.prog 30 #[.slice (some ⟨ba, 0, none⟩) l.length c] w fun e w' => ∃ g c', e = .returned (.slice (some ⟨g, 0, none⟩) l.length c') ∧ w.heap.size ≤ g ∧ Row w' g 65 (c' * 3) (l.flatMap Pl.enc) ∧ c' ≤ maxLen ∧ Chg [] w w' := by
  have hk : ∀ w : World, (binOp .eql 51 (.slice (some ⟨ba, 0, none⟩) l.length c) (.slice none 0 0)).run Try.prog w = .ok (.bool false) w := by
    intro w
    have := Lib.run_eql_slice_nil (P := Try.prog) w 51 65 (some ⟨ba, 0, none⟩) l.length c 0 0 Try.underlying51
    simpa using this
  obtain ⟨i0, hi0, hz0, hz1, hz2⟩ := info_parts Try.info65
  have hfl := flat_length Pl.enc 3 Pl.enc_len l
  go_enter Try.func30, Try.ntmps30
  go_wp2_with (at_builtin; go_loud (refine wpList_append_own _ rfl _ _ 51 rfl w.heap.size 65 i0 (.agg #[.int .u64 0, .bool false, .bool false]) 3 16 Try.underlying51 hi0 hz0 hz1 hz2 rfl (by decide) _ 0 [] rfl (World.ownsRow_made w #[] 0 (Nat.le_refl _) (by unfold maxLen; omega) rfl) ⟨ba, 0, none⟩ l.length c (l.flatMap Pl.enc) rfl hfl (row_part (hr.alloc _)) one_pl (by unfold maxLen; omega) (by omega) (by simp) ?_); intro v' w3 hown3 hgrow3 hnil; have hC3 := Chg.of_row hgrow3)
  go_ret
  have hC : Chg [] w w3 := ((Chg.refl [] w).alloc _).trans hC3 (by
    intro x hx
    have hx' : x ∈ (some w.heap.size).toList := hx
    simp at hx'
    right; omega)
  exact owns_some hown3 h1 hC

set_option maxRecDepth 100000 in
set_option maxHeartbeats 1000000 in
theorem cloneSl {w : World} {bs N c : Nat} {l : List Sl} (hr : Row w bs 68 N (l.flatMap Sl.enc)) (h1 : 1 ≤ l.length) (h2 : l.length ≤ 532) :
    Calls Try.prog 31 #[.slice (some ⟨bs, 0, none⟩) l.length c] w fun e w' => ∃ g c', e = .returned (.slice (some ⟨g, 0, none⟩) l.length c') ∧ w.heap.size ≤ g ∧ Row w' g 68 (c' * 4) (l.flatMap Sl.enc) ∧ c' ≤ maxLen ∧ Chg [] w w' := by
  have hk : ∀ w : World, (binOp .eql 53 (.slice (some ⟨bs, 0, none⟩) l.length c) (.slice none 0 0)).run Try.prog w = .ok (.bool false) w := by
    intro w
    have := Lib.run_eql_slice_nil (P := Try.prog) w 53 68 (some ⟨bs, 0, none⟩) l.length c 0 0 Try.underlying53
    simpa using this
  obtain ⟨i0, hi0, hz0, hz1, hz2⟩ := info_parts Try.info68
  have hfl := flat_length Sl.enc 4 Sl.enc_len l
  go_enter Try.func31, Try.ntmps31
  go_wp2_with (at_builtin; go_loud (refine wpList_append_own _ rfl _ _ 53 rfl w.heap.size 68 i0 (.agg #[.int .u64 0, .bool false, .bool false, .int .i64 0]) 4 24 Try.underlying53 hi0 hz0 hz1 hz2 rfl (by decide) _ 0 [] rfl (World.ownsRow_made w #[] 0 (Nat.le_refl _) (by unfold maxLen; omega) rfl) ⟨bs, 0, none⟩ l.length c (l.flatMap Sl.enc) rfl hfl (row_part (hr.alloc _)) one_sl (by unfold maxLen; omega) (by omega) (by simp) ?_); intro v' w3 hown3 hgrow3 hnil; have hC3 := Chg.of_row hgrow3)
  go_ret
  have hC : Chg [] w w3 := ((Chg.refl [] w).alloc _).trans hC3 (by
    intro x hx
    have hx' : x ∈ (some w.heap.size).toList := hx
    simp at hx'
    right; omega)
  exact owns_some hown3 h1 hC

end Go.Proofs.Ytmagpdbnefbfkaa
