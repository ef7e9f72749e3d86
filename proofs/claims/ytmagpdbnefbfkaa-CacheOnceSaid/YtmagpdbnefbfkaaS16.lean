/- slices.Sort on a list that the caller owns, and the built-in clear on a row. -/
import Derived.Test.YtmagpdbnefbfkaaS15
namespace Go.Proofs.Ytmagpdbnefbfkaa
open Go Go.RowKit Go.Sort

def encs (zs : List Int) : List Value := zs.map (Value.int .u64)

def sorted (zs : List Int) : List Int := zs.mergeSort fun a b => decide (a ≤ b)

theorem sorted_length (zs : List Int) : (sorted zs).length = zs.length := List.length_mergeSort _

theorem holds_row {w : World} {g N : Nat} {e : TypeId} {zs : List Int} (h : Row w g e N (encs zs)) : Holds (Value.int .u64) w g 0 zs.toArray := by
  intro j hj
  have hj' : j < zs.length := by simpa using hj
  rw [Nat.zero_add]
  refine ⟨?_, h.frozen j⟩
  refine h.cell ?_
  simp [encs, hj']

theorem chg_putRow (w : World) (g : Nat) (d : Array Int) : Chg [g] w (putRow (Value.int .u64) w g 0 d) :=
  ⟨rfl, rfl, rfl, by simp, fun k hk hS => by
    simp only [List.mem_singleton] at hS
    simp [putRow, mapBlock, Array.getElem?_modify, Ne.symm hS]⟩

theorem chg_grow (w : World) (os : Array Obj) : Chg [] w (grow w os) :=
  ⟨rfl, rfl, rfl, by simp, fun k hk _ => heap_grow_old w os hk⟩

theorem row_putRow {w : World} {g N : Nat} {e : TypeId} {xs : List Value} (h : Row w g e N xs) (d : List Int) (hd : d.length = xs.length) : Row (putRow (Value.int .u64) w g 0 d.toArray) g e N (encs d) := by
  obtain ⟨cur, h1, h2, h3, h4⟩ := h
  refine ⟨putCells (Value.int .u64) 0 d.toArray cur, ?_, ?_, ?_, ?_⟩
  · simp [putRow, mapBlock, Array.getElem?_modify, h1, onCells]
  · simp [putCells, h2]
  · simp [encs, hd, h3]
  · apply List.ext_getElem?
    intro j
    simp only [encs, List.length_map, List.getElem?_take, List.getElem?_map]
    by_cases hj : j < d.length
    · rw [if_pos hj]
      simp only [putCells, Array.getElem?_toList, Array.getElem?_mapIdx]
      have : j < cur.size := by omega
      simp [this, hj]
    · rw [if_neg hj, List.getElem?_eq_none (by omega)]; rfl

theorem sort_any {w : World} {base n : Nat} {v : Value} {zs : List Int} (h : w.ownsRow base 22 1 v n (encs zs)) (hn : n ≤ 4096) :
    Calls Try.prog 28 #[v] w fun e w' => e = .returned (.tuple #[]) ∧ w'.ownsRow base 22 1 v n (encs (sorted zs)) ∧ Chg v.ownBlock.toList w w' := by
  have hl := h.1
  rcases h.2 with ⟨rfl, rfl⟩ | ⟨g, cap, cur, rfl, hb, hg, hnc, hcm, hcs, htake⟩
  · have hz : zs = [] := by simpa [encs] using hl
    subst hz
    refine (Try.Sort_int_nil none 0 w).mono ?_
    rintro e w' ⟨he, rfl⟩
    exact ⟨he, by rw [show sorted [] = [] from by simp [sorted]]; exact h, Chg.refl _ _⟩
  · obtain ⟨hrow, h2, h3, h4, h5⟩ := Row.of_owns h
    have hzl : zs.length = n := by simpa [encs] using hl
    have := Try.slices_Sort g 0 cap zs w (holds_row hrow) hrow.lt (by omega)
    rw [hzl] at this
    refine this.mono ?_
    rintro e w' ⟨he, m, os, rfl⟩
    have hc : Chg [g] w (grow (putRow (Value.int .u64) (Sort.ahead w m) g 0 (sorted zs).toArray) os) :=
      (((Chg.refl [g] w).drewN m).tr (chg_putRow _ g _)).trans (chg_grow _ _) (by simp)
    refine ⟨he, ?_, hc⟩
    have hr : Row (putRow (Value.int .u64) (Sort.ahead w m) g 0 (sorted zs).toArray) g 22 (cap * 1) (encs (sorted zs)) :=
      row_putRow (w := Sort.ahead w m) hrow (sorted zs) (by simp [encs, sorted_length])
    exact (hr.chg (chg_grow _ os) (by simp)).owns hb (by simp [encs, sorted_length, hzl]) rfl hnc hcm

/-- 'clear(s)' on a row. -/
theorem run_clear_row {P : Program} (W : World) (t e et : TypeId) (z : Value) (g n c N : Nat) (xs zs : List Value) (ht : P.underlying t = some (.slice e)) (hz : ∀ w, (zeroValue e).run P w = .ok z w) (hr : Row W g et N xs)
    (hn : 0 < n) (hzs : (Builtin.zeroCells z.cells n).toList = zs) (hlen : zs.length = xs.length) (h1 : ∀ v ∈ zs, v.oneCell' = true) :
    ∃ w', (∀ ty, (Builtin.clear_ #[t] ty #[.slice (some ⟨g, 0, none⟩) n c]).run P W = .ok (.tuple #[]) w') ∧ Row w' g et N zs ∧ Chg [g] W w' := by
  obtain ⟨cur, r1, r2, r3, r4⟩ := hr
  refine ⟨W.setRow g (cur.toList.take (0 + 0) ++ zs ++ cur.toList.drop (0 + 0 + zs.length)).toArray, fun ty => ?_, ?_, ?_⟩
  · obtain ⟨m, rfl⟩ : ∃ m, n = m + 1 := ⟨n - 1, by omega⟩
    have := run_storeCells_at (P := P) g 0 et zs 0 cur W r1 (by omega) h1
    simp [Builtin.clear_, run_underlying ht, hz, hzs, this]
  · refine ⟨_, setRow_heap W g cur _ et _ r1, ?_, by omega, ?_⟩
    · simp; omega
    · simp
  · exact ⟨rfl, rfl, rfl, by simp [World.setRow], fun k _ hk => by
      simp only [List.mem_singleton] at hk
      simp only [World.setRow]
      simp [Array.getElem?_modify, Ne.symm hk]⟩

end Go.Proofs.Ytmagpdbnefbfkaa
