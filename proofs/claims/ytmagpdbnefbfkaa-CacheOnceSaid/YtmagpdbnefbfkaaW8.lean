/- The walks of the document's cache: find, empty, set, Under. -/
import Derived.Test.YtmagpdbnefbfkaaRows
import Derived.Test.YtmagpdbnefbfkaaPure3
import Derived.WalkLawsBesides
import Derived.Lib.Hide
import Derived.StillTailTactics
namespace Go.Proofs.Ytmagpdbnefbfkaa
open Go Go.RowKit

theorem none_at' {α : Type} {l : List α} {f : α → Bool} (hno : ∀ (j : Nat) t, j < l.length → l[j]? = some t → f t = false) : l.findIdx? f = none := by
  rw [List.findIdx?_eq_none_iff]
  intro x hx
  obtain ⟨j, hj, rfl⟩ := List.getElem_of_mem hx
  exact hno j _ hj (List.getElem?_eq_getElem hj)

theorem some_at' {α : Type} {l : List α} {f : α → Bool} {k : Nat} {s : α} (hs : l[k]? = some s) (hno : ∀ (j : Nat) t, j < k → l[j]? = some t → f t = false) (h : f s = true) : l.findIdx? f = some k := by
  rw [List.findIdx?_eq_some_iff_getElem]
  have hk := (List.getElem?_eq_some_iff.1 hs).1
  have he := (List.getElem?_eq_some_iff.1 hs).2
  refine ⟨hk, by rw [he]; exact h, fun j hj => ?_⟩
  have := hno j _ hj (List.getElem?_eq_getElem (by omega))
  simp [this]

theorem none_step' {α : Type} {l : List α} {f : α → Bool} {k : Nat} {s : α} (hs : l[k]? = some s) (hno : ∀ (j : Nat) t, j < k → l[j]? = some t → f t = false) (h : f s = false) :
    ∀ (j : Nat) t, j < k + 1 → l[j]? = some t → f t = false := fun j t hj ht => by
  by_cases e : j = k
  · subst e; rw [hs] at ht; cases ht; exact h
  · exact hno j t (by omega) ht

/-- A place, or -1. -/
def idx : Option Nat → Int
  | some k => k
  | none => -1

set_option maxHeartbeats 1000000 in
theorem find_any (g n c len : Nat) (l : List Sl) (line : Int) (w : World) (hr : Row w g 72 n (l.flatMap Sl.enc)) (hlen : l.length = len) (hl : len ≤ 8) :
    Calls Try.prog 25 #[.slice (some ⟨g, 0, none⟩) len c, .int .u64 line] w fun e w' => e = .returned (.int .i64 (idx (l.findIdx? (Sl.has line)))) ∧ w = w' := by
  subst hlen
  go_enter Try.func25, Try.ntmps25
  go_wp2
  go_loop [5] (fun i => ∃ k : Nat, k ≤ l.length ∧ i = .int .i64 k ∧ ∀ (j : Nat) t, j < k → l[j]? = some t → Sl.has line t = false) (fun i => l.length - (intOf i).toNat)
  case atStart => exact ⟨0, Nat.zero_le _, rfl, fun j t h => by omega⟩
  case round =>
    obtain ⟨k, hk, rfl, hno⟩ := hrel
    have HNO := Lib.hid hno
    clear hno
    by_cases hlt : k < l.length
    · obtain ⟨⟨sline, sis, swr, sleft⟩, hs⟩ : ∃ s, l[k]? = some s := ⟨_, List.getElem?_eq_getElem hlt⟩
      obtain ⟨g0, g1, g2, g3⟩ := hr.sl hs
      dsimp only at g0 g1 g2 g3
      have HS := Lib.hid hs
      clear hs
      cases sis
      · go_wp2
        go_round
        case rel => exact ⟨k + 1, by omega, by go_num, none_step' HS.out HNO.out rfl⟩
        case measure => simp [intOf]; omega
      · cases he : (sline == line)
        · have HE := Lib.hid he
          go_wp2
          go_round
          case rel => exact ⟨k + 1, by omega, by go_num, none_step' HS.out HNO.out (by simp only [Sl.has, HE.out, Bool.and_false])⟩
          case measure => simp [intOf]; omega
        · have hx : idx (l.findIdx? (Sl.has line)) = k := by
            rw [some_at' HS.out HNO.out (by simp only [Sl.has, he, Bool.and_true])]; rfl
          have HX := Lib.hid hx
          clear hx
          go_wp2
          go_ret
          exact ⟨by rw [HX.out]; rfl, rfl⟩
    · obtain rfl : k = l.length := by omega
      have hx : idx (l.findIdx? (Sl.has line)) = -1 := by
        rw [none_at' HNO.out]; rfl
      have HX := Lib.hid hx
      clear hx
      go_wp2
      go_ret
      exact ⟨by rw [HX.out]; rfl, rfl⟩

set_option maxHeartbeats 1000000 in
theorem empty_any (g n c len : Nat) (l : List Sl) (w : World) (hr : Row w g 72 n (l.flatMap Sl.enc)) (hlen : l.length = len) (hl : len ≤ 8) :
    Calls Try.prog 26 #[.slice (some ⟨g, 0, none⟩) len c] w fun e w' => e = .returned (.int .i64 (idx (l.findIdx? Sl.free))) ∧ w = w' := by
  subst hlen
  go_enter Try.func26, Try.ntmps26
  go_wp2
  go_loop [3] (fun i => ∃ k : Nat, k ≤ l.length ∧ i = .int .i64 k ∧ ∀ (j : Nat) t, j < k → l[j]? = some t → Sl.free t = false) (fun i => l.length - (intOf i).toNat)
  case atStart => exact ⟨0, Nat.zero_le _, rfl, fun j t h => by omega⟩
  case round =>
    obtain ⟨k, hk, rfl, hno⟩ := hrel
    have HNO := Lib.hid hno
    clear hno
    by_cases hlt : k < l.length
    · obtain ⟨⟨sline, sis, swr, sleft⟩, hs⟩ : ∃ s, l[k]? = some s := ⟨_, List.getElem?_eq_getElem hlt⟩
      obtain ⟨g0, g1, g2, g3⟩ := hr.sl hs
      dsimp only at g0 g1 g2 g3
      have HS := Lib.hid hs
      clear hs
      cases sis
      · have hx : idx (l.findIdx? Sl.free) = k := by
          rw [some_at' HS.out HNO.out rfl]; rfl
        have HX := Lib.hid hx
        clear hx
        go_wp2
        go_ret
        exact ⟨by rw [HX.out]; rfl, rfl⟩
      · go_wp2
        go_round
        case rel => exact ⟨k + 1, by omega, by go_num, none_step' HS.out HNO.out rfl⟩
        case measure => simp [intOf]; omega
    · obtain rfl : k = l.length := by omega
      have hx : idx (l.findIdx? Sl.free) = -1 := by
        rw [none_at' HNO.out]; rfl
      have HX := Lib.hid hx
      clear hx
      go_wp2
      go_ret
      exact ⟨by rw [HX.out]; rfl, rfl⟩

set_option maxHeartbeats 1000000 in
theorem set_row (b bo co sets K : Nat) (line : Int) (v : Value) (w : World) (c0 : w.cell? ⟨b, 0, none⟩ = some (.slice (some ⟨bo, 0, none⟩) sets co)) (cv : w.cell? ⟨bo, K, none⟩ = some v)
    (h2 : sets ≤ 64) (hK : line % sets = (K : Int)) (hl : 0 ≤ line ∧ line < 18446744073709551616) (hKs : K < sets) :
    Calls Try.prog 24 #[.pointer (some ⟨b, 0, none⟩), .int .u64 line] w fun e w' => e = .returned v ∧ ∃ n, w' = w.drewN n := by
  have e1 : line.tmod sets = (K : Int) := by rw [Int.tmod_eq_emod_of_nonneg hl.1, hK]
  have e2 : IntKind.u64.wrap (sets : Int) = sets := IntWalk.u64_in _ (by omega)
  have e3 : IntKind.u64.wrap (K : Int) = K := IntWalk.u64_in _ (by omega)
  clear hl hK
  go_enter Try.func24, Try.ntmps24
  go_wp2
  go_quiet (fail)
  go_wp2
  go_ret
  exact ⟨rfl, _, rfl⟩

set_option maxHeartbeats 1000000 in
theorem underR_any (b bs cs : Nat) (sl : List Sl) (w : World) (c6 : w.cell? ⟨b, 1, none⟩ = some (.slice (some ⟨bs, 0, none⟩) sl.length cs))
    (hr : Row w bs 72 (cs * 4) (sl.flatMap Sl.enc)) (hl : sl.length ≤ 8) :
    Calls Try.prog 16 #[.pointer (some ⟨b, 0, none⟩)] w fun e w' => e = .returned (.int .i64 (sl.countP (·.is))) ∧ w = w' := by
  go_enter Try.func16, Try.ntmps16
  go_wp2
  go_loop [3, 4] (fun n i => ∃ k : Nat, k ≤ sl.length ∧ i = .int .i64 k ∧ n = .int .i64 ((sl.take k).countP (·.is))) (fun _ i => sl.length - (intOf i).toNat)
  case atStart => exact ⟨0, Nat.zero_le _, rfl, rfl⟩
  case round =>
    obtain ⟨k, hk, rfl, rfl⟩ := hrel
    by_cases hlt : k < sl.length
    · obtain ⟨s, hs⟩ : ∃ s, sl[k]? = some s := ⟨_, List.getElem?_eq_getElem hlt⟩
      obtain ⟨g0, g1, g2, g3⟩ := hr.sl hs
      have hc : ((sl.take k).countP (·.is) : Int) ≤ 8 := by have := List.countP_le_length (p := fun s : Sl => s.is) (l := sl.take k); have := List.length_take_le k sl; omega
      have H : Hid ((sl.take (k + 1)).countP (·.is) = (sl.take k).countP (·.is) + if s.is then 1 else 0) := by
        show _ = _
        rw [List.take_add_one, hs, List.countP_append]; simp [List.countP_cons]
      clear hs
      go_wp2
      all_goals
        go_round
        case rel => exact ⟨k + 1, by omega, by go_num, by rw [H.out]; simp [*]⟩
        case measure => simp [intOf]; omega
    · obtain rfl : k = sl.length := by omega
      go_wp2
      go_ret
      exact ⟨by simp, rfl⟩

end Go.Proofs.Ytmagpdbnefbfkaa
