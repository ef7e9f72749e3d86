/- The law's own small functions: sameList, sameDone. -/
import Derived.Test.YtmagpdbnefbfkaaPure4
namespace Go.Proofs.Ytmagpdbnefbfkaa
open Go Go.RowKit

set_option maxRecDepth 100000 in
set_option maxHeartbeats 1000000 in
theorem sameList_nil (p : Option Addr) (c g2 c2 : Nat) (w : World) : Calls Try.prog 19 #[.slice p 0 c, .slice (some ⟨g2, 0, none⟩) 0 c2] w fun e w' => e = .returned (.bool true) ∧ w' = w := by
  go_enter Try.func19, Try.ntmps19
  go_wp2
  refine wp_loop_rounds 1 ?_
  rw [rounds_succ]
  go_wp2
  go_ret
  exact ⟨rfl, rfl⟩

set_option maxRecDepth 100000 in
set_option maxHeartbeats 1000000 in
theorem sameList_row {w : World} {g1 c1 N1 g2 c2 N2 n : Nat} {zs : List Int} (h1 : Row w g1 22 N1 (encs zs)) (h2 : Row w g2 22 N2 (encs zs)) (hn : zs.length = n) (hle : n ≤ 4096) :
    Calls Try.prog 19 #[.slice (some ⟨g1, 0, none⟩) n c1, .slice (some ⟨g2, 0, none⟩) n c2] w fun e w' => e = .returned (.bool true) ∧ ∃ q, w' = w.drewN q := by
  have HN := Lib.hid hn
  clear hn
  go_enter Try.func19, Try.ntmps19
  go_wp2
  go_loopw [5] (fun i wr => ∃ k q : Nat, k ≤ n ∧ i = .int .i64 k ∧ wr = w.drewN q) (fun i _ => n - (intOf i).toNat)
  case atStart => exact ⟨0, 0, Nat.zero_le _, rfl, rfl⟩
  case round =>
    obtain ⟨k, q, hk, rfl, hwr⟩ := hrel
    by_cases hkn : k < n
    · obtain ⟨x, hx⟩ : ∃ x, zs[k]? = some x := ⟨_, List.getElem?_eq_getElem (by have := HN.out; omega)⟩
      have a1 : wr.cell? ⟨g1, k, none⟩ = some (.int .u64 x) := by rw [hwr]; exact (h1.drewN q).cell (j := k) (by simp [encs, hx])
      have a2 : wr.cell? ⟨g2, k, none⟩ = some (.int .u64 x) := by rw [hwr]; exact (h2.drewN q).cell (j := k) (by simp [encs, hx])
      have HW := Lib.hid hwr
      clear hwr hx
      go_wp2
      go_quiet (fail)
      go_wp2
      go_roundw
      case rel => exact ⟨k + 1, _, by omega, by go_num, by rw [HW.out]; exact World.drewN_drewN _ _ _⟩
      case measure => simp [intOf]; omega
    · obtain rfl : k = n := by omega
      go_wp2
      go_ret
      exact ⟨rfl, q, rfl⟩

theorem Row.dn {w : World} {g N : Nat} {e : TypeId} {l : List Dn} (h : Row w g e N (l.flatMap Dn.enc)) {k : Nat} {s : Dn} (hs : l[k]? = some s) :
    w.cell? ⟨g, k * 3, none⟩ = some (.int .u64 s.at_) ∧ w.cell? ⟨g, k * 3 + 1, none⟩ = some (.int .u64 s.out) ∧ w.cell? ⟨g, k * 3 + 2, none⟩ = some (.bool s.wr) :=
  ⟨h.cell (flat_get Dn.enc 3 Dn.enc_len l k 0 s hs (by omega)), h.cell (flat_get Dn.enc 3 Dn.enc_len l k 1 s hs (by omega)), h.cell (flat_get Dn.enc 3 Dn.enc_len l k 2 s hs (by omega))⟩

set_option maxRecDepth 100000 in
set_option maxHeartbeats 1000000 in
theorem sameDone_nil (p p2 : Option Addr) (c c2 : Nat) (w : World) : Calls Try.prog 12 #[.slice p 0 c, .slice p2 0 c2] w fun e w' => e = .returned (.bool true) ∧ w' = w := by
  go_enter Try.func12, Try.ntmps12
  go_wp2
  refine wp_loop_rounds 1 ?_
  rw [rounds_succ]
  go_wp2
  go_ret
  exact ⟨rfl, rfl⟩

set_option maxRecDepth 100000 in
set_option maxHeartbeats 1000000 in
theorem sameDone_row {w : World} {g1 c1 N1 g2 c2 N2 n : Nat} {ds : List Dn} (h1 : Row w g1 40 N1 (ds.flatMap Dn.enc)) (h2 : Row w g2 75 N2 (ds.flatMap Dn.enc)) (hn : ds.length = n) (hle : n ≤ 4096) :
    Calls Try.prog 12 #[.slice (some ⟨g1, 0, none⟩) n c1, .slice (some ⟨g2, 0, none⟩) n c2] w fun e w' => e = .returned (.bool true) ∧ ∃ q, w' = w.drewN q := by
  have HN := Lib.hid hn
  clear hn
  go_enter Try.func12, Try.ntmps12
  go_wp2
  go_loopw [5] (fun i wr => ∃ k q : Nat, k ≤ n ∧ i = .int .i64 k ∧ wr = w.drewN q) (fun i _ => n - (intOf i).toNat)
  case atStart => exact ⟨0, 0, Nat.zero_le _, rfl, rfl⟩
  case round =>
    obtain ⟨k, q, hk, rfl, hwr⟩ := hrel
    by_cases hkn : k < n
    · obtain ⟨x, hx⟩ : ∃ x, ds[k]? = some x := ⟨_, List.getElem?_eq_getElem (by have := HN.out; omega)⟩
      obtain ⟨a1, a2, a3⟩ := (h1.drewN q).dn hx
      obtain ⟨b1, b2, b3⟩ := (h2.drewN q).dn hx
      rw [← hwr] at a1 a2 a3 b1 b2 b3
      have HW := Lib.hid hwr
      clear hwr hx
      go_wp2
      go_quiet (fail)
      go_wp2
      go_roundw
      case rel => exact ⟨k + 1, _, by omega, by go_num, by rw [HW.out]; exact World.drewN_drewN _ _ _⟩
      case measure => simp [intOf]; omega
    · obtain rfl : k = n := by omega
      go_wp2
      go_ret
      exact ⟨rfl, q, rfl⟩

end Go.Proofs.Ytmagpdbnefbfkaa
