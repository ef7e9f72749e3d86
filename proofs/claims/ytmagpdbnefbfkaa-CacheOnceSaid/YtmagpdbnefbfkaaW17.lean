/- The document's cache: Flush. -/
import Derived.Test.YtmagpdbnefbfkaaW16
namespace Go.Proofs.Ytmagpdbnefbfkaa
open Go Go.RowKit

/-- One round of the document's insertion. -/
def insStep (x : Int) (s : List Int × Bool) (e : Int) : List Int × Bool :=
  if !s.2 && decide (x < e) then (s.1 ++ [x] ++ [e], true) else (s.1 ++ [e], s.2)
def insTo (x : Int) (zs : List Int) (k : Nat) : List Int × Bool := (zs.take k).foldl (insStep x) ([], false)
def insF (x : Int) (zs : List Int) : List Int := if (insTo x zs zs.length).2 then (insTo x zs zs.length).1 else (insTo x zs zs.length).1 ++ [x]

theorem insTo_succ {x : Int} {zs : List Int} {k : Nat} {e : Int} (h : zs[k]? = some e) : insTo x zs (k + 1) = insStep x (insTo x zs k) e := by
  unfold insTo
  rw [List.take_add_one, h, List.foldl_append]; rfl

theorem insTo_len (x : Int) (zs : List Int) : ∀ k, k ≤ zs.length → (insTo x zs k).1.length = if (insTo x zs k).2 then k + 1 else k
  | 0, _ => by simp [insTo]
  | k + 1, hk => by
    have h := insTo_len x zs k (by omega)
    obtain ⟨e, he⟩ : ∃ e, zs[k]? = some e := ⟨_, List.getElem?_eq_getElem (by omega)⟩
    rw [insTo_succ he]
    unfold insStep
    cases hd : (insTo x zs k).2 <;> rw [hd] at h <;> simp only [Bool.not_false, Bool.not_true, Bool.true_and, Bool.false_and, Bool.false_eq_true, if_false, if_true] at h ⊢
    · by_cases hx : x < e
      · simp [hx, h]
      · simp [hx, h]
    · simp [h]

theorem insF_len (x : Int) (zs : List Int) : (insF x zs).length = zs.length + 1 := by
  have := insTo_len x zs zs.length (Nat.le_refl _)
  unfold insF
  cases hd : (insTo x zs zs.length).2 <;> rw [hd] at this <;> simp at this ⊢ <;> exact this

def InsRel (w : World) (x : Int) (zs : List Int) (o d i : Value) (wr : World) : Prop :=
  ∃ k : Nat, k ≤ zs.length ∧ i = .int .i64 k ∧ d = .bool (insTo x zs k).2 ∧ wr.ownsRow w.heap.size 22 1 o (insTo x zs k).1.length (encs (insTo x zs k).1) ∧ Chg [] w wr

def InsPost (w : World) (x : Int) (zs : List Int) (e : Ending) (w' : World) : Prop :=
  ∃ g c, e = .returned (.slice (some ⟨g, 0, none⟩) (zs.length + 1) c) ∧ w.heap.size ≤ g ∧ Row w' g 22 c (encs (insF x zs)) ∧ Chg [] w w'

theorem insPost_of {w w' : World} {x : Int} {zs : List Int} {v : Value} {n : Nat} {ys : List Int} (hown : w'.ownsRow w.heap.size 22 1 v n (encs ys)) (hy : ys = insF x zs) (hC : Chg [] w w') : InsPost w x zs (.returned v) w' := by
  subst hy
  have hl := hown.1
  simp only [encs, List.length_map, insF_len, Nat.mul_one] at hl
  subst hl
  have h0 := hown
  rcases hown.2 with ⟨_, hz⟩ | ⟨g, cap, cur, rfl, hb, _⟩
  · omega
  · obtain ⟨r1, r2, r3, r4, r5⟩ := Row.of_owns h0
    rw [Nat.mul_one] at r1
    exact ⟨g, cap, rfl, r5, r1, hC⟩

set_option maxRecDepth 100000 in
set_option maxHeartbeats 4000000 in
theorem insert_any {w : World} {g N n c : Nat} {zs : List Int} {x : Int} (hr : Row w g 22 N (encs zs)) (hn : zs.length = n) (hle : n ≤ 4096) :
    Calls Try.prog 29 #[.slice (some ⟨g, 0, none⟩) n c, .int .u64 x] w (InsPost w x zs) := by
  obtain ⟨i0, hi0, hz0, hz1, hz2⟩ := info_parts Try.info22
  have HN := Lib.hid hn
  go_enter Try.func29, Try.ntmps29
  go_wp2
  go_loopw [5, 6, 7] (InsRel w x zs) (fun _ _ i _ => n - (intOf i).toNat)
  case atStart => exact ⟨0, Nat.zero_le _, rfl, rfl, World.ownsRow_made w #[] 0 (Nat.le_refl _) (by unfold maxLen; omega) rfl, (Chg.refl _ _).alloc _⟩
  case round =>
    obtain ⟨k, hk, rfl, rfl, hown, hchg⟩ := hrel
    have hlen := insTo_len x zs k hk
    by_cases hkn : k < n
    · obtain ⟨e, he⟩ : ∃ e, zs[k]? = some e := ⟨_, List.getElem?_eq_getElem (by omega)⟩
      have hstep := insTo_succ (x := x) he
      have ce := (hr.chg hchg (by simp)).cell (j := k) (v := .int .u64 e) (by simp [encs, he])
      have hsz := hchg.size
      have HE := Lib.hid he
      cases hd : (insTo x zs k).2 with
      | false =>
        rw [hd] at hlen
        simp only [Bool.false_eq_true, if_false] at hlen
        by_cases hx : x < e
        · have hst : insTo x zs (k + 1) = ((insTo x zs k).1 ++ [x] ++ [e], true) := by rw [hstep]; unfold insStep; rw [hd]; simp [hx]
          have HST := Lib.hid hst
          have hown2 := hown.alloc (Obj.cells #[.int .u64 x] 22)
          clear hstep hst he hn
          go_wp2_with (at_builtin; first
            | ((refine wpList_append_own _ rfl _ _ 44 rfl w.heap.size 22 i0 (.int .u64 0) 1 8 Try.underlying44 hi0 hz0 hz1 hz2 rfl (by decide) _ _ _ rfl hown2 ⟨wr.heap.size, 0, none⟩ 1 1 [.int .u64 x] rfl rfl (news_new _ _ _) (fun u hu => by simp at hu; rcases hu with rfl; rfl) (by unfold maxLen; omega) (by omega) (by simp; omega) ?_); intro v' w3 hown3 hgrow3 _; have hC3 := Chg.of_row hgrow3; have hC6 : Chg [] w w3 := (hchg.alloc _).trans hC3 (fun y hy => .inr (hown2.lt y (by have hy' : y ∈ u5.ownBlock.toList := hy; simpa using hy')).1); have hsz3 := hC6.size; have ce3 := (hr.chg hC6 (by simp)).cell (j := k) (v := .int .u64 e) (by simp [encs, HE.out]); have hown4 := hown3.alloc (Obj.cells #[.int .u64 e] 22))
            | ((refine wpList_append_own _ rfl _ _ 44 rfl w.heap.size 22 i0 (.int .u64 0) 1 8 Try.underlying44 hi0 hz0 hz1 hz2 rfl (by decide) _ _ _ rfl hown4 ⟨w3.heap.size, 0, none⟩ 1 1 [.int .u64 e] rfl rfl (news_new _ _ _) (fun u hu => by simp at hu; rcases hu with rfl; rfl) (by unfold maxLen; omega) (by omega) (by simp; omega) ?_); intro v'' w5 hown5 hgrow5 _; have hC5 := Chg.of_row hgrow5))
          have hC7 : Chg [] w w5 := (hC6.alloc _).trans hC5 (fun y hy => .inr (hown4.lt y (by have hy' : y ∈ v'.ownBlock.toList := hy; simpa using hy')).1)
          refine ⟨⟨k + 1, by have := HN.out; omega, by go_num, by rw [HST.out], ?_, hC7⟩, by simp [intOf]; omega⟩
          rw [HST.out, List.length_append, List.length_append]
          unfold encs
          rw [List.map_append, List.map_append]
          exact hown5
        · have hst : insTo x zs (k + 1) = ((insTo x zs k).1 ++ [e], false) := by rw [hstep]; unfold insStep; rw [hd]; simp [hx]
          have HST := Lib.hid hst
          have hown2 := hown.alloc (Obj.cells #[.int .u64 e] 22)
          clear hstep hst he hn
          go_wp2_with (at_builtin; (refine wpList_append_own _ rfl _ _ 44 rfl w.heap.size 22 i0 (.int .u64 0) 1 8 Try.underlying44 hi0 hz0 hz1 hz2 rfl (by decide) _ _ _ rfl hown2 ⟨wr.heap.size, 0, none⟩ 1 1 [.int .u64 e] rfl rfl (news_new _ _ _) (fun u hu => by simp at hu; rcases hu with rfl; rfl) (by unfold maxLen; omega) (by omega) (by simp; omega) ?_); intro v' w3 hown3 hgrow3 _; have hC3 := Chg.of_row hgrow3)
          have hC6 : Chg [] w w3 := (hchg.alloc _).trans hC3 (fun y hy => .inr (hown2.lt y (by have hy' : y ∈ u5.ownBlock.toList := hy; simpa using hy')).1)
          refine ⟨⟨k + 1, by have := HN.out; omega, by go_num, by rw [HST.out], ?_, hC6⟩, by simp [intOf]; omega⟩
          rw [HST.out, List.length_append]
          unfold encs
          rw [List.map_append]
          exact hown3
      | true =>
        rw [hd] at hlen
        simp only [if_true] at hlen
        have hst : insTo x zs (k + 1) = ((insTo x zs k).1 ++ [e], true) := by rw [hstep]; unfold insStep; rw [hd]; simp
        have HST := Lib.hid hst
        have hown2 := hown.alloc (Obj.cells #[.int .u64 e] 22)
        clear hstep hst he hn
        go_wp2_with (at_builtin; (refine wpList_append_own _ rfl _ _ 44 rfl w.heap.size 22 i0 (.int .u64 0) 1 8 Try.underlying44 hi0 hz0 hz1 hz2 rfl (by decide) _ _ _ rfl hown2 ⟨wr.heap.size, 0, none⟩ 1 1 [.int .u64 e] rfl rfl (news_new _ _ _) (fun u hu => by simp at hu; rcases hu with rfl; rfl) (by unfold maxLen; omega) (by omega) (by simp; omega) ?_); intro v' w3 hown3 hgrow3 _; have hC3 := Chg.of_row hgrow3)
        have hC6 : Chg [] w w3 := (hchg.alloc _).trans hC3 (fun y hy => .inr (hown2.lt y (by have hy' : y ∈ u5.ownBlock.toList := hy; simpa using hy')).1)
        refine ⟨⟨k + 1, by have := HN.out; omega, by go_num, by rw [HST.out], ?_, hC6⟩, by simp [intOf]; omega⟩
        rw [HST.out, List.length_append]
        unfold encs
        rw [List.map_append]
        exact hown3
    · obtain rfl : k = n := by omega
      have hsz := hchg.size
      cases hd : (insTo x zs k).2 with
      | false =>
        rw [hd] at hlen
        simp only [Bool.false_eq_true, if_false] at hlen
        have hF : insF x zs = (insTo x zs k).1 ++ [x] := by unfold insF; rw [hn, hd]; simp
        have HF := Lib.hid hF
        have hown2 := hown.alloc (Obj.cells #[.int .u64 x] 22)
        clear hF hn
        go_wp2_with (at_builtin; (refine wpList_append_own _ rfl _ _ 44 rfl w.heap.size 22 i0 (.int .u64 0) 1 8 Try.underlying44 hi0 hz0 hz1 hz2 rfl (by decide) _ _ _ rfl hown2 ⟨wr.heap.size, 0, none⟩ 1 1 [.int .u64 x] rfl rfl (news_new _ _ _) (fun u hu => by simp at hu; rcases hu with rfl; rfl) (by unfold maxLen; omega) (by omega) (by simp; omega) ?_); intro v' w3 hown3 hgrow3 _; have hC3 := Chg.of_row hgrow3)
        have hC6 : Chg [] w w3 := (hchg.alloc _).trans hC3 (fun y hy => .inr (hown2.lt y (by have hy' : y ∈ u5.ownBlock.toList := hy; simpa using hy')).1)
        go_ret
        refine insPost_of (n := (insTo x zs k).1.length + 1) (ys := (insTo x zs k).1 ++ [x]) ?_ HF.out.symm hC6
        unfold encs
        rw [List.map_append]
        exact hown3
      | true =>
        have hF : insF x zs = (insTo x zs k).1 := by unfold insF; rw [hn, hd]; simp
        have HF := Lib.hid hF
        clear hF hn
        go_wp2
        go_ret
        exact insPost_of hown HF.out.symm hchg

end Go.Proofs.Ytmagpdbnefbfkaa
