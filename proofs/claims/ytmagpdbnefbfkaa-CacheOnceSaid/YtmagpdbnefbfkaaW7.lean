/- The walks of the program's cache: a new one. -/
import Derived.Test.YtmagpdbnefbfkaaW6
import Derived.Deep.Cut
import Derived.Deep.CutRange
import Derived.Deep.CutBlock
namespace Go.Proofs.Ytmagpdbnefbfkaa
open Go Go.RowKit

def isSets (n : Int) : Prop := n = 1 ∨ n = 2 ∨ n = 4 ∨ n = 8 ∨ n = 16 ∨ n = 32 ∨ n = 64

instance (n : Int) : Decidable (isSets n) := by unfold isSets; infer_instance

/-- Numbers of which there is a cache. -/
def fits (sets ways slots delay : Int) : Prop := isSets sets ∧ 1 ≤ ways ∧ ways ≤ 8 ∧ 1 ≤ slots ∧ slots ≤ 8 ∧ 1 ≤ delay ∧ delay ≤ 64

instance (a b c d : Int) : Decidable (fits a b c d) := by unfold fits; infer_instance

set_option maxRecDepth 100000 in
set_option maxHeartbeats 1000000 in
theorem new_other (sets ways slots delay seed : Int) (w : World) (h : ¬ isSets sets) :
    Calls Try.prog 6 #[.int .i64 sets, .int .i64 ways, .int .i64 slots, .int .i64 delay, .int .u64 seed] w fun e w' => e = .returned (.pointer none) ∧ w' = w := by
  unfold isSets at h
  have h1 : (sets == 1) = false := by rw [beq_eq_false_iff_ne]; omega
  have h2 : (sets == 2) = false := by rw [beq_eq_false_iff_ne]; omega
  have h3 : (sets == 4) = false := by rw [beq_eq_false_iff_ne]; omega
  have h4 : (sets == 8) = false := by rw [beq_eq_false_iff_ne]; omega
  have h5 : (sets == 16) = false := by rw [beq_eq_false_iff_ne]; omega
  have h6 : (sets == 32) = false := by rw [beq_eq_false_iff_ne]; omega
  have h7 : (sets == 64) = false := by rw [beq_eq_false_iff_ne]; omega
  clear h
  go_enter Try.func6, Try.ntmps6
  go_wp2
  go_ret
  exact ⟨rfl, rfl⟩

set_option maxRecDepth 100000 in
set_option maxHeartbeats 4000000 in
theorem new_no (sets ways slots delay seed : Int) (w : World) (hs : isSets sets) (h : ¬ (1 ≤ ways ∧ ways ≤ 8 ∧ 1 ≤ slots ∧ slots ≤ 8 ∧ 1 ≤ delay ∧ delay ≤ 64)) :
    Calls Try.prog 6 #[.int .i64 sets, .int .i64 ways, .int .i64 slots, .int .i64 delay, .int .u64 seed] w fun e w' => e = .returned (.pointer none) ∧ w' = w := by
  unfold isSets at hs
  rcases hs with rfl | rfl | rfl | rfl | rfl | rfl | rfl
  all_goals
    go_enter Try.func6, Try.ntmps6
    go_wp2
    all_goals first
      | (go_ret; exact ⟨rfl, rfl⟩)
      | (exfalso; omega)

theorem Try.info65 : (Try.prog.info? 65).map (fun i => (i.zero, i.size, i.bytes)) = some (some (.agg #[.int .u64 0, .bool false, .bool false]), 3, 16) := by kernel_rfl
theorem Try.info68 : (Try.prog.info? 68).map (fun i => (i.zero, i.size, i.bytes)) = some (some (.agg #[.int .u64 0, .bool false, .bool false, .int .i64 0]), 4, 24) := by kernel_rfl

theorem make65 (n : Nat) (hn : n ≤ 512) (W : World) : (Instr.makeSlice 51 (.int .i64 n) (.int .i64 n)).run Try.prog W =
    .ok (.slice (some ⟨W.heap.size, 0, none⟩) n n) (W.alloc (.cells (madeCells #[.int .u64 0, .bool false, .bool false] (n * 3)) 65)) := by
  obtain ⟨i0, hi0, hz0, hz1, hz2⟩ := info_parts Try.info65
  have := run_make (P := Try.prog) W 51 65 i0 _ Try.underlying51 hi0 hz0 .i64 .i64 n n (by omega) (by omega) (by rw [hz2]; omega) (by omega)
  rw [this, hz1]; rfl

theorem make68 (n : Nat) (hn : n ≤ 512) (W : World) : (Instr.makeSlice 53 (.int .i64 n) (.int .i64 n)).run Try.prog W =
    .ok (.slice (some ⟨W.heap.size, 0, none⟩) n n) (W.alloc (.cells (madeCells #[.int .u64 0, .bool false, .bool false, .int .i64 0] (n * 4)) 68)) := by
  obtain ⟨i0, hi0, hz0, hz1, hz2⟩ := info_parts Try.info68
  have := run_make (P := Try.prog) W 53 68 i0 _ Try.underlying53 hi0 hz0 .i64 .i64 n n (by omega) (by omega) (by rw [hz2]; omega) (by omega)
  rw [this, hz1]; rfl

/-- A new one. -/
def St.new (sets ways slots delay : Nat) (seed : Int) : St := ⟨sets, ways, delay, seed, List.replicate (sets * ways) Pl.zero, List.replicate slots Sl.zero⟩

def NewPost (w : World) (σ : St) (e : Ending) (w' : World) : Prop :=
  ∃ b ba bm bs, e = .returned (.pointer (some ⟨b, 0, none⟩)) ∧ RepP w' b ba bm bs σ ∧ (∀ x ∈ [b, ba, bm, bs], w.heap.size ≤ x) ∧ Chg [] w w'

theorem made_pl (n : Nat) : (madeCells #[.int .u64 0, .bool false, .bool false] (n * 3)).toList = (List.replicate n Pl.zero).flatMap Pl.enc := by
  induction n with
  | zero => simp [madeCells]
  | succ n ih =>
    rw [List.replicate_succ', List.flatMap_append, ← ih, Nat.succ_mul]
    simp only [madeCells, Array.toList_map, Array.toList_range, List.range_add, List.map_append]
    congr 1
    simp [List.range_succ, Pl.enc, Pl.zero, Nat.add_mod]

theorem made_sl (n : Nat) : (madeCells #[.int .u64 0, .bool false, .bool false, .int .i64 0] (n * 4)).toList = (List.replicate n Sl.zero).flatMap Sl.enc := by
  induction n with
  | zero => simp [madeCells]
  | succ n ih =>
    rw [List.replicate_succ', List.flatMap_append, ← ih, Nat.succ_mul]
    simp only [madeCells, Array.toList_map, Array.toList_range, List.range_add, List.map_append]
    congr 1
    simp [List.range_succ, Sl.enc, Sl.zero, Nat.add_mod]

theorem heap4 (w : World) (o0 o1 o2 o3 : Obj) : ((((w.alloc o0).alloc o1).alloc o2).alloc o3).drew.heap[w.heap.size]? = some o0 ∧ ((((w.alloc o0).alloc o1).alloc o2).alloc o3).drew.heap[w.heap.size + 1]? = some o1 ∧
    ((((w.alloc o0).alloc o1).alloc o2).alloc o3).drew.heap[w.heap.size + 1 + 1]? = some o2 ∧ ((((w.alloc o0).alloc o1).alloc o2).alloc o3).drew.heap[w.heap.size + 1 + 1 + 1]? = some o3 ∧ Chg [] w ((((w.alloc o0).alloc o1).alloc o2).alloc o3).drew := by
  have s1 : (w.alloc o0).heap.size = w.heap.size + 1 := by simp
  have s2 : ((w.alloc o0).alloc o1).heap.size = w.heap.size + 1 + 1 := by simp
  have s3 : (((w.alloc o0).alloc o1).alloc o2).heap.size = w.heap.size + 1 + 1 + 1 := by simp
  refine ⟨?_, ?_, ?_, ?_, ((((((Chg.refl _ w).alloc _).alloc _).alloc _).alloc _).drew)⟩
  · show (World.alloc _ _).heap[_]? = _
    rw [Below.heap_alloc _ _ _ (by omega), Below.heap_alloc _ _ _ (by omega), Below.heap_alloc _ _ _ (by omega)]
    exact heap_alloc_new w o0
  · show (World.alloc _ _).heap[_]? = _
    rw [Below.heap_alloc _ _ _ (by omega), Below.heap_alloc _ _ _ (by omega), ← s1]
    exact heap_alloc_new _ o1
  · show (World.alloc _ _).heap[_]? = _
    rw [Below.heap_alloc _ _ _ (by omega), ← s2]
    exact heap_alloc_new _ o2
  · show (World.alloc _ _).heap[_]? = _
    rw [← s3]
    exact heap_alloc_new _ o3

theorem new_rep {w w' : World} {b ba bm bs sets ways slots delay N : Nat} {seed : Int} (hN : sets * ways = N) (h1 : N ≤ 512) (h2 : slots ≤ 8)
    (g0 : w'.heap[b]? = some (.cells #[.int .i64 sets, .int .i64 ways, .int .i64 delay, .int .u64 seed, .slice (some ⟨ba, 0, none⟩) N N, .map (some bm), .slice (some ⟨bs, 0, none⟩) slots slots] 55 (0, 0)))
    (g1 : w'.heap[ba]? = some (.cells (madeCells #[.int .u64 0, .bool false, .bool false] (N * 3)) 65 (0, 0))) (g2 : w'.heap[bm]? = some (.map #[] 0))
    (g3 : w'.heap[bs]? = some (.cells (madeCells #[.int .u64 0, .bool false, .bool false, .int .i64 0] (slots * 4)) 68 (0, 0))) (hd : [b, ba, bm, bs].Nodup) (hge : ∀ x ∈ [b, ba, bm, bs], w.heap.size ≤ x) (hc : Chg [] w w') :
    NewPost w (St.new sets ways slots delay seed) (.returned (.pointer (some ⟨b, 0, none⟩))) w' := by
  subst hN
  have e1 : (St.new sets ways slots delay seed).pl.length = sets * ways := by simp [St.new]
  have e2 : (St.new sets ways slots delay seed).sl.length = slots := by simp [St.new]
  refine ⟨b, ba, bm, bs, rfl, ⟨⟨sets * ways, slots, ?_, ?_, ?_, by unfold maxLen; omega, by unfold maxLen; omega⟩, ⟨[], ?_, ?_⟩, hd⟩, hge, hc⟩
  · rw [e1, e2]
    exact ⟨_, g0, rfl, by simp [topP], rfl⟩
  · refine ⟨_, g1, size_madeCells _ _, ?_, ?_⟩
    · rw [flat_length Pl.enc 3 Pl.enc_len, e1]; exact Nat.le_refl _
    · rw [made_pl]; exact List.take_length
  · refine ⟨_, g3, size_madeCells _ _, ?_, ?_⟩
    · rw [flat_length Sl.enc 4 Sl.enc_len, e2]; exact Nat.le_refl _
    · rw [made_sl]; exact List.take_length
  · exact ⟨#[], 0, g2, by simp, by simp, by simp, by simp, by simp⟩
  · intro line n
    simp only [asc, List.find?_nil, Option.map_none, reduceCtorEq, false_iff]
    rintro ⟨p, hp, hi, _⟩
    have := List.mem_of_getElem? hp
    simp only [St.new, List.mem_replicate] at this
    rw [this.2] at hi; simp [Pl.zero] at hi

set_option maxRecDepth 100000 in
set_option maxHeartbeats 4000000 in
theorem new_yes (sets ways slots delay N : Nat) (seed : Int) (w : World) (hs : isSets sets) (hN : sets * ways = N) (h1 : 1 ≤ ways) (h2 : ways ≤ 8) (h3 : 1 ≤ slots) (h4 : slots ≤ 8) (h5 : 1 ≤ delay) (h6 : delay ≤ 64) :
    Calls Try.prog 6 #[.int .i64 sets, .int .i64 ways, .int .i64 slots, .int .i64 delay, .int .u64 seed] w (NewPost w (St.new sets ways slots delay seed)) := by
  have hs0 := hs
  unfold isSets at hs0
  have hs1 : 1 ≤ sets ∧ sets ≤ 64 := by omega
  have hN1 : N ≤ 512 := by rw [← hN]; exact Nat.mul_le_mul hs1.2 h2
  have e1 : wrap64 ((sets : Int) * ways) = N := by rw [← Int.natCast_mul, hN]; unfold wrap64; omega
  have k1 := make65 N hN1
  have k2 := make68 slots (by omega)
  have k3 := @run_makeMap Try.prog
  have HS := Lib.hid hs0
  have HN := Lib.hid hN
  clear hs hN hs0
  go_enter Try.func6, Try.ntmps6
  go_upto_block 0 with fail
  go_cut [] from 11 to 20 (fun wc => wc = w)
  case first =>
    have hq := HS.out
    rcases hq with hq | hq | hq | hq | hq | hq | hq
    all_goals
      have b1 := congrArg (fun x : Int => x == 1) hq
      have b2 := congrArg (fun x : Int => x == 2) hq
      have b3 := congrArg (fun x : Int => x == 4) hq
      have b4 := congrArg (fun x : Int => x == 8) hq
      have b5 := congrArg (fun x : Int => x == 16) hq
      have b6 := congrArg (fun x : Int => x == 32) hq
      have b7 := congrArg (fun x : Int => x == 64) hq
      simp only [Int.reduceBEq] at b1 b2 b3 b4 b5 b6 b7
      clear hq
      go_wp2
      go_meet
      rfl
  case rest =>
    subst hcut
    go_wp2
    go_region
    all_goals (go_wp2; go_ret)
    all_goals
      show NewPost wc _ (.returned (.pointer (some ⟨wc.heap.size + 1 + 1 + 1, 0, none⟩))) _
      refine new_rep (N := N) HN.out hN1 h4 (heap4 _ _ _ _ _).2.2.2.1 ?_ ?_ ?_ ?_ ?_ (heap4 _ _ _ _ _).2.2.2.2
      all_goals first
        | exact (heap4 _ _ _ _ _).1
        | exact (heap4 _ _ _ _ _).2.1
        | exact (heap4 _ _ _ _ _).2.2.1
        | (simp; done)
        | (simp; omega)
end Go.Proofs.Ytmagpdbnefbfkaa
