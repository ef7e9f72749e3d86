/- The document's cache: a new one. -/
import Derived.Test.YtmagpdbnefbfkaaW11
import Derived.Test.YtmagpdbnefbfkaaW7
import Derived.Deep.AppendLies
import Derived.Deep.RegionLaw
import Derived.Deep.RegionHeld3
namespace Go.Proofs.Ytmagpdbnefbfkaa
open Go Go.RowKit

theorem Try.info72 : (Try.prog.info? 72).map (fun i => (i.zero, i.size, i.bytes)) = some (some (.agg #[.int .u64 0, .bool false, .bool false, .int .i64 0]), 4, 24) := by kernel_rfl
theorem Try.info57 : (Try.prog.info? 57).map (fun i => (i.zero, i.size, i.bytes)) = some (some (.slice none 0 0), 1, 24) := by kernel_rfl

def pow2 (k : Nat) : Int := match k with | 0 => 1 | 1 => 2 | 2 => 4 | 3 => 8 | 4 => 16 | 5 => 32 | 6 => 64 | _ => 128

theorem isSets_iff (n : Int) : isSets n ↔ ∃ k, k < 7 ∧ n = pow2 k := by
  unfold isSets
  constructor
  · rintro (h | h | h | h | h | h | h)
    · exact ⟨0, by omega, h⟩
    · exact ⟨1, by omega, h⟩
    · exact ⟨2, by omega, h⟩
    · exact ⟨3, by omega, h⟩
    · exact ⟨4, by omega, h⟩
    · exact ⟨5, by omega, h⟩
    · exact ⟨6, by omega, h⟩
  · rintro ⟨k, hk, h⟩
    match k, hk with
    | 0, _ => exact .inl h
    | 1, _ => exact .inr (.inl h)
    | 2, _ => exact .inr (.inr (.inl h))
    | 3, _ => exact .inr (.inr (.inr (.inl h)))
    | 4, _ => exact .inr (.inr (.inr (.inr (.inl h))))
    | 5, _ => exact .inr (.inr (.inr (.inr (.inr (.inl h)))))
    | 6, _ => exact .inr (.inr (.inr (.inr (.inr (.inr h)))))

theorem pow2_facts (k : Nat) : (k < 7 → pow2 k ≤ 64 ∧ 2 * pow2 k = pow2 (k + 1) ∧ 1 ≤ pow2 k) := by
  intro hk
  match k, hk with
  | 0, _ => decide
  | 1, _ => decide
  | 2, _ => decide
  | 3, _ => decide
  | 4, _ => decide
  | 5, _ => decide
  | 6, _ => decide

set_option maxHeartbeats 1000000 in
theorem power_any (n : Int) (w : World) : Calls Try.prog 22 #[.int .i64 n] w fun e w' => e = .returned (.bool (decide (isSets n))) ∧ w = w' := by
  go_enter Try.func22, Try.ntmps22
  go_wp2
  go_loop [3] (fun i => ∃ k : Nat, k ≤ 7 ∧ i = .int .i64 (pow2 k) ∧ ∀ j, j < k → n ≠ pow2 j) (fun i => (128 - intOf i).toNat)
  case atStart => exact ⟨0, by omega, rfl, fun j h => by omega⟩
  case round =>
    obtain ⟨k, hk, rfl, hno⟩ := hrel
    by_cases h7 : k < 7
    · obtain ⟨p1, p2, p3⟩ := pow2_facts k h7
      obtain ⟨m, hm⟩ : ∃ m, m = pow2 k := ⟨_, rfl⟩
      have HM := Lib.hid hm
      rw [← hm] at p1 p2 p3 ⊢
      have HP := Lib.hid p2
      have HN := Lib.hid hno
      clear hm p2 hno
      cases he : (n == m) with
      | true =>
        have hy : isSets n := (isSets_iff n).2 ⟨k, h7, by rw [← HM.out]; simpa using he⟩
        have hd : decide (isSets n) = true := by simpa using hy
        have HD := Lib.hid hd
        clear hd hy
        go_wp2
        go_ret
        exact ⟨by rw [HD.out]; rfl, rfl⟩
      | false =>
        have hn : n ≠ m := by simpa using he
        have HE := Lib.hid hn
        clear hn
        go_wp2
        go_round
        case rel =>
          refine ⟨k + 1, by omega, by rw [HP.out], fun j hj => ?_⟩
          by_cases e : j = k
          · subst e; rw [← HM.out]; exact HE.out
          · exact HN.out j (by omega)
        case measure => simp [intOf]; omega
    · obtain rfl : k = 7 := by omega
      have hd : decide (isSets n) = false := by
        rw [decide_eq_false_iff_not, isSets_iff]
        rintro ⟨j, hj, h⟩
        exact hno j hj h
      have HD := Lib.hid hd
      clear hno hd
      rw [show pow2 7 = 128 from rfl]
      go_wp2
      go_ret
      exact ⟨by rw [HD.out]; rfl, rfl⟩

set_option maxRecDepth 100000 in
set_option maxHeartbeats 1000000 in
theorem newR_other (sets ways slots delay seed : Int) (w : World) (h : ¬ isSets sets) :
    Calls Try.prog 7 #[.int .i64 sets, .int .i64 ways, .int .i64 slots, .int .i64 delay, .int .u64 seed] w fun e w' => e = .returned (.pointer none) ∧ w' = w := by
  have hd : decide (isSets sets) = false := by simpa using h
  have HD := Lib.hid hd
  clear hd
  go_enter Try.func7, Try.ntmps7
  go_wp2_with fail
  refine (power_any sets w).mono ?_
  rintro e w2 ⟨rfl, rfl⟩
  rw [HD.out]
  go_wp2
  go_ret
  exact ⟨rfl, rfl⟩

set_option maxRecDepth 100000 in
set_option maxHeartbeats 4000000 in
theorem newR_no (sets ways slots delay seed : Int) (w : World) (hs : isSets sets) (h : ¬ (1 ≤ ways ∧ ways ≤ 8 ∧ 1 ≤ slots ∧ slots ≤ 8 ∧ 1 ≤ delay ∧ delay ≤ 64)) :
    Calls Try.prog 7 #[.int .i64 sets, .int .i64 ways, .int .i64 slots, .int .i64 delay, .int .u64 seed] w fun e w' => e = .returned (.pointer none) ∧ w' = w := by
  have hd : decide (isSets sets) = true := by simpa using hs
  have HD := Lib.hid hd
  clear hd
  go_enter Try.func7, Try.ntmps7
  go_wp2_with fail
  refine (power_any sets w).mono ?_
  rintro e w2 ⟨rfl, rfl⟩
  rw [HD.out]
  go_wp2
  all_goals first
    | (go_ret; exact ⟨rfl, rfl⟩)
    | (exfalso; omega)

theorem make72 (n : Nat) (hn : n ≤ 512) (W : World) : (Instr.makeSlice 57 (.int .i64 n) (.int .i64 n)).run Try.prog W =
    .ok (.slice (some ⟨W.heap.size, 0, none⟩) n n) (W.alloc (.cells (madeCells #[.int .u64 0, .bool false, .bool false, .int .i64 0] (n * 4)) 72)) := by
  obtain ⟨i0, hi0, hz0, hz1, hz2⟩ := info_parts Try.info72
  have := run_make (P := Try.prog) W 57 72 i0 _ Try.underlying57 hi0 hz0 .i64 .i64 n n (by omega) (by omega) (by rw [hz2]; omega) (by omega)
  rw [this, hz1]; rfl

theorem made_row (W : World) (n : Nat) : Row (W.alloc (.cells (madeCells #[.int .u64 0, .bool false, .bool false, .int .i64 0] (n * 4)) 72)) W.heap.size 72 (n * 4) ((List.replicate n Sl.zero).flatMap Sl.enc) := by
  have := Row.new W (madeCells #[.int .u64 0, .bool false, .bool false, .int .i64 0] (n * 4)) 72
  rw [made_sl, size_madeCells] at this
  exact this

/-- The document's cache being built: its rows so far. -/
def NewRelR (w : World) (sets ways slots delay : Nat) (seed : Int) (c bs : Nat) (i : Value) (wr : World) : Prop :=
  ∃ (k : Nat) (v : Value) (rs : List (Nat × Nat)), k ≤ sets ∧ i = .int .i64 k ∧ rs.length = k ∧ Row wr c 60 4 [v, .slice (some ⟨bs, 0, none⟩) slots slots, .int .i64 delay, .int .u64 seed] ∧
    wr.ownsRow w.heap.size 57 1 v k (rs.map fun r => .slice (some ⟨r.1, 0, none⟩) ways r.2) ∧ Row wr bs 72 (slots * 4) ((List.replicate slots Sl.zero).flatMap Sl.enc) ∧
    (∀ r ∈ rs, r.2 = ways ∧ Row wr r.1 72 (ways * 4) ((List.replicate ways Sl.zero).flatMap Sl.enc)) ∧ (c :: bs :: rs.map (·.1)).Nodup ∧ (∀ g, v.ownBlock = some g → g ∉ (c :: bs :: rs.map (·.1))) ∧
    (∀ x ∈ (c :: bs :: rs.map (·.1)), w.heap.size ≤ x ∧ x < wr.heap.size) ∧ Chg [] w wr

theorem newR_step {w wr w3 : World} {sets ways slots delay k : Nat} {seed : Int} {c bs g cap : Nat} {v : Value} {rs : List (Nat × Nat)} {o2 : Obj} (hks : k < sets) (hrl : rs.length = k)
    (hT3 : Row w3 c 60 4 [v, .slice (some ⟨bs, 0, none⟩) slots slots, .int .i64 delay, .int .u64 seed])
    (hB : Row wr bs 72 (slots * 4) ((List.replicate slots Sl.zero).flatMap Sl.enc)) (hrs : ∀ r ∈ rs, r.2 = ways ∧ Row wr r.1 72 (ways * 4) ((List.replicate ways Sl.zero).flatMap Sl.enc))
    (hnd : (c :: bs :: rs.map (·.1)).Nodup) (hob : ∀ g, v.ownBlock = some g → g ∉ (c :: bs :: rs.map (·.1))) (hol : ∀ g, v.ownBlock = some g → g < wr.heap.size) (hge : ∀ x ∈ (c :: bs :: rs.map (·.1)), w.heap.size ≤ x ∧ x < wr.heap.size) (hchg : Chg [] w wr)
    (hown3 : w3.ownsRow w.heap.size 57 1 (.slice (some ⟨g, 0, none⟩) (k + 1) cap) (k + 1) ((rs.map fun r => .slice (some ⟨r.1, 0, none⟩) ways r.2) ++ [.slice (some ⟨wr.heap.size, 0, none⟩) ways ways]))
    (hC3 : Chg v.ownBlock.toList (((wr.alloc (.cells (madeCells #[.int .u64 0, .bool false, .bool false, .int .i64 0] (ways * 4)) 72)).alloc o2).drew) w3) (hat : v.ownBlock = some g ∨ g = wr.heap.size + 1 + 1)
    (hvb : ∀ g, v.ownBlock = some g → w.heap.size ≤ g) :
    NewRelR w sets ways slots delay seed c bs (.int .i64 ((k : Int) + 1)) (w3.setCell ⟨c, 0, none⟩ (.slice (some ⟨g, 0, none⟩) (k + 1) cap)) := by
  have hs3 := hC3.size
  have hs2 : (((wr.alloc (Obj.cells (madeCells #[Value.int .u64 0, Value.bool false, Value.bool false, Value.int .i64 0] (ways * 4)) 72)).alloc o2).drew).heap.size = wr.heap.size + 1 + 1 := by
    show ((wr.alloc _).alloc _).heap.size = _
    simp
  have hw := hchg.size
  have hcx := hge c (by simp)
  have hbx := hge bs (by simp)
  have hkeep : ∀ x, x < wr.heap.size → x ≠ c → x ∉ v.ownBlock.toList → ∀ {e : TypeId} {N : Nat} {xs : List Value}, Row wr x e N xs → Row (w3.setCell ⟨c, 0, none⟩ (.slice (some ⟨g, 0, none⟩) (k + 1) cap)) x e N xs := by
    intro x hx hxc hxo e N xs hr
    exact (((hr.alloc _).alloc _).drew.chg hC3 hxo).other (Ne.symm hxc) _
  have hown : ∀ x ∈ (c :: bs :: rs.map (·.1)), x ∉ v.ownBlock.toList := fun x hx hm => hob x (by simpa using hm) hx
  simp only [List.nodup_cons] at hnd
  have hgc : g ≠ c := by
    rcases hat with h | h
    · exact fun e => hob g h (by simp [e])
    · omega
  refine ⟨k + 1, .slice (some ⟨g, 0, none⟩) (k + 1) cap, rs ++ [(wr.heap.size, ways)], by omega, by simp, by simp [hrl], hT3.set 0 _, ?_, ?_, ?_, ?_, ?_, ?_, ?_⟩
  · rw [List.map_append]
    exact owns_apart hown3 ((Chg.refl [c] w3).setCell (.inl (by simp)) _) (fun y hy => by cases hy; simpa using hgc)
  · exact hkeep bs hbx.2 (fun e => hnd.1 (by simp [e])) (hown bs (by simp)) hB
  · intro r hr
    rcases List.mem_append.1 hr with hr | hr
    · obtain ⟨a1, a2⟩ := hrs r hr
      have hm : r.1 ∈ rs.map (·.1) := List.mem_map.2 ⟨r, hr, rfl⟩
      exact ⟨a1, hkeep r.1 (hge r.1 (by simp only [List.mem_cons]; exact .inr (.inr hm))).2 (fun e => hnd.1 (by rw [← e]; simp only [List.mem_cons]; exact .inr hm)) (hown r.1 (by simp only [List.mem_cons]; exact .inr (.inr hm))) a2⟩
    · simp only [List.mem_singleton] at hr
      subst hr
      refine ⟨rfl, (((made_row wr ways).alloc o2).drew.chg hC3 ?_).other ?_ _⟩
      · intro hm
        have := hol wr.heap.size (by simpa using hm)
        omega
      · show c ≠ wr.heap.size
        omega
  · rw [List.map_append]
    have hfresh : ∀ x ∈ (c :: bs :: rs.map (·.1)), x ≠ wr.heap.size := fun x hx => by have := hge x hx; omega
    simp only [List.nodup_cons, List.mem_cons, List.mem_append, List.map_cons, List.map_nil, List.not_mem_nil, or_false, not_or, List.nodup_append] at hnd ⊢
    refine ⟨⟨hnd.1.1, hnd.1.2, hfresh c (by simp)⟩, ⟨hnd.2.1, hfresh bs (by simp)⟩, hnd.2.2, by simp, ?_⟩
    rintro x hx y rfl
    exact hfresh x (by simp only [List.mem_cons]; exact .inr (.inr hx))
  · intro g' hg'
    have : g' = g := by cases hg'; rfl
    subst this
    rw [List.map_append]
    have hgf : g' ≠ wr.heap.size := by
      rcases hat with h | h
      · have := hol g' h; omega
      · omega
    have hgo : g' ∉ (c :: bs :: rs.map (·.1)) := by
      rcases hat with h | h
      · exact hob g' h
      · intro hm; have := hge g' hm; omega
    simp only [List.mem_cons, List.mem_append, List.map_cons, List.map_nil, List.not_mem_nil, or_false, not_or] at hgo ⊢
    exact ⟨hgo.1, hgo.2.1, hgo.2.2, hgf⟩
  · intro x hx
    rw [List.map_append] at hx
    have hz : (w3.setCell ⟨c, 0, none⟩ (.slice (some ⟨g, 0, none⟩) (k + 1) cap)).heap.size = w3.heap.size := by simp [World.setCell]
    simp only [List.mem_cons, List.mem_append, List.map_cons, List.map_nil, List.not_mem_nil, or_false] at hx
    rw [hz]
    rcases hx with rfl | rfl | hx | rfl
    · omega
    · omega
    · have := hge x (by simp only [List.mem_cons]; exact .inr (.inr hx)); omega
    · omega
  · have h1 : Chg [] w (((wr.alloc (.cells (madeCells #[.int .u64 0, .bool false, .bool false, .int .i64 0] (ways * 4)) 72)).alloc o2).drew) := ((hchg.alloc _).alloc _).drew
    refine (h1.trans hC3 ?_).setCell (.inr hcx.1) _
    intro x hx
    exact .inr (hvb x (by simpa using hx))

def NewPostR (w : World) (σ : St) (e : Ending) (w' : World) : Prop :=
  ∃ b bo bs rs, e = .returned (.pointer (some ⟨b, 0, none⟩)) ∧ RepR w' b bo bs rs σ ∧ (∀ x ∈ blocksR b bo bs rs, w.heap.size ≤ x) ∧ Chg [] w w'

theorem new_row {sets ways slots delay : Nat} {seed : Int} {i : Nat} (hi : i < sets) : ((St.new sets ways slots delay seed).row i).map Pl.toSl = List.replicate ways Sl.zero := by
  unfold St.row St.new
  dsimp only
  rw [List.drop_replicate, List.take_replicate, List.map_replicate]
  congr 1
  have : i * ways + ways ≤ sets * ways := by
    rw [← Nat.succ_mul]; exact Nat.mul_le_mul_right _ hi
  omega

theorem newR_end {w wr : World} {sets ways slots delay : Nat} {seed : Int} {c bs : Nat} {v : Value} {rs : List (Nat × Nat)} (h1 : 1 ≤ sets) (h2 : ways ≤ 8) (h3 : slots ≤ 8) (hrl : rs.length = sets)
    (hT : Row wr c 60 4 [v, .slice (some ⟨bs, 0, none⟩) slots slots, .int .i64 delay, .int .u64 seed])
    (hown : wr.ownsRow w.heap.size 57 1 v sets (rs.map fun r => .slice (some ⟨r.1, 0, none⟩) ways r.2)) (hB : Row wr bs 72 (slots * 4) ((List.replicate slots Sl.zero).flatMap Sl.enc))
    (hrs : ∀ r ∈ rs, r.2 = ways ∧ Row wr r.1 72 (ways * 4) ((List.replicate ways Sl.zero).flatMap Sl.enc)) (hnd : (c :: bs :: rs.map (·.1)).Nodup) (hob : ∀ g, v.ownBlock = some g → g ∉ (c :: bs :: rs.map (·.1)))
    (hge : ∀ x ∈ (c :: bs :: rs.map (·.1)), w.heap.size ≤ x ∧ x < wr.heap.size) (hchg : Chg [] w wr) :
    NewPostR w (St.new sets ways slots delay seed) (.returned (.pointer (some ⟨c, 0, none⟩))) wr := by
  have h0 := hown
  rcases hown.2 with ⟨_, hz⟩ | ⟨g, cap, cur, rfl, hb, _⟩
  · omega
  · obtain ⟨r1, r2, r3, r4, r5⟩ := Row.of_owns h0
    have hg := hob g rfl
    have esl : (St.new sets ways slots delay seed).sl.length = slots := by simp [St.new]
    simp only [List.nodup_cons, List.mem_cons, not_or] at hnd hg
    refine ⟨c, g, bs, rs, rfl, ⟨⟨cap, slots, ?_, ?_, ?_, r4, by unfold maxLen; omega⟩, hrl, ?_, ?_⟩, ?_, hchg⟩
    · rw [esl]; exact hT
    · rw [Nat.mul_one] at r1; exact r1
    · exact hB
    · intro i r hr
      obtain ⟨a1, a2⟩ := hrs r (List.mem_of_getElem? hr)
      have hi : i < sets := by rw [← hrl]; exact (List.getElem?_eq_some_iff.1 hr).1
      rw [new_row hi, a1]
      exact ⟨a2, by unfold maxLen; omega⟩
    · simp only [List.nodup_cons, List.mem_cons, not_or]
      exact ⟨⟨Ne.symm hg.1, hnd.1.1, hnd.1.2⟩, ⟨hg.2.1, hg.2.2⟩, hnd.2.1, hnd.2.2⟩
    · intro x hx
      simp only [blocksR, List.mem_cons] at hx
      rcases hx with rfl | rfl | rfl | hx
      · exact (hge _ (by simp)).1
      · exact r5
      · exact (hge _ (by simp)).1
      · exact (hge x (by simp only [List.mem_cons]; exact .inr (.inr hx))).1

set_option maxRecDepth 100000 in
set_option maxHeartbeats 4000000 in
theorem newR_yes (sets ways slots delay : Nat) (seed : Int) (w : World) (hs : isSets sets) (h1 : 1 ≤ ways) (h2 : ways ≤ 8) (h3 : 1 ≤ slots) (h4 : slots ≤ 8) (h5 : 1 ≤ delay) (h6 : delay ≤ 64) :
    Calls Try.prog 7 #[.int .i64 sets, .int .i64 ways, .int .i64 slots, .int .i64 delay, .int .u64 seed] w (NewPostR w (St.new sets ways slots delay seed)) := by
  have hs1 : 1 ≤ sets ∧ sets ≤ 64 := by unfold isSets at hs; omega
  have hd : decide (isSets sets) = true := by simpa using hs
  have HD := Lib.hid hd
  have k1 := make72 slots (by omega)
  have k2 := make72 ways (by omega)
  clear hd hs
  go_enter Try.func7, Try.ntmps7
  go_wp2_with fail
  refine (power_any sets w).mono ?_
  rintro e w2 ⟨rfl, rfl⟩
  rw [HD.out]
  go_upto_region 5 with fail
  refine wp_name fun W hW => ?_
  have hC0 : Chg [] w W := by rw [hW]; exact ((Chg.refl _ _).alloc _).alloc _
  have hTop : Row W (w.heap.size + 1) 60 4 [.slice none 0 0, .slice (some ⟨w.heap.size, 0, none⟩) slots slots, .int .i64 delay, .int .u64 seed] := by
    rw [hW]
    have := Row.new (w.alloc (Obj.cells (madeCells #[Value.int IntKind.u64 0, Value.bool false, Value.bool false, Value.int IntKind.i64 0] (slots * 4)) 72)) #[.slice none 0 0, .slice (some ⟨w.heap.size, 0, none⟩) slots slots, .int .i64 delay, .int .u64 seed] 60
    simpa using this
  have hSl : Row W w.heap.size 72 (slots * 4) ((List.replicate slots Sl.zero).flatMap Sl.enc) := by rw [hW]; exact (made_row w slots).alloc _
  have hWs : W.heap.size = w.heap.size + 1 + 1 := by rw [hW]; simp
  clear hW HD
  go_wp2
  go_loopw [13] (fun i wr => NewRelR w sets ways slots delay seed (w.heap.size + 1) w.heap.size i wr) (fun i _ => sets - (intOf i).toNat)
  case atStart =>
    refine ⟨0, .slice none 0 0, [], Nat.zero_le _, rfl, rfl, hTop, World.ownsRow_nil _ _ _ _, hSl, by simp, by simp, ?_, ?_, hC0⟩
    · intro g hg; cases hg
    · intro x hx; simp at hx; omega
  case round =>
    obtain ⟨k, v, rs, hk, rfl, hrl, hT, hown, hB, hrs, hnd, hob, hge, hchg⟩ := hrel
    by_cases hks : k < sets
    · have e1 : (wr.alloc (Obj.cells (madeCells #[Value.int IntKind.u64 0, Value.bool false, Value.bool false, Value.int IntKind.i64 0] (ways * 4)) 72)).heap.size = wr.heap.size + 1 := by simp
      obtain ⟨i0, hi0, hz0, hz1, hz2⟩ := info_parts Try.info57
      have hown2 := ((hown.alloc (Obj.cells (madeCells #[Value.int IntKind.u64 0, Value.bool false, Value.bool false, Value.int IntKind.i64 0] (ways * 4)) 72)).alloc (Obj.cells #[.slice (some ⟨wr.heap.size, 0, none⟩) ways ways] 57))
      have c0 := hT.cell (j := 0) rfl
      have hnews : ∀ j u, ([.slice (some ⟨wr.heap.size, 0, none⟩) ways ways] : List Value)[j]? = some u → (((wr.alloc (Obj.cells (madeCells #[Value.int IntKind.u64 0, Value.bool false, Value.bool false, Value.int IntKind.i64 0] (ways * 4)) 72)).alloc (Obj.cells #[.slice (some ⟨wr.heap.size, 0, none⟩) ways ways] 57)).drew).cell? ((⟨wr.heap.size + 1, 0, none⟩ : Addr).add j) = some u := by
        have := news_new (wr.alloc (Obj.cells (madeCells #[Value.int IntKind.u64 0, Value.bool false, Value.bool false, Value.int IntKind.i64 0] (ways * 4)) 72)) [.slice (some ⟨wr.heap.size, 0, none⟩) ways ways] 57
        simpa using this
      have hT2 := (((hT.alloc (Obj.cells (madeCells #[Value.int IntKind.u64 0, Value.bool false, Value.bool false, Value.int IntKind.i64 0] (ways * 4)) 72)).alloc (Obj.cells #[.slice (some ⟨wr.heap.size, 0, none⟩) ways ways] 57)).drew)
      have hcsz := hchg.size
      have hobc : w.heap.size + 1 ∉ v.ownBlock.toList := fun hm => hob (w.heap.size + 1) (by simpa using hm) (by simp)
      go_wp2_with fail
      go_region_law (first
        | (go_loud (refine step_append_lies _ (by rfl) _ _ _ (by rfl) w.heap.size 57 i0 (.slice none 0 0) 1 24 Try.underlying58 hi0 hz0 hz1 hz2 rfl (by decide) v k _ (by rfl) hown2.drew ⟨wr.heap.size + 1, 0, none⟩ 1 1 [.slice (some ⟨wr.heap.size, 0, none⟩) ways ways] (by rfl) (by rfl) hnews (fun u hu => by simp at hu; subst hu; rfl) (by omega) (by unfold maxLen; omega) (by omega) (by simp; omega) (wr.heap.size + 1 + 1) (by simp) ?_); intro g cap w3 hown3 hgrow3 hat hlt3; have hC3 := Chg.of_row hgrow3; have hT3 := hT2.chg hC3 hobc; have c3 := hT3.cell (j := 0) rfl; have f3 := hT3.frozen))
      all_goals
        have HR : Hid (NewRelR w sets ways slots delay seed (w.heap.size + 1) w.heap.size (.int .i64 ((k : Int) + 1)) (w3.setCell ⟨w.heap.size + 1, 0, none⟩ (.slice (some ⟨g, 0, none⟩) (k + 1) cap))) := newR_step hks hrl hT3 hB hrs hnd hob (fun y hy => (hown.lt y hy).2) hge hchg hown3 hC3 hat (fun y hy => (hown.lt y hy).1)
        clear hT hown hB hrs hnd hob hge hown2 hnews hT2 hC3 hT3 hown3 hgrow3 c3 f3 c0 k1 k2
        go_wp2
        go_roundw
        case rel => exact HR.out
        case measure => simp [intOf]; omega
    · obtain rfl : k = sets := by omega
      have HR : Hid (NewPostR w (St.new k ways slots delay seed) (.returned (.pointer (some ⟨w.heap.size + 1, 0, none⟩))) wr) := newR_end hs1.1 h2 h4 hrl hT hown hB hrs hnd hob hge hchg
      clear hT hown hB hrs hnd hob hge k1 k2
      go_wp2
      go_ret
      exact HR.out

end Go.Proofs.Ytmagpdbnefbfkaa
