/- The walks of the program's cache. -/
import Derived.Test.YtmagpdbnefbfkaaRows
import Derived.Test.YtmagpdbnefbfkaaPure
import Derived.WalkLawsBesides
import Derived.DeepKeys4
import Derived.Deep.RegionWith
import Derived.Deep.RegionHeld3
import Derived.StillTailTactics
import Derived.Lib.Hide
import Derived.Deep.DeepFit
import Derived.WideKeyArgs
namespace Go.Proofs.Ytmagpdbnefbfkaa
open Go Go.RowKit

theorem Try.laidOut : laidOutB Try.prog = true := by kernel_rfl
theorem Try.row62 : (62 : TypeId) < Try.prog.types.size := of_decide_eq_true (by kernel_rfl)
theorem Try.wide62 : (match Try.prog.underlying 62 with | some (.array _ _) | some (.struct _) => true | _ => false) = true := by rw [Try.underlying62]
theorem law62 : Maps.Keyed Try.prog 62 := Maps.Keyed.of_law (deep_law_laid Try.laidOut (m := 2) (by omega) Try.row62 (by kernel_rfl) Try.wide62)
theorem zero3 (w : World) : (zeroValue 3).run Try.prog w = .ok (.int .i64 0) w := by kernel_rfl

def okLine (line : Int) : Prop := 0 ≤ line ∧ line < 18446744073709551616
def ekLine (sets : Nat) (line : Int) : Value := .agg #[.int .u64 (line % sets), .int .u64 line]
def evInt (n : Nat) : Value := .int .i64 n

theorem wf_u64 {x : Int} (h0 : 0 ≤ x) (h1 : x < 18446744073709551616) : (Lit.int .u64 x).wf = true := by
  have e1 : IntKind.u64.min = 0 := by decide
  have e2 : IntKind.u64.max = 18446744073709551615 := by decide
  simp only [Lit.wf, e1, e2, Bool.and_eq_true, decide_eq_true_eq]
  omega

theorem lits62 (d : Nat) (x y : Int) (hx : (Lit.int .u64 x).wf = true) (hy : (Lit.int .u64 y).wf = true) :
    Try.prog.keyLits (d + 2) 62 [.int .u64 x, .int .u64 y] = some [.int .u64 x, .int .u64 y] := by
  have k2 : Try.prog.cellsOf 62 = 2 := by kernel_rfl
  have k1 : Try.prog.cellsOf 22 = 1 := by kernel_rfl
  have e1 : Try.prog.keyLits (d + 1) 22 [.int .u64 x] = some [.int .u64 x] := by
    unfold Program.keyLits; simp [Try.underlying22, hx]
  have e2 : Try.prog.keyLits (d + 1) 22 [.int .u64 y] = some [.int .u64 y] := by
    unfold Program.keyLits; simp [Try.underlying22, hy]
  unfold Program.keyLits
  simp [Try.underlying62, k1, k2, List.range_succ, e1, e2]

theorem keyOk62 (sets : Nat) (h1 : 1 ≤ sets) (h2 : sets ≤ 64) : KeyOk Try.prog 62 okLine (ekLine sets) where
  reads a ha := by
    obtain ⟨h0, h3⟩ := ha
    have e1 : 0 ≤ a % (sets : Int) := Int.emod_nonneg _ (by omega)
    have e2 : a % (sets : Int) < sets := Int.emod_lt_of_pos _ (by omega)
    have k1 : Try.prog.keyType 62 = true := by kernel_rfl
    have k2 : Try.prog.cellsOf 62 = 2 := by kernel_rfl
    have f1 : (ekLine sets a).formed Try.prog 62 = true := by simp [ekLine, Value.formed, Try.underlying62, k2]
    obtain ⟨m, hm⟩ : ∃ m, Try.prog.types.size + 1 = m + 2 := ⟨Try.prog.types.size - 1, by have h : (62 : Nat) < Try.prog.types.size := Try.row62; omega⟩
    have hl := lits62 m (a % (sets : Int)) a (wf_u64 e1 (by omega)) (wf_u64 h0 h3)
    unfold keyOf
    rw [Try.underlying62]
    simp only [k1, f1, Bool.and_self, if_true]
    rw [hm]
    exact ⟨_, by rw [show (ekLine sets a).cells.toList = [.int .u64 (a % (sets : Int)), .int .u64 a] from rfl, hl]; rfl⟩
  inj a b _ _ h := by
    simp only [ekLine, Value.agg.injEq] at h
    have := congrArg Array.toList h
    simp at this
    exact this.2


set_option maxHeartbeats 400000 in
theorem under_row (b bs cs : Nat) (sl : List Sl) (w : World) (c6 : w.cell? ⟨b, 6, none⟩ = some (.slice (some ⟨bs, 0, none⟩) sl.length cs))
    (hr : Row w bs 68 (cs * 4) (sl.flatMap Sl.enc)) (hl : sl.length ≤ 8) :
    Calls Try.prog 15 #[.pointer (some ⟨b, 0, none⟩)] w fun e w' => e = .returned (.int .i64 (sl.countP (·.is))) ∧ Below w.heap.size w w' := by
  go_enter Try.func15, Try.ntmps15
  go_wp2
  go_loopw [3, 11] (fun n i wr => ∃ k : Nat, k ≤ sl.length ∧ i = .int .i64 k ∧ n = .int .i64 ((sl.take k).countP (·.is)) ∧ Below w.heap.size w wr) (fun _ i _ => sl.length - (intOf i).toNat)
  case atStart => exact ⟨0, Nat.zero_le _, rfl, rfl, Below.refl _ _⟩
  case round =>
    obtain ⟨k, hk, rfl, rfl, hb⟩ := hrel
    by_cases hlt : k < sl.length
    · obtain ⟨s, hs⟩ : ∃ s, sl[k]? = some s := ⟨_, List.getElem?_eq_getElem hlt⟩
      obtain ⟨g0, g1, g2, g3⟩ := (hr.of_eq (hb.block _ hr.lt)).sl hs
      have hc : ((sl.take k).countP (·.is) : Int) ≤ 8 := by have := List.countP_le_length (p := fun s : Sl => s.is) (l := sl.take k); have := List.length_take_le k sl; omega
      have H : Hid ((sl.take (k + 1)).countP (·.is) = (sl.take k).countP (·.is) + if s.is then 1 else 0) := by
        show _ = _
        rw [List.take_add_one, hs, List.countP_append]; simp [List.countP_cons]
      have hsz := hb.size
      have hbs := hr.lt
      clear hs
      go_wp2
      all_goals
        go_roundw
        case rel => exact ⟨k + 1, by omega, by go_num, by rw [H.out]; simp [*], hb.alloc hb.size _⟩
        case measure => simp [intOf]; omega
    · obtain rfl : k = sl.length := by omega
      go_wp2
      go_ret
      exact ⟨by simp, hb⟩


theorem okLine.line {x : Int} (h : okLine x) : okLine (x / 64) := by
  obtain ⟨h0, h1⟩ := h
  exact ⟨by omega, by omega⟩
theorem line_wrap {x : Int} (h : okLine x) : IntKind.u64.wrap (x.tdiv 64) = x / 64 := by
  obtain ⟨h0, h1⟩ := h
  exact IntWalk.u64_quo _ _ ⟨h0, by omega, by omega⟩

set_option maxHeartbeats 400000 in
theorem key_any (b sets : Nat) (line : Int) (w : World) (h : w.cell? ⟨b, 0, none⟩ = some (.int .i64 sets)) (hb : b < w.heap.size) (h0 : 1 ≤ sets) (h1 : sets ≤ 64) (hl : okLine line) :
    Calls Try.prog 23 #[.pointer (some ⟨b, 0, none⟩), .int .u64 line] w fun e w' => e = .returned (ekLine sets line) ∧ Below w.heap.size w w' := by
  obtain ⟨h2, h3⟩ := hl
  go_enter Try.func23, Try.ntmps23
  go_wp2
  exact bodyPost_ret (v := ekLine sets line) (by simp [results, Try.results23, go_sem, ekLine]) rfl ⟨rfl, (Below.refl _ _).alloc (Nat.le_refl _) _⟩

theorem bcell {W w1 : World} (hb : Below W.heap.size W w1) : (∀ b o, b < W.heap.size → w1.cell? ⟨b, o, none⟩ = W.cell? ⟨b, o, none⟩) ∧ (∀ b o, b < W.heap.size → w1.frozen? ⟨b, o, none⟩ = W.frozen? ⟨b, o, none⟩) :=
  ⟨fun b o h => hb.cell (p := ⟨b, o, none⟩) h, fun b o h => hb.frozen (p := ⟨b, o, none⟩) h⟩

/-- The look-up, in whatever world the map is as it was. -/
theorem look62 {w : World} {bm sets : Nat} {L : List (Int × Nat)} (hm : MapT okLine (ekLine sets) evInt w bm L) (h1 : 1 ≤ sets) (h2 : sets ≤ 64) {line : Int} (hl : okLine line) {W : World} (hW : W.heap[bm]? = w.heap[bm]?) :
    (Instr.lookup 52 (.map (some bm)) (ekLine sets line) true).run Try.prog W = .ok (.tuple #[.int .i64 (((asc L line).getD 0 : Nat) : Int), .bool (asc L line).isSome]) W := by
  rw [(hm.of_eq hW).look law62 (keyOk62 sets h1 h2) Try.underlying52 (zero3 W) hl true]
  cases asc L line <;> simp [evInt]


theorem look62_none {w : World} {bm sets : Nat} {L : List (Int × Nat)} (hm : MapT okLine (ekLine sets) evInt w bm L) (h1 : 1 ≤ sets) (h2 : sets ≤ 64) {line : Int} (hl : okLine line) (hn : asc L line = none) {W : World} (hW : W.heap[bm]? = w.heap[bm]?) :
    (Instr.lookup 52 (.map (some bm)) (ekLine sets line) true).run Try.prog W = .ok (.tuple #[.int .i64 0, .bool false]) W := by
  rw [look62 hm h1 h2 hl hW, hn]; rfl

theorem look62_some {w : World} {bm sets : Nat} {L : List (Int × Nat)} (hm : MapT okLine (ekLine sets) evInt w bm L) (h1 : 1 ≤ sets) (h2 : sets ≤ 64) {line : Int} (hl : okLine line) {n : Nat} (hn : asc L line = some n) {W : World} (hW : W.heap[bm]? = w.heap[bm]?) :
    (Instr.lookup 52 (.map (some bm)) (ekLine sets line) true).run Try.prog W = .ok (.tuple #[.int .i64 n, .bool true]) W := by
  rw [look62 hm h1 h2 hl hW, hn]; rfl


set_option maxRecDepth 100000 in
set_option maxHeartbeats 1000000 in
theorem has_no (b bm sets : Nat) (at_ : Int) (L : List (Int × Nat)) (w : World) (c0 : w.cell? ⟨b, 0, none⟩ = some (.int .i64 sets)) (c5 : w.cell? ⟨b, 5, none⟩ = some (.map (some bm)))
    (hm : MapT okLine (ekLine sets) evInt w bm L) (h1 : 1 ≤ sets) (h2 : sets ≤ 64) (hat : okLine at_) (hb : b < w.heap.size) (hn : asc L (at_ / 64) = none) :
    Calls Try.prog 13 #[.pointer (some ⟨b, 0, none⟩), .int .u64 at_] w fun e w' => e = .returned (.tuple #[.bool false, .bool false]) ∧ Chg [] w w' := by
  have e1 : IntKind.u64.wrap (at_.tdiv 64) = at_ / 64 := line_wrap hat
  have hq : okLine (at_ / 64) := hat.line
  have k5 := Ext.cell c5
  have k0 := Ext.cell c0
  have hl : ∀ x : Ext w, (Instr.lookup 52 (.map (some bm)) (ekLine sets (at_ / 64)) true).run Try.prog x.to = .ok (.tuple #[.int .i64 0, .bool false]) x.to := fun x =>
    look62_none hm h1 h2 hq hn (x.chg.block _ hm.lt (by simp))
  clear hat hn
  go_enter Try.func13, Try.ntmps13
  go_wp2
  refine wp_region_ext (by kernel_rfl) (by kernel_rfl) ?_
  repeat (go_big_quiet_step ((go_at_call 23; exact Ext.calls (key_any b sets (at_ / 64) _ (k0 _) (Nat.lt_of_lt_of_le hb (Ext.chg _).size) h1 h2 hq))))
  refine wpQuiet_nil ?_
  intro _ hw'
  obtain ⟨x, hw''⟩ := hw'
  subst hw''
  go_wp2
  go_quiet (fail)
  go_wp2
  go_ret2
  exact ⟨rfl, x.chg.drewN _⟩

set_option maxRecDepth 100000 in
set_option maxHeartbeats 1000000 in
theorem has_yes (b ba ca bm sets n : Nat) (at_ : Int) (L : List (Int × Nat)) (pl : List Pl) (p : Pl) (w : World) (c0 : w.cell? ⟨b, 0, none⟩ = some (.int .i64 sets))
    (c4 : w.cell? ⟨b, 4, none⟩ = some (.slice (some ⟨ba, 0, none⟩) pl.length ca)) (c5 : w.cell? ⟨b, 5, none⟩ = some (.map (some bm)))
    (hr : Row w ba 65 (ca * 3) (pl.flatMap Pl.enc)) (hm : MapT okLine (ekLine sets) evInt w bm L) (h1 : 1 ≤ sets) (h2 : sets ≤ 64) (hat : okLine at_) (hb : b < w.heap.size)
    (hn : asc L (at_ / 64) = some n) (hp : pl[n]? = some p) :
    Calls Try.prog 13 #[.pointer (some ⟨b, 0, none⟩), .int .u64 at_] w fun e w' => e = .returned (.tuple #[.bool true, .bool p.wr]) ∧ Chg [] w w' := by
  have e1 : IntKind.u64.wrap (at_.tdiv 64) = at_ / 64 := line_wrap hat
  have hq : okLine (at_ / 64) := hat.line
  obtain ⟨_, _, g2⟩ := hr.pl hp
  have k5 := Ext.cell c5
  have k4 := Ext.cell c4
  have k0 := Ext.cell c0
  have kg := Ext.cell g2
  have hlt : n < pl.length := (List.getElem?_eq_some_iff.1 hp).1
  have hl : ∀ x : Ext w, (Instr.lookup 52 (.map (some bm)) (ekLine sets (at_ / 64)) true).run Try.prog x.to = .ok (.tuple #[.int .i64 n, .bool true]) x.to := fun x =>
    look62_some hm h1 h2 hq hn (x.chg.block _ hm.lt (by simp))
  clear hat hn hp
  go_enter Try.func13, Try.ntmps13
  go_wp2
  refine wp_region_ext (by kernel_rfl) (by kernel_rfl) ?_
  repeat (go_big_quiet_step ((go_at_call 23; exact Ext.calls (key_any b sets (at_ / 64) _ (k0 _) (Nat.lt_of_lt_of_le hb (Ext.chg _).size) h1 h2 hq))))
  refine wpQuiet_nil ?_
  intro _ hw'
  obtain ⟨x, hw''⟩ := hw'
  subst hw''
  go_wp2
  go_quiet (fail)
  go_wp2
  go_ret2
  exact ⟨rfl, x.chg.drewN _⟩

set_option maxRecDepth 100000 in
set_option maxHeartbeats 1000000 in
theorem ask_hit (b ba ca bm sets n : Nat) (at_ : Int) (wr : Bool) (L : List (Int × Nat)) (pl : List Pl) (p : Pl) (w : World) (c0 : w.cell? ⟨b, 0, none⟩ = some (.int .i64 sets))
    (c4 : w.cell? ⟨b, 4, none⟩ = some (.slice (some ⟨ba, 0, none⟩) pl.length ca)) (c5 : w.cell? ⟨b, 5, none⟩ = some (.map (some bm)))
    (hr : Row w ba 65 (ca * 3) (pl.flatMap Pl.enc)) (hm : MapT okLine (ekLine sets) evInt w bm L) (h1 : 1 ≤ sets) (h2 : sets ≤ 64) (hat : okLine at_) (hb : b < w.heap.size)
    (hn : asc L (at_ / 64) = some n) (hp : pl[n]? = some p) :
    Calls Try.prog 8 #[.pointer (some ⟨b, 0, none⟩), .int .u64 at_, .bool wr] w fun e w' => e = .returned (.int .i64 1) ∧ ∃ x : Ext w, w' = x.to.setCell ⟨ba, n * 3 + 2, none⟩ (.bool (p.wr || wr)) := by
  have e1 : IntKind.u64.wrap (at_.tdiv 64) = at_ / 64 := line_wrap hat
  have hq : okLine (at_ / 64) := hat.line
  obtain ⟨_, _, g2⟩ := hr.pl hp
  have k5 := Ext.cell c5
  have k4 := Ext.cell c4
  have k0 := Ext.cell c0
  have kg := Ext.cell g2
  have kf : ∀ x : Ext w, x.to.frozen? ⟨ba, n * 3 + 2, none⟩ = false := fun x => (hr.chg x.chg (by simp)).frozen _
  have hlt : n < pl.length := (List.getElem?_eq_some_iff.1 hp).1
  have hl : ∀ x : Ext w, (Instr.lookup 52 (.map (some bm)) (ekLine sets (at_ / 64)) true).run Try.prog x.to = .ok (.tuple #[.int .i64 n, .bool true]) x.to := fun x =>
    look62_some hm h1 h2 hq hn (x.chg.block _ hm.lt (by simp))
  clear hat hn hp
  go_enter Try.func8, Try.ntmps8
  go_wp2
  refine wp_region_ext (by kernel_rfl) (by kernel_rfl) ?_
  repeat (go_big_quiet_step ((go_at_call 23; exact Ext.calls (key_any b sets (at_ / 64) _ (k0 _) (Nat.lt_of_lt_of_le hb (Ext.chg _).size) h1 h2 hq))))
  refine wpQuiet_nil ?_
  intro _ hw'
  obtain ⟨x, hw''⟩ := hw'
  subst hw''
  go_wp2
  obtain ⟨pline, pis, pwr⟩ := p
  cases pwr
  all_goals
    have kx : ∀ y : Ext x.to, y.to.cell? ⟨b, 4, none⟩ = some (.slice (some ⟨ba, 0, none⟩) pl.length ca) := Ext.cell (k4 x)
    have kz := Ext.cell (kg x)
    refine wp_region_ext_tail 18 (by kernel_rfl) (by kernel_rfl) ?_
    simp only [List.take_succ_cons, List.take_zero, List.drop_succ_cons, List.drop_zero]
    repeat (go_big_quiet_step (fail))
    refine wpQuiet_nil ?_
    intro _ hw'
    obtain ⟨y, hw''⟩ := hw'
    subst hw''
    have ky : y.to.frozen? ⟨ba, n * 3 + 2, none⟩ = false := ((hr.chg x.chg (by simp)).chg y.chg (by simp)).frozen _
    go_wp2
    go_ret
    exact ⟨rfl, ⟨y.to, x.chg.tr y.chg⟩, rfl⟩

end Go.Proofs.Ytmagpdbnefbfkaa
