/- The law CacheOnce, walked: its maps; bad numbers. -/
import Derived.Test.YtmagpdbnefbfkaaW22
import Derived.Test.YtmagpdbnefbfkaaPure5
namespace Go.Proofs.Ytmagpdbnefbfkaa
open Go Go.RowKit

/-- A map from a number to a number. -/
def MapI (w : World) (b : Nat) (L : List (Int × Int)) : Prop := MapT okLine (fun a => Value.int .u64 a) (fun v => Value.int .i64 v) w b L

theorem law22 : Maps.Keyed Try.prog 22 := Maps.int_keyed Try.underlying22

theorem keyOk22 : KeyOk Try.prog 22 okLine (fun a => Value.int .u64 a) where
  reads a ha := ⟨_, Maps.keyOf_int_mk Try.underlying22 (wf_u64 ha.1 ha.2)⟩
  inj a b _ _ h := by simpa using h

section
variable {w w' : World} {b : Nat} {L : List (Int × Int)}

theorem MapI.lt (h : MapI w b L) : b < w.heap.size := MapT.lt h
theorem MapI.chg {S : List Nat} (h : MapI w b L) (hc : Chg S w w') (hS : b ∉ S) : MapI w' b L := MapT.chg h hc hS
theorem MapI.nodup (h : MapI w b L) : (L.map (·.1)).Nodup := by
  obtain ⟨_, _, _, _, _, h4, _⟩ := h
  exact h4
theorem MapI.ok (h : MapI w b L) : ∀ p ∈ L, okLine p.1 := by
  obtain ⟨_, _, _, _, h3, _⟩ := h
  exact h3

theorem MapI.look (h : MapI w b L) {a : Int} (ha : okLine a) : (Instr.lookup 50 (.map (some b)) (.int .u64 a) false).run Try.prog w = .ok (.int .i64 ((asc L a).getD 0)) w := by
  rw [MapT.look h law22 keyOk22 Try.underlying50 (zero3 w) ha false]
  cases asc L a <;> simp

theorem MapI.look_none (h : MapI w b L) {a : Int} (ha : okLine a) (hn : asc L a = none) : (Instr.lookup 50 (.map (some b)) (.int .u64 a) false).run Try.prog w = .ok (.int .i64 0) w := by
  rw [h.look ha, hn]; rfl

theorem MapI.look_some (h : MapI w b L) {a v : Int} (ha : okLine a) (hn : asc L a = some v) : (Instr.lookup 50 (.map (some b)) (.int .u64 a) false).run Try.prog w = .ok (.int .i64 v) w := by
  rw [h.look ha, hn]; rfl

theorem MapI.store (h : MapI w b L) {a : Int} (ha : okLine a) (v : Int) :
    ∃ w', (Instr.mapUpdate 50 (.map (some b)) (.int .u64 a) (.int .i64 v)).run Try.prog w = .ok () w' ∧ MapI w' b (upd L a v) ∧ Chg [b] w w' := by
  obtain ⟨w', h1, h2, h3, _⟩ := MapT.store h law22 keyOk22 Try.underlying50 ha v
  exact ⟨w', h1, h2, h3⟩

theorem MapI.drop (h : MapI w b L) {a : Int} (ha : okLine a) (ty : TypeId) :
    ∃ w', (Builtin.delete_ #[50, 22] ty #[.map (some b), .int .u64 a]).run Try.prog w = .ok (.tuple #[]) w' ∧ MapI w' b (del L a) ∧ Chg [b] w w' := by
  obtain ⟨w', h1, h2, h3, _⟩ := MapT.drop h law22 keyOk22 Try.underlying50 ha ty
  exact ⟨w', h1, h2, h3⟩

theorem MapI.count (h : MapI w b L) (ty : TypeId) : (Builtin.len_ #[50] ty #[.map (some b)]).run Try.prog w = .ok (.int .i64 L.length) w := MapT.len h Try.underlying50 ty
end

set_option maxRecDepth 100000 in
set_option maxHeartbeats 4000000 in
theorem once_bad (sets ways slots delay seed : Int) (a : Option Addr) (n c : Nat) (w : World) (h : ¬ fits sets ways slots delay) :
    Calls Try.prog 4 #[.agg #[.int .i64 sets, .int .i64 ways, .int .i64 slots, .int .i64 delay, .int .u64 seed], .slice a n c] w fun e w' => e = .returned (.bool true) ∧ Chg [] w w' := by
  go_enter Try.func4, Try.ntmps4
  go_wp2_with fail
  refine (fixed_any _).mono ?_
  rintro e w1 ⟨rfl, hC1⟩
  have hb := Row.new w #[.int .i64 sets, .int .i64 ways, .int .i64 slots, .int .i64 delay, .int .u64 seed] 24
  have hb1 := hb.chg hC1 (by simp)
  have c0 := hb1.cell (j := 0) rfl
  have c1 := hb1.cell (j := 1) rfl
  have c2 := hb1.cell (j := 2) rfl
  have c3 := hb1.cell (j := 3) rfl
  have c4 := hb1.cell (j := 4) rfl
  have HH := Lib.hid h
  have H0 : Chg [] w w1 := ((Chg.refl _ _).alloc _).tr hC1
  clear h
  go_wp2_with fail
  refine (badP sets ways slots delay seed _ HH.out).mono ?_
  rintro e w2 ⟨rfl, rfl⟩
  go_wp2_with fail
  refine (goodP 1 1 1 1 seed _ ⟨by unfold isSets; decide, by decide, by decide, by decide, by decide, by decide, by decide⟩).mono ?_
  rintro e w3 ⟨b, ba, bm, bs, rfl, _, _, hC3⟩
  go_wp2
  go_ret
  exact ⟨rfl, H0.tr hC3⟩

/-- What stands through the law's loops: the cache, and the two maps. -/
structure OnceNow (W0 : World) (b ba bm bs t p : Nat) (sets ways slots : Nat) (σ : St) (th pe : List (Int × Int)) (wr : World) : Prop where
  wf : WF σ
  sets : σ.sets = sets
  ways : σ.ways = ways
  slots : σ.sl.length = slots
  rep : RepP wr b ba bm bs σ
  mth : MapI wr t th
  mpe : MapI wr p pe
  tells : Tells σ th pe
  chg : Chg [b, ba, bm, bs, t, p] W0 wr

def OnceRel (W0 : World) (b ba bm bs t p : Nat) (sets ways slots n : Nat) (i : Value) (wr : World) : Prop :=
  ∃ (k : Nat) (σ : St) (th pe : List (Int × Int)), k ≤ n ∧ i = .int .i64 k ∧ OnceNow W0 b ba bm bs t p sets ways slots σ th pe wr

section
variable {W0 wr wr' : World} {b ba bm bs t p sets ways slots : Nat} {σ : St} {th pe : List (Int × Int)}

/-- Only new memory has turned. -/
theorem OnceNow.new (h : OnceNow W0 b ba bm bs t p sets ways slots σ th pe wr) (hc : Chg [] wr wr') : OnceNow W0 b ba bm bs t p sets ways slots σ th pe wr' :=
  ⟨h.wf, h.sets, h.ways, h.slots, h.rep.chg hc (by simp), h.mth.chg hc (by simp), h.mpe.chg hc (by simp), h.tells, h.chg.trans hc (by simp)⟩
end

end Go.Proofs.Ytmagpdbnefbfkaa
