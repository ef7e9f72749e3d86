/- The law's fixed calls. -/
import Derived.Test.YtmagpdbnefbfkaaW19
import Derived.Test.YtmagpdbnefbfkaaW14
namespace Go.Proofs.Ytmagpdbnefbfkaa
open Go Go.RowKit

def f0 : St := St.new 2 1 2 2 0
def f1 : St := (f0.ask 4096 false).1
def f2 : St := (f1.ask 4159 true).1
def f3 : St := (f2.ask 4160 false).1
def f4 : St := (f3.ask 8192 false).1
def f5 : St := f4.tick.1
def f6 : St := f5.tick.1
def f7 : St := (f6.ask 4104 false).1

theorem f_facts : (f0.ask 4096 false).2 = 2 ∧ (f1.ask 4159 true).2 = 2 ∧ (f2.ask 4160 false).2 = 2 ∧ (f3.ask 8192 false).2 = 3 ∧ f4.under = 2 ∧ f4.tick.2 = [] ∧ f5.tick.2 = [⟨4096, 0, false⟩, ⟨4160, 0, false⟩] ∧ f6.hasLine 4096 = (true, true) ∧ (f6.ask 4104 false).2 = 1 ∧
    f7.dirty = [4096] ∧ f7.clear.hasLine 4096 = (false, false) ∧ (f6.ask 4096 false).2 = 1 := by
  refine ⟨by rfl, by rfl, by rfl, by rfl, by rfl, by rfl, by rfl, by rfl, by rfl, by rfl, by rfl, by rfl⟩

theorem w0 : WF f0 := WF.new (by unfold isSets; decide) (by decide) (by decide) (by decide) (by decide) (by decide) (by decide)
theorem w1 : WF f1 := w0.ask (by decide) _
theorem w2 : WF f2 := w1.ask (by decide) _
theorem w3 : WF f3 := w2.ask (by decide) _
theorem w4 : WF f4 := w3.ask (by decide) _
theorem w5 : WF f5 := w4.tick
theorem w6 : WF f6 := w5.tick
theorem w7 : WF f7 := w6.ask (by decide) _

theorem owns_none {w : World} {base e s : Nat} {v : Value} {xs : List Value} (h : w.ownsRow base e s v 0 xs) : ∃ p c, v = .slice p 0 c := by
  rcases h.2 with ⟨rfl, _⟩ | ⟨g, cap, cur, rfl, _⟩
  · exact ⟨_, _, rfl⟩
  · exact ⟨_, _, rfl⟩

theorem owns_more {w : World} {base e s n : Nat} {v : Value} {xs : List Value} (h : w.ownsRow base e s v n xs) (hn : 1 ≤ n) : ∃ g c, v = .slice (some ⟨g, 0, none⟩) n c ∧ base ≤ g ∧ Row w g e (c * s) xs := by
  have h0 := h
  rcases h.2 with ⟨_, h2⟩ | ⟨g, cap, cur, rfl, hb, hg, hnc, hcm, hcs, htake⟩
  · omega
  · obtain ⟨r1, r2, r3, r4, r5⟩ := Row.of_owns h0
    exact ⟨g, cap, rfl, hb, r1⟩

set_option maxRecDepth 100000 in
set_option maxHeartbeats 4000000 in
theorem fixed_any (w : World) : Calls Try.prog 5 #[] w fun e w' => e = .returned (.bool true) ∧ Chg [] w w' := by
  obtain ⟨e1, e2, e3, e4, e5, e6, e7, e8, e9, e10, e11, e12⟩ := f_facts
  go_enter Try.func5, Try.ntmps5
  go_wp2_with fail
  refine (new_yes 2 1 2 2 2 0 w (by unfold isSets; decide) rfl (by decide) (by decide) (by decide) (by decide) (by decide) (by decide)).mono ?_
  rintro e u1 ⟨b, ba, bm, bs, rfl, hR, hge, hC⟩
  go_wp2_with fail
  refine (new_other 3 1 1 1 0 u1 (by unfold isSets; decide)).mono ?_
  rintro e u2 ⟨rfl, rfl⟩
  go_wp2_with fail
  refine (ask_any (σ := f0) hR w0 ⟨by decide, by decide⟩ false).mono ?_
  rintro e v1 ⟨rfl, r1, r1c⟩
  rw [e1]
  go_wp2_with fail
  refine (ask_any (σ := f1) r1 w1 ⟨by decide, by decide⟩ true).mono ?_
  rintro e v2 ⟨rfl, r2, r2c⟩
  rw [e2]
  go_wp2_with fail
  refine (ask_any (σ := f2) r2 w2 ⟨by decide, by decide⟩ false).mono ?_
  rintro e v3 ⟨rfl, r3, r3c⟩
  rw [e3]
  go_wp2_with fail
  refine (ask_any (σ := f3) r3 w3 ⟨by decide, by decide⟩ false).mono ?_
  rintro e v4 ⟨rfl, r4, r4c⟩
  rw [e4]
  go_wp2_with fail
  refine (under_any (σ := f4) r4 w4).mono ?_
  rintro e v5 ⟨rfl, c5⟩
  rw [e5]
  have r5 : RepP v5 b ba bm bs f4 := r4.chg c5 (by simp)
  go_wp2_with fail
  refine (tick_any (σ := f4) r5 w4).mono ?_
  rintro e v6 ⟨x6, rfl, o6, r6, c6⟩
  rw [e6] at o6
  obtain ⟨p6, k6, rfl⟩ := owns_none o6
  go_wp2_with fail
  refine (tick_any (σ := f5) r6 w5).mono ?_
  rintro e v7 ⟨x7, rfl, o7, r7, c7⟩
  rw [e7] at o7
  obtain ⟨g7, k7, rfl, hg7, q7⟩ := owns_more o7 (by decide)
  go_wp2_with fail
  refine (copy_any (σ := f6) r7 w6.toWP w6.sl1 w6.sl2).mono ?_
  rintro e v8 ⟨bb, bba, bbm, bbs, rfl, rr8, hg8, c8⟩
  have r8 : RepP v8 b ba bm bs f6 := r7.chg c8 (by simp)
  go_wp2_with fail
  refine (has_any (σ := f6) r8 w6.toWP ⟨by decide, by decide⟩).mono ?_
  rintro e v9 ⟨rfl, c9⟩
  rw [e8]
  have r9 : RepP v9 b ba bm bs f6 := r8.chg c9 (by simp)
  go_wp2_with fail
  refine (ask_any (σ := f6) r9 w6 ⟨by decide, by decide⟩ false).mono ?_
  rintro e v10 ⟨rfl, r10, r10c⟩
  rw [e9]
  go_wp2_with fail
  refine (flush_any (σ := f7) r10 w7.toWP w7.sl1).mono ?_
  rintro e v11 ⟨x11, rfl, o11, r11, c11⟩
  rw [e10] at o11
  obtain ⟨g11, k11, rfl, hg11, q11⟩ := owns_more o11 (by decide)
  go_wp2_with fail
  refine (has_any (σ := f7.clear) r11 w7.cleared.toWP ⟨by decide, by decide⟩).mono ?_
  rintro e v12 ⟨rfl, c12⟩
  rw [e11]
  have hbl := hR.lt
  have z1 := r1c.size
  have z2 := r2c.size
  have z3 := r3c.size
  have z4 := r4c.size
  have z5 := c5.size
  have z6 := c6.size
  have z7 := c7.size
  have z8 := c8.size
  have z9 := c9.size
  have z10 := r10c.size
  have hout : ∀ y, u2.heap.size ≤ y → y ∉ [b, ba, bm, bs] := fun y hy hm => by have := hbl y hm; omega
  have Q7 := ((((q7.chg c8 (by simp)).chg c9 (by simp)).chg r10c (hout _ (by omega))).chg c11 (hout _ (by omega))).chg c12 (by simp)
  obtain ⟨a0, a1, a2⟩ := Q7.dn (l := [⟨4096, 0, false⟩, ⟨4160, 0, false⟩]) (k := 0) rfl
  obtain ⟨a3, a4, a5⟩ := Q7.dn (l := [⟨4096, 0, false⟩, ⟨4160, 0, false⟩]) (k := 1) rfl
  have n0 := (q11.chg c12 (by simp)).cell (j := 0) (v := .int .u64 4096) (by simp [encs, sorted])
  have RR := (((rr8.chg c9 (by simp)).chg r10c (fun x hx => hout x (by have := hg8 x hx; omega))).chg c11 (fun x hx => hout x (by have := hg8 x hx; omega))).chg c12 (by simp)
  have hS : ∀ x ∈ [b, ba, bm, bs], x ∈ ([] : List Nat) ∨ w.heap.size ≤ x := fun x hx => .inr (hge x hx)
  have H12 : Chg [] w v12 := (((((((((((hC.trans r1c hS).trans r2c hS).trans r3c hS).trans r4c hS).trans c5 (by simp)).trans c6 hS).trans c7 hS).trans c8 (by simp)).trans c9 (by simp)).trans r10c hS).trans c11 hS).trans c12 (by simp)
  have hz := hC.size
  clear hR hC r1 r1c r2 r2c r3 r3c r4 r4c c5 r5 o6 r6 c6 r7 o7 c7 q7 rr8 c8 r8 c9 r9 r10 r10c r11 o11 c11 c12 q11 Q7 hout e1 e2 e3 e4 e5 e6 e7 e8 e9 e10 e11
  go_wp2_with fail
  refine (ask_any (σ := f6) RR w6 ⟨by decide, by decide⟩ false).mono ?_
  rintro e v13 ⟨rfl, r13, c13⟩
  rw [e12]
  go_wp2
  go_ret
  exact ⟨rfl, H12.trans c13 (fun x hx => .inr (by have := hg8 x hx; omega))⟩

end Go.Proofs.Ytmagpdbnefbfkaa
