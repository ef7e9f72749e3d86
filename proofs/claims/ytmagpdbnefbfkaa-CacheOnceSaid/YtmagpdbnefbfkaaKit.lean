/- Words on worlds that the walks of the cache use: what a call may have turned, a row of cells as a list, a map as a list of pairs. -/
import Derived.WalkKit
import Derived.WalkSpells
import Derived.Maps.Own
import Derived.Deep.QuietTactic
import Derived.BigQuiet
import Derived.StillTail
namespace Go.Proofs.Ytmagpdbnefbfkaa
open Go Go.RowKit

/-- Only blocks of S have turned, beside new ones. -/
structure Chg (S : List Nat) (w w' : World) : Prop where
  os : w'.os = w.os
  tape : w'.tape = w.tape
  output : w'.output = w.output
  size : w.heap.size ≤ w'.heap.size
  block : ∀ k, k < w.heap.size → k ∉ S → w'.heap[k]? = w.heap[k]?

theorem Chg.refl (S : List Nat) (w : World) : Chg S w w := ⟨rfl, rfl, rfl, Nat.le_refl _, fun _ _ _ => rfl⟩

/-- Two turns: what the second may turn is of S or newer than the first world. -/
theorem Chg.trans {S T : List Nat} {a b c : World} (h : Chg S a b) (k : Chg T b c) (hT : ∀ x ∈ T, x ∈ S ∨ a.heap.size ≤ x) : Chg S a c :=
  ⟨k.os.trans h.os, k.tape.trans h.tape, k.output.trans h.output, Nat.le_trans h.size k.size, fun i hi hS =>
    (k.block i (Nat.lt_of_lt_of_le hi h.size) (fun hm => by rcases hT i hm with h' | h'; exact hS h'; omega)).trans (h.block i hi hS)⟩

theorem Chg.tr {S : List Nat} {a b c : World} (h : Chg S a b) (k : Chg S b c) : Chg S a c := h.trans k fun _ hx => .inl hx

theorem Chg.mono {S T : List Nat} {a b : World} (h : Chg S a b) (hS : ∀ x ∈ S, x ∈ T ∨ a.heap.size ≤ x) : Chg T a b :=
  ⟨h.os, h.tape, h.output, h.size, fun i hi hT => h.block i hi (fun hm => by rcases hS i hm with h' | h'; exact hT h'; omega)⟩

theorem Chg.drew {S : List Nat} {a w : World} (h : Chg S a w) : Chg S a w.drew := ⟨h.os, h.tape, h.output, h.size, h.block⟩

theorem Chg.drewN {S : List Nat} {a w : World} (h : Chg S a w) (n : Nat) : Chg S a (w.drewN n) := ⟨h.os, h.tape, h.output, h.size, h.block⟩

theorem Chg.alloc {S : List Nat} {a w : World} (h : Chg S a w) (o : Obj) : Chg S a (w.alloc o) :=
  h.trans (T := []) ⟨rfl, rfl, rfl, by simp, fun k hk _ => Below.heap_alloc _ _ _ hk⟩ (by simp)

theorem Chg.setCell {S : List Nat} {a w : World} (h : Chg S a w) {p : Addr} (hp : p.block ∈ S ∨ a.heap.size ≤ p.block) (u : Value) : Chg S a (w.setCell p u) :=
  h.trans (T := [p.block]) ⟨rfl, rfl, rfl, by simp [World.setCell], fun k _ hk => Below.heap_setCell _ _ _ _ (by simpa using hk)⟩ (by simpa using hp)

theorem Chg.of_below {w w' : World} (h : Below w.heap.size w w') (S : List Nat) : Chg S w w' := ⟨h.os, h.tape, h.output, h.size, fun k hk _ => h.block k hk⟩

theorem Chg.below {S : List Nat} {B : Nat} {w w' : World} (h : Chg S w w') (hB : B ≤ w.heap.size) (hS : ∀ x ∈ S, B ≤ x) : Below B w w' :=
  ⟨h.os, h.tape, h.output, h.size, fun k hk => h.block k (by omega) (fun hm => by have := hS k hm; omega)⟩

theorem Chg.of_grown {w w' : World} {row : Option Nat} (h : w.grownBy w' row) {S : List Nat} (hS : ∀ k, row = some k → k ∈ S ∨ w.heap.size ≤ k) : Chg S w w' :=
  ⟨h.os, h.tape, h.output, h.size, fun k hk hn => h.block k hk (fun e => by rcases hS k e.symm with h' | h'; exact hn h'; omega)⟩

theorem Chg.of_row {w w' : World} {row : Option Nat} (h : w.grownBy w' row) : Chg row.toList w w' :=
  ⟨h.os, h.tape, h.output, h.size, fun k hk hn => h.block k hk (fun e => hn (by rw [← e]; simp))⟩

theorem Chg.cell {S : List Nat} {w w' : World} (h : Chg S w w') {p : Addr} (hp : p.block < w.heap.size) (hS : p.block ∉ S) : w'.cell? p = w.cell? p :=
  World.cell?_of_block (w := w) (h.block p.block hp hS)

theorem Chg.frozen {S : List Nat} {w w' : World} (h : Chg S w w') {p : Addr} (hp : p.block < w.heap.size) (hS : p.block ∉ S) : w'.frozen? p = w.frozen? p :=
  World.frozen?_of_block (w := w) (h.block p.block hp hS)

theorem Chg.keep {S : List Nat} {w w' : World} (h : Chg S w w') {a : Addr} {v : Value} (hc : w.cell? a = some v) (hS : a.block ∉ S) : w'.cell? a = some v :=
  (h.cell (World.block_lt_of_cell? _ _ hc) hS).trans hc

theorem Chg.loose {S : List Nat} {w w' : World} (h : Chg S w w') {a : Addr} {v : Value} (hc : w.cell? a = some v) (hf : w.frozen? a = false) (hS : a.block ∉ S) : w'.frozen? a = false :=
  (h.frozen (World.block_lt_of_cell? _ _ hc) hS).trans hf

/-- The world under a name of its own. -/
theorem wp_name {P : Program} {c : Code} {Q : Exit → Act → World → Prop} {a : Act} {w : World} (h : ∀ W, W = w → c.wp P Q a W) : c.wp P Q a w := h w rfl

/-- A world in which all that was there is as it was. -/
structure Ext (w : World) where
  to : World
  chg : Chg [] w to

instance (w : World) : Nonempty (Ext w) := ⟨⟨w, Chg.refl _ _⟩⟩

/-- The class of these worlds: for regions that draw their order, read, and call what only makes memory. -/
def Cx (w : World) (w' : World) : Prop := ∃ x : Ext w, w' = x.to

theorem Cx.drew (w : World) : Cx w { w with drawn := w.drawn + 1 } := ⟨⟨w.drew, (Chg.refl _ _).drew⟩, rfl⟩

theorem Ext.cell {w : World} {a : Addr} {v : Value} (h : w.cell? a = some v) (x : Ext w) : x.to.cell? a = some v :=
  (x.chg.cell (World.block_lt_of_cell? _ _ h) (by simp)).trans h

theorem Ext.block {w : World} {b : Nat} {o : Obj} (h : w.heap[b]? = some o) (x : Ext w) : x.to.heap[b]? = some o :=
  (x.chg.block b (Array.getElem?_eq_some_iff.1 h).1 (by simp)).trans h

theorem Ext.calls {P : Program} {f : FuncId} {args : Array Value} {w : World} {v : Value} {x : Ext w} (h : Calls P f args x.to fun e w' => e = .returned v ∧ Below x.to.heap.size x.to w') :
    Calls P f args x.to fun e w' => e = .returned v ∧ ∃ y : Ext w, w' = y.to :=
  h.mono fun _ w' ⟨he, hb⟩ => ⟨he, ⟨w', x.chg.tr (Chg.of_below hb [])⟩, rfl⟩

theorem wp_region_ext {P : Program} {id : Nat} {Q : Exit → Act → World → Prop} {a : Act} {w : World} {l : List Oper} (hm : P.follows .mixedOrders = true) (hB : Region.lexB .any l.toArray = true)
    (h : wpQuiet P l.toArray (fun w' => ∃ x : Ext w, w' = x.to) (fun a' => ∀ w', (∃ x : Ext w, w' = x.to) → Q .normal a' w') l a) : (Code.region id l.toArray true).wp P Q a w :=
  wp_region_quiet (C := fun w' => ∃ x : Ext w, w' = x.to) hm hB (Cx.drew w) (by simpa using h)

/-! ### A region that draws its order: all its first operations are quiet in a class of worlds, the others stand behind them in one order -/
section
variable {P : Program} {ops : Array Oper} {md : Region.Mode} {C : World → Prop}

def headQ (P : Program) (md : Region.Mode) (ops : Array Oper) (C : World → Prop) (n : Nat) (L : Array Bool → Act → Prop) : Nat → Array Bool → Act → Prop
  | 0, listed, a => L listed a
  | f + 1, listed, a => Region.ready md ops listed ≠ [] ∧ ∀ i ∈ Region.ready md ops listed, i < n ∧ qOp P ops C i (headQ P md ops C n L f (listed.setIfInBounds i true)) a

theorem headQ_any {n g : Nat} {L : Array Bool → Act → Prop} {Q' : Exit → Act → World → Prop} (hL : ∀ listed a w, C w → L listed a → wpAny P md ops Q' g listed a w) :
    ∀ (f : Nat) (listed : Array Bool) (a : Act) (w : World), C w → headQ P md ops C n L f listed a → wpAny P md ops Q' (f + g) listed a w
  | 0, listed, a, w, hw, h => by rw [Nat.zero_add]; exact hL _ _ _ hw h
  | f + 1, listed, a, w, hw, h => by
    rw [show f + 1 + g = (f + g) + 1 by omega]
    exact ⟨fun h0 => absurd h0 h.1, fun i hi => wpOp_of_qOp hw (fun a' w' hw' h' => headQ_any hL f _ a' w' hw' h') (h.2 i hi).2⟩

theorem headQ_first {n i : Nat} {oi : Oper} {v : Value} {L : Array Bool → Act → Prop} (hi : ops[i]? = some oi) (hsel : ∀ (j : Nat) (o : Oper) cs b, ops[j]? = some o → o.op ≠ .select cs b)
    (hs : Region.sinkB md ops n = true) (hc : Region.chainB md ops n = true) (hn : n < ops.size) (hin : i < n) (hdone : ∀ listed a, L listed a → ∀ j ∈ Region.ready md ops listed, n ≤ j) :
    ∀ (f : Nat) (listed : Array Bool) (a : Act), HeadInv md ops n listed →
      (∀ j oj, ops[j]? = some oj → j ≠ i → listed.getD j true = false → (∀ e ∈ oj.after, Region.binds md e = true → e.on ≠ i) → oi.apart ops oj = true) →
      i ∈ Region.ready md ops listed → YieldsIn P ops C oi v a → headQ P md ops C n L f (listed.setIfInBounds i true) (a.put oi.dst v) → headQ P md ops C n L (f + 1) listed a := by
  intro f
  induction f with
  | zero =>
    intro listed a inv _ hr hy H
    refine ⟨fun h => (by rw [h] at hr; cases hr), fun j hj => ?_⟩
    have hjn : j < n := by
      rcases Nat.lt_or_ge j n with h | h
      · exact h
      · exact absurd hj (tail_waits hs hc hn inv _ i rfl hin (mem_ready.1 hr).1 j h)
    refine ⟨hjn, ?_⟩
    by_cases hji : j = i
    · subst hji; exact hy.qOp hi H
    · have := hdone _ _ H j (ready_mono hj hji)
      omega
  | succ f ih =>
    intro listed a inv hfree hr hy H
    refine ⟨fun h => (by rw [h] at hr; cases hr), fun j hj => ?_⟩
    have hjn : j < n := by
      rcases Nat.lt_or_ge j n with h | h
      · exact h
      · exact absurd hj (tail_waits hs hc hn inv _ i rfl hin (mem_ready.1 hr).1 j h)
    refine ⟨hjn, ?_⟩
    by_cases hji : j = i
    · subst hji; exact hy.qOp hi H
    · have h1 := (H.2 j (ready_mono hj hji)).2
      obtain ⟨hjun, oj, hoj, hall⟩ := mem_ready.1 hj
      have hnot : ∀ e ∈ oj.after, Region.binds md e = true → e.on ≠ i := fun e he hb heq => by
        have h1 := hall e he hb
        rw [heq, getD_both (mem_ready.1 hr).1] at h1
        cases h1
      have h2 := qOp_put hoj (hfree j oj hoj hji hjun hnot) (fun cs b => hsel i oi cs b hi) (fun cs b => hsel j oj cs b hoj) hy h1
      have hfree' : ∀ k ok, ops[k]? = some ok → k ≠ i → (listed.setIfInBounds j true).getD k true = false →
          (∀ e ∈ ok.after, Region.binds md e = true → e.on ≠ i) → oi.apart ops ok = true := fun k ok hk hki hun hno => by
        refine hfree k ok hk hki ?_ hno
        by_cases hjk : j = k
        · subst hjk; exact hjun
        · rw [getD_set_ne true hjk] at hun; exact hun
      refine qOp_mono (fun a' h3 => ih (listed.setIfInBounds j true) a' (inv.set hj hjn) hfree' (ready_mono hr (Ne.symm hji)) h3.1 ?_) h2
      rw [Array.setIfInBounds_comm _ _ hji]
      exact h3.2

theorem headQ_lex {n g : Nat} {Lq : Act → Prop} (hsel : Region.noSelect ops = true) (hs : Region.sinkB md ops n = true) (hc : Region.chainB md ops n = true) (hn : n < ops.size) :
    ∀ (l : List Oper) (k : Nat) (listed : Array Bool) (a : Act), (∀ j, j < l.length → l[j]? = ops[k + j]?) → k + l.length = n → HeadInv md ops n listed →
    Region.lexHead md ops g l.length k listed = true → wpQuiet P ops C Lq l a →
    headQ P md ops C n (fun listed' a' => Region.seqB md ops g n listed' = true ∧ Lq a') l.length listed a
  | [], k, listed, a, _, hk, _, hB, h => by
    have : k = n := by simpa using hk
    subst this
    exact ⟨by simpa [Region.lexHead] using hB, h⟩
  | o :: l, k, listed, a, hl, hk, inv, hB, h => by
    have h0 : ops[k]? = some o := by simpa using (hl 0 (by simp)).symm
    simp only [List.length_cons, Region.lexHead, Bool.and_eq_true] at hB
    obtain ⟨⟨hr, hf⟩, hB'⟩ := hB
    have hkn : k < n := by simp only [List.length_cons] at hk; omega
    have hr' : k ∈ Region.ready md ops listed := by simpa using hr
    have hst : qOp P ops C k (wpQuiet P ops C Lq l) a := by unfold qOp; simp only [h0]; exact h
    obtain ⟨v, hy, hK⟩ := yieldsIn_of_qOp h0 hst
    exact headQ_first h0 (Region.noSelect_spec hsel) hs hc hn hkn (fun listed' a' hL => seqB_ready hL.1) l.length listed a inv (Region.free_spec h0 hf) hr' hy
      (headQ_lex hsel hs hc hn l (k + 1) _ _ (fun j hj => by have := hl (j + 1) (by simp; omega); simpa [Nat.add_assoc, Nat.add_comm 1 j] using this) (by simp only [List.length_cons] at hk; omega) (inv.set hr' hkn) hB' hK)

/-- n: the first operation of the tail. -/
theorem wp_region_ext_tail {id : Nat} {Q : Exit → Act → World → Prop} {a : Act} {w : World} {l : List Oper} (n : Nat) (hm : P.follows .mixedOrders = true) (hB : Region.lexTailB .any l.toArray n = true)
    (h : wpQuiet P l.toArray (fun w' => ∃ x : Ext w, w' = x.to) (fun a' => ∀ w', (∃ x : Ext w, w' = x.to) → wpList P l.toArray Q (l.drop n) a' w') (l.take n) a) : (Code.region id l.toArray true).wp P Q a w := by
  simp only [Region.lexTailB, Bool.and_eq_true, decide_eq_true_eq] at hB
  obtain ⟨⟨⟨⟨hsel, hn⟩, hs⟩, hc⟩, hlex⟩ := hB
  have hn' : n < l.length := by simpa using hn
  have htl : (l.take n).length = n := by simp; omega
  have hdl : (l.drop n).length = l.toArray.size - n := by simp
  have inv0 : HeadInv .any l.toArray n (Array.replicate l.toArray.size false) :=
    ⟨by simp, fun j oj _ hl => (by rw [getD_replicate_false] at hl; cases hl), fun t _ ht => getD_in (by simpa using ht) (getD_replicate_false _ _)⟩
  have H := headQ_lex (md := .any) (g := l.toArray.size - n) hsel hs hc hn (l.take n) 0 _ a (fun j hj => by
    have hj' : j < n := by rw [htl] at hj; exact hj
    simp [hj']) (by simpa using htl) inv0 (by rw [htl]; exact hlex) h
  refine wp_region_any hm ?_
  have := headQ_any (Q' := Q) (g := l.toArray.size - n) (fun listed a' w' hw' hL => by
    have := wpAny_of_seq (md := .any) (Q' := Q) (l.drop n) n listed a' w' (fun j => by simp [List.getElem?_drop]) (by rw [hdl]; exact hL.1) (hL.2 w' hw')
    rwa [hdl] at this) _ _ _ { w with drawn := w.drawn + 1 } (Cx.drew w) H
  rw [htl, show n + (l.toArray.size - n) = l.toArray.size by omega] at this
  exact this
end

/-! ### The same where the operations below m have been taken already -/
section
variable {P : Program} {ops : Array Oper} {md : Region.Mode} {C : World → Prop}

def sinkFrom (md : Region.Mode) (ops : Array Oper) (m n : Nat) : Bool :=
  (List.range n).all fun i => decide (i < m) || (List.range (n + 1)).any fun j => decide (i < j) && Region.waitsFor md ops j i

theorem tail_waits_from {m n : Nat} {listed : Array Bool} (hs : sinkFrom md ops m n = true) (hc : Region.chainB md ops n = true) (hn : n < ops.size) (inv : HeadInv md ops n listed) :
    ∀ (d i : Nat), n - i = d → m ≤ i → i < n → listed.getD i true = false → ∀ t, n ≤ t → t ∉ Region.ready md ops listed := by
  intro d
  induction d using Nat.strongRecOn with
  | _ d ih =>
    intro i hd hmi hi hun t ht hr
    obtain ⟨_, ot, hot, hall⟩ := mem_ready.1 hr
    have htlt : t < ops.size := (Array.getElem?_eq_some_iff.1 hot).1
    by_cases htn : t = n
    · subst htn
      have h1 := List.all_eq_true.1 hs i (List.mem_range.2 hi)
      simp only [Bool.or_eq_true, decide_eq_true_eq] at h1
      obtain ⟨j, hj, hj2⟩ := List.any_eq_true.1 (h1.resolve_left (by omega))
      simp only [Bool.and_eq_true, decide_eq_true_eq] at hj2
      obtain ⟨oj, hoj, e, he, hb, hon⟩ := Region.waitsFor_spec hj2.2
      have hjle : j ≤ t := by have := List.mem_range.1 hj; omega
      by_cases hjt : j = t
      · subst hjt
        have : oj = ot := Option.some.inj (hoj.symm.trans hot)
        subst this
        have h2 := hall e he hb
        rw [hon, getD_both hun] at h2
        cases h2
      · cases hl : listed.getD j false with
        | true =>
          have h2 := inv.closed j oj hoj hl e he hb
          rw [hon, getD_both hun] at h2
          cases h2
        | false =>
          have hjs : j < listed.size := by rw [inv.size]; omega
          exact ih (t - j) (by omega) j rfl (by omega) (by omega) (getD_in hjs hl) t (Nat.le_refl _) hr
    · have h1 := List.all_eq_true.1 hc t (List.mem_range.2 htlt)
      simp only [Bool.or_eq_true, decide_eq_true_eq] at h1
      rcases h1 with h1 | h1
      · omega
      · obtain ⟨o', ho', e, he, hb, hon⟩ := Region.waitsFor_spec h1
        have : o' = ot := Option.some.inj (ho'.symm.trans hot)
        subst this
        have h2 := hall e he hb
        rw [hon, getD_both (inv.tail (t - 1) (by omega) (by omega))] at h2
        cases h2

theorem headQ_first_from {m n i : Nat} {oi : Oper} {v : Value} {L : Array Bool → Act → Prop} (hi : ops[i]? = some oi) (hsel : ∀ (j : Nat) (o : Oper) cs b, ops[j]? = some o → o.op ≠ .select cs b)
    (hs : sinkFrom md ops m n = true) (hc : Region.chainB md ops n = true) (hn : n < ops.size) (hmi : m ≤ i) (hin : i < n) (hdone : ∀ listed a, L listed a → ∀ j ∈ Region.ready md ops listed, n ≤ j) :
    ∀ (f : Nat) (listed : Array Bool) (a : Act), HeadInv md ops n listed →
      (∀ j oj, ops[j]? = some oj → j ≠ i → listed.getD j true = false → (∀ e ∈ oj.after, Region.binds md e = true → e.on ≠ i) → oi.apart ops oj = true) →
      i ∈ Region.ready md ops listed → YieldsIn P ops C oi v a → headQ P md ops C n L f (listed.setIfInBounds i true) (a.put oi.dst v) → headQ P md ops C n L (f + 1) listed a := by
  intro f
  induction f with
  | zero =>
    intro listed a inv _ hr hy H
    refine ⟨fun h => (by rw [h] at hr; cases hr), fun j hj => ?_⟩
    have hjn : j < n := by
      rcases Nat.lt_or_ge j n with h | h
      · exact h
      · exact absurd hj (tail_waits_from hs hc hn inv _ i rfl hmi hin (mem_ready.1 hr).1 j h)
    refine ⟨hjn, ?_⟩
    by_cases hji : j = i
    · subst hji; exact hy.qOp hi H
    · have := hdone _ _ H j (ready_mono hj hji)
      omega
  | succ f ih =>
    intro listed a inv hfree hr hy H
    refine ⟨fun h => (by rw [h] at hr; cases hr), fun j hj => ?_⟩
    have hjn : j < n := by
      rcases Nat.lt_or_ge j n with h | h
      · exact h
      · exact absurd hj (tail_waits_from hs hc hn inv _ i rfl hmi hin (mem_ready.1 hr).1 j h)
    refine ⟨hjn, ?_⟩
    by_cases hji : j = i
    · subst hji; exact hy.qOp hi H
    · have h1 := (H.2 j (ready_mono hj hji)).2
      obtain ⟨hjun, oj, hoj, hall⟩ := mem_ready.1 hj
      have hnot : ∀ e ∈ oj.after, Region.binds md e = true → e.on ≠ i := fun e he hb heq => by
        have h1 := hall e he hb
        rw [heq, getD_both (mem_ready.1 hr).1] at h1
        cases h1
      have h2 := qOp_put hoj (hfree j oj hoj hji hjun hnot) (fun cs b => hsel i oi cs b hi) (fun cs b => hsel j oj cs b hoj) hy h1
      have hfree' : ∀ k ok, ops[k]? = some ok → k ≠ i → (listed.setIfInBounds j true).getD k true = false →
          (∀ e ∈ ok.after, Region.binds md e = true → e.on ≠ i) → oi.apart ops ok = true := fun k ok hk hki hun hno => by
        refine hfree k ok hk hki ?_ hno
        by_cases hjk : j = k
        · subst hjk; exact hjun
        · rw [getD_set_ne true hjk] at hun; exact hun
      refine qOp_mono (fun a' h3 => ih (listed.setIfInBounds j true) a' (inv.set hj hjn) hfree' (ready_mono hr (Ne.symm hji)) h3.1 ?_) h2
      rw [Array.setIfInBounds_comm _ _ hji]
      exact h3.2

theorem headQ_lex_from {m n g : Nat} {Lq : Act → Prop} (hsel : Region.noSelect ops = true) (hs : sinkFrom md ops m n = true) (hc : Region.chainB md ops n = true) (hn : n < ops.size) :
    ∀ (l : List Oper) (k : Nat) (listed : Array Bool) (a : Act), (∀ j, j < l.length → l[j]? = ops[k + j]?) → m ≤ k → k + l.length = n → HeadInv md ops n listed →
    Region.lexHead md ops g l.length k listed = true → wpQuiet P ops C Lq l a →
    headQ P md ops C n (fun listed' a' => Region.seqB md ops g n listed' = true ∧ Lq a') l.length listed a
  | [], k, listed, a, _, _, hk, _, hB, h => by
    have : k = n := by simpa using hk
    subst this
    exact ⟨by simpa [Region.lexHead] using hB, h⟩
  | o :: l, k, listed, a, hl, hmk, hk, inv, hB, h => by
    have h0 : ops[k]? = some o := by simpa using (hl 0 (by simp)).symm
    simp only [List.length_cons, Region.lexHead, Bool.and_eq_true] at hB
    obtain ⟨⟨hr, hf⟩, hB'⟩ := hB
    have hkn : k < n := by simp only [List.length_cons] at hk; omega
    have hr' : k ∈ Region.ready md ops listed := by simpa using hr
    have hst : qOp P ops C k (wpQuiet P ops C Lq l) a := by unfold qOp; simp only [h0]; exact h
    obtain ⟨v, hy, hK⟩ := yieldsIn_of_qOp h0 hst
    exact headQ_first_from h0 (Region.noSelect_spec hsel) hs hc hn hmk hkn (fun listed' a' hL => seqB_ready hL.1) l.length listed a inv (Region.free_spec h0 hf) hr' hy
      (headQ_lex_from hsel hs hc hn l (k + 1) _ _ (fun j hj => by have := hl (j + 1) (by simp; omega); simpa [Nat.add_assoc, Nat.add_comm 1 j] using this) (by omega) (by simp only [List.length_cons] at hk; omega) (inv.set hr' hkn) hB' hK)

/-- Is every operation that has been taken one whose own wait is over, and none of the tail taken? -/
def closedB (md : Region.Mode) (ops : Array Oper) (n : Nat) (listed : Array Bool) : Bool :=
  decide (listed.size = ops.size) && (List.range ops.size).all fun j => match ops[j]? with
    | some o => (!(listed.getD j false) || o.after.all fun e => !Region.binds md e || listed.getD e.on false) && (decide (j < n) || !(listed.getD j true))
    | none => true

theorem closedB_inv {n : Nat} {listed : Array Bool} (h : closedB md ops n listed = true) : HeadInv md ops n listed := by
  simp only [closedB, Bool.and_eq_true, decide_eq_true_eq, List.all_eq_true, List.mem_range] at h
  refine ⟨h.1, fun j oj hj hl e he hb => ?_, fun t ht htl => ?_⟩
  · have h2 := h.2 j (Array.getElem?_eq_some_iff.1 hj).1
    rw [hj] at h2
    simp only [Bool.and_eq_true, Bool.or_eq_true, Bool.not_eq_true'] at h2
    rcases h2.1 with h3 | h3
    · rw [hl] at h3; cases h3
    · have h4 := Array.all_eq_true_iff_forall_mem.1 h3 e he
      simp only [Bool.or_eq_true, Bool.not_eq_true'] at h4
      rcases h4 with h4 | h4
      · rw [hb] at h4; cases h4
      · exact h4
  · have h2 := h.2 t htl
    rw [Array.getElem?_eq_getElem htl] at h2
    simp only [Bool.and_eq_true, Bool.or_eq_true, Bool.not_eq_true', decide_eq_true_eq] at h2
    rcases h2.2 with h3 | h3
    · omega
    · exact h3

def lexTailFrom (md : Region.Mode) (ops : Array Oper) (m n : Nat) (listed : Array Bool) : Bool :=
  Region.noSelect ops && decide (n < ops.size) && decide (m ≤ n) && sinkFrom md ops m n && Region.chainB md ops n && closedB md ops n listed && Region.lexHead md ops (ops.size - n) (n - m) m listed

/-- The operations below m are taken; from m to n they are quiet; from n on they stand in one order. -/
theorem wpAny_ext_tail {Q : Exit → Act → World → Prop} {a : Act} {w w0 : World} {l : List Oper} {listed : Array Bool} {fuel : Nat} (m n : Nat) (hfu : fuel = l.length - m) (hB : lexTailFrom .any l.toArray m n listed = true) (hw : ∃ x : Ext w0, w = x.to)
    (h : wpQuiet P l.toArray (fun w' => ∃ x : Ext w0, w' = x.to) (fun a' => ∀ w', (∃ x : Ext w0, w' = x.to) → wpList P l.toArray Q (l.drop n) a' w') ((l.take n).drop m) a) : wpAny P .any l.toArray Q fuel listed a w := by
  simp only [lexTailFrom, Bool.and_eq_true, decide_eq_true_eq] at hB
  obtain ⟨⟨⟨⟨⟨⟨hsel, hn⟩, hmn⟩, hs⟩, hc⟩, hcl⟩, hlex⟩ := hB
  have hn' : n < l.length := by simpa using hn
  have htl : ((l.take n).drop m).length = n - m := by simp; omega
  have hdl : (l.drop n).length = l.toArray.size - n := by simp
  have H := headQ_lex_from (md := .any) (g := l.toArray.size - n) hsel hs hc hn ((l.take n).drop m) m listed a (fun j hj => by
    rw [htl] at hj
    rw [List.getElem?_drop, List.getElem?_take, if_pos (by omega)]
    simp) (Nat.le_refl _) (by rw [htl]; omega) (closedB_inv hcl) (by rw [htl]; exact hlex) h
  have := headQ_any (Q' := Q) (g := l.toArray.size - n) (fun listed a' w' hw' hL => by
    have := wpAny_of_seq (md := .any) (Q' := Q) (l.drop n) n listed a' w' (fun j => by simp [List.getElem?_drop]) (by rw [hdl]; exact hL.1) (hL.2 w' hw')
    rwa [hdl] at this) _ _ _ w hw H
  rw [htl] at this
  have e : n - m + (l.toArray.size - n) = fuel := by rw [hfu]; simp; omega
  rw [e] at this
  exact this
end

/-- Block g is a row of n cells, not frozen, of elements of type e; its first ones are xs. -/
def Row (w : World) (g : Nat) (e : TypeId) (n : Nat) (xs : List Value) : Prop :=
  ∃ cur : Array Value, w.heap[g]? = some (.cells cur e (0, 0)) ∧ cur.size = n ∧ xs.length ≤ n ∧ cur.toList.take xs.length = xs

section
variable {w w' : World} {g : Nat} {e : TypeId} {n : Nat} {xs : List Value}

theorem Row.lt (h : Row w g e n xs) : g < w.heap.size := by
  obtain ⟨cur, h1, _⟩ := h
  exact (Array.getElem?_eq_some_iff.1 h1).1

theorem Row.len (h : Row w g e n xs) : xs.length ≤ n := by
  obtain ⟨cur, _, _, h3, _⟩ := h
  exact h3

theorem Row.of_eq (h : Row w g e n xs) (he : w'.heap[g]? = w.heap[g]?) : Row w' g e n xs := by
  obtain ⟨cur, h1, h2⟩ := h
  exact ⟨cur, he.trans h1, h2⟩

theorem Row.chg {S : List Nat} (h : Row w g e n xs) (hc : Chg S w w') (hS : g ∉ S) : Row w' g e n xs := h.of_eq (hc.block g h.lt hS)

theorem Row.cell (h : Row w g e n xs) {j : Nat} {v : Value} (hv : xs[j]? = some v) : w.cell? ⟨g, j, none⟩ = some v := by
  obtain ⟨cur, h1, h2, h3, h4⟩ := h
  rw [cell_of_row w g j cur e (0, 0) h1]
  rw [← h4, List.getElem?_take] at hv
  split at hv
  · simpa using hv
  · cases hv

theorem Row.frozen (h : Row w g e n xs) (j : Nat) : w.frozen? ⟨g, j, none⟩ = false := by
  obtain ⟨cur, h1, _⟩ := h
  exact frozen_of_row w g j cur e h1

theorem Row.set (h : Row w g e n xs) (j : Nat) (v : Value) : Row (w.setCell ⟨g, j, none⟩ v) g e n (xs.set j v) := by
  obtain ⟨cur, h1, h2, h3, h4⟩ := h
  refine ⟨cur.setIfInBounds j v, heap_setCell_same w g j cur e v h1, by simpa using h2, by simpa using h3, ?_⟩
  rw [Array.toList_setIfInBounds, List.length_set, List.take_set, h4]

theorem Row.other (h : Row w g e n xs) {a : Addr} (ha : a.block ≠ g) (v : Value) : Row (w.setCell a v) g e n xs :=
  h.of_eq (Below.heap_setCell _ _ _ _ (Ne.symm ha))

theorem Row.alloc (h : Row w g e n xs) (o : Obj) : Row (w.alloc o) g e n xs := h.of_eq (Below.heap_alloc _ _ _ h.lt)

theorem Row.drew (h : Row w g e n xs) : Row w.drew g e n xs := h

theorem Row.drewN (h : Row w g e n xs) (m : Nat) : Row (w.drewN m) g e n xs := h

theorem Row.new (w : World) (cs : Array Value) (e : TypeId) : Row (w.alloc (.cells cs e)) w.heap.size e cs.size cs.toList :=
  ⟨cs, heap_alloc_new w _, rfl, by simp, by rw [Array.length_toList, List.take_of_length_le (by simp)]⟩

theorem Row.owns (h : Row w g e n xs) {base size len cap : Nat} (hb : base ≤ g) (hx : xs.length = len * size) (hn : n = cap * size) (hl : len ≤ cap) (hc : cap ≤ maxLen) :
    w.ownsRow base e size (.slice (some ⟨g, 0, none⟩) len cap) len xs := by
  obtain ⟨cur, h1, h2, h3, h4⟩ := h
  refine ⟨hx, .inr ⟨g, cap, cur, rfl, hb, h1, hl, hc, h2.trans hn, ?_⟩⟩
  rw [← hx]; exact h4

theorem owns_chg {base size len : Nat} {v : Value} {S : List Nat} (h : w.ownsRow base e size v len xs) (hc : Chg S w w') (hS : ∀ x ∈ S, x < base) : w'.ownsRow base e size v len xs := by
  obtain ⟨h1, h2⟩ := h
  refine ⟨h1, ?_⟩
  rcases h2 with h2 | ⟨g', cap', cur, h', hb, hg, rest⟩
  · exact .inl h2
  · refine .inr ⟨g', cap', cur, h', hb, ?_, rest⟩
    rw [hc.block g' (Array.getElem?_eq_some_iff.1 hg).1 (fun hm => by have := hS _ hm; omega)]
    exact hg

theorem Row.of_owns {base size len cap : Nat} (h : w.ownsRow base e size (.slice (some ⟨g, 0, none⟩) len cap) len xs) : Row w g e (cap * size) xs ∧ xs.length = len * size ∧ len ≤ cap ∧ cap ≤ maxLen ∧ base ≤ g := by
  obtain ⟨h1, h2⟩ := h
  rcases h2 with ⟨h', _⟩ | ⟨g', cap', cur, h', hb, hg, hnc, hcm, hcs, htake⟩
  · simp at h'
  · simp only [Value.slice.injEq, Option.some.injEq, Addr.mk.injEq, and_true, true_and] at h'
    obtain ⟨rfl, rfl⟩ := h'
    refine ⟨⟨cur, hg, hcs, ?_, by rw [h1]; exact htake⟩, h1, hnc, hcm, hb⟩
    rw [h1]; exact Nat.mul_le_mul_right _ hnc
end

/-- The cells of a block that was just laid. -/
theorem news_new (w : World) (l : List Value) (e : TypeId) : ∀ j u, l[j]? = some u → (w.alloc (.cells l.toArray e)).cell? ((⟨w.heap.size, 0, none⟩ : Addr).add j) = some u := by
  intro j u h
  have hadd : (⟨w.heap.size, 0, none⟩ : Addr).add j = ⟨w.heap.size, j, none⟩ := by unfold Addr.add; split <;> simp_all
  rw [hadd, World.cell?_alloc_new]
  simpa using h

/-! ### A list of structs as a list of cells -/
section
variable {α : Type} (enc : α → List Value) (s : Nat)

theorem flat_length (hs : ∀ a, (enc a).length = s) : ∀ l : List α, (l.flatMap enc).length = l.length * s
  | [] => by simp
  | a :: l => by rw [List.flatMap_cons, List.length_append, hs, flat_length hs l, List.length_cons]; rw [Nat.add_mul]; omega

theorem flat_get (hs : ∀ a, (enc a).length = s) : ∀ (l : List α) (i j : Nat) (a : α), l[i]? = some a → j < s → (l.flatMap enc)[i * s + j]? = (enc a)[j]?
  | [], i, j, a, h, _ => by simp at h
  | b :: l, 0, j, a, h, hj => by
    simp at h; subst h
    rw [List.flatMap_cons, List.getElem?_append_left (by rw [hs]; omega)]; simp
  | b :: l, i + 1, j, a, h, hj => by
    have e : (i + 1) * s + j = s + (i * s + j) := by rw [Nat.add_mul]; omega
    rw [List.flatMap_cons, e, List.getElem?_append_right (by rw [hs]; omega), hs, Nat.add_sub_cancel_left]
    exact flat_get hs l i j a (by simpa using h) hj

theorem flat_set (hs : ∀ a, (enc a).length = s) : ∀ (l : List α) (i j : Nat) (a b : α) (v : Value), l[i]? = some a → j < s → (enc a).set j v = enc b → (l.flatMap enc).set (i * s + j) v = (l.set i b).flatMap enc
  | [], i, j, a, b, v, h, _, _ => by simp at h
  | c :: l, 0, j, a, b, v, h, hj, he => by
    simp at h; subst h
    simp only [List.flatMap_cons, Nat.zero_mul, Nat.zero_add, List.set_cons_zero]
    rw [List.set_append_left _ _ (by rw [hs]; omega), he]
  | c :: l, i + 1, j, a, b, v, h, hj, he => by
    have e : (i + 1) * s + j = s + (i * s + j) := by rw [Nat.add_mul]; omega
    simp only [List.flatMap_cons, List.set_cons_succ]
    rw [e, List.set_append_right _ _ (by rw [hs]; omega), hs, Nat.add_sub_cancel_left]
    rw [flat_set hs l i j a b v (by simpa using h) hj he]
end

/-! ### A map as a list of pairs -/
section
variable {P : Program} {k : TypeId} {α β : Type} {ok : α → Prop} {ek : α → Value} {ev : β → Value}

/-- The keys that are meant: each reads as a key, and no two are one. -/
structure KeyOk (P : Program) (k : TypeId) (ok : α → Prop) (ek : α → Value) : Prop where
  reads : ∀ a, ok a → ∃ l, keyOf P k (ek a) = some l
  inj : ∀ a b, ok a → ok b → ek a = ek b → a = b

def MapT (ok : α → Prop) (ek : α → Value) (ev : β → Value) (w : World) (b : Nat) (L : List (α × β)) : Prop :=
  ∃ (es : Array MapEntry) (clock : Nat), w.heap[b]? = some (.map es clock) ∧ es.toList.map (fun e => (e.key, e.val)) = L.map (fun p => (ek p.1, ev p.2)) ∧
    (∀ p ∈ L, ok p.1) ∧ (L.map (·.1)).Nodup ∧ es.toList.Pairwise (fun x y => x.born < y.born) ∧ ∀ e ∈ es.toList, e.born < clock

theorem MapT.lt {w : World} {b : Nat} {L : List (α × β)} (h : MapT ok ek ev w b L) : b < w.heap.size := by
  obtain ⟨es, clock, h1, _⟩ := h
  exact (Array.getElem?_eq_some_iff.1 h1).1

theorem MapT.of_eq {w w' : World} {b : Nat} {L : List (α × β)} (h : MapT ok ek ev w b L) (he : w'.heap[b]? = w.heap[b]?) : MapT ok ek ev w' b L := by
  obtain ⟨es, clock, h1, h2⟩ := h
  exact ⟨es, clock, he.trans h1, h2⟩

theorem MapT.chg {S : List Nat} {w w' : World} {b : Nat} {L : List (α × β)} (h : MapT ok ek ev w b L) (hc : Chg S w w') (hS : b ∉ S) : MapT ok ek ev w' b L := h.of_eq (hc.block b h.lt hS)

theorem MapT.other {w : World} {b : Nat} {L : List (α × β)} (h : MapT ok ek ev w b L) {a : Addr} (ha : a.block ≠ b) (v : Value) : MapT ok ek ev (w.setCell a v) b L := h.of_eq (Below.heap_setCell _ _ _ _ (Ne.symm ha))
theorem MapT.alloc {w : World} {b : Nat} {L : List (α × β)} (h : MapT ok ek ev w b L) (o : Obj) : MapT ok ek ev (w.alloc o) b L := h.of_eq (Below.heap_alloc _ _ _ h.lt)

theorem MapT.new (w : World) : MapT ok ek ev (w.alloc (.map #[] 0)) w.heap.size ([] : List (α × β)) :=
  ⟨#[], 0, heap_alloc_new w _, by simp, by simp, by simp, by simp, by simp⟩

theorem keys_of_mem {es : Array MapEntry} {L : List (α × β)} (h2 : es.toList.map (fun e => (e.key, e.val)) = L.map (fun p => (ek p.1, ev p.2))) {x : MapEntry} (hx : x ∈ es.toList) :
    ∃ p ∈ L, x.key = ek p.1 ∧ x.val = ev p.2 := by
  have : (x.key, x.val) ∈ es.toList.map (fun e => (e.key, e.val)) := List.mem_map.2 ⟨x, hx, rfl⟩
  rw [h2] at this
  obtain ⟨p, hp, he⟩ := List.mem_map.1 this
  simp only [Prod.mk.injEq] at he
  exact ⟨p, hp, he.1.symm, he.2.symm⟩

theorem entry_at {es : Array MapEntry} {L : List (α × β)} (h2 : es.toList.map (fun e => (e.key, e.val)) = L.map (fun p => (ek p.1, ev p.2))) {j : Nat} {e0 : MapEntry} (hj : es.toList[j]? = some e0) :
    ∃ p, L[j]? = some p ∧ e0.key = ek p.1 ∧ e0.val = ev p.2 := by
  have h3 := congrArg (fun l => l[j]?) h2
  simp only [List.getElem?_map, hj, Option.map_some] at h3
  cases hp : L[j]? with
  | none => simp [hp] at h3
  | some p => simp only [hp, Option.map_some, Option.some.injEq, Prod.mk.injEq] at h3; exact ⟨p, rfl, h3.1, h3.2⟩


/-! ### The pure side -/
section
variable [DecidableEq α]

def asc (L : List (α × β)) (a : α) : Option β := (L.find? (fun p => decide (p.1 = a))).map (·.2)
def upd (L : List (α × β)) (a : α) (v : β) : List (α × β) := if (asc L a).isSome then L.map (fun p => if p.1 = a then (a, v) else p) else L ++ [(a, v)]
def del (L : List (α × β)) (a : α) : List (α × β) := L.filter (fun p => decide (p.1 ≠ a))

omit [DecidableEq α] in
theorem nodup_cons {p : α × β} {L : List (α × β)} (h : ((p :: L).map (·.1)).Nodup) : (∀ q ∈ L, q.1 ≠ p.1) ∧ (L.map (·.1)).Nodup := by
  rw [List.map_cons, List.nodup_cons] at h
  refine ⟨fun q hq e => h.1 (List.mem_map.2 ⟨q, hq, e⟩), h.2⟩

theorem asc_cons (p : α × β) (L : List (α × β)) (a : α) : asc (p :: L) a = if p.1 = a then some p.2 else asc L a := by
  unfold asc
  by_cases h : p.1 = a <;> simp [h]

theorem asc_none {L : List (α × β)} {a : α} : asc L a = none ↔ ∀ p ∈ L, p.1 ≠ a := by
  induction L with
  | nil => simp [asc]
  | cons p L ih => rw [asc_cons]; by_cases h : p.1 = a <;> simp [h, ih]

theorem asc_some {L : List (α × β)} (hn : (L.map (·.1)).Nodup) {a : α} {v : β} : asc L a = some v ↔ (a, v) ∈ L := by
  induction L with
  | nil => simp [asc]
  | cons p L ih =>
    obtain ⟨h1, h2⟩ := nodup_cons hn
    rw [asc_cons]
    by_cases h : p.1 = a
    · subst h
      simp only [if_true, Option.some.injEq, List.mem_cons]
      constructor
      · intro e; exact .inl (by rw [← e])
      · rintro (e | e)
        · rw [← e]
        · exact absurd rfl (h1 (p.1, v) e)
    · simp only [h, if_false, ih h2, List.mem_cons]
      constructor
      · exact .inr
      · rintro (e | e)
        · exact absurd (by rw [← e]) h
        · exact e

theorem upd_at {L : List (α × β)} (hn : (L.map (·.1)).Nodup) {a : α} {u v : β} {j : Nat} (hj : L[j]? = some (a, u)) : upd L a v = L.set j (a, v) := by
  have hs : asc L a = some u := (asc_some hn).2 (List.mem_of_getElem? hj)
  unfold upd
  rw [hs]
  simp only [Option.isSome_some, if_true]
  clear hs
  induction L generalizing j with
  | nil => simp at hj
  | cons p L ih =>
    obtain ⟨h1, h2⟩ := nodup_cons hn
    cases j with
    | zero =>
      simp at hj; subst hj
      simp only [List.map_cons, if_true, List.set_cons_zero, List.cons.injEq, true_and]
      rw [List.map_congr_left (g := id) (fun q hq => by simp [h1 q hq])]
      simp
    | succ j =>
      have hne : p.1 ≠ a := fun e => h1 (a, u) (List.mem_of_getElem? (by simpa using hj)) e.symm
      simp only [List.map_cons, hne, if_false, List.set_cons_succ, List.cons.injEq, true_and]
      exact ih h2 (by simpa using hj)

theorem del_at {L : List (α × β)} (hn : (L.map (·.1)).Nodup) {a : α} {u : β} {j : Nat} (hj : L[j]? = some (a, u)) : del L a = L.eraseIdx j := by
  unfold del
  induction L generalizing j with
  | nil => simp at hj
  | cons p L ih =>
    obtain ⟨h1, h2⟩ := nodup_cons hn
    cases j with
    | zero =>
      simp at hj; subst hj
      simp only [ne_eq, not_true_eq_false, decide_false, Bool.false_eq_true, not_false_eq_true, List.filter_cons_of_neg, List.eraseIdx_cons_zero]
      exact List.filter_eq_self.2 (fun q hq => by simpa using h1 q hq)
    | succ j =>
      have hne : p.1 ≠ a := fun e => h1 (a, u) (List.mem_of_getElem? (by simpa using hj)) e.symm
      rw [List.filter_cons_of_pos (by simpa using hne), List.eraseIdx_cons_succ, ih h2 (by simpa using hj)]

theorem del_none {L : List (α × β)} {a : α} (h : ∀ p ∈ L, p.1 ≠ a) : del L a = L := List.filter_eq_self.2 (fun q hq => by simpa using h q hq)

theorem asc_upd (L : List (α × β)) (a b : α) (v : β) : asc (upd L a v) b = if a = b then some v else asc L b := by
  unfold upd
  split
  · rename_i hs
    induction L with
    | nil => simp [asc] at hs
    | cons p L ih =>
      rw [List.map_cons, asc_cons, asc_cons]
      rw [asc_cons] at hs
      by_cases hpa : p.1 = a
      · simp only [hpa, if_true]
        by_cases hab : a = b
        · simp [hab]
        · simp only [hab, if_false]
          clear hs ih
          induction L with
          | nil => simp [asc]
          | cons q L ih =>
            rw [List.map_cons, asc_cons, asc_cons, ih]
            by_cases hqa : q.1 = a
            · simp [hqa, hab]
            · simp [hqa]
      · simp only [hpa, if_false] at hs ⊢
        rw [ih hs]
        by_cases hpb : p.1 = b
        · have : ¬ a = b := fun e => hpa (by rw [hpb, e])
          simp [hpb, this]
        · simp [hpb]
  · rename_i hs
    have hs' : asc L a = none := by simpa using hs
    clear hs
    induction L with
    | nil => by_cases h : a = b <;> simp [asc, h]
    | cons p L ih =>
      rw [asc_cons] at hs'
      by_cases hpa : p.1 = a
      · simp [hpa] at hs'
      · simp only [hpa, if_false] at hs'
        rw [List.cons_append, asc_cons, asc_cons, ih hs']
        by_cases hpb : p.1 = b
        · have : ¬ a = b := fun e => hpa (by rw [hpb, e])
          simp [hpb, this]
        · simp [hpb]

theorem asc_del (L : List (α × β)) (a b : α) : asc (del L a) b = if a = b then none else asc L b := by
  unfold del
  induction L with
  | nil => simp [asc]
  | cons p L ih =>
    by_cases hpa : p.1 = a
    · rw [List.filter_cons_of_neg (by simpa using hpa), ih, asc_cons]
      by_cases hab : a = b
      · simp [hab]
      · have : ¬ p.1 = b := by rw [hpa]; exact hab
        simp [hab, this]
    · rw [List.filter_cons_of_pos (by simpa using hpa), asc_cons, ih, asc_cons]
      by_cases hpb : p.1 = b
      · have : ¬ a = b := fun e => hpa (by rw [hpb, e])
        simp [hpb, this]
      · simp [hpb]

omit [DecidableEq α] in
theorem keys_set {L : List (α × β)} {a : α} {u v : β} {j : Nat} (hj : L[j]? = some (a, u)) : (L.set j (a, v)).map (·.1) = L.map (·.1) := by
  rw [List.map_set]
  apply List.ext_getElem?
  intro i
  rw [List.getElem?_set]
  split
  · rename_i h; subst h
    split
    · simp [hj]
    · rename_i h1; simp at h1; simp [h1]
  · rfl

theorem upd_length (L : List (α × β)) (a : α) (v : β) : (upd L a v).length = if (asc L a).isSome then L.length else L.length + 1 := by
  unfold upd; split <;> simp
end

/-- What the search finds. -/
theorem MapT.find [DecidableEq α] {w : World} {L : List (α × β)} (K : Maps.Keyed P k) (O : KeyOk P k ok ek) {es : Array MapEntry}
    (h2 : es.toList.map (fun e => (e.key, e.val)) = L.map (fun p => (ek p.1, ev p.2))) (h3 : ∀ p ∈ L, ok p.1) (h4 : (L.map (·.1)).Nodup) {a : α} (ha : ok a) :
    ((Instr.findKey k (ek a) es.toList).run P w = .ok none w ∧ asc L a = none) ∨
    ∃ j v e0, (Instr.findKey k (ek a) es.toList).run P w = .ok (some (j, ev v)) w ∧ asc L a = some v ∧ L[j]? = some (a, v) ∧ es.toList[j]? = some e0 ∧ e0.key = ek a := by
  obtain ⟨lx, hx⟩ := O.reads a ha
  rcases K.find w hx es.toList (fun e he => by
      obtain ⟨p, hp, hk, _⟩ := keys_of_mem h2 he
      rw [hk]; exact O.reads p.1 (h3 p hp)) with ⟨f1, f2⟩ | ⟨j, e0, f1, f2, f3⟩
  · refine .inl ⟨f1, asc_none.2 fun p hp hpa => ?_⟩
    have : (ek p.1, ev p.2) ∈ es.toList.map (fun e => (e.key, e.val)) := by rw [h2]; exact List.mem_map.2 ⟨p, hp, rfl⟩
    obtain ⟨x, hx, he⟩ := List.mem_map.1 this
    simp only [Prod.mk.injEq] at he
    exact f2 x hx (by rw [he.1, hpa])
  · obtain ⟨p, hp, hk, hv⟩ := entry_at h2 f2
    have hpa : p.1 = a := O.inj _ _ (h3 p (List.mem_of_getElem? hp)) ha (by rw [← hk, f3])
    have hp' : L[j]? = some (a, p.2) := by rw [hp, ← hpa]
    refine .inr ⟨j, p.2, e0, by rw [f1, hv], (asc_some h4).2 (List.mem_of_getElem? hp'), hp', f2, f3⟩

theorem MapT.check {w : World} (K : Maps.Keyed P k) (O : KeyOk P k ok ek) {a : α} (ha : ok a) (em : Bool) : (Instr.checkKey em 10000 k (ek a)).run P w = .ok () w := by
  obtain ⟨lx, hx⟩ := O.reads a ha
  exact K.check w em hx

section
variable [DecidableEq α] {w : World} {b : Nat} {L : List (α × β)} {t e : TypeId}

/-- 'v, ok := m[a]' ¦ 'm[a]'. -/
theorem MapT.look (h : MapT ok ek ev w b L) (K : Maps.Keyed P k) (O : KeyOk P k ok ek) (ht : P.underlying t = some (.map k e)) {z : Value} (hz : (zeroValue e).run P w = .ok z w) {a : α} (ha : ok a) (c : Bool) :
    (Instr.lookup t (.map (some b)) (ek a) c).run P w = .ok (if c then .tuple #[((asc L a).map ev).getD z, .bool (asc L a).isSome] else ((asc L a).map ev).getD z) w := by
  obtain ⟨es, clock, h1, h2, h3, h4, _⟩ := h
  rcases MapT.find (w := w) K O h2 h3 h4 ha with ⟨f1, f2⟩ | ⟨j, v', e0, f1, f2, _⟩
  · simp [Instr.lookup, run_underlying ht, MapKept.run_getObj_map h1, MapT.check K O ha, f1, hz, f2, Result.andThen]
  · simp [Instr.lookup, run_underlying ht, MapKept.run_getObj_map h1, MapT.check K O ha, f1, f2, Result.andThen]

theorem chg_setObj (w : World) (b : Nat) (o : Obj) : Chg [b] w { w with heap := w.heap.setIfInBounds b o } :=
  ⟨rfl, rfl, rfl, by simp, fun k _ hk => by simp only [List.mem_singleton] at hk; simp [Ne.symm hk]⟩

theorem heap_setObj {w : World} {b : Nat} {o o' : Obj} (h : w.heap[b]? = some o) : ({ w with heap := w.heap.setIfInBounds b o' } : World).heap[b]? = some o' := by
  have := (Array.getElem?_eq_some_iff.1 h).1
  simp [this]

/-- 'm[a] = v'. -/
theorem MapT.store (h : MapT ok ek ev w b L) (K : Maps.Keyed P k) (O : KeyOk P k ok ek) (ht : P.underlying t = some (.map k e)) {a : α} (ha : ok a) (v : β) :
    ∃ w', (Instr.mapUpdate t (.map (some b)) (ek a) (ev v)).run P w = .ok () w' ∧ MapT ok ek ev w' b (upd L a v) ∧ Chg [b] w w' ∧ w'.heap.size = w.heap.size := by
  obtain ⟨es, clock, h1, h2, h3, h4, h5, h6⟩ := h
  rcases MapT.find (w := w) K O h2 h3 h4 ha with ⟨f1, f2⟩ | ⟨j, v', e0, f1, f2, f3, f4, f5⟩
  · refine ⟨{ w with heap := w.heap.setIfInBounds b (.map (es.push ⟨ek a, ev v, clock⟩) (clock + 1)) }, ?_, ⟨_, _, heap_setObj h1, ?_, ?_, ?_, ?_, ?_⟩, chg_setObj _ _ _, by simp⟩
    · simp [Instr.mapUpdate, run_underlying ht, MapKept.run_getObj_map h1, MapT.check K O ha, f1, MapKept.run_setObj_map _ h1, Result.andThen]
    · simp [upd, f2, h2]
    · simp only [upd, f2, Option.isSome_none, Bool.false_eq_true, if_false, List.mem_append, List.mem_singleton]
      rintro p (hp | rfl)
      · exact h3 p hp
      · exact ha
    · simp only [upd, f2, Option.isSome_none, Bool.false_eq_true, if_false, List.map_append, List.map_cons, List.map_nil]
      rw [List.nodup_append]
      refine ⟨h4, by simp, ?_⟩
      intro x hx y hy
      simp only [List.mem_singleton] at hy
      subst hy
      obtain ⟨p, hp, rfl⟩ := List.mem_map.1 hx
      exact asc_none.1 f2 p hp
    · rw [Array.toList_push, List.pairwise_append]
      exact ⟨h5, by simp, fun x hx y hy => by simp only [List.mem_singleton] at hy; subst hy; exact h6 x hx⟩
    · intro x hx
      rw [Array.toList_push, List.mem_append] at hx
      rcases hx with hx | hx
      · have := h6 x hx; omega
      · simp only [List.mem_singleton] at hx; subst hx; show clock < clock + 1; omega
  · have hjj : j < es.size := by
      rcases Nat.lt_or_ge j es.size with h' | h'
      · exact h'
      · simp [Array.getElem?_eq_none h'] at f4
    have hes : es[j]? = some e0 := by simpa using f4
    obtain ⟨lx, hx⟩ := O.reads a ha
    have hmod : (es.modify j fun e => { e with key := ek a, val := ev v }).toList = es.toList.set j { e0 with key := ek a, val := ev v } := by
      apply List.ext_getElem?
      intro i
      rw [List.getElem?_set]
      simp only [Array.getElem?_toList, Array.getElem?_modify]
      by_cases hij : j = i
      · subst hij
        have hb : es[j].born = e0.born := by rw [Array.getElem?_eq_getElem hjj, Option.some.injEq] at hes; rw [hes]
        simp [hjj, hb]
      · simp [hij]
    refine ⟨{ w with heap := w.heap.setIfInBounds b (.map (es.modify j fun e => { e with key := ek a, val := ev v }) clock) }, ?_, ⟨_, _, heap_setObj h1, ?_, ?_, ?_, ?_, ?_⟩, chg_setObj _ _ _, by simp⟩
    · simp [Instr.mapUpdate, run_underlying ht, MapKept.run_getObj_map h1, MapT.check K O ha, f1, MapKept.run_setObj_map _ h1, Result.andThen, hes, f5, K.stays w hx]
    · rw [hmod, List.map_set, h2, upd_at h4 f3, List.map_set]
    · intro p hp
      rw [upd_at h4 f3] at hp
      rcases List.mem_or_eq_of_mem_set hp with h | h
      · exact h3 p h
      · rw [h]; exact ha
    · rw [upd_at h4 f3, keys_set f3]; exact h4
    · rw [hmod]
      have : (es.toList.set j { e0 with key := ek a, val := ev v }).map (·.born) = es.toList.map (·.born) := by
        rw [List.map_set]
        apply List.ext_getElem?
        intro i
        rw [List.getElem?_set, List.getElem?_map]
        split
        · rename_i h; subst h
          rw [f4]; simp [hjj]
        · rfl
      have h5' : (es.toList.map (·.born)).Pairwise (· < ·) := List.pairwise_map.2 h5
      rw [← this] at h5'
      exact List.pairwise_map.1 h5'
    · intro x hx
      rw [hmod] at hx
      rcases List.mem_or_eq_of_mem_set hx with h | h
      · exact h6 x h
      · rw [h]; exact h6 e0 (List.mem_of_getElem? f4)

/-- 'delete(m, a)'. -/
theorem MapT.drop (h : MapT ok ek ev w b L) (K : Maps.Keyed P k) (O : KeyOk P k ok ek) (ht : P.underlying t = some (.map k e)) {a : α} (ha : ok a) (ty : TypeId) :
    ∃ w', (Builtin.delete_ #[t, k] ty #[.map (some b), ek a]).run P w = .ok (.tuple #[]) w' ∧ MapT ok ek ev w' b (del L a) ∧ Chg [b] w w' ∧ w'.heap.size = w.heap.size := by
  obtain ⟨es, clock, h1, h2, h3, h4, h5, h6⟩ := h
  rcases MapT.find (w := w) K O h2 h3 h4 ha with ⟨f1, f2⟩ | ⟨j, v', e0, f1, f2, f3, f4, f5⟩
  · refine ⟨{ w with heap := w.heap.setIfInBounds b (.map es clock) }, ?_, ⟨es, clock, heap_setObj h1, ?_, ?_, ?_, h5, h6⟩, chg_setObj _ _ _, by simp⟩
    · simp [Builtin.delete_, run_underlying ht, MapKept.run_getObj_map h1, MapT.check K O ha, f1, MapKept.run_setObj_map _ h1, Result.andThen]
    all_goals rw [del_none (asc_none.1 f2)]; assumption
  · have hjj : j < es.size := by
      rcases Nat.lt_or_ge j es.size with h' | h'
      · exact h'
      · simp [Array.getElem?_eq_none h'] at f4
    have her : (es.eraseIdxIfInBounds j).toList = es.toList.eraseIdx j := by simp [Array.eraseIdxIfInBounds, hjj]
    refine ⟨{ w with heap := w.heap.setIfInBounds b (.map (es.eraseIdxIfInBounds j) clock) }, ?_, ⟨_, _, heap_setObj h1, ?_, ?_, ?_, ?_, ?_⟩, chg_setObj _ _ _, by simp⟩
    · simp [Builtin.delete_, run_underlying ht, MapKept.run_getObj_map h1, MapT.check K O ha, f1, MapKept.run_setObj_map _ h1, Result.andThen]
    · rw [her, ChangeMaps.map_eraseIdx, h2, del_at h4 f3, ChangeMaps.map_eraseIdx]
    · intro p hp; exact h3 p (List.mem_filter.1 hp).1
    · rw [del_at h4 f3, ChangeMaps.map_eraseIdx]; exact h4.sublist (List.eraseIdx_sublist _ _)
    · rw [her]; exact h5.sublist (List.eraseIdx_sublist _ _)
    · intro x hx; rw [her] at hx; exact h6 x ((List.eraseIdx_sublist _ _).subset hx)

omit [DecidableEq α] in
/-- 'len(m)'. -/
theorem MapT.len (h : MapT ok ek ev w b L) (ht : P.underlying t = some (.map k e)) (ty : TypeId) : (Builtin.len_ #[t] ty #[.map (some b)]).run P w = .ok (.int .i64 L.length) w := by
  obtain ⟨es, clock, h1, h2, _⟩ := h
  have : es.size = L.length := by have := congrArg List.length h2; simpa using this
  simp [Builtin.len_, run_underlying ht, MapKept.run_getObj_map h1, goInt, Result.andThen, this]

omit [DecidableEq α] in
/-- 'clear(m)'. -/
theorem MapT.clear (h : MapT ok ek ev w b L) (ht : P.underlying t = some (.map k e)) (ty : TypeId) :
    ∃ w', (Builtin.clear_ #[t] ty #[.map (some b)]).run P w = .ok (.tuple #[]) w' ∧ MapT ok ek ev w' b ([] : List (α × β)) ∧ Chg [b] w w' ∧ w'.heap.size = w.heap.size := by
  obtain ⟨es, clock, h1, _⟩ := h
  refine ⟨{ w with heap := w.heap.setIfInBounds b (.map #[] clock) }, ?_, ⟨#[], clock, heap_setObj h1, by simp, by simp, by simp, by simp, by simp⟩, chg_setObj _ _ _, by simp⟩
  simp [Builtin.clear_, run_underlying ht, MapKept.run_getObj_map h1, MapKept.run_setObj_map _ h1, Result.andThen]
end

end
end Go.Proofs.Ytmagpdbnefbfkaa
