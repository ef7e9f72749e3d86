/- Plain laws on what a cache holds: asking keeps it whole, a new one is whole, a cleared one is whole; the document's insertions sort. -/
import Derived.Test.YtmagpdbnefbfkaaW18
namespace Go.Proofs.Ytmagpdbnefbfkaa
open Go Go.RowKit

def insR (x : Int) : List Int → List Int
  | [] => [x]
  | y :: r => if x < y then x :: y :: r else y :: insR x r

theorem fold_true (x : Int) : ∀ (zs acc : List Int), zs.foldl (insStep x) (acc, true) = (acc ++ zs, true)
  | [], acc => by simp
  | y :: r, acc => by
    rw [List.foldl_cons]
    have : insStep x (acc, true) y = (acc ++ [y], true) := by simp [insStep]
    rw [this, fold_true x r]
    simp

theorem fold_false (x : Int) : ∀ (zs acc : List Int), (if (zs.foldl (insStep x) (acc, false)).2 then (zs.foldl (insStep x) (acc, false)).1 else (zs.foldl (insStep x) (acc, false)).1 ++ [x]) = acc ++ insR x zs
  | [], acc => by simp [insR]
  | y :: r, acc => by
    rw [List.foldl_cons]
    by_cases h : x < y
    · have : insStep x (acc, false) y = (acc ++ [x] ++ [y], true) := by simp [insStep, h]
      rw [this, fold_true]
      simp [insR, h]
    · have : insStep x (acc, false) y = (acc ++ [y], false) := by simp [insStep, h]
      rw [this, fold_false x r]
      simp [insR, h]

theorem insF_eq (x : Int) (zs : List Int) : insF x zs = insR x zs := by
  have := fold_false x zs []
  unfold insF insTo
  rw [List.take_length]
  simpa using this

theorem insR_perm (x : Int) : ∀ zs : List Int, (insR x zs).Perm (x :: zs)
  | [] => List.Perm.refl _
  | y :: r => by
    unfold insR
    split
    · exact List.Perm.refl _
    · exact ((insR_perm x r).cons y).trans (List.Perm.swap x y r)

theorem insR_sorted (x : Int) : ∀ zs : List Int, zs.Pairwise (· ≤ ·) → (insR x zs).Pairwise (· ≤ ·)
  | [], _ => by simp [insR]
  | y :: r, h => by
    obtain ⟨h1, h2⟩ := List.pairwise_cons.1 h
    unfold insR
    split
    · rename_i hx
      refine List.pairwise_cons.2 ⟨fun z hz => ?_, h⟩
      rcases List.mem_cons.1 hz with rfl | hz
      · omega
      · have := h1 z hz; omega
    · rename_i hx
      refine List.pairwise_cons.2 ⟨fun z hz => ?_, insR_sorted x r h2⟩
      rcases List.mem_cons.1 ((insR_perm x r).mem_iff.1 hz) with rfl | hz
      · omega
      · exact h1 z hz

theorem outs (d : List Int) : ∀ l : List Int, l.Pairwise (· ≤ ·) → (d.foldl (fun l x => insF x l) l).Pairwise (· ≤ ·) ∧ (d.foldl (fun l x => insF x l) l).Perm (l ++ d) := by
  induction d with
  | nil => intro l h; simpa using h
  | cons x d ih =>
    intro l h
    rw [List.foldl_cons]
    have h1 : (insF x l).Pairwise (· ≤ ·) := by rw [insF_eq]; exact insR_sorted x l h
    obtain ⟨a, b⟩ := ih _ h1
    refine ⟨a, b.trans ?_⟩
    rw [insF_eq]
    exact ((insR_perm x l).append_right d).trans (List.perm_middle.symm)

theorem sorted_pairwise (l : List Int) : (sorted l).Pairwise (· ≤ ·) := by
  have := List.pairwise_mergeSort (le := fun a b : Int => decide (a ≤ b)) (by intro a b c; simp; omega) (by intro a b; simp; omega) l
  exact this.imp (by simp)

theorem outTo_all (σ : St) : σ.outTo σ.pl.length = sorted σ.dirty := by
  unfold St.outTo
  rw [dirtyTo_all]
  obtain ⟨a, b⟩ := outs σ.dirty [] List.Pairwise.nil
  refine List.Perm.eq_of_pairwise (le := (· ≤ ·)) (fun a b _ _ h1 h2 => by omega) a (sorted_pairwise _) ?_
  rw [List.nil_append] at b
  exact b.trans (List.mergeSort_perm _ _).symm

/-! ### Whole -/
theorem WP.withPl {σ : St} (h : WP σ) {n : Nat} {p q : Pl} (hp : σ.pl[n]? = some p) (h1 : q.is = p.is) (h2 : q.line = p.line) (h0 : q.is = false → q = Pl.zero) : WP { σ with pl := σ.pl.set n q } := by
  refine ⟨h.sets1, h.sets2, h.ways1, h.ways2, by simpa using h.len, ?_, ?_, ?_⟩
  · intro i p' hp' hi
    rcases set_get hp' with ⟨rfl, rfl, _⟩ | ⟨_, hp''⟩
    · exact h0 hi
    · exact h.pl0 i p' hp'' hi
  · intro i p' hp' hi
    rcases set_get hp' with ⟨rfl, rfl, _⟩ | ⟨_, hp''⟩
    · rw [h1] at hi; rw [h2]; exact h.pl1 _ p hp hi
    · exact h.pl1 i p' hp'' hi
  · intro i j a b ha hb hia hib hl
    rcases set_get ha with ⟨rfl, rfl, _⟩ | ⟨hn, ha'⟩
    · rcases set_get hb with ⟨rfl, rfl, _⟩ | ⟨hn', hb'⟩
      · rfl
      · exact h.one _ _ p b hp hb' (by rw [← h1]; exact hia) hib (by rw [← h2]; exact hl)
    · rcases set_get hb with ⟨rfl, rfl, _⟩ | ⟨hn', hb'⟩
      · exact h.one _ _ a p ha' hp hia (by rw [← h1]; exact hib) (by rw [← h2]; exact hl)
      · exact h.one _ _ a b ha' hb' hia hib hl

theorem WF.ask {σ : St} (h : WF σ) {at_ : Int} (hat : 0 ≤ at_ ∧ at_ < 18446744073709551616) (wr : Bool) : WF (σ.ask at_ wr).1 := by
  have hl : 0 ≤ at_ / 64 ∧ at_ / 64 < 288230376151711744 := by omega
  unfold St.ask
  cases hf : σ.pl.findIdx? (Pl.has (at_ / 64)) with
  | some n =>
    obtain ⟨p, hp, _, hq⟩ := found_at hf
    simp only [Pl.has, Bool.and_eq_true, beq_iff_eq] at hq
    dsimp only
    rw [modify_at hp]
    have hw := h.toWP.withPl (q := { p with wr := p.wr || wr }) hp rfl rfl (fun e => by rw [show ({ p with wr := p.wr || wr } : Pl).is = p.is from rfl, hq.1] at e; cases e)
    refine { hw with sl1 := h.sl1, sl2 := h.sl2, del1 := h.del1, del2 := h.del2, sl0 := h.sl0, sl3 := h.sl3, sone := h.sone, apart := ?_ }
    intro i j s q hs hj hsi hqi
    rcases set_get hj with ⟨rfl, rfl, _⟩ | ⟨_, hj'⟩
    · exact h.apart i _ s p hs hp hsi hq.1
    · exact h.apart i j s q hs hj' hsi hqi
  | none =>
    cases hi : σ.sl.findIdx? (Sl.has (at_ / 64)) with
    | some i =>
      obtain ⟨s, hs, _, hq⟩ := found_at hi
      simp only [Sl.has, Bool.and_eq_true, beq_iff_eq] at hq
      dsimp only
      rw [modify_at hs]
      have h3 := h.sl3 i s hs hq.1
      exact h.turn (t := { s with wr := s.wr || wr }) hs (fun e => by rw [show ({ s with wr := s.wr || wr } : Sl).is = s.is from rfl, hq.1] at e; cases e) (fun _ => ⟨hq.1, rfl, h3.2.2.1, h3.2.2.2⟩)
    | none =>
      dsimp only
      cases hfr : σ.sl.findIdx? Sl.free with
      | none => exact h
      | some i =>
        obtain ⟨s, hs, _, hq⟩ := found_at hfr
        dsimp only
        have nopl : ∀ (j : Nat) p, σ.pl[j]? = some p → p.is = true → p.line ≠ at_ / 64 := by
          intro j p hp hpi e
          rw [List.findIdx?_eq_none_iff] at hf
          have := hf p (List.mem_of_getElem? hp)
          simp [Pl.has, hpi, e] at this
        have nosl : ∀ (j : Nat) t, σ.sl[j]? = some t → t.is = true → t.line ≠ at_ / 64 := by
          intro j t ht hti e
          rw [List.findIdx?_eq_none_iff] at hi
          have := hi t (List.mem_of_getElem? ht)
          simp [Sl.has, hti, e] at this
        refine { h.toWP.slots (σ.sl.set i ⟨at_ / 64, true, wr, σ.delay⟩) with sl1 := by simpa using h.sl1, sl2 := by simpa using h.sl2, del1 := h.del1, del2 := h.del2, sl0 := ?_, sl3 := ?_, sone := ?_, apart := ?_ }
        · intro j u hu hui
          rcases set_get hu with ⟨_, rfl, _⟩ | ⟨_, hu'⟩
          · cases hui
          · exact h.sl0 j u hu' hui
        · intro j u hu hui
          rcases set_get hu with ⟨_, rfl, _⟩ | ⟨_, hu'⟩
          · have a := h.del1; have b := h.del2
            exact ⟨hl.1, hl.2, by dsimp only; omega, by dsimp only; omega⟩
          · exact h.sl3 j u hu' hui
        · intro j k u v hu hv hui hvi he
          rcases set_get hu with ⟨rfl, rfl, _⟩ | ⟨_, hu'⟩
          · rcases set_get hv with ⟨rfl, rfl, _⟩ | ⟨_, hv'⟩
            · rfl
            · exact absurd he.symm (nosl k v hv' hvi)
          · rcases set_get hv with ⟨rfl, rfl, _⟩ | ⟨_, hv'⟩
            · exact absurd he (nosl j u hu' hui)
            · exact h.sone j k u v hu' hv' hui hvi he
        · intro j k u p hu hp hui hpi
          rcases set_get hu with ⟨rfl, rfl, _⟩ | ⟨_, hu'⟩
          · exact (nopl k p hp hpi).symm
          · exact h.apart j k u p hu' hp hui hpi

theorem zero_wf (σ : St) (h1 : 1 ≤ σ.sets) (h2 : σ.sets ≤ 64) (h3 : 1 ≤ σ.ways) (h4 : σ.ways ≤ 8) (h5 : σ.pl.length = σ.sets * σ.ways) (h6 : 1 ≤ σ.sl.length) (h7 : σ.sl.length ≤ 8) (h8 : 1 ≤ σ.delay) (h9 : σ.delay ≤ 64)
    (hp : ∀ p ∈ σ.pl, p = Pl.zero) (hs : ∀ s ∈ σ.sl, s = Sl.zero) : WF σ := by
  have hp' : ∀ (i : Nat) p, σ.pl[i]? = some p → p = Pl.zero := fun i p h => hp p (List.mem_of_getElem? h)
  have hs' : ∀ (i : Nat) s, σ.sl[i]? = some s → s = Sl.zero := fun i s h => hs s (List.mem_of_getElem? h)
  refine { sets1 := h1, sets2 := h2, ways1 := h3, ways2 := h4, len := h5, pl0 := fun i p h _ => hp' i p h, pl1 := ?_, one := ?_, sl1 := h6, sl2 := h7, del1 := h8, del2 := h9, sl0 := fun i s h _ => hs' i s h, sl3 := ?_, sone := ?_, apart := ?_ }
  · intro i p h hi; rw [hp' i p h] at hi; cases hi
  · intro i j p q h _ hi; rw [hp' i p h] at hi; cases hi
  · intro i s h hi; rw [hs' i s h] at hi; cases hi
  · intro i j s t h _ hi; rw [hs' i s h] at hi; cases hi
  · intro i j s p h _ hi; rw [hs' i s h] at hi; cases hi

theorem WF.new {sets ways slots delay : Nat} {seed : Int} (hs : isSets sets) (h1 : 1 ≤ ways) (h2 : ways ≤ 8) (h3 : 1 ≤ slots) (h4 : slots ≤ 8) (h5 : 1 ≤ delay) (h6 : delay ≤ 64) : WF (St.new sets ways slots delay seed) := by
  have hs1 : 1 ≤ sets ∧ sets ≤ 64 := by unfold isSets at hs; omega
  refine zero_wf _ hs1.1 hs1.2 h1 h2 (by simp [St.new]) (by simpa [St.new] using h3) (by simpa [St.new] using h4) h5 h6 ?_ ?_
  · intro p hp; exact (List.mem_replicate.1 hp).2
  · intro s hs; exact (List.mem_replicate.1 hs).2

theorem WF.cleared {σ : St} (h : WF σ) : WF σ.clear := by
  refine zero_wf _ h.sets1 h.sets2 h.ways1 h.ways2 (by simpa [St.clear] using h.len) (by simpa [St.clear] using h.sl1) (by simpa [St.clear] using h.sl2) h.del1 h.del2 ?_ ?_
  · intro p hp
    obtain ⟨_, _, rfl⟩ := List.mem_map.1 hp; rfl
  · intro p hp
    obtain ⟨_, _, rfl⟩ := List.mem_map.1 hp; rfl

end Go.Proofs.Ytmagpdbnefbfkaa
