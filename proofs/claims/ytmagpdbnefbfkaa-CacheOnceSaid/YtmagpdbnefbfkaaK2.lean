/- A map as a list of pairs, and a loop that ranges over it. -/
import Derived.Test.YtmagpdbnefbfkaaKit
import Derived.Maps.RangeWalk
namespace Go.Proofs.Ytmagpdbnefbfkaa
open Go Go.RowKit Go.ChangeMaps

variable {α β : Type} {P : Program} {k : TypeId} {ok : α → Prop} {ek : α → Value} {ev : β → Value}

/-- Block r is an iterator over the map in block b; the pairs 'rest' are still to come. -/
def RangeT (ok : α → Prop) (ek : α → Value) (ev : β → Value) (w : World) (b r : Nat) (L rest : List (α × β)) : Prop :=
  ∃ (es : Array MapEntry) (clock since : Nat) (seen : Array Nat) (c0 : Nat), w.heap[b]? = some (.map es clock) ∧ es.toList.map (fun e => (e.key, e.val)) = L.map (fun p => (ek p.1, ev p.2)) ∧ (∀ p ∈ L, ok p.1) ∧ (L.map (·.1)).Nodup ∧
    es.toList.Pairwise (fun x y => x.born < y.born) ∧ (∀ x ∈ es.toList, x.born < clock) ∧ w.heap[r]? = some (.mapIter (some b) since seen c0) ∧ (∀ x ∈ es.toList, x.born < since) ∧ since ≤ c0 ∧ since ≤ clock ∧
    (leftOf es seen).toList.map (fun e => (e.key, e.val)) = rest.map (fun p => (ek p.1, ev p.2)) ∧ rest.Sublist L

theorem RangeT.lt {w : World} {b r : Nat} {L rest : List (α × β)} (h : RangeT ok ek ev w b r L rest) : b < w.heap.size ∧ r < w.heap.size ∧ r ≠ b := by
  obtain ⟨es, clock, since, seen, c0, h1, h2, h3, h4, h5, h6, h7, _⟩ := h
  refine ⟨(Array.getElem?_eq_some_iff.1 h1).1, (Array.getElem?_eq_some_iff.1 h7).1, fun e => ?_⟩
  rw [e, h1] at h7; cases h7

theorem RangeT.chg {S : List Nat} {w w' : World} {b r : Nat} {L rest : List (α × β)} (h : RangeT ok ek ev w b r L rest) (hc : Chg S w w') (hb : b ∉ S) (hr : r ∉ S) : RangeT ok ek ev w' b r L rest := by
  obtain ⟨l1, l2, _⟩ := h.lt
  obtain ⟨es, clock, since, seen, c0, h1, h2, h3, h4, h5, h6, h7, h8⟩ := h
  exact ⟨es, clock, since, seen, c0, (hc.block b l1 hb).trans h1, h2, h3, h4, h5, h6, (hc.block r l2 hr).trans h7, h8⟩

theorem RangeT.left_eq {w : World} {b r : Nat} {L rest : List (α × β)} (h : RangeT ok ek ev w b r L rest) : w.rangeLeft b r = rest.length := by
  obtain ⟨es, clock, since, seen, c0, h1, h2, h3, h4, h5, h6, h7, h8, h9, h10, h11, h12⟩ := h
  simp only [World.rangeLeft, h1, h7]
  have := congrArg List.length h11
  simpa using this

theorem filter_eraseIdx {γ δ : Type} [DecidableEq δ] (f : γ → δ) : ∀ {l : List γ} (_ : (l.map f).Nodup) {j : Nat} {e : γ} (_ : l[j]? = some e), l.filter (fun x => decide (f x ≠ f e)) = l.eraseIdx j
  | [], _, j, e, hj => by simp at hj
  | x :: l, hn, j, e, hj => by
    rw [List.map_cons, List.nodup_cons] at hn
    cases j with
    | zero =>
      simp at hj; subst hj
      simp only [ne_eq, not_true_eq_false, decide_false, Bool.false_eq_true, not_false_eq_true, List.filter_cons_of_neg, List.eraseIdx_cons_zero]
      exact List.filter_eq_self.2 (fun q hq => by
        have : f q ≠ f x := fun he => hn.1 (List.mem_map.2 ⟨q, hq, he⟩)
        simpa using this)
    | succ j =>
      have hj' : l[j]? = some e := by simpa using hj
      have hne : f x ≠ f e := fun he => hn.1 (List.mem_map.2 ⟨e, List.mem_of_getElem? hj', he.symm⟩)
      rw [List.filter_cons_of_pos (by simpa using hne), List.eraseIdx_cons_succ, filter_eraseIdx f hn.2 hj']

theorem left_push (es : Array MapEntry) (seen : Array Nat) (n : Nat) : (leftOf es (seen.push n)).toList = (leftOf es seen).toList.filter (fun x => decide (x.born ≠ n)) := by
  unfold leftOf
  rw [Array.toList_filter, Array.toList_filter, List.filter_filter]
  apply List.filter_congr
  intro x _
  by_cases h : x.born = n <;> cases hs : seen.contains x.born <;> simp_all

theorem MapT.range [DecidableEq α] {w : World} {b : Nat} {L : List (α × β)} {t e : TypeId} (h : MapT ok ek ev w b L) (ht : P.underlying t = some (.map k e)) :
    ∃ o, (Instr.range t (.map (some b))).run P w = .ok (.pointer (some ⟨w.heap.size, 0, none⟩)) (w.alloc o) ∧ RangeT ok ek ev (w.alloc o) b w.heap.size L L := by
  obtain ⟨es, clock, h1, h2, h3, h4, h5, h6⟩ := h
  refine ⟨_, run_range_map w t k e b es clock ht h1, es, clock, clock, #[], clock, ?_, h2, h3, h4, h5, h6, heap_alloc_new w _, h6, Nat.le_refl _, Nat.le_refl _, ?_, List.Sublist.refl _⟩
  · exact (Below.heap_alloc _ _ _ (Array.getElem?_eq_some_iff.1 h1).1).trans h1
  · rw [← h2]
    congr 1
    unfold leftOf
    simp

theorem RangeT.next [DecidableEq α] {w : World} {b r : Nat} {L rest : List (α × β)} (h : RangeT ok ek ev w b r L rest) (ty : TypeId) :
    (rest = [] ∧ (Instr.next (.pointer (some ⟨r, 0, none⟩)) false ty).run P w = .ok (.tuple #[.bool false]) w) ∨
    ∃ a v w', (a, v) ∈ rest ∧ (Instr.next (.pointer (some ⟨r, 0, none⟩)) false ty).run P w = .ok (.tuple #[.bool true, ek a, ev v]) w' ∧ RangeT ok ek ev w' b r L (del rest a) ∧ Chg [r] w w' ∧
      (Instr.entry (.pointer (some ⟨r, 0, none⟩))).run P w' = .ok (.tuple #[ek a, ev v]) w' := by
  have hne := h.lt.2.2
  obtain ⟨es, clock, since, seen, c0, h1, h2, h3, h4, h5, h6, h7, h8, h9, h10, h11, h12⟩ := h
  have hnd : (rest.map (·.1)).Nodup := h4.sublist (h12.map _)
  rcases run_next_at (P := P) w ty r b since c0 seen es clock h7 h1 h8 h9 with ⟨h0, hrun⟩ | ⟨e, he, w1, hal, hrun⟩
  · refine .inl ⟨?_, hrun⟩
    have := congrArg List.length h11
    simp only [List.length_map, Array.length_toList, h0] at this
    exact List.eq_nil_of_length_eq_zero this.symm
  · right
    obtain ⟨j, hj, hje⟩ := List.getElem_of_mem he
    have hj' : (leftOf es seen).toList[j]? = some e := by rw [List.getElem?_eq_getElem hj, hje]
    obtain ⟨⟨a, v⟩, hp, hk, hv⟩ := entry_at (es := leftOf es seen) h11 hj'
    dsimp only at hk hv
    obtain ⟨hem, hes⟩ := mem_left he
    have hr1 : w1.heap[r]? = some (.mapIter (some b) since seen c0) := by rcases hal with rfl | rfl <;> exact h7
    have hb1 : w1.heap[b]? = some (.map es clock) := by rcases hal with rfl | rfl <;> exact h1
    have hrl := (Array.getElem?_eq_some_iff.1 hr1).1
    have hset : (setBlock w1 r (.mapIter (some b) since (seen.push e.born) clock)).heap[r]? = some (.mapIter (some b) since (seen.push e.born) clock) := by simp [setBlock, hrl]
    have hb' : (setBlock w1 r (.mapIter (some b) since (seen.push e.born) clock)).heap[b]? = some (.map es clock) := by simp [setBlock, hne, hb1]
    have hbn : (es.toList.map (·.born)).Nodup := by
      rw [List.nodup_iff_pairwise_ne, List.pairwise_map]
      exact h5.imp (fun h => Nat.ne_of_lt h)
    have hln : ((leftOf es seen).toList.map (·.born)).Nodup := by
      refine hbn.sublist (List.Sublist.map _ ?_)
      unfold leftOf
      rw [Array.toList_filter]
      exact List.filter_sublist
    rw [hk, hv] at hrun
    refine ⟨a, v, _, List.mem_of_getElem? hp, hrun, ⟨es, clock, since, seen.push e.born, clock, hb', h2, h3, h4, h5, h6, hset, h8, h10, h10, ?_, ?_⟩, ?_, ?_⟩
    · rw [left_push, filter_eraseIdx (fun x : MapEntry => x.born) hln hj', ChangeMaps.map_eraseIdx, h11, ← ChangeMaps.map_eraseIdx, del_at hnd hp]
    · exact (List.filter_sublist).trans h12
    · rcases hal with rfl | rfl
      · exact ⟨rfl, rfl, rfl, by simp [setBlock], fun i _ hi => by simp only [List.mem_singleton] at hi; simp [setBlock, Ne.symm hi]⟩
      · exact ⟨rfl, rfl, rfl, by simp [setBlock], fun i _ hi => by simp only [List.mem_singleton] at hi; simp [setBlock, Ne.symm hi]; rfl⟩
    · have := run_entry_at (P := P) _ r b since seen es clock e hset hb' hem hbn
      rw [hk, hv] at this
      exact this

section
variable {ops : Array Oper} {rs : List Oper} {o : Oper} {x : Act} {Q : Exit → Act → World → Prop}

/-- The step of such a loop. -/
theorem wpList_next_T [DecidableEq α] (w : World) (hg : o.guard = none) (it : Operand) (hop : o.op = Op.next it false) (b r : Nat) (L rest : List (α × β)) (hit : x.eval it = .pointer (some ⟨r, 0, none⟩)) (h : RangeT ok ek ev w b r L rest)
    (hDone : rest = [] → wpList P ops Q rs (x.put o.dst (.tuple #[.bool false])) w)
    (hMore : ∀ a v w', (a, v) ∈ rest → RangeT ok ek ev w' b r L (del rest a) → Chg [r] w w' → (Instr.entry (.pointer (some ⟨r, 0, none⟩))).run P w' = .ok (.tuple #[ek a, ev v]) w' →
      wpList P ops Q rs (x.put o.dst (.tuple #[.bool true, ek a, ev v])) w') :
    wpList P ops Q (o :: rs) x w := by
  refine wpList_plain hg fun K' hK' => ?_
  unfold Oper.wp
  rcases h.next (P := P) o.type with ⟨h0, hrun⟩ | ⟨a, v, w', hm, hrun, h1, h2, h3⟩
  · simp only [execOp, hop, hit, Sem.run_bind, Sem.run_pure, Result.andThen, hrun]
    exact hK' _ _ (hDone h0)
  · simp only [execOp, hop, hit, Sem.run_bind, Sem.run_pure, Result.andThen, hrun]
    exact hK' _ _ (hMore a v w' hm h1 h2 h3)
end

/-- What has been copied, when what is still to come loses one. -/
theorem copied_step [DecidableEq α] {L rest N : List (α × β)} (hn : (L.map (·.1)).Nodup) (hs : rest.Sublist L) (h : ∀ b u, asc N b = some u ↔ (b, u) ∈ L ∧ (b, u) ∉ rest) {a : α} {v : β} (hm : (a, v) ∈ rest) :
    ∀ b u, asc (upd N a v) b = some u ↔ (b, u) ∈ L ∧ (b, u) ∉ del rest a := by
  intro b u
  rw [asc_upd]
  by_cases hab : a = b
  · subst hab
    rw [if_pos rfl]
    have hv := (asc_some hn).2 (hs.subset hm)
    constructor
    · intro e
      cases e
      exact ⟨hs.subset hm, fun h' => by simp [del] at h'⟩
    · rintro ⟨h1, _⟩
      rw [← hv, (asc_some hn).2 h1]
  · rw [if_neg hab, h b u]
    simp [del, Ne.symm hab]

end Go.Proofs.Ytmagpdbnefbfkaa
