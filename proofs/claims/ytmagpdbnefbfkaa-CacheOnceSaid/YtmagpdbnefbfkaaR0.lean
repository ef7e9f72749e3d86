/- The arguments of the two laws, opened: a shape (five numbers), a slice of steps (a number, a number, a truth value each). -/
import Derived.Test.YtmagpdbnefbfkaaW22
import Derived.ProofKit
import Derived.OpenShut
import Derived.ChangeOld
import Derived.Below
import Derived.Deep.Slices
import Derived.Deep.Fields
import Derived.ChangeSame
import Derived.SizedLaws
import Derived.Lib.SmallJoins
namespace Go.Proofs.Ytmagpdbnefbfkaa
open Go Go.Joins Go.ChangeShapes Go.WideShapes Go.RowKit Go.Deep

section
variable {H : Type} {enc : TypeId × Value → H} {P : Program} {w : World} {base : Nat} {spare : Nat → Bool} {held : Bool}
theorem open_agg5 {r : Reach} {b0 : Nat} {t : TypeId} {f0 f1 f2 f3 f4 : Field} {v : Value} {d : DataW H} {p : List MemPlace} (hs : P.underlying t = some (.struct #[f0, f1, f2, f3, f4])) (hone : oneCellFields P #[f0, f1, f2, f3, f4] = true) (hC : P.cellsOf t = 5)
    (hv : Value.okWide P w r b0 t v) (h : DataW.Trod enc P w base spare held t v d p) :
    ∃ (v0 v1 v2 v3 v4 : Value) (y0 y1 y2 y3 y4 : DataW H × List MemPlace) (n : Nat), v = .agg #[v0, v1, v2, v3, v4] ∧ d = .agg [y0.1, y1.1, y2.1, y3.1, y4.1] ∧ p = y0.2 ++ (y1.2 ++ (y2.2 ++ (y3.2 ++ y4.2))) ∧
      DataW.trod enc P w base spare held n f0.type [v0] = some y0 ∧ DataW.trod enc P w base spare held n f1.type [v1] = some y1 ∧ DataW.trod enc P w base spare held n f2.type [v2] = some y2 ∧ DataW.trod enc P w base spare held n f3.type [v3] = some y3 ∧ DataW.trod enc P w base spare held n f4.type [v4] = some y4 := by
  obtain ⟨cs, rfl, hsz⟩ := okWide_struct hs hv
  obtain ⟨l⟩ := cs
  match l, hsz.trans hC with
  | [c0, c1, c2, c3, c4], _ =>
    obtain ⟨fuel, hf⟩ := h
    obtain ⟨xs, n, _, hx, _, hlen, hg⟩ := DataW.trod_struct hs hf
    obtain ⟨o0, k0⟩ := hone_of hone 0 f0 rfl
    obtain ⟨o1, k1⟩ := hone_of hone 1 f1 rfl
    obtain ⟨o2, k2⟩ := hone_of hone 2 f2 rfl
    obtain ⟨o3, k3⟩ := hone_of hone 3 f3 rfl
    obtain ⟨o4, k4⟩ := hone_of hone 4 f4 rfl
    match xs, hlen with
    | [y0, y1, y2, y3, y4], _ =>
      simp only [Prod.mk.injEq] at hx
      exact ⟨c0, c1, c2, c3, c4, y0, y1, y2, y3, y4, n, rfl, by simpa using hx.1, by simpa using hx.2, by simpa [Value.cells, o0, k0] using hg 0 f0 rfl, by simpa [Value.cells, o1, k1] using hg 1 f1 rfl, by simpa [Value.cells, o2, k2] using hg 2 f2 rfl, by simpa [Value.cells, o3, k3] using hg 3 f3 rfl, by simpa [Value.cells, o4, k4] using hg 4 f4 rfl⟩

theorem open_slice_fields {t e : TypeId} {fs : Array Field} {fuel : Nat} {cs : List Value} {x : DataW H × List MemPlace} (ht : P.underlying t = some (.slice e)) (he : P.underlying e = some (.struct fs))
    (hone : oneCellFields P fs = true) (hC : P.cellsOf e = fs.size) (h : DataW.trod enc P w base spare held fuel t cs = some x) :
    (cs = [.slice none 0 0] ∧ x = (.nil, [])) ∨
    ∃ (a : Addr) (len cap m : Nat) (D : Nat → DataW H) (Pl : Nat → List MemPlace), cs = [.slice (some a) len cap] ∧ base ≤ a.block ∧ len ≤ cap ∧ cap ≤ maxLen ∧ m = (if spare a.block then cap else len) ∧
      x = (.slice ((List.range len).map D) ((List.range (m - len)).map fun j => D (len + j)), MemPlace.row a (m * fs.size) ++ (List.range m).flatMap Pl) ∧
      ∀ i, i < m → ∃ (ys : List (DataW H × List MemPlace)) (n : Nat), D i = .agg (ys.map (·.1)) ∧ Pl i = ys.flatMap (·.2) ∧ ys.length = fs.size ∧
        ∀ (j : Nat) (f : Field), fs[j]? = some f → ∃ (v : Value) (y : DataW H × List MemPlace), w.cell? (a.add (i * fs.size + j)) = some v ∧ ys[j]? = some y ∧ DataW.trod enc P w base spare held n f.type [v] = some y := by
  rcases open_slice ht h with h0 | ⟨a, len, cap, m, n, D, Pl, hcs, hb, hl, hm, hmm, hx, hi⟩
  · exact .inl h0
  · refine .inr ⟨a, len, cap, m, D, Pl, hcs, hb, hl, hm, hmm, by rw [hC] at hx; exact hx, fun i him => ?_⟩
    obtain ⟨cs', hc, ht'⟩ := hi i him
    rw [hC] at hc
    obtain ⟨ys, n', hn', hy, hlen, hyl, hf⟩ := DataW.trod_struct he ht'
    obtain ⟨_, hcl, hat⟩ := World.cells?_some hc
    simp only [Prod.mk.injEq] at hy
    refine ⟨ys, n', hy.1, hy.2, hyl, fun j f hj => ?_⟩
    obtain ⟨ho, hk⟩ := hone_of hone j f hj
    have hjl : j < fs.size := (Array.getElem?_eq_some_iff.1 hj).1
    have hcell := hat j hjl
    have hv : cs'[j]? = some (cs'[j]'(by omega)) := List.getElem?_eq_getElem (by omega)
    have h1 := hf j f hj
    rw [ho, hk] at h1
    have hone' : (cs'.drop j).take 1 = [cs'[j]'(by omega)] := by
      rw [List.drop_eq_getElem_cons (by omega)]
      rfl
    rw [hone'] at h1
    have hys : ys[j]? = some (ys[j]'(by omega)) := List.getElem?_eq_getElem (by omega)
    refine ⟨_, _, ?_, hys, h1.trans hys⟩
    rw [← Go.Deep.add_add, hcell, hv]
end

theorem Try.own : ownKnob Try.prog.godebug = none := by kernel_rfl
theorem Try.cells24 : Try.prog.cellsOf 24 = 5 := by kernel_rfl
theorem Try.bytes32 : Try.prog.bytesOf 32 = 24 := by kernel_rfl
theorem Try.cells32 : Try.prog.cellsOf 32 = 3 := by kernel_rfl

section
variable {H : Type} {enc : TypeId × Value → H} {w : World} {base : Nat} {spare : Nat → Bool} {held : Bool}

theorem shape_open {r : Reach} {b0 : Nat} {v : Value} {d : DataW H} {p : List MemPlace} (hv : Value.okWide Try.prog w r b0 24 v) (h : DataW.Trod enc Try.prog w base spare held 24 v d p) :
    ∃ s1 s2 s3 s4 s5 : Int, v = .agg #[.int .i64 s1, .int .i64 s2, .int .i64 s3, .int .i64 s4, .int .u64 s5] := by
  obtain ⟨c0, c1, c2, c3, c4, y0, y1, y2, y3, y4, n, rfl, _, _, h0, h1, h2, h3, h4⟩ := open_agg5 Try.underlying24 (by kernel_rfl) Try.cells24 hv h
  obtain ⟨a0, e0, _, _⟩ := DataW.trod_int Try.underlying3 h0
  obtain ⟨a1, e1, _, _⟩ := DataW.trod_int Try.underlying3 h1
  obtain ⟨a2, e2, _, _⟩ := DataW.trod_int Try.underlying3 h2
  obtain ⟨a3, e3, _, _⟩ := DataW.trod_int Try.underlying3 h3
  obtain ⟨a4, e4, _, _⟩ := DataW.trod_int Try.underlying22 h4
  simp only [List.cons.injEq, and_true] at e0 e1 e2 e3 e4
  subst e0 e1 e2 e3 e4
  exact ⟨a0, a1, a2, a3, a4, rfl⟩

theorem steps_open {a : Option Addr} {len cap : Nat} {d : DataW H} {p : List MemPlace} (h : DataW.Trod enc Try.prog w base spare held 25 (.slice a len cap) d p) :
    (len = 0 ∨ ∃ es sp, d = .slice es sp ∧ es.length = len) ∧ ∃ ks ats ws, StepRow w a len ks ats ws := by
  obtain ⟨fuel, hf⟩ := h
  rcases open_slice_fields Try.underlying25 Try.underlying32 (by kernel_rfl) Try.cells32 hf with ⟨hcs, _⟩ | ⟨ad, l, c, m, D, Pl, hcs, _, hl, hm, hmm, hx, hi⟩
  · simp only [Value.cells, List.cons.injEq, and_true, Value.slice.injEq] at hcs
    obtain ⟨rfl, rfl, rfl⟩ := hcs
    exact ⟨.inl rfl, fun _ => 0, fun _ => 0, fun _ => false, ⟨fun j hj => absurd hj (by omega), fun j hj => absurd hj (by omega)⟩⟩
  · simp only [Value.cells, List.cons.injEq, and_true, Value.slice.injEq] at hcs
    obtain ⟨rfl, rfl, rfl⟩ := hcs
    have hlm : len ≤ m := by rw [hmm]; split <;> omega
    have hall : ∀ i, ∃ x : Int × Int × Bool, i < len → (∃ g o, some ad = some ⟨g, o, none⟩ ∧ w.cell? ⟨g, o + i * 3, none⟩ = some (.int .i64 x.1) ∧ w.cell? ⟨g, o + i * 3 + 1, none⟩ = some (.int .u64 x.2.1) ∧ w.cell? ⟨g, o + i * 3 + 2, none⟩ = some (.bool x.2.2)) ∧ okLine x.2.1 := by
      intro i
      by_cases hil : i < len
      · obtain ⟨ys, n, _, _, _, hfd⟩ := hi i (by omega)
        obtain ⟨v0, y0, hc0, _, t0⟩ := hfd 0 _ rfl
        obtain ⟨v1, y1, hc1, _, t1⟩ := hfd 1 _ rfl
        obtain ⟨v2, y2, hc2, _, t2⟩ := hfd 2 _ rfl
        obtain ⟨a0, e0, _, _⟩ := DataW.trod_int Try.underlying3 t0
        obtain ⟨a1, e1, _, w1⟩ := DataW.trod_int Try.underlying22 t1
        obtain ⟨a2, e2, _⟩ := DataW.trod_bool Try.underlying4 t2
        simp only [List.cons.injEq, and_true] at e0 e1 e2
        subst e0 e1 e2
        obtain ⟨g, o, sp⟩ := ad
        have hsp : sp = none := by
          obtain ⟨_, _, _, _, _, hfz⟩ := hi 0 (by omega)
          obtain ⟨_, _, hcz, _, _⟩ := hfz 0 _ rfl
          simpa [Addr.add] using World.cell?_spot hcz
        subst hsp
        refine ⟨(a0, a1, a2), fun _ => ⟨⟨g, o, rfl, ?_, ?_, ?_⟩, ?_⟩⟩
        · by_cases h0 : i * 3 = 0 <;> simpa [Addr.add, h0] using hc0
        · simpa [Addr.add, Nat.add_assoc] using hc1
        · simpa [Addr.add, Nat.add_assoc] using hc2
        · have := bounds_u64 w1
          exact ⟨this.1, by show a1 < _; omega⟩
      · exact ⟨(0, 0, false), fun h => absurd h hil⟩
    obtain ⟨F, hF⟩ := Classical.axiomOfChoice hall
    exact ⟨.inr ⟨_, _, (Prod.mk.injEq _ _ _ _ ▸ hx).1, by simp⟩, fun i => (F i).1, fun i => (F i).2.1, fun i => (F i).2.2, ⟨fun j hj => (hF j hj).1, fun j hj => (hF j hj).2⟩⟩

theorem steps_len {ds : List (DataW H)} {d0 d : DataW H} {len : Nat} (hsz : (DataW.weightsEach Try.prog [24, 25] (d0 :: d :: ds)).all (· ≤ reachBytes) = true) (h : len = 0 ∨ ∃ es sp, d = .slice es sp ∧ es.length = len) : len ≤ 140737488351232 := by
  rcases h with rfl | ⟨es, sp, rfl, rfl⟩
  · exact Nat.zero_le _
  · have := sized_slice hsz (j := 1) (t := 25) (e := 32) rfl rfl Try.underlying25
    rw [Try.bytes32] at this
    unfold reachBytes at this
    omega
end

end Go.Proofs.Ytmagpdbnefbfkaa
