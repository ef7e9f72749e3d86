/- The document's cache by what it holds: Has, Ask, Under. -/
import Derived.Test.YtmagpdbnefbfkaaW9
namespace Go.Proofs.Ytmagpdbnefbfkaa
open Go Go.RowKit

theorem row_set {σ : St} (hw : 1 ≤ σ.ways) {K k : Nat} (hk : k < σ.ways) (q : Pl) (i : Nat) : St.row { σ with pl := σ.pl.set (K * σ.ways + k) q } i = if i = K then (σ.row K).set k q else σ.row i := by
  unfold St.row
  dsimp only
  apply List.ext_getElem?
  intro j
  rw [List.getElem?_take, List.getElem?_drop, List.getElem?_set]
  by_cases hi : i = K
  · subst hi
    rw [if_pos rfl, List.getElem?_set, List.getElem?_take, List.getElem?_drop, List.length_take, List.length_drop]
    by_cases hj : j < σ.ways
    · by_cases hjk : j = k
      · subst hjk
        rw [if_pos hj, if_pos rfl, if_pos rfl]
        by_cases hl : i * σ.ways + j < σ.pl.length
        · rw [if_pos hl, if_pos (by omega)]
        · rw [if_neg hl, if_neg (by omega)]
      · rw [if_pos hj, if_neg (by omega), if_neg (by omega), if_pos hj]
    · rw [if_neg hj, if_neg (by omega), if_neg hj]
  · rw [if_neg hi, List.getElem?_take, List.getElem?_drop]
    by_cases hj : j < σ.ways
    · rw [if_pos hj, if_pos hj, if_neg]
      intro e
      apply hi
      have e1 : (K * σ.ways + k) / σ.ways = K := by rw [Nat.mul_comm, Nat.mul_add_div (by omega), Nat.div_eq_of_lt hk]; omega
      have e2 : (i * σ.ways + j) / σ.ways = i := by rw [Nat.mul_comm, Nat.mul_add_div (by omega), Nat.div_eq_of_lt hj]; omega
      rw [← e1, e, e2]
    · rw [if_neg hj, if_neg hj]

section
variable {w : World} {b bo bs : Nat} {rs : List (Nat × Nat)} {σ : St}

/-- Where a line's row lies. -/
theorem RepR.rowAt (h : RepR w b bo bs rs σ) (hw : WP σ) (line : Int) : ∃ co r, rs[(line % σ.sets).toNat]? = some r ∧ w.cell? ⟨b, 0, none⟩ = some (.slice (some ⟨bo, 0, none⟩) σ.sets co) ∧
    w.cell? ⟨bo, (line % σ.sets).toNat, none⟩ = some (.slice (some ⟨r.1, 0, none⟩) σ.ways r.2) ∧ Row w r.1 72 (r.2 * 4) (((σ.row (line % σ.sets).toNat).map Pl.toSl).flatMap Sl.enc) ∧
    ((σ.row (line % σ.sets).toNat).map Pl.toSl).length = σ.ways ∧ line % σ.sets = ((line % σ.sets).toNat : Int) ∧ (line % σ.sets).toNat < σ.sets := by
  obtain ⟨co, cs, h1, h2, h3, _⟩ := h.top
  have hlt := hw.set_lt line
  obtain ⟨r, hr⟩ : ∃ r, rs[(line % σ.sets).toNat]? = some r := ⟨_, List.getElem?_eq_getElem (by rw [h.len]; exact hlt)⟩
  refine ⟨co, r, hr, h1.cell (j := 0) rfl, h2.cell (by simp [hr]), (h.rows _ r hr).1, by rw [List.length_map, hw.row_len], ?_, hlt⟩
  have := hw.sets1
  rw [Int.toNat_of_nonneg (Int.emod_nonneg _ (by omega))]

theorem RepR.setRow (h : RepR w b bo bs rs σ) {K k : Nat} {r : Nat × Nat} (hr : rs[K]? = some r) (hw1 : 1 ≤ σ.ways) (hk : k < σ.ways) (q : Pl) {w' : World} (hc : Chg [r.1] w w') (hrow : Row w' r.1 72 (r.2 * 4) ((((σ.row K).set k q).map Pl.toSl).flatMap Sl.enc)) :
    RepR w' b bo bs rs { σ with pl := σ.pl.set (K * σ.ways + k) q } := by
  obtain ⟨co, cs, h1, h2, h3, h4⟩ := h.top
  obtain ⟨d1, d2, d3, d4, d5⟩ := h.ne
  obtain ⟨n1, n2, n3⟩ := d4 K r hr
  refine ⟨⟨co, cs, h1.chg hc (by simpa using Ne.symm n1), h2.chg hc (by simpa using Ne.symm n2), h3.chg hc (by simpa using Ne.symm n3), h4⟩, h.len, fun i s hs => ?_, h.apart⟩
  rw [row_set hw1 hk]
  by_cases hi : i = K
  · subst hi
    rw [hr] at hs; cases hs
    rw [if_pos rfl]
    exact ⟨hrow, (h.rows i r hr).2⟩
  · rw [if_neg hi]
    obtain ⟨g1, g2⟩ := h.rows i s hs
    exact ⟨g1.chg hc (by simpa using d5 i K s r hs hr hi), g2⟩

theorem RepR.setSlot (h : RepR w b bo bs rs σ) {sl : List Sl} (hl : sl.length = σ.sl.length) {w' : World} (hc : Chg [bs] w w') (hrow : ∀ cs, Row w bs 72 (cs * 4) (σ.sl.flatMap Sl.enc) → Row w' bs 72 (cs * 4) (sl.flatMap Sl.enc)) :
    RepR w' b bo bs rs { σ with sl := sl } := by
  obtain ⟨co, cs, h1, h2, h3, h4⟩ := h.top
  obtain ⟨d1, d2, d3, d4, d5⟩ := h.ne
  refine ⟨⟨co, cs, ?_, h2.chg hc (by simpa using d3), hrow cs h3, h4⟩, h.len, fun i s hs => ?_, h.apart⟩
  · dsimp only; rw [hl]; exact h1.chg hc (by simpa using d2)
  · obtain ⟨g1, g2⟩ := h.rows i s hs
    exact ⟨g1.chg hc (by simpa using (d4 i s hs).2.2), g2⟩

theorem RepR.setSeed (h : RepR w b bo bs rs σ) (seed : Int) : RepR (w.setCell ⟨b, 3, none⟩ (.int .u64 seed)) b bo bs rs { σ with seed := seed } := by
  obtain ⟨co, cs, h1, h2, h3, h4⟩ := h.top
  obtain ⟨d1, d2, d3, d4, d5⟩ := h.ne
  refine ⟨⟨co, cs, h1.set 3 _, h2.other d1 _, h3.other d2 _, h4⟩, h.len, fun i s hs => ?_, h.apart⟩
  obtain ⟨g1, g2⟩ := h.rows i s hs
  exact ⟨g1.other (Ne.symm (d4 i s hs).1) _, g2⟩

theorem underR (h : RepR w b bo bs rs σ) (hw : WF σ) : Calls Try.prog 16 #[.pointer (some ⟨b, 0, none⟩)] w fun e w' => e = .returned (.int .i64 σ.under) ∧ w = w' := by
  obtain ⟨co, cs, h1, h2, h3, _⟩ := h.top
  exact underR_any b bs cs σ.sl w (h1.cell (j := 1) rfl) h3 hw.sl2

theorem hasR (h : RepR w b bo bs rs σ) (hw : WP σ) {at_ : Int} (hat : 0 ≤ at_ ∧ at_ < 18446744073709551616) {p1 p2 : Bool} (hp1 : p1 = ((σ.pl.findIdx? (Pl.has (at_ / 64))).isSome)) (hp2 : p2 = (match σ.pl.findIdx? (Pl.has (at_ / 64)) with | some n => (σ.pl.getD n Pl.zero).wr | none => false)) :
    Calls Try.prog 14 #[.pointer (some ⟨b, 0, none⟩), .int .u64 at_] w fun e w' => e = .returned (.tuple #[.bool p1, .bool p2]) ∧ ∃ n, w' = w.drewN n := by
  obtain ⟨co, r, hr, c0, cv, hrow, hlen, hK, hKs⟩ := h.rowAt hw (at_ / 64)
  have hf := hw.find_row (at_ / 64)
  cases hk : (σ.row (at_ / 64 % σ.sets).toNat).findIdx? (Pl.has (at_ / 64)) with
  | none =>
    rw [hk] at hf
    have e1 : p1 = false := by rw [hp1, hf]; rfl
    have e2 : p2 = false := by rw [hp2, hf]; rfl
    rw [e1, e2]
    exact hasR_no b r.1 r.2 σ.ways bo co σ.sets _ (r.2 * 4) at_ _ w c0 cv hw.sets2 hK hat hKs hrow hlen hw.ways2 (by rw [find_toSl]; exact hk)
  | some k =>
    rw [hk] at hf
    obtain ⟨k1, k2, _⟩ := List.findIdx?_eq_some_iff_getElem.1 hk
    have hkw : k < σ.ways := by rw [← hw.row_len (at_ / 64)]; exact k1
    have hg := row_get (σ := σ) (at_ / 64) hkw
    have hp := List.getElem?_eq_getElem k1
    generalize (σ.row (at_ / 64 % σ.sets).toNat)[k] = p at hp
    have e1 : p1 = true := by rw [hp1, hf]; rfl
    have e2 : p2 = p.wr := by rw [hp2, hf]; simp [List.getD, ← hg, hp]
    rw [e1, e2]
    exact hasR_yes b r.1 r.2 σ.ways bo co σ.sets _ (r.2 * 4) k at_ _ p.toSl w c0 cv hw.sets2 hK hat hKs hrow hlen hw.ways2 (by rw [find_toSl]; exact hk) (by simp [hp])

theorem askR (h : RepR w b bo bs rs σ) (hw : WF σ) {at_ : Int} (hat : 0 ≤ at_ ∧ at_ < 18446744073709551616) (wr : Bool) :
    Calls Try.prog 9 #[.pointer (some ⟨b, 0, none⟩), .int .u64 at_, .bool wr] w fun e w' => e = .returned (.int .i64 (σ.ask at_ wr).2) ∧ RepR w' b bo bs rs (σ.ask at_ wr).1 ∧ Chg (blocksR b bo bs rs) w w' := by
  obtain ⟨co, r, hr, c0, cv, hrow, hlen, hK, hKs⟩ := h.rowAt hw.toWP (at_ / 64)
  obtain ⟨co', cs, h1, h2, h3, _⟩ := h.top
  have hf := hw.toWP.find_row (at_ / 64)
  have hrb : r.1 ∈ blocksR b bo bs rs := by simp only [blocksR, List.mem_cons, List.mem_map]; exact .inr (.inr (.inr ⟨r, List.mem_of_getElem? hr, rfl⟩))
  cases hk : (σ.row (at_ / 64 % σ.sets).toNat).findIdx? (Pl.has (at_ / 64)) with
  | some k =>
    rw [hk] at hf
    obtain ⟨k1, k2, _⟩ := List.findIdx?_eq_some_iff_getElem.1 hk
    have hkw : k < σ.ways := by rw [← hw.toWP.row_len (at_ / 64)]; exact k1
    have hg := row_get (σ := σ) (at_ / 64) hkw
    have hp := List.getElem?_eq_getElem k1
    generalize (σ.row (at_ / 64 % σ.sets).toNat)[k] = p at hp
    have hp' := hg.symm.trans hp
    have e1 : σ.ask at_ wr = ({ σ with pl := σ.pl.set ((at_ / 64 % σ.sets).toNat * σ.ways + k) { p with wr := p.wr || wr } }, 1) := by
      unfold St.ask; rw [hf]
      dsimp only [Option.map_some]
      rw [modify_at hp']
    rw [e1]
    refine (askR_hit b r.1 r.2 σ.ways bo co σ.sets _ (r.2 * 4) k at_ wr _ p.toSl w c0 cv hw.sets2 hK hat hKs hrow hlen hw.ways2 (by rw [find_toSl]; exact hk) (by simp [hp])).mono ?_
    rintro e w' ⟨he, n, rfl⟩
    have hc : Chg [r.1] w ((w.drewN n).setCell ⟨r.1, k * 4 + 2, none⟩ (.bool (p.toSl.wr || wr))) := ((Chg.refl _ w).drewN n).setCell (.inl (by simp)) _
    refine ⟨he, h.setRow hr hw.ways1 hkw _ hc ?_, hc.mono (by simpa using .inl hrb)⟩
    have := (hrow.drewN n).markSl (k := k) (p := p.toSl) (v := (p.toSl.wr || wr)) (by simp [hp])
    rw [List.map_set]
    exact this
  | none =>
    rw [hk] at hf
    cases hi : σ.sl.findIdx? (Sl.has (at_ / 64)) with
    | some i =>
      have hil := (List.findIdx?_eq_some_iff_getElem.1 hi).1
      have hs : σ.sl[i]? = some σ.sl[i] := List.getElem?_eq_getElem hil
      generalize σ.sl[i] = s at hs
      have e1 : σ.ask at_ wr = ({ σ with sl := σ.sl.set i { s with wr := s.wr || wr } }, 2) := by
        unfold St.ask; rw [hf, hi]
        dsimp only [Option.map_none]
        rw [modify_at hs]
      rw [e1]
      refine (askR_wait b r.1 r.2 σ.ways bo co σ.sets _ (r.2 * 4) i bs cs at_ wr _ σ.sl s w c0 cv (h1.cell (j := 1) rfl) h3 hw.sl2 hw.sets2 hK hat hKs hrow hlen hw.ways2 (by rw [find_toSl]; exact hk) hi hs).mono ?_
      rintro e w' ⟨he, x, rfl⟩
      have hc : Chg [bs] w (x.to.setCell ⟨bs, i * 4 + 2, none⟩ (.bool (s.wr || wr))) := (x.chg.mono (by simp)).setCell (.inl (by simp)) _
      exact ⟨he, h.setSlot (by simp) hc (fun cs hr => (hr.chg x.chg (by simp)).markSl hs), hc.mono (by simp [blocksR])⟩
    | none =>
      cases hj : σ.sl.findIdx? Sl.free with
      | some i =>
        have hil := (List.findIdx?_eq_some_iff_getElem.1 hj).1
        have hs : σ.sl[i]? = some σ.sl[i] := List.getElem?_eq_getElem hil
        generalize σ.sl[i] = s at hs
        have e1 : σ.ask at_ wr = ({ σ with sl := σ.sl.set i ⟨at_ / 64, true, wr, σ.delay⟩ }, 2) := by
          unfold St.ask; rw [hf, hi, hj]; rfl
        rw [e1]
        refine (askR_new b r.1 r.2 σ.ways bo co σ.sets _ (r.2 * 4) i bs cs σ.delay at_ wr _ σ.sl s w c0 cv (h1.cell (j := 1) rfl) (h1.cell (j := 2) rfl) h3 hw.sl2 hw.sets2 hK hat hKs hrow hlen hw.ways2 (by rw [find_toSl]; exact hk) hi hj hs).mono ?_
        rintro e w' ⟨he, x, hx⟩
        have hc : Chg [bs] w w' := by
          rw [hx]
          exact ((((x.chg.mono (by simp)).setCell (.inl (by simp)) _).setCell (.inl (by simp)) _).setCell (.inl (by simp)) _).setCell (.inl (by simp)) _
        refine ⟨he, h.setSlot (by simp) hc (fun cs hr => ?_), hc.mono (by simp [blocksR])⟩
        rw [hx]
        exact Row.storeSl (q := ⟨at_ / 64, true, wr, σ.delay⟩) (hr.chg x.chg (by simp)) hs
      | none =>
        have e1 : σ.ask at_ wr = (σ, 3) := by
          unfold St.ask; rw [hf, hi, hj]; rfl
        rw [e1]
        refine (askR_full b r.1 r.2 σ.ways bo co σ.sets _ (r.2 * 4) bs cs at_ wr _ σ.sl w c0 cv (h1.cell (j := 1) rfl) h3 hw.sl2 hw.sets2 hK hat hKs hrow hlen hw.ways2 (by rw [find_toSl]; exact hk) hi hj).mono ?_
        rintro e w' ⟨he, n, rfl⟩
        exact ⟨he, h.drewN n, (Chg.refl _ w).drewN n⟩
end

end Go.Proofs.Ytmagpdbnefbfkaa
