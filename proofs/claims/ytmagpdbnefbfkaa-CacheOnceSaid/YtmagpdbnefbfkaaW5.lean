/- The program's cache in memory; its contracts by what it holds. -/
import Derived.Test.YtmagpdbnefbfkaaW4
import Derived.Test.YtmagpdbnefbfkaaPure2
namespace Go.Proofs.Ytmagpdbnefbfkaa
open Go Go.RowKit

/-- The program's cache at block b: its ways at ba, its map at bm, its slots at bs. -/
structure RepP (w : World) (b ba bm bs : Nat) (σ : St) : Prop where
  top : ∃ ca cs : Nat, Row w b 55 7 (topP σ.sets σ.ways σ.delay σ.seed ba σ.pl.length ca bm bs σ.sl.length cs) ∧
    Row w ba 65 (ca * 3) (σ.pl.flatMap Pl.enc) ∧ Row w bs 68 (cs * 4) (σ.sl.flatMap Sl.enc) ∧ ca ≤ maxLen ∧ cs ≤ maxLen
  map : ∃ L : List (Int × Nat), MapT okLine (ekLine σ.sets) evInt w bm L ∧ Agree L σ.pl
  apart : [b, ba, bm, bs].Nodup

theorem RepP.ne {w : World} {b ba bm bs : Nat} {σ : St} (h : RepP w b ba bm bs σ) : b ≠ ba ∧ b ≠ bm ∧ b ≠ bs ∧ ba ≠ bm ∧ ba ≠ bs ∧ bm ≠ bs := by
  have := h.apart
  simp only [List.nodup_cons, List.mem_cons, List.not_mem_nil, or_false, not_or] at this
  obtain ⟨⟨h1, h2, h3⟩, ⟨h4, h5⟩, h6, _⟩ := this
  exact ⟨h1, h2, h3, h4, h5, h6⟩

theorem RepP.lt {w : World} {b ba bm bs : Nat} {σ : St} (h : RepP w b ba bm bs σ) : ∀ x ∈ [b, ba, bm, bs], x < w.heap.size := by
  obtain ⟨ca, cs, h1, h2, h3, _⟩ := h.top
  obtain ⟨L, h4, _⟩ := h.map
  intro x hx
  simp only [List.mem_cons, List.not_mem_nil, or_false] at hx
  rcases hx with rfl | rfl | rfl | rfl
  · exact h1.lt
  · exact h2.lt
  · exact h4.lt
  · exact h3.lt

theorem RepP.chg {w w' : World} {b ba bm bs : Nat} {σ : St} {S : List Nat} (h : RepP w b ba bm bs σ) (hc : Chg S w w') (hS : ∀ x ∈ [b, ba, bm, bs], x ∉ S) : RepP w' b ba bm bs σ := by
  obtain ⟨ca, cs, h1, h2, h3, h4⟩ := h.top
  obtain ⟨L, h5, h6⟩ := h.map
  exact ⟨⟨ca, cs, h1.chg hc (hS _ (by simp)), h2.chg hc (hS _ (by simp)), h3.chg hc (hS _ (by simp)), h4⟩, ⟨L, h5.chg hc (hS _ (by simp)), h6⟩, h.apart⟩

theorem under_any {w : World} {b ba bm bs : Nat} {σ : St} (h : RepP w b ba bm bs σ) (hw : WF σ) :
    Calls Try.prog 15 #[.pointer (some ⟨b, 0, none⟩)] w fun e w' => e = .returned (.int .i64 σ.under) ∧ Chg [] w w' := by
  obtain ⟨ca, cs, h1, h2, h3, _⟩ := h.top
  exact (under_row b bs cs σ.sl w (h1.cell (j := 6) rfl) h3 hw.sl2).mono fun e w' ⟨h1, h2⟩ => ⟨h1, Chg.of_below h2 []⟩

/-- What Has answers. -/
def St.hasLine (σ : St) (at_ : Int) : Bool × Bool :=
  match σ.pl.findIdx? (Pl.has (at_ / 64)) with
  | some n => (true, (σ.pl.getD n Pl.zero).wr)
  | none => (false, false)

theorem has_any {w : World} {b ba bm bs : Nat} {σ : St} (h : RepP w b ba bm bs σ) (hw : WP σ) {at_ : Int} (hat : okLine at_) :
    Calls Try.prog 13 #[.pointer (some ⟨b, 0, none⟩), .int .u64 at_] w fun e w' => e = .returned (.tuple #[.bool (σ.hasLine at_).1, .bool (σ.hasLine at_).2]) ∧ Chg [] w w' := by
  obtain ⟨ca, cs, h1, h2, h3, _⟩ := h.top
  obtain ⟨L, h4, h5⟩ := h.map
  cases hn : asc L (at_ / 64) with
  | none =>
    have e := h5.missing hn
    have e1 : σ.hasLine at_ = (false, false) := by unfold St.hasLine; rw [e]
    rw [e1]
    exact has_no b bm σ.sets at_ L w (h1.cell (j := 0) rfl) (h1.cell (j := 5) rfl) h4 hw.sets1 hw.sets2 hat h1.lt hn
  | some n =>
    obtain ⟨p, hp, _, _, e⟩ := h5.found hw hn
    have e1 : σ.hasLine at_ = (true, p.wr) := by
      unfold St.hasLine; rw [e]; simp [List.getD, hp]
    rw [e1]
    exact has_yes b ba ca bm σ.sets n at_ L σ.pl p w (h1.cell (j := 0) rfl) (h1.cell (j := 4) rfl) (h1.cell (j := 5) rfl) h2 h4 hw.sets1 hw.sets2 hat h1.lt hn hp

theorem agree_mark {L : List (Int × Nat)} {pl : List Pl} (h : Agree L pl) {n : Nat} {p : Pl} (hp : pl[n]? = some p) (v : Bool) : Agree L (pl.set n { p with wr := v }) := by
  intro l m
  rw [h l m]
  have hn := (List.getElem?_eq_some_iff.1 hp).1
  constructor
  · rintro ⟨q, hq, h1, h2⟩
    by_cases e : m = n
    · subst e; rw [hp] at hq; cases hq
      exact ⟨_, get_set hn, h1, h2⟩
    · exact ⟨q, by rw [List.getElem?_set_ne (Ne.symm e)]; exact hq, h1, h2⟩
  · rintro ⟨q, hq, h1, h2⟩
    rcases set_get hq with ⟨rfl, rfl, _⟩ | ⟨_, hq'⟩
    · exact ⟨p, hp, h1, h2⟩
    · exact ⟨q, hq', h1, h2⟩

theorem ask_any {w : World} {b ba bm bs : Nat} {σ : St} (h : RepP w b ba bm bs σ) (hw : WF σ) {at_ : Int} (hat : okLine at_) (wr : Bool) :
    Calls Try.prog 8 #[.pointer (some ⟨b, 0, none⟩), .int .u64 at_, .bool wr] w fun e w' => e = .returned (.int .i64 (σ.ask at_ wr).2) ∧ RepP w' b ba bm bs (σ.ask at_ wr).1 ∧ Chg [b, ba, bm, bs] w w' := by
  obtain ⟨ca, cs, h1, h2, h3, hca, hcs⟩ := h.top
  obtain ⟨L, h4, h5⟩ := h.map
  obtain ⟨d1, d2, d3, d4, d5, d6⟩ := h.ne
  cases hn : asc L (at_ / 64) with
  | some n =>
    obtain ⟨p, hp, _, _, e⟩ := h5.found hw.toWP hn
    have e1 : σ.ask at_ wr = ({ σ with pl := σ.pl.set n { p with wr := p.wr || wr } }, 1) := by
      unfold St.ask; rw [e]; simp [modify_at hp]
    rw [e1]
    refine (ask_hit b ba ca bm σ.sets n at_ wr L σ.pl p w (h1.cell (j := 0) rfl) (h1.cell (j := 4) rfl) (h1.cell (j := 5) rfl) h2 h4 hw.sets1 hw.sets2 hat h1.lt hn hp).mono ?_
    rintro e' w' ⟨he, x, rfl⟩
    refine ⟨he, ⟨⟨ca, cs, ?_, ?_, ?_, hca, hcs⟩, ⟨L, ?_, ?_⟩, h.apart⟩, ?_⟩
    · rw [List.length_set]; exact Row.other (h1.chg x.chg (by simp)) (Ne.symm d1) _
    · exact Row.markPl (h2.chg x.chg (by simp)) hp
    · exact Row.other (h3.chg x.chg (by simp)) d5 _
    · exact MapT.other (h4.chg x.chg (by simp)) d4 _
    · exact agree_mark h5 hp _
    · exact (x.chg.mono (by simp)).setCell (.inl (by simp)) _
  | none =>
    have e := h5.missing hn
    refine (ask_miss b bm bs cs σ.sets σ.delay at_ wr L σ.sl w (h1.cell (j := 0) rfl) (h1.cell (j := 2) rfl) (h1.cell (j := 5) rfl) (h1.cell (j := 6) rfl) h3 h4 hw.sets1 hw.sets2 hat h1.lt hw.sl2 hn).mono ?_
    rintro e' w' ⟨he, x, hx⟩
    cases hi : σ.sl.findIdx? (Sl.has (at_ / 64)) with
    | some i =>
      have hil := (List.findIdx?_eq_some_iff_getElem.1 hi).1
      have hs : σ.sl[i]? = some σ.sl[i] := List.getElem?_eq_getElem hil
      generalize σ.sl[i] = s at hs
      have e1 : σ.ask at_ wr = ({ σ with sl := σ.sl.set i { s with wr := s.wr || wr } }, 2) := by
        unfold St.ask; rw [e, hi]; simp [modify_at hs]
      have e2 : askSlots σ.sl (at_ / 64) wr σ.delay = (some (i, { s with wr := s.wr || wr }, false), 2) := by
        unfold askSlots; rw [hi]; simp [List.getD, hs]
      rw [e2] at he hx
      rw [e1]
      dsimp only at hx
      simp only [Bool.false_eq_true, if_false] at hx
      subst hx
      have hR : Row (x.to.setCell ⟨bs, i * 4 + 2, none⟩ (.bool (s.wr || wr))) bs 68 (cs * 4) ((σ.sl.set i { s with wr := s.wr || wr }).flatMap Sl.enc) := by
        exact Row.markSl (h3.chg x.chg (by simp)) hs
      have hC : Chg [bs] w (x.to.setCell ⟨bs, i * 4 + 2, none⟩ (.bool (s.wr || wr))) := (x.chg.mono (by simp)).setCell (.inl (by simp)) _
      refine ⟨he, ⟨⟨ca, cs, ?_, h2.chg hC (by simpa using d5), hR, hca, hcs⟩, ⟨L, h4.chg hC (by simpa using d6), h5⟩, h.apart⟩, hC.mono (by simp)⟩
      rw [List.length_set]; exact h1.chg hC (by simpa using d3)
    | none =>
      cases hj : σ.sl.findIdx? Sl.free with
      | some i =>
        have hil := (List.findIdx?_eq_some_iff_getElem.1 hj).1
        have hs : σ.sl[i]? = some σ.sl[i] := List.getElem?_eq_getElem hil
        generalize σ.sl[i] = s at hs
        have e1 : σ.ask at_ wr = ({ σ with sl := σ.sl.set i ⟨at_ / 64, true, wr, σ.delay⟩ }, 2) := by
          unfold St.ask; rw [e, hi, hj]
        have e2 : askSlots σ.sl (at_ / 64) wr σ.delay = (some (i, ⟨at_ / 64, true, wr, σ.delay⟩, true), 2) := by
          unfold askSlots; rw [hi, hj]
        rw [e2] at he hx
        rw [e1]
        dsimp only at hx
        simp only [if_true] at hx
        have hR : Row w' bs 68 (cs * 4) ((σ.sl.set i ⟨at_ / 64, true, wr, σ.delay⟩).flatMap Sl.enc) := by
          rw [hx]
          exact Row.storeSl (q := ⟨at_ / 64, true, wr, σ.delay⟩) (h3.chg x.chg (by simp)) hs
        have hC : Chg [bs] w w' := by
          rw [hx]
          exact ((((x.chg.mono (by simp)).setCell (.inl (by simp)) _).setCell (.inl (by simp)) _).setCell (.inl (by simp)) _).setCell (.inl (by simp)) _
        refine ⟨he, ⟨⟨ca, cs, ?_, h2.chg hC (by simpa using d5), hR, hca, hcs⟩, ⟨L, h4.chg hC (by simpa using d6), h5⟩, h.apart⟩, hC.mono (by simp)⟩
        rw [List.length_set]; exact h1.chg hC (by simpa using d3)
      | none =>
        have e1 : σ.ask at_ wr = (σ, 3) := by
          unfold St.ask; rw [e, hi, hj]
        have e2 : askSlots σ.sl (at_ / 64) wr σ.delay = (none, 3) := by
          unfold askSlots; rw [hi, hj]
        rw [e2] at he hx
        rw [e1]
        dsimp only at hx
        subst hx
        exact ⟨he, h.chg x.chg (by simp), x.chg.mono (by simp)⟩


def Dn.val (d : Dn) : Value := .agg #[.int .u64 d.at_, .int .u64 d.out, .bool d.wr]

theorem lay_any {w : World} {b ba bm bs : Nat} {σ : St} (h : RepP w b ba bm bs σ) (hw : WP σ) {line : Int} (wr : Bool) (hl : 0 ≤ line ∧ line < 288230376151711744)
    (hfresh : ∀ (j : Nat) p, σ.pl[j]? = some p → p.is = true → p.line ≠ line) :
    Calls Try.prog 27 #[.pointer (some ⟨b, 0, none⟩), .int .u64 line, .bool wr] w fun e w' => e = .returned (σ.lay line wr).2.val ∧ RepP w' b ba bm bs (σ.lay line wr).1 ∧ Chg [b, ba, bm] w w' := by
  obtain ⟨ca, cs, h1, h2, h3, hca, hcs⟩ := h.top
  obtain ⟨L, h4, h5⟩ := h.map
  obtain ⟨d1, d2, d3, d4, d5, d6⟩ := h.ne
  cases hk : (σ.row (line % σ.sets).toNat).findIdx? Pl.free with
  | some k =>
    obtain ⟨k1, k2, k3⟩ := row_some hw line hk
    have e1 : σ.lay line wr = ({ σ with pl := σ.pl.set ((line % σ.sets).toNat * σ.ways + k) ⟨line, true, wr⟩ }, ⟨line * 64, 0, false⟩) := by
      unfold St.lay; rw [hk]
    rw [e1]
    refine (lay_free b ba ca bm bs σ.sl.length cs σ.sets σ.ways σ.delay ((line % σ.sets).toNat * σ.ways) k σ.seed line wr L σ.pl w h1 h2 h4 hw.sets1 hw.sets2 hw.ways1 hw.ways2 hl (hw.first_eq line) (hw.first_le line) hw.len2 k1 k2 k3 d1 d2 d4).mono ?_
    rintro e w' ⟨he, g1, g2, g3, g4⟩
    have hlt := hw.first_le line
    refine ⟨he, ⟨⟨ca, cs, by rw [List.length_set]; exact g1, g2, h3.chg g4 (by simp [Ne.symm d3, Ne.symm d5, Ne.symm d6]), hca, hcs⟩, ⟨_, g3, h5.lay (by omega) hfresh ?_⟩, h.apart⟩, g4⟩
    intro l' hl'
    obtain ⟨p, hp, hi, _⟩ := (h5 l' _).1 hl'
    obtain ⟨q, hq, hi'⟩ := k3
    rw [hp] at hq; cases hq; rw [hi] at hi'; cases hi'
  | none =>
    have k2 := row_none line hk
    have hs1 := nextSeed_in σ.seed
    have hw1 := hw.ways1
    have m0 : 0 ≤ nextSeed σ.seed / 4294967296 % (σ.ways : Int) := Int.emod_nonneg _ (by omega)
    have m1 : nextSeed σ.seed / 4294967296 % (σ.ways : Int) < σ.ways := Int.emod_lt_of_pos _ (by omega)
    obtain ⟨k, hkk⟩ := Int.eq_ofNat_of_zero_le m0
    have hkw : k < σ.ways := by omega
    have hlt := hw.first_le line
    obtain ⟨p, hp⟩ : ∃ p, σ.pl[(line % σ.sets).toNat * σ.ways + k]? = some p := ⟨_, List.getElem?_eq_getElem (by omega)⟩
    have hpi := k2 k p hkw hp
    have e1 : σ.lay line wr = ({ σ with seed := nextSeed σ.seed, pl := σ.pl.set ((line % σ.sets).toNat * σ.ways + k) ⟨line, true, wr⟩ }, ⟨line * 64, p.line * 64, p.wr⟩) := by
      unfold St.lay; rw [hk]; simp [hkk, List.getD, hp]
    rw [e1]
    obtain ⟨b0, b1, _⟩ := hw.pl1 _ p hp hpi
    refine (lay_full b ba ca bm bs σ.sl.length cs σ.sets σ.ways σ.delay ((line % σ.sets).toNat * σ.ways) k σ.seed line wr L σ.pl p w h1 h2 h4 hw.sets1 hw.sets2 hw.ways1 hw.ways2 hl (hw.first_eq line) (hw.first_le line) hw.len2 k2 hkk hp ⟨b0, b1⟩ d1 d2 d4).mono ?_
    rintro e w' ⟨he, g1, g2, g3, g4⟩
    refine ⟨he, ⟨⟨ca, cs, by rw [List.length_set]; exact g1, g2, h3.chg g4 (by simp [Ne.symm d3, Ne.symm d5, Ne.symm d6]), hca, hcs⟩, ⟨_, g3, ?_⟩, h.apart⟩, g4⟩
    have h6 := (h5.gone hp hpi hw.one).lay (line := line) (wr := wr) (n := (line % σ.sets).toNat * σ.ways + k) (by simp; omega) (fun j q hq hi => by
      rcases set_get hq with ⟨_, rfl, _⟩ | ⟨_, hq'⟩
      · simp [Pl.zero] at hi
      · exact hfresh j q hq' hi) (fun l' hl' => by
      obtain ⟨q, hq, hi, _⟩ := (h5.gone hp hpi hw.one l' _).1 hl'
      rw [get_set (by omega)] at hq
      cases hq; simp [Pl.zero] at hi)
    rwa [List.set_set] at h6

end Go.Proofs.Ytmagpdbnefbfkaa
