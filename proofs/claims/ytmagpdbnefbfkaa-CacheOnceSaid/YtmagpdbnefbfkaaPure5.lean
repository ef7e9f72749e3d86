/- Plain laws on CacheOnce's two maps: what they tell of the ways and of the slots, through Ask, Tick and Flush. -/
import Derived.Test.YtmagpdbnefbfkaaPure4
import Derived.Laws.Bits64b
namespace Go.Proofs.Ytmagpdbnefbfkaa
open Go Go.RowKit

def mark (b : Bool) : Int := if b then 2 else 1

theorem mark_ge (b : Bool) : 1 ≤ mark b ∧ mark b ≤ 2 := by cases b <;> decide
theorem mark_two (b : Bool) : decide (mark b = 2) = b := by cases b <;> rfl
theorem mark_max (a b : Bool) : max (mark a) (mark b) = mark (a || b) := by cases a <;> cases b <;> rfl

section
variable {α : Type} (is wr : α → Bool) (line : α → Int)

/-- What the map tells of a list. -/
def Told (l : List α) (L : List (Int × Int)) : Prop := ∀ a v, asc L a = some v ↔ ∃ (n : Nat) (p : α), l[n]? = some p ∧ is p = true ∧ line p * 64 = a ∧ mark (wr p) = v
end

section
variable {α : Type} {is wr : α → Bool} {line : α → Int} {l : List α} {L : List (Int × Int)}

theorem Told.nokey (h : Told is wr line l L) {a : Int} (ha : ∀ (n : Nat) p, l[n]? = some p → is p = true → line p * 64 ≠ a) : asc L a = none := by
  cases hc : asc L a with
  | none => rfl
  | some v =>
    obtain ⟨n, p, hp, h1, h2, _⟩ := (h a v).1 hc
    exact absurd h2 (ha n p hp h1)

theorem Told.key (h : Told is wr line l L) {n : Nat} {p : α} (hp : l[n]? = some p) (hi : is p = true) : asc L (line p * 64) = some (mark (wr p)) := (h _ _).2 ⟨n, p, hp, hi, rfl, rfl⟩

theorem Told.set (h : Told is wr line l L) {n : Nat} {p q : α} (hp : l[n]? = some p) (hq : is q = true) (hfresh : ∀ (j : Nat) r, l[j]? = some r → is r = true → j ≠ n → line r ≠ line q) (hsame : is p = true → line p = line q) :
    Told is wr line (l.set n q) (upd L (line q * 64) (mark (wr q))) := by
  have hn := (List.getElem?_eq_some_iff.1 hp).1
  intro a v
  rw [asc_upd]
  constructor
  · intro hm
    split at hm
    · rename_i e
      cases hm
      exact ⟨n, q, get_set hn, hq, e, rfl⟩
    · rename_i e
      obtain ⟨m, r, hr, h1, h2, h3⟩ := (h a v).1 hm
      have hmn : m ≠ n := fun e' => by
        subst e'
        rw [hp] at hr
        cases hr
        exact e (by rw [← hsame h1, h2])
      exact ⟨m, r, by rw [List.getElem?_set_ne (Ne.symm hmn)]; exact hr, h1, h2, h3⟩
  · rintro ⟨m, r, hr, h1, h2, h3⟩
    rcases set_get hr with ⟨rfl, rfl, _⟩ | ⟨hmn, hr'⟩
    · rw [if_pos h2, h3]
    · have hne : ¬ line q * 64 = a := fun e => hfresh m r hr' h1 hmn (by omega)
      rw [if_neg hne]
      exact (h a v).2 ⟨m, r, hr', h1, h2, h3⟩

theorem Told.strike (h : Told is wr line l L) {n : Nat} {p z : α} (hp : l[n]? = some p) (hz : is z = false) (hone : ∀ (j : Nat) r, l[j]? = some r → is r = true → j ≠ n → line r ≠ line p) :
    Told is wr line (l.set n z) (del L (line p * 64)) := by
  intro a v
  rw [asc_del]
  constructor
  · intro hm
    split at hm
    · cases hm
    · rename_i e
      obtain ⟨m, r, hr, h1, h2, h3⟩ := (h a v).1 hm
      have hmn : m ≠ n := fun e' => by
        subst e'
        rw [hp] at hr
        cases hr
        exact e h2
      exact ⟨m, r, by rw [List.getElem?_set_ne (Ne.symm hmn)]; exact hr, h1, h2, h3⟩
  · rintro ⟨m, r, hr, h1, h2, h3⟩
    rcases set_get hr with ⟨rfl, rfl, _⟩ | ⟨hmn, hr'⟩
    · rw [hz] at h1; cases h1
    · have hne : ¬ line p * 64 = a := fun e => hone m r hr' h1 hmn (by omega)
      rw [if_neg hne]
      exact (h a v).2 ⟨m, r, hr', h1, h2, h3⟩

theorem Told.same (h : Told is wr line l L) {n : Nat} {p q : α} (hp : l[n]? = some p) (h1 : is q = is p) (h2 : line q = line p) (h3 : wr q = wr p) : Told is wr line (l.set n q) L := by
  have hn := (List.getElem?_eq_some_iff.1 hp).1
  intro a v
  rw [h a v]
  constructor
  · rintro ⟨m, r, hr, e1, e2, e3⟩
    by_cases hmn : m = n
    · subst hmn
      rw [hp] at hr
      cases hr
      exact ⟨m, q, get_set hn, by rw [h1, e1], by rw [h2, e2], by rw [h3, e3]⟩
    · exact ⟨m, r, by rw [List.getElem?_set_ne (Ne.symm hmn)]; exact hr, e1, e2, e3⟩
  · rintro ⟨m, r, hr, e1, e2, e3⟩
    rcases set_get hr with ⟨rfl, rfl, _⟩ | ⟨hmn, hr'⟩
    · exact ⟨m, p, hp, by rw [← h1, e1], by rw [← h2, e2], by rw [← h3, e3]⟩
    · exact ⟨m, r, hr', e1, e2, e3⟩

/-- As many keys as there are lines. -/
theorem Told.len (h : Told is wr line l L) (hn : (L.map (·.1)).Nodup) (hone : ∀ (i j : Nat) p q, l[i]? = some p → l[j]? = some q → is p = true → is q = true → line p = line q → i = j) : L.length = l.countP is := by
  have hN : L.Nodup := List.Pairwise.of_map (·.1) (fun a b hab e => hab (by rw [e])) hn
  have hpw : l.Pairwise fun p q => is p = true → is q = true → line p ≠ line q := by
    rw [List.pairwise_iff_getElem]
    intro i j hi hj hij h1 h2 e
    have := hone i j _ _ (List.getElem?_eq_getElem hi) (List.getElem?_eq_getElem hj) h1 h2 e
    omega
  have hM : ((l.filter is).map fun p => (line p * 64, mark (wr p))).Nodup := by
    refine List.pairwise_map.2 ((List.pairwise_filter.2 (hpw.imp ?_)))
    intro p q hpq h1 h2 e
    simp only [Prod.mk.injEq] at e
    exact hpq h1 h2 (by omega)
  have hperm : L.Perm ((l.filter is).map fun p => (line p * 64, mark (wr p))) := by
    rw [List.perm_ext_iff_of_nodup hN hM]
    rintro ⟨a, v⟩
    rw [← asc_some hn, h a v]
    simp only [List.mem_map, List.mem_filter, Prod.mk.injEq]
    constructor
    · rintro ⟨n, p, hp, h1, h2, h3⟩
      exact ⟨p, ⟨List.mem_of_getElem? hp, h1⟩, h2, h3⟩
    · rintro ⟨p, ⟨hp, h1⟩, h2, h3⟩
      obtain ⟨n, hn, rfl⟩ := List.getElem_of_mem hp
      exact ⟨n, _, List.getElem?_eq_getElem hn, h1, h2, h3⟩
  rw [hperm.length_eq, List.length_map, List.countP_eq_length_filter]
end

abbrev ToldP (pl : List Pl) (L : List (Int × Int)) : Prop := Told (fun p : Pl => p.is) (fun p : Pl => p.wr) (fun p : Pl => p.line) pl L
abbrev ToldS (sl : List Sl) (L : List (Int × Int)) : Prop := Told (fun p : Sl => p.is) (fun p : Sl => p.wr) (fun p : Sl => p.line) sl L

structure Tells (σ : St) (th pe : List (Int × Int)) : Prop where
  th : ToldP σ.pl th
  pe : ToldS σ.sl pe
  hp : ∀ (n : Nat) p, σ.pl[n]? = some p → p.is = true → 144115188075855872 ≤ p.line
  hs : ∀ (n : Nat) s, σ.sl[n]? = some s → s.is = true → 144115188075855872 ≤ s.line

theorem Tells.len_th {σ : St} {th pe : List (Int × Int)} (h : Tells σ th pe) (hw : WP σ) (hn : (th.map (·.1)).Nodup) : th.length ≤ σ.sets * σ.ways := by
  rw [h.th.len hn (fun i j p q h1 h2 h3 h4 h5 => hw.one i j p q h1 h2 h3 h4 h5), ← hw.len]
  exact List.countP_le_length

theorem Tells.len_pe {σ : St} {th pe : List (Int × Int)} (h : Tells σ th pe) (hw : WF σ) (hn : (pe.map (·.1)).Nodup) : pe.length = σ.under :=
  h.pe.len hn (fun i j p q h1 h2 h3 h4 h5 => hw.sone i j p q h1 h2 h3 h4 h5)

/-! ### Ask -/
/-- What CacheOnce sees of a call of Ask. -/
inductive Asked (σ τ : St) (r : Int) (th pe : List (Int × Int)) (line : Int) (wr : Bool) : Prop where
  | hit (v : Int) (h1 : asc th line = some v) (h2 : 1 ≤ v) (h3 : v ≤ 2) (hr : r = 1) (h : Tells τ (upd th line (max v (mark wr))) pe)
  | wait (v : Int) (h0 : asc th line = none) (h1 : asc pe line = some v) (h2 : 1 ≤ v) (h3 : v ≤ 2) (hr : r = 2) (h : Tells τ th (upd pe line (max v (mark wr))))
  | new (h0 : asc th line = none) (h1 : asc pe line = none) (hr : r = 2) (h : Tells τ th (upd pe line (mark wr)))
  | full (h0 : asc th line = none) (h1 : asc pe line = none) (hr : r = 3) (hu : τ.under = σ.sl.length) (h : Tells τ th pe)

theorem ask_seen {σ : St} {th pe : List (Int × Int)} (hT : Tells σ th pe) (hw : WF σ) {at_ : Int} (hat : 9223372036854775808 ≤ at_) (wr : Bool) :
    Asked σ (σ.ask at_ wr).1 (σ.ask at_ wr).2 th pe (at_ / 64 * 64) wr := by
  have hl : 144115188075855872 ≤ at_ / 64 := by omega
  unfold St.ask
  cases hf : σ.pl.findIdx? (Pl.has (at_ / 64)) with
  | some n =>
    obtain ⟨p, hp, _, hq⟩ := found_at hf
    simp only [Pl.has, Bool.and_eq_true, beq_iff_eq] at hq
    dsimp only
    rw [modify_at hp]
    have e1 := hT.th.key hp hq.1
    have e2 := hT.th.set (q := { p with wr := p.wr || wr }) hp hq.1 (fun j r hr hi hj e => hj (hw.one j n r p hr hp hi hq.1 e)) (fun _ => rfl)
    dsimp only at e1 e2
    rw [← hq.2]
    refine .hit (mark p.wr) e1 (mark_ge _).1 (mark_ge _).2 rfl ⟨?_, hT.pe, ?_, hT.hs⟩
    · rw [mark_max]; exact e2
    · intro j r hr hi
      rcases set_get hr with ⟨rfl, rfl, _⟩ | ⟨_, hr'⟩
      · exact hT.hp _ p hp hq.1
      · exact hT.hp j r hr' hi
  | none =>
    have nopl : ∀ (j : Nat) p, σ.pl[j]? = some p → p.is = true → p.line ≠ at_ / 64 := by
      intro j p hp hpi e
      rw [List.findIdx?_eq_none_iff] at hf
      have := hf p (List.mem_of_getElem? hp)
      simp [Pl.has, hpi, e] at this
    have t0 : asc th (at_ / 64 * 64) = none := hT.th.nokey fun n p hp hi e => nopl n p hp hi (by omega)
    cases hi : σ.sl.findIdx? (Sl.has (at_ / 64)) with
    | some i =>
      obtain ⟨s, hs, _, hq⟩ := found_at hi
      simp only [Sl.has, Bool.and_eq_true, beq_iff_eq] at hq
      dsimp only
      rw [modify_at hs]
      have e1 := hT.pe.key hs hq.1
      have e2 := hT.pe.set (q := { s with wr := s.wr || wr }) hs hq.1 (fun j r hr hi hj e => hj (hw.sone j i r s hr hs hi hq.1 e)) (fun _ => rfl)
      dsimp only at e1 e2
      rw [← hq.2] at t0 ⊢
      refine .wait (mark s.wr) t0 e1 (mark_ge _).1 (mark_ge _).2 rfl ⟨hT.th, ?_, hT.hp, ?_⟩
      · rw [mark_max]; exact e2
      · intro j r hr hi
        rcases set_get hr with ⟨rfl, rfl, _⟩ | ⟨_, hr'⟩
        · exact hT.hs _ s hs hq.1
        · exact hT.hs j r hr' hi
    | none =>
      have nosl : ∀ (j : Nat) t, σ.sl[j]? = some t → t.is = true → t.line ≠ at_ / 64 := by
        intro j t ht hti e
        rw [List.findIdx?_eq_none_iff] at hi
        have := hi t (List.mem_of_getElem? ht)
        simp [Sl.has, hti, e] at this
      have t1 : asc pe (at_ / 64 * 64) = none := hT.pe.nokey fun n p hp hi e => nosl n p hp hi (by omega)
      dsimp only
      cases hfr : σ.sl.findIdx? Sl.free with
      | some i =>
        obtain ⟨s, hs, _, hq⟩ := found_at hfr
        simp only [Sl.free, Bool.not_eq_true'] at hq
        dsimp only
        have e2 := hT.pe.set (q := ⟨at_ / 64, true, wr, σ.delay⟩) hs rfl (fun j r hr hi hj e => nosl j r hr hi e) (fun e => by rw [hq] at e; cases e)
        dsimp only at e2
        refine .new t0 t1 rfl ⟨hT.th, e2, hT.hp, ?_⟩
        intro j r hr hi
        rcases set_get hr with ⟨rfl, rfl, _⟩ | ⟨_, hr'⟩
        · exact hl
        · exact hT.hs j r hr' hi
      | none =>
        refine .full t0 t1 rfl ?_ hT
        unfold St.under
        rw [List.countP_eq_length]
        intro s hs
        rw [List.findIdx?_eq_none_iff] at hfr
        have := hfr s hs
        simpa [Sl.free] using this

/-! ### Has -/
theorem has_seen {σ : St} {th pe : List (Int × Int)} (hT : Tells σ th pe) {at_ : Int} : ((σ.hasLine at_).1 = false ∧ (σ.hasLine at_).2 = false ∧ asc th (at_ / 64 * 64) = none) ∨ ∃ b, (σ.hasLine at_).1 = true ∧ (σ.hasLine at_).2 = b ∧ asc th (at_ / 64 * 64) = some (mark b) := by
  unfold St.hasLine
  cases hf : σ.pl.findIdx? (Pl.has (at_ / 64)) with
  | some n =>
    obtain ⟨p, hp, _, hq⟩ := found_at hf
    simp only [Pl.has, Bool.and_eq_true, beq_iff_eq] at hq
    have e1 := hT.th.key hp hq.1
    rw [hq.2] at e1
    exact .inr ⟨p.wr, rfl, by simp [List.getD, hp], e1⟩
  | none =>
    refine .inl ⟨rfl, rfl, hT.th.nokey fun n p hp hi e => ?_⟩
    rw [List.findIdx?_eq_none_iff] at hf
    have := hf p (List.mem_of_getElem? hp)
    simp only [Pl.has, hi, Bool.true_and, beq_eq_false_iff_ne] at this
    exact this (by omega)

/-! ### Tick -/
abbrev Two := List (Int × Int) × List (Int × Int)

def oneRound (x : Two) (d : Dn) : Two := (upd (if d.out = 0 then x.1 else del x.1 d.out) d.at_ ((asc x.2 d.at_).getD 0), del x.2 d.at_)

structure OkRound (sets : Nat) (x : Two) (d : Dn) : Prop where
  at1 : ∃ v, asc x.2 d.at_ = some v ∧ 1 ≤ v ∧ v ≤ 2
  at2 : asc x.1 d.at_ = none
  out : d.out = 0 ∧ d.wr = false ∨ d.out ≠ 0 ∧ (∃ v, asc x.1 d.out = some v ∧ 1 ≤ v ∧ v ≤ 2 ∧ d.wr = decide (v = 2)) ∧ d.out / 64 % (sets : Int) = d.at_ / 64 % (sets : Int)
  ok1 : okLine d.at_
  ok2 : okLine d.out

theorem lay_seen {σ : St} {th : List (Int × Int)} (hT : ToldP σ.pl th) (hp : ∀ (n : Nat) p, σ.pl[n]? = some p → p.is = true → 144115188075855872 ≤ p.line) (hw : WP σ) {line : Int} (wr : Bool) (hl : 144115188075855872 ≤ line) (hl2 : line < 288230376151711744)
    (hfresh : ∀ (j : Nat) p, σ.pl[j]? = some p → p.is = true → p.line ≠ line) :
    (σ.lay line wr).2.at_ = line * 64 ∧ okLine (σ.lay line wr).2.at_ ∧ okLine (σ.lay line wr).2.out ∧
    ((σ.lay line wr).2.out = 0 ∧ (σ.lay line wr).2.wr = false ∨ (σ.lay line wr).2.out ≠ 0 ∧ (∃ v, asc th (σ.lay line wr).2.out = some v ∧ 1 ≤ v ∧ v ≤ 2 ∧ (σ.lay line wr).2.wr = decide (v = 2)) ∧ (σ.lay line wr).2.out / 64 % (σ.sets : Int) = line % (σ.sets : Int)) ∧
    ToldP (σ.lay line wr).1.pl (upd (if (σ.lay line wr).2.out = 0 then th else del th (σ.lay line wr).2.out) (line * 64) (mark wr)) := by
  have hfl := hw.first_le line
  unfold St.lay
  cases hk : (σ.row (line % σ.sets).toNat).findIdx? Pl.free with
  | some k =>
    obtain ⟨k1, _, p, hpk, hpi⟩ := row_some hw line hk
    dsimp only
    refine ⟨rfl, ⟨by omega, by omega⟩, ⟨by omega, by omega⟩, .inl ⟨rfl, rfl⟩, ?_⟩
    rw [if_pos rfl]
    exact hT.set (q := ⟨line, true, wr⟩) hpk rfl (fun j r hr hi _ => hfresh j r hr hi) (fun e => by rw [hpi] at e; cases e)
  | none =>
    have hw1 := hw.ways1
    have m0 : 0 ≤ nextSeed σ.seed / 4294967296 % (σ.ways : Int) := Int.emod_nonneg _ (by omega)
    have m1 : nextSeed σ.seed / 4294967296 % (σ.ways : Int) < σ.ways := Int.emod_lt_of_pos _ (by omega)
    dsimp only
    obtain ⟨k, hkk⟩ := Int.eq_ofNat_of_zero_le m0
    have hkn : k < σ.ways := by omega
    simp only [hkk, Int.toNat_natCast]
    obtain ⟨p, hpk⟩ : ∃ p, σ.pl[(line % σ.sets).toNat * σ.ways + k]? = some p := ⟨_, List.getElem?_eq_getElem (by omega)⟩
    have hpi := row_none line hk k p hkn hpk
    have hg : σ.pl.getD ((line % σ.sets).toNat * σ.ways + k) Pl.zero = p := by simp [List.getD, hpk]
    rw [hg]
    have h1 := hp _ p hpk hpi
    have h2 := hw.pl1 _ p hpk hpi
    have hz : ¬ p.line * 64 = 0 := by omega
    have hset : p.line % (σ.sets : Int) = line % (σ.sets : Int) := by
      rw [h2.2.2]
      have : ((line % σ.sets).toNat * σ.ways + k) / σ.ways = (line % σ.sets).toNat := by
        rw [Nat.mul_comm, Nat.mul_add_div (by omega), Nat.div_eq_of_lt hkn, Nat.add_zero]
      rw [this]
      have := hw.sets1
      have r0 : 0 ≤ line % (σ.sets : Int) := Int.emod_nonneg _ (by omega)
      omega
    refine ⟨trivial, ⟨by omega, by omega⟩, ⟨by omega, by omega⟩, .inr ⟨hz, ⟨mark p.wr, hT.key hpk hpi, (mark_ge _).1, (mark_ge _).2, (mark_two _).symm⟩, ?_⟩, ?_⟩
    · rw [Int.mul_ediv_cancel _ (by decide)]; exact hset
    · rw [if_neg hz]
      have a1 := hT.strike (z := Pl.zero) hpk rfl (fun j r hr hi hj e => hj (hw.one j _ r p hr hpk hi hpi e))
      have hlt := (List.getElem?_eq_some_iff.1 hpk).1
      have a2 := a1.set (n := (line % σ.sets).toNat * σ.ways + k) (q := ⟨line, true, wr⟩) (get_set hlt) rfl (fun j r hr hi hj => by
        rcases set_get hr with ⟨_, rfl, _⟩ | ⟨_, hr'⟩
        · cases hi
        · exact hfresh j r hr' hi) (fun e => by cases e)
      rw [List.set_set] at a2
      exact a2

theorem tickAt_seen {σ : St} {th pe : List (Int × Int)} (hT : Tells σ th pe) (hw : WF σ) (out : List Dn) (i : Nat) :
    ((St.tickAt (σ, out) i).2 = out ∧ Tells (St.tickAt (σ, out) i).1 th pe) ∨
    ∃ d, (St.tickAt (σ, out) i).2 = out ++ [d] ∧ OkRound σ.sets (th, pe) d ∧ Tells (St.tickAt (σ, out) i).1 (oneRound (th, pe) d).1 (oneRound (th, pe) d).2 := by
  unfold St.tickAt
  dsimp only
  split
  · exact .inl ⟨rfl, hT⟩
  · rename_i s hs
    split
    · rename_i hi
      have hls := hT.hs i s hs hi
      obtain ⟨l0, l1, l2, l3⟩ := hw.sl3 i s hs hi
      split
      · rename_i hl
        right
        have hfresh : ∀ (j : Nat) p, σ.pl[j]? = some p → p.is = true → p.line ≠ s.line := fun j p hp hpi => (hw.apart i j s p hs hp hi hpi).symm
        obtain ⟨y1, y2, y3, y4, y5⟩ := lay_seen hT.th hT.hp hw.toWP s.wr hls l1 hfresh
        obtain ⟨n, n1, n2, n3, _⟩ := lay_place hw.toWP s.line s.wr
        have e1 := hT.pe.key hs hi
        refine ⟨(σ.lay s.line s.wr).2, rfl, ⟨⟨mark s.wr, by rw [y1]; exact e1, (mark_ge _).1, (mark_ge _).2⟩, ?_, ?_, y2, y3⟩, ?_, ?_, ?_, ?_⟩
        · rw [y1]
          exact hT.th.nokey fun j p hp hpi e => hfresh j p hp hpi (by omega)
        · rcases y4 with h | ⟨h1, h2, h3⟩
          · exact .inl h
          · refine .inr ⟨h1, h2, ?_⟩
            rw [h3, y1, Int.mul_ediv_cancel _ (by decide)]
        · unfold oneRound
          dsimp only
          rw [y1, e1]
          exact y5
        · unfold oneRound
          dsimp only
          rw [y1]
          exact hT.pe.strike (z := Sl.zero) hs rfl (fun j r hr hri hj e => hj (hw.sone j i r s hr hs hri hi e))
        · intro j r hr hri
          dsimp only at hr
          rw [n3] at hr
          rcases set_get hr with ⟨_, rfl, _⟩ | ⟨_, hr'⟩
          · exact hls
          · exact hT.hp j r hr' hri
        · intro j r hr hri
          rcases set_get hr with ⟨_, rfl, _⟩ | ⟨_, hr'⟩
          · cases hri
          · exact hT.hs j r hr' hri
      · refine .inl ⟨rfl, hT.th, hT.pe.same (q := { s with left := s.left - 1 }) hs rfl rfl rfl, hT.hp, ?_⟩
        intro j r hr hri
        rcases set_get hr with ⟨rfl, rfl, _⟩ | ⟨_, hr'⟩
        · exact hls
        · exact hT.hs j r hr' hri
    · exact .inl ⟨rfl, hT⟩

theorem tickTo_seen {σ : St} {th pe : List (Int × Int)} (hT : Tells σ th pe) (hw : WF σ) : ∀ k, Tells (σ.tickTo k).1 ((σ.tickTo k).2.foldl oneRound (th, pe)).1 ((σ.tickTo k).2.foldl oneRound (th, pe)).2 ∧
    ∀ (j : Nat) d, (σ.tickTo k).2[j]? = some d → OkRound σ.sets (((σ.tickTo k).2.take j).foldl oneRound (th, pe)) d
  | 0 => ⟨by simpa [St.tickTo] using hT, fun j d h => by simp [St.tickTo] at h⟩
  | k + 1 => by
    obtain ⟨h1, h2⟩ := tickTo_seen hT hw k
    have hw' := hw.tickTo k
    have hs := (tickTo_keeps σ k).2.1
    rw [tickTo_succ]
    rcases tickAt_seen h1 hw' (σ.tickTo k).2 k with ⟨e1, e2⟩ | ⟨d, e1, e2, e3⟩
    · rw [show ((σ.tickTo k).1, (σ.tickTo k).2) = σ.tickTo k from rfl] at e1 e2
      rw [e1]
      exact ⟨e2, h2⟩
    · rw [show ((σ.tickTo k).1, (σ.tickTo k).2) = σ.tickTo k from rfl] at e1 e3
      rw [e1]
      refine ⟨by rw [List.foldl_append]; exact e3, fun j d' hj => ?_⟩
      rw [List.getElem?_append] at hj
      split at hj
      · rename_i hlt
        rw [List.take_append_of_le_length (by omega)]
        exact h2 j d' hj
      · rename_i hge
        have hj0 : j - (σ.tickTo k).2.length = 0 := by
          cases hjj : j - (σ.tickTo k).2.length with
          | zero => rfl
          | succ m => rw [hjj] at hj; simp at hj
        rw [hj0] at hj
        simp only [List.getElem?_cons_zero, Option.some.injEq] at hj
        subst hj
        have : j = (σ.tickTo k).2.length := by omega
        rw [this, List.take_left']
        · rw [hs] at e2; exact e2
        · rfl

theorem tick_seen {σ : St} {th pe : List (Int × Int)} (hT : Tells σ th pe) (hw : WF σ) : Tells σ.tick.1 (σ.tick.2.foldl oneRound (th, pe)).1 (σ.tick.2.foldl oneRound (th, pe)).2 ∧
    ∀ (j : Nat) d, σ.tick.2[j]? = some d → OkRound σ.sets ((σ.tick.2.take j).foldl oneRound (th, pe)) d := tickTo_seen hT hw _

/-! ### Flush -/
def struck (th : List (Int × Int)) (xs : List Int) : List (Int × Int) := xs.foldl (fun t x => upd t x 1) th

theorem struck_asc (a : Int) : ∀ (xs : List Int) (th : List (Int × Int)), asc (struck th xs) a = if a ∈ xs then some 1 else asc th a
  | [], th => by simp [struck]
  | x :: xs, th => by
    have : struck th (x :: xs) = struck (upd th x 1) xs := rfl
    rw [this, struck_asc a xs, asc_upd]
    by_cases h1 : a ∈ xs
    · simp [h1]
    · by_cases h2 : x = a
      · simp [h2]
      · simp [h1, h2, Ne.symm h2]

theorem mem_dirty {σ : St} {th pe : List (Int × Int)} (hT : Tells σ th pe) (a : Int) : a ∈ sorted σ.dirty ↔ asc th a = some 2 := by
  unfold sorted
  rw [List.mem_mergeSort, hT.th a 2]
  unfold St.dirty
  simp only [List.mem_map, List.mem_filter, Bool.and_eq_true]
  constructor
  · rintro ⟨p, ⟨hp, h1, h2⟩, h3⟩
    obtain ⟨n, hn, rfl⟩ := List.getElem_of_mem hp
    exact ⟨n, _, List.getElem?_eq_getElem hn, h1, h3, by rw [h2]; rfl⟩
  · rintro ⟨n, p, hp, h1, h2, h3⟩
    refine ⟨p, ⟨List.mem_of_getElem? hp, h1, ?_⟩, h2⟩
    rw [← mark_two p.wr, h3]; rfl

theorem dirty_nodup {σ : St} (hw : WP σ) : σ.dirty.Nodup := by
  have hpw : σ.pl.Pairwise fun p q => p.is = true → q.is = true → p.line ≠ q.line := by
    rw [List.pairwise_iff_getElem]
    intro i j hi hj hij h1 h2 e
    have := hw.one i j _ _ (List.getElem?_eq_getElem hi) (List.getElem?_eq_getElem hj) h1 h2 e
    omega
  unfold St.dirty
  refine List.pairwise_map.2 ((List.pairwise_filter.2 (hpw.imp ?_)))
  intro p q hpq h1 h2 e
  simp only [Bool.and_eq_true] at h1 h2
  exact hpq h1.1 h2.1 (by omega)

theorem sorted_strict {σ : St} (hw : WP σ) : (sorted σ.dirty).Pairwise (· < ·) := by
  have h1 := sorted_pairwise σ.dirty
  have h2 : (sorted σ.dirty).Nodup := (List.mergeSort_perm _ _).nodup_iff.2 (dirty_nodup hw)
  exact (h1.and h2).imp fun ⟨a, b⟩ => by omega

theorem dirty_ok {σ : St} (hw : WP σ) : ∀ x ∈ sorted σ.dirty, okLine x := by
  intro x hx
  unfold sorted at hx
  rw [List.mem_mergeSort] at hx
  unfold St.dirty at hx
  simp only [List.mem_map, List.mem_filter, Bool.and_eq_true] at hx
  obtain ⟨p, ⟨hp, h1, h2⟩, h3⟩ := hx
  obtain ⟨n, hn, rfl⟩ := List.getElem_of_mem hp
  have := hw.pl1 n _ (List.getElem?_eq_getElem hn) h1
  subst h3
  exact ⟨by omega, by omega⟩

/-- The round over what was let go. -/
theorem out_seen {σ : St} {th pe : List (Int × Int)} (hT : Tells σ th pe) (hw : WP σ) {k : Nat} {x : Int} (hx : (sorted σ.dirty)[k]? = some x) : asc (struck th ((sorted σ.dirty).take k)) x = some 2 ∧ okLine x ∧ ∀ y, 1 ≤ k → (sorted σ.dirty)[k - 1]? = some y → y < x := by
  have hs := sorted_strict hw
  have hk := (List.getElem?_eq_some_iff.1 hx).1
  have hxe := (List.getElem?_eq_some_iff.1 hx).2
  rw [List.pairwise_iff_getElem] at hs
  refine ⟨?_, dirty_ok hw x (List.mem_of_getElem? hx), ?_⟩
  · rw [struck_asc, if_neg]
    · exact (mem_dirty hT x).1 (List.mem_of_getElem? hx)
    · intro hm
      obtain ⟨j, hj, he⟩ := List.getElem_of_mem hm
      rw [List.getElem_take] at he
      rw [List.length_take] at hj
      have := hs j k (by omega) hk (by omega)
      omega
  · intro y hk1 hy
    have hye := (List.getElem?_eq_some_iff.1 hy).2
    have := hs (k - 1) k (by omega) hk (by omega)
    omega

theorem struck_none {σ : St} {th pe : List (Int × Int)} (hT : Tells σ th pe) (a : Int) : asc (struck th (sorted σ.dirty)) a ≠ some 2 := by
  rw [struck_asc]
  split
  · simp
  · rename_i h
    exact fun e => h ((mem_dirty hT a).2 e)

theorem clear_has (σ : St) (at_ : Int) : σ.clear.hasLine at_ = (false, false) := by
  unfold St.hasLine St.clear
  dsimp only
  have : (σ.pl.map fun _ => Pl.zero).findIdx? (Pl.has (at_ / 64)) = none := by
    rw [List.findIdx?_eq_none_iff]
    intro p hp
    obtain ⟨_, _, rfl⟩ := List.mem_map.1 hp
    rfl
  rw [this]

theorem clear_under (σ : St) : σ.clear.under = 0 := by
  unfold St.under St.clear
  rw [List.countP_eq_zero]
  intro s hs
  obtain ⟨_, _, rfl⟩ := List.mem_map.1 hs
  decide

theorem new_tells (sets ways slots delay : Nat) (seed : Int) : Tells (St.new sets ways slots delay seed) [] [] := by
  have h1 : ∀ (n : Nat) p, (St.new sets ways slots delay seed).pl[n]? = some p → p.is = true → False := by
    intro n p hp hi
    have := List.mem_of_getElem? hp
    unfold St.new at this
    rw [(List.mem_replicate.1 this).2] at hi
    cases hi
  have h2 : ∀ (n : Nat) p, (St.new sets ways slots delay seed).sl[n]? = some p → p.is = true → False := by
    intro n p hp hi
    have := List.mem_of_getElem? hp
    unfold St.new at this
    rw [(List.mem_replicate.1 this).2] at hi
    cases hi
  refine ⟨?_, ?_, fun n p hp hi => (h1 n p hp hi).elim, fun n p hp hi => (h2 n p hp hi).elim⟩
  · intro a v
    constructor
    · intro h; simp [asc] at h
    · rintro ⟨n, p, hp, hi, _⟩; exact (h1 n p hp hi).elim
  · intro a v
    constructor
    · intro h; simp [asc] at h
    · rintro ⟨n, p, hp, hi, _⟩; exact (h2 n p hp hi).elim

/-! ### Bits -/
def topBit (x : Int) : Int := bits .or .u64 x 9223372036854775808

theorem topBit_ge {x : Int} (h0 : 0 ≤ x) (h1 : x < 18446744073709551616) : 9223372036854775808 ≤ topBit x ∧ topBit x < 18446744073709551616 := by
  obtain ⟨n, rfl⟩ := Int.eq_ofNat_of_zero_le h0
  have h := bits_or_u64_nat n 9223372036854775808 (by omega) (by omega)
  have e : topBit (n : Int) = ((n ||| 9223372036854775808 : Nat) : Int) := h
  have h2 : n ||| 9223372036854775808 < 2 ^ 64 := Nat.or_lt_two_pow (by omega) (by omega)
  have h3 : 9223372036854775808 ≤ n ||| 9223372036854775808 := Nat.right_le_or
  rw [e]
  constructor
  · omega
  · have : (2 : Nat) ^ 64 = 18446744073709551616 := by decide
    omega

theorem nat_line (n : Nat) (hn : n < 2 ^ 64) : (BitVec.ofNat 64 n &&& ~~~ BitVec.ofNat 64 63).toNat = n / 64 * 64 := by
  apply Nat.eq_of_testBit_eq
  intro i
  have e64 : n / 64 * 64 = (n >>> 6) <<< 6 := by rw [Nat.shiftRight_eq_div_pow, Nat.shiftLeft_eq]
  rw [e64, Nat.testBit_shiftLeft, Nat.testBit_shiftRight, BitVec.testBit_toNat, BitVec.getLsbD_and, BitVec.getLsbD_not, BitVec.getLsbD_ofNat, BitVec.getLsbD_ofNat]
  have e63 : Nat.testBit 63 i = decide (i < 6) := Nat.testBit_two_pow_sub_one 6 i
  rw [e63]
  by_cases h1 : i < 64
  · by_cases h2 : i < 6
    · simp [h1, h2, show ¬ 6 ≤ i by omega]
    · simp [h1, h2, show 6 ≤ i by omega]
  · have : n.testBit i = false := Nat.testBit_lt_two_pow (Nat.lt_of_lt_of_le hn (Nat.pow_le_pow_right (by decide) (by omega)))
    simp [h1, show 6 ≤ i by omega, this]

theorem bits_line {x : Int} (h0 : 0 ≤ x) (h1 : x < 18446744073709551616) : bits .andNot .u64 x 63 = x / 64 * 64 := by
  obtain ⟨n, rfl⟩ := Int.eq_ofNat_of_zero_le h0
  have h := nat_line n (by have : (2 : Nat) ^ 64 = 18446744073709551616 := by decide
                           omega)
  show IntKind.u64.wrap ((BitVec.ofInt 64 (n : Int) &&& ~~~ BitVec.ofInt 64 ((63 : Nat) : Int)).toNat : Int) = _
  rw [BitVec.ofInt_natCast, BitVec.ofInt_natCast, h, IntKind.wrap_u64]
  omega

end Go.Proofs.Ytmagpdbnefbfkaa
