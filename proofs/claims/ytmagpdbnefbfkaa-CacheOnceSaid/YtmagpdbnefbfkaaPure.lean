/- What a cache holds, and what its calls do, in plain Lean; no program is in sight. -/
import Derived.Test.YtmagpdbnefbfkaaKit
namespace Go.Proofs.Ytmagpdbnefbfkaa
open Go Go.RowKit

/-- A way: a line's number, or none. -/
structure Pl where
  line : Int
  is : Bool
  wr : Bool

/-- A slot. -/
structure Sl where
  line : Int
  is : Bool
  wr : Bool
  left : Int

def Pl.zero : Pl := ⟨0, false, false⟩
def Sl.zero : Sl := ⟨0, false, false, 0⟩
def Pl.enc (p : Pl) : List Value := [.int .u64 p.line, .bool p.is, .bool p.wr]
def Sl.enc (s : Sl) : List Value := [.int .u64 s.line, .bool s.is, .bool s.wr, .int .i64 s.left]

theorem Pl.enc_len (p : Pl) : p.enc.length = 3 := rfl
theorem Sl.enc_len (s : Sl) : s.enc.length = 4 := rfl

/-- A line that came. -/
structure Dn where
  at_ : Int
  out : Int
  wr : Bool
def Dn.enc (d : Dn) : List Value := [.int .u64 d.at_, .int .u64 d.out, .bool d.wr]
theorem Dn.enc_len (d : Dn) : d.enc.length = 3 := rfl

section
variable {w : World} {g : Nat} {e : TypeId} {n : Nat}

theorem Row.sl {l : List Sl} (h : Row w g e n (l.flatMap Sl.enc)) {k : Nat} {s : Sl} (hs : l[k]? = some s) :
    w.cell? ⟨g, k * 4, none⟩ = some (.int .u64 s.line) ∧ w.cell? ⟨g, k * 4 + 1, none⟩ = some (.bool s.is) ∧ w.cell? ⟨g, k * 4 + 2, none⟩ = some (.bool s.wr) ∧
      w.cell? ⟨g, k * 4 + 3, none⟩ = some (.int .i64 s.left) :=
  ⟨h.cell (flat_get Sl.enc 4 Sl.enc_len l k 0 s hs (by omega)), h.cell (flat_get Sl.enc 4 Sl.enc_len l k 1 s hs (by omega)),
    h.cell (flat_get Sl.enc 4 Sl.enc_len l k 2 s hs (by omega)), h.cell (flat_get Sl.enc 4 Sl.enc_len l k 3 s hs (by omega))⟩

theorem Row.pl {l : List Pl} (h : Row w g e n (l.flatMap Pl.enc)) {k : Nat} {s : Pl} (hs : l[k]? = some s) :
    w.cell? ⟨g, k * 3, none⟩ = some (.int .u64 s.line) ∧ w.cell? ⟨g, k * 3 + 1, none⟩ = some (.bool s.is) ∧ w.cell? ⟨g, k * 3 + 2, none⟩ = some (.bool s.wr) :=
  ⟨h.cell (flat_get Pl.enc 3 Pl.enc_len l k 0 s hs (by omega)), h.cell (flat_get Pl.enc 3 Pl.enc_len l k 1 s hs (by omega)),
    h.cell (flat_get Pl.enc 3 Pl.enc_len l k 2 s hs (by omega))⟩

theorem Row.storePl {l : List Pl} (h : Row w g e n (l.flatMap Pl.enc)) {k : Nat} {p q : Pl} (hp : l[k]? = some p) :
    Row (((w.setCell ⟨g, k * 3, none⟩ (.int .u64 q.line)).setCell ⟨g, k * 3 + 1, none⟩ (.bool q.is)).setCell ⟨g, k * 3 + 2, none⟩ (.bool q.wr)) g e n ((l.set k q).flatMap Pl.enc) := by
  have h1 := ((h.set (k * 3 + 0) (.int .u64 q.line)).set (k * 3 + 1) (.bool q.is)).set (k * 3 + 2) (.bool q.wr)
  have hlt := (List.getElem?_eq_some_iff.1 hp).1
  rw [flat_set Pl.enc 3 Pl.enc_len l k 0 p ⟨q.line, p.is, p.wr⟩ _ hp (by omega) rfl] at h1
  rw [flat_set Pl.enc 3 Pl.enc_len _ k 1 ⟨q.line, p.is, p.wr⟩ ⟨q.line, q.is, p.wr⟩ _ (by simp [hlt]) (by omega) rfl] at h1
  rw [flat_set Pl.enc 3 Pl.enc_len _ k 2 ⟨q.line, q.is, p.wr⟩ q _ (by simp [hlt]) (by omega) rfl] at h1
  simpa using h1

theorem Row.storeSl {l : List Sl} (h : Row w g e n (l.flatMap Sl.enc)) {k : Nat} {p q : Sl} (hp : l[k]? = some p) :
    Row ((((w.setCell ⟨g, k * 4, none⟩ (.int .u64 q.line)).setCell ⟨g, k * 4 + 1, none⟩ (.bool q.is)).setCell ⟨g, k * 4 + 2, none⟩ (.bool q.wr)).setCell ⟨g, k * 4 + 3, none⟩ (.int .i64 q.left)) g e n ((l.set k q).flatMap Sl.enc) := by
  have h1 := (((h.set (k * 4 + 0) (.int .u64 q.line)).set (k * 4 + 1) (.bool q.is)).set (k * 4 + 2) (.bool q.wr)).set (k * 4 + 3) (.int .i64 q.left)
  have hlt := (List.getElem?_eq_some_iff.1 hp).1
  rw [flat_set Sl.enc 4 Sl.enc_len l k 0 p ⟨q.line, p.is, p.wr, p.left⟩ _ hp (by omega) rfl] at h1
  rw [flat_set Sl.enc 4 Sl.enc_len _ k 1 ⟨q.line, p.is, p.wr, p.left⟩ ⟨q.line, q.is, p.wr, p.left⟩ _ (by simp [hlt]) (by omega) rfl] at h1
  rw [flat_set Sl.enc 4 Sl.enc_len _ k 2 ⟨q.line, q.is, p.wr, p.left⟩ ⟨q.line, q.is, q.wr, p.left⟩ _ (by simp [hlt]) (by omega) rfl] at h1
  rw [flat_set Sl.enc 4 Sl.enc_len _ k 3 ⟨q.line, q.is, q.wr, p.left⟩ q _ (by simp [hlt]) (by omega) rfl] at h1
  simpa using h1

theorem Row.markPl {l : List Pl} (h : Row w g e n (l.flatMap Pl.enc)) {k : Nat} {p : Pl} {v : Bool} (hp : l[k]? = some p) : Row (w.setCell ⟨g, k * 3 + 2, none⟩ (.bool v)) g e n ((l.set k { p with wr := v }).flatMap Pl.enc) := by
  have h1 := h.set (k * 3 + 2) (.bool v)
  rwa [flat_set Pl.enc 3 Pl.enc_len l k 2 p { p with wr := v } _ hp (by omega) rfl] at h1

theorem Row.markSl {l : List Sl} (h : Row w g e n (l.flatMap Sl.enc)) {k : Nat} {p : Sl} {v : Bool} (hp : l[k]? = some p) : Row (w.setCell ⟨g, k * 4 + 2, none⟩ (.bool v)) g e n ((l.set k { p with wr := v }).flatMap Sl.enc) := by
  have h1 := h.set (k * 4 + 2) (.bool v)
  rwa [flat_set Sl.enc 4 Sl.enc_len l k 2 p { p with wr := v } _ hp (by omega) rfl] at h1

theorem Row.leftSl {l : List Sl} (h : Row w g e n (l.flatMap Sl.enc)) {k : Nat} {p : Sl} {v : Int} (hp : l[k]? = some p) : Row (w.setCell ⟨g, k * 4 + 3, none⟩ (.int .i64 v)) g e n ((l.set k { p with left := v }).flatMap Sl.enc) := by
  have h1 := h.set (k * 4 + 3) (.int .i64 v)
  rwa [flat_set Sl.enc 4 Sl.enc_len l k 3 p { p with left := v } _ hp (by omega) rfl] at h1
end

structure St where
  sets : Nat
  ways : Nat
  delay : Nat
  seed : Int
  pl : List Pl
  sl : List Sl

def Pl.has (line : Int) (p : Pl) : Bool := p.is && p.line == line
def Sl.has (line : Int) (s : Sl) : Bool := s.is && s.line == line
def Sl.free (s : Sl) : Bool := !s.is
def Pl.free (p : Pl) : Bool := !p.is

/-- What is asked of the ways. -/
structure WP (σ : St) : Prop where
  sets1 : 1 ≤ σ.sets
  sets2 : σ.sets ≤ 64
  ways1 : 1 ≤ σ.ways
  ways2 : σ.ways ≤ 8
  len : σ.pl.length = σ.sets * σ.ways
  pl0 : ∀ (i : Nat) p, σ.pl[i]? = some p → p.is = false → p = Pl.zero
  pl1 : ∀ (i : Nat) p, σ.pl[i]? = some p → p.is = true → 0 ≤ p.line ∧ p.line < 288230376151711744 ∧ p.line % σ.sets = (i / σ.ways : Nat)
  one : ∀ (i j : Nat) p q, σ.pl[i]? = some p → σ.pl[j]? = some q → p.is = true → q.is = true → p.line = q.line → i = j

/-- Ways and slots. -/
structure WF (σ : St) : Prop extends WP σ where
  sl1 : 1 ≤ σ.sl.length
  sl2 : σ.sl.length ≤ 8
  del1 : 1 ≤ σ.delay
  del2 : σ.delay ≤ 64
  sl0 : ∀ (i : Nat) s, σ.sl[i]? = some s → s.is = false → s = Sl.zero
  sl3 : ∀ (i : Nat) s, σ.sl[i]? = some s → s.is = true → 0 ≤ s.line ∧ s.line < 288230376151711744 ∧ 1 ≤ s.left ∧ s.left ≤ 64
  sone : ∀ (i j : Nat) s t, σ.sl[i]? = some s → σ.sl[j]? = some t → s.is = true → t.is = true → s.line = t.line → i = j
  apart : ∀ (i j : Nat) s p, σ.sl[i]? = some s → σ.pl[j]? = some p → s.is = true → p.is = true → s.line ≠ p.line

theorem WP.len2 {σ : St} (h : WP σ) : σ.pl.length ≤ 512 := by
  rw [h.len]
  exact Nat.mul_le_mul h.sets2 h.ways2

/-- Where a line stands. -/
def St.find (σ : St) (line : Int) : Option Nat := σ.pl.findIdx? (Pl.has line)
def St.under (σ : St) : Nat := σ.sl.countP (·.is)

def St.ask (σ : St) (at_ : Int) (wr : Bool) : St × Int :=
  match σ.pl.findIdx? (Pl.has (at_ / 64)) with
  | some n => ({ σ with pl := σ.pl.modify n fun p => { p with wr := p.wr || wr } }, 1)
  | none =>
    match σ.sl.findIdx? (Sl.has (at_ / 64)) with
    | some i => ({ σ with sl := σ.sl.modify i fun s => { s with wr := s.wr || wr } }, 2)
    | none =>
      match σ.sl.findIdx? Sl.free with
      | some i => ({ σ with sl := σ.sl.set i ⟨at_ / 64, true, wr, σ.delay⟩ }, 2)
      | none => (σ, 3)

def nextSeed (s : Int) : Int := (6364136223846793005 * s + 1442695040888963407) % 18446744073709551616

/-- The ways of a set. -/
def St.row (σ : St) (k : Nat) : List Pl := (σ.pl.drop (k * σ.ways)).take σ.ways

def St.lay (σ : St) (line : Int) (wr : Bool) : St × Dn :=
  let first := (line % σ.sets).toNat * σ.ways
  match (σ.row (line % σ.sets).toNat).findIdx? Pl.free with
  | some k => ({ σ with pl := σ.pl.set (first + k) ⟨line, true, wr⟩ }, ⟨line * 64, 0, false⟩)
  | none =>
    let seed := nextSeed σ.seed
    let k := (seed / 4294967296 % σ.ways).toNat
    ({ σ with seed := seed, pl := σ.pl.set (first + k) ⟨line, true, wr⟩ }, ⟨line * 64, (σ.pl.getD (first + k) Pl.zero).line * 64, (σ.pl.getD (first + k) Pl.zero).wr⟩)

def St.tickAt (x : St × List Dn) (i : Nat) : St × List Dn :=
  match x.1.sl[i]? with
  | none => x
  | some s =>
    if s.is then
      if s.left = 1 then
        let y := x.1.lay s.line s.wr
        ({ y.1 with sl := x.1.sl.set i Sl.zero }, x.2 ++ [y.2])
      else ({ x.1 with sl := x.1.sl.set i { s with left := s.left - 1 } }, x.2)
    else x

def St.tickTo (σ : St) (n : Nat) : St × List Dn := (List.range n).foldl St.tickAt (σ, [])
def St.tick (σ : St) : St × List Dn := σ.tickTo σ.sl.length

def St.dirty (σ : St) : List Int := (σ.pl.filter fun p => p.is && p.wr).map fun p => p.line * 64
def St.flushed (σ : St) : List Int := σ.dirty.mergeSort fun a b => decide (a ≤ b)
def St.clear (σ : St) : St := { σ with pl := σ.pl.map fun _ => Pl.zero, sl := σ.sl.map fun _ => Sl.zero }

theorem tickTo_succ (σ : St) (n : Nat) : σ.tickTo (n + 1) = St.tickAt (σ.tickTo n) n := by
  simp [St.tickTo, List.range_succ]

end Go.Proofs.Ytmagpdbnefbfkaa
