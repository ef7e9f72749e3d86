/- The document's cache: Flush. -/
import Derived.Test.YtmagpdbnefbfkaaW17
import Derived.Test.YtmagpdbnefbfkaaW12
namespace Go.Proofs.Ytmagpdbnefbfkaa
open Go Go.RowKit

def St.outTo (σ : St) (m : Nat) : List Int := (σ.dirtyTo m).foldl (fun l x => insF x l) []

def clearPl : List Pl → Nat → List Pl
  | l, 0 => l
  | l, m + 1 => (clearPl l m).set m Pl.zero

def St.clearTo (σ : St) (m : Nat) : St := { σ with pl := clearPl σ.pl m }

theorem clearPl_len (l : List Pl) : ∀ m, (clearPl l m).length = l.length
  | 0 => rfl
  | m + 1 => by simp [clearPl, clearPl_len l m]

theorem clearPl_get (l : List Pl) : ∀ m j, m ≤ j → (clearPl l m)[j]? = l[j]?
  | 0, _, _ => rfl
  | m + 1, j, h => by
    rw [clearPl, List.getElem?_set_ne (by omega), clearPl_get l m j (by omega)]

theorem clearPl_low (l : List Pl) : ∀ m j, j < m → j < l.length → (clearPl l m)[j]? = some Pl.zero
  | 0, _, h, _ => by omega
  | m + 1, j, h, hl => by
    rw [clearPl]
    by_cases e : m = j
    · subst e
      rw [List.getElem?_set_self (by rw [clearPl_len]; exact hl)]
    · rw [List.getElem?_set_ne e, clearPl_low l m j (by omega) hl]

theorem clearPl_all (l : List Pl) : clearPl l l.length = l.map fun _ => Pl.zero := by
  apply List.ext_getElem?
  intro j
  by_cases hj : j < l.length
  · rw [clearPl_low l _ j hj hj]
    simp [hj]
  · rw [List.getElem?_eq_none (by rw [clearPl_len]; omega), List.getElem?_eq_none (by simp; omega)]

theorem outTo_len (σ : St) (m : Nat) : (σ.outTo m).length = (σ.dirtyTo m).length := by
  unfold St.outTo
  have : ∀ (d l : List Int), (d.foldl (fun l x => insF x l) l).length = l.length + d.length := by
    intro d
    induction d with
    | nil => intro l; simp
    | cons x d ih => intro l; rw [List.foldl_cons, ih, insF_len]; simp; omega
  rw [this]; simp

theorem row_at {σ : St} (K : Nat) {j : Nat} (hj : j < σ.ways) : (σ.row K)[j]? = σ.pl[K * σ.ways + j]? := by
  unfold St.row
  rw [List.getElem?_take, if_pos hj, List.getElem?_drop]

def FlushAt (w : World) (b bo bs : Nat) (rs : List (Nat × Nat)) (σ : St) (m : Nat) (o : Value) (wr : World) : Prop :=
  ∃ g c, o = .slice (some ⟨g, 0, none⟩) (σ.outTo m).length c ∧ w.heap.size ≤ g ∧ Row wr g 22 c (encs (σ.outTo m)) ∧ RepR wr b bo bs rs (σ.clearTo m) ∧ Chg (blocksR b bo bs rs) w wr

def FlushPostR (w : World) (b bo bs : Nat) (rs : List (Nat × Nat)) (σ : St) (e : Ending) (w' : World) : Prop :=
  ∃ g c bs', e = .returned (.slice (some ⟨g, 0, none⟩) (σ.outTo σ.pl.length).length c) ∧ w.heap.size ≤ g ∧ Row w' g 22 c (encs (σ.outTo σ.pl.length)) ∧ RepR w' b bo bs' rs σ.clear ∧ w.heap.size ≤ bs' ∧ g ≠ bs' ∧ Chg (blocksR b bo bs rs) w w'

set_option maxRecDepth 100000 in
set_option maxHeartbeats 4000000 in
theorem flushR {w : World} {b bo bs : Nat} {rs : List (Nat × Nat)} {σ : St} (h : RepR w b bo bs rs σ) (hw : WP σ) (hs1 : 1 ≤ σ.sl.length) (hs2 : σ.sl.length ≤ 8) : Calls Try.prog 18 #[.pointer (some ⟨b, 0, none⟩)] w (FlushPostR w b bo bs rs σ) := by
  have hlt := h.lt
  have hpl := hw.len
  have hw8 := hw.ways2
  have hw1 := hw.ways1
  have hsets := hw.sets2
  have hlen2 := hw.len2
  have k1 := make72 σ.sl.length (by omega)
  go_enter Try.func18, Try.ntmps18
  go_wp2
  go_loopw [3, 4] (fun o i wr => ∃ K : Nat, K ≤ σ.sets ∧ i = .int .i64 K ∧ FlushAt w b bo bs rs σ (K * σ.ways) o wr) (fun _ i _ => σ.sets - (intOf i).toNat)
  case atStart =>
    refine ⟨0, Nat.zero_le _, rfl, w.heap.size, 0, ?_, Nat.le_refl _, ?_, ?_, (Chg.refl _ _).alloc _⟩
    · simp [St.outTo, St.dirtyTo]
    · have := Row.new w #[] 22
      simpa [St.outTo, St.dirtyTo, encs] using this
    · rw [Nat.zero_mul]
      exact h.chg (S := []) ((Chg.refl _ _).alloc _) (by simp)
  case round =>
    obtain ⟨K, hK, rfl, g, c, rfl, hg, hrow, hR, hchg⟩ := hrel
    obtain ⟨co, cs, u1, u2, u3, hco, hcs⟩ := hR.top
    have c0 : wr.cell? ⟨b, 0, none⟩ = some (.slice (some ⟨bo, 0, none⟩) σ.sets co) := u1.cell (j := 0) rfl
    by_cases hKs : K < σ.sets
    · obtain ⟨r, hr⟩ : ∃ r, rs[K]? = some r := ⟨_, List.getElem?_eq_getElem (by rw [h.len]; exact hKs)⟩
      have HAt : Hid (FlushAt w b bo bs rs σ (K * σ.ways + 0) (.slice (some ⟨g, 0, none⟩) (σ.outTo (K * σ.ways)).length c) wr) := ⟨g, c, rfl, hg, hrow, hR, hchg⟩
      have hrb : r.1 ∈ blocksR b bo bs rs := by simp only [blocksR, List.mem_cons, List.mem_map]; exact .inr (.inr (.inr ⟨r, List.mem_of_getElem? hr, rfl⟩))
      have hm : K * σ.ways + σ.ways ≤ σ.pl.length := by rw [hpl, ← Nat.succ_mul]; exact Nat.mul_le_mul_right _ hKs
      clear u1 u2 u3 hco hcs hrow hR hchg
      go_wp2
      go_loopw [3, 5] (fun o i wr => ∃ j : Nat, j ≤ σ.ways ∧ i = .int .i64 j ∧ FlushAt w b bo bs rs σ (K * σ.ways + j) o wr) (fun _ i _ => σ.ways - (intOf i).toNat)
      case atStart => exact ⟨0, Nat.zero_le _, rfl, HAt.out⟩
      case round =>
        obtain ⟨j, hj, rfl, g', c', rfl, hg', hrow', hR', hchg'⟩ := hrel
        obtain ⟨co', cs', v1, v2, v3, hco', hcs'⟩ := hR'.top
        have d0 : wr.cell? ⟨b, 0, none⟩ = some (.slice (some ⟨bo, 0, none⟩) σ.sets co') := v1.cell (j := 0) rfl
        have dk : wr.cell? ⟨bo, K, none⟩ = some (.slice (some ⟨r.1, 0, none⟩) σ.ways r.2) := v2.cell (by simp [hr, St.clearTo])
        obtain ⟨hrr, _⟩ := hR'.rows K r hr
        have hbl := v1.lt
        have hbol := v2.lt
        have hrrl := hrr.lt
        by_cases hjw : j < σ.ways
        · obtain ⟨p, hp⟩ : ∃ p, σ.pl[K * σ.ways + j]? = some p := ⟨_, List.getElem?_eq_getElem (by omega)⟩
          have hp' : ((σ.clearTo (K * σ.ways + j)).row K)[j]? = some p := by
            rw [row_at (σ := σ.clearTo (K * σ.ways + j)) K hjw]
            show (clearPl σ.pl _)[K * σ.ways + j]? = _
            rw [clearPl_get _ _ _ (Nat.le_refl _), hp]
          have hpm : (((σ.clearTo (K * σ.ways + j)).row K).map Pl.toSl)[j]? = some p.toSl := by simp [hp']
          obtain ⟨q0, q1, q2, q3⟩ := hrr.sl hpm
          have hstep := dirtyTo_succ hp
          have hout : σ.outTo (K * σ.ways + (j + 1)) = if p.dirty then insF (p.line * 64) (σ.outTo (K * σ.ways + j)) else σ.outTo (K * σ.ways + j) := by
            unfold St.outTo
            rw [← Nat.add_assoc, hstep, List.foldl_append]
            cases p.dirty <;> simp
          have hclr : σ.clearTo (K * σ.ways + (j + 1)) = { σ.clearTo (K * σ.ways + j) with pl := (σ.clearTo (K * σ.ways + j)).pl.set (K * (σ.clearTo (K * σ.ways + j)).ways + j) Pl.zero } := rfl
          have hlen := dirtyTo_len σ (K * σ.ways + j)
          have hol := outTo_len σ (K * σ.ways + j)
          have hsz := hchg'.size
          have gf := hrr.frozen
          have HOUT := Lib.hid hout
          have HOL := Lib.hid hol
          clear hol
          have HCLR := Lib.hid hclr
          have hpl1 := hw.pl1 _ p hp
          -- what the zeroing leaves
          have hzero : ∀ W, Chg [] wr W → RepR ((((W.setCell ⟨r.1, j * 4, none⟩ (.int .u64 0)).setCell ⟨r.1, j * 4 + 1, none⟩ (.bool false)).setCell ⟨r.1, j * 4 + 2, none⟩ (.bool false)).setCell ⟨r.1, j * 4 + 3, none⟩ (.int .i64 0)) b bo bs rs (σ.clearTo (K * σ.ways + (j + 1))) := by
            intro W hC
            rw [hclr]
            have hRW := hR'.chg hC (by simp)
            refine hRW.setRow hr hw1 hjw _ (((((Chg.refl [r.1] W).setCell (.inl (by simp)) _).setCell (.inl (by simp)) _).setCell (.inl (by simp)) _).setCell (.inl (by simp)) _) ?_
            rw [List.map_set]
            exact Row.storeSl (q := Pl.toSl Pl.zero) ((hRW.rows K r hr).1) hpm
          have HZ := Lib.hid hzero
          obtain ⟨pl, pi, pw⟩ := p
          cases pi <;> cases pw
          case true.true =>
            have e8 : IntKind.u64.wrap (64 * pl) = pl * 64 := by
              obtain ⟨l0, l1, _⟩ := hpl1 rfl
              rw [Int.mul_comm]; exact IntWalk.u64_in _ (by dsimp only at l0 l1; omega)
            have hnl := insF_len (pl * 64) (σ.outTo (K * σ.ways + j))
            dsimp only [Pl.toSl] at q0 q1 q2 q3
            clear hout hclr hstep hzero v1 v2 v3 hpl1 HAt
            go_wp2_with fail
            refine (insert_any (hrow'.alloc _) rfl (by have := HOL.out; omega)).mono ?_
            rintro e w2 ⟨g2, c2, rfl, hg2, hr2, hC2⟩
            have hCw : Chg [] wr w2 := ((Chg.refl [] wr).alloc _).tr hC2
            have hrr2 := hrr.chg hCw (by simp)
            obtain ⟨p0, p1, p2, p3⟩ := hrr2.sl hpm
            have pf := hrr2.frozen
            have d0' := (hR'.chg hCw (by simp)).top
            obtain ⟨co2, cs2, t1, t2, _⟩ := d0'
            have d0 : w2.cell? ⟨b, 0, none⟩ = some (.slice (some ⟨bo, 0, none⟩) σ.sets co2) := t1.cell (j := 0) rfl
            have dk : w2.cell? ⟨bo, K, none⟩ = some (.slice (some ⟨r.1, 0, none⟩) σ.ways r.2) := t2.cell (by simp [hr, St.clearTo])
            have hrg : r.1 ≠ g2 := by
              have := hrr.lt
              have h2 : (wr.alloc (Obj.cells #[Value.int IntKind.u64 pl, Value.bool true, Value.bool true, Value.int IntKind.i64 0] 72)).heap.size = wr.heap.size + 1 := by simp
              rw [h2] at hg2
              omega
            have hs2' := hCw.size
            clear hC2 hrr2 t1 t2 hrr
            go_wp2
            go_roundw
            case rel =>
              refine ⟨j + 1, by omega, by go_num, g2, c2, ?_, ?_, ?_, HZ.out w2 hCw, ?_⟩
              · rw [HOUT.out]
                simp only [Pl.dirty, Bool.and_self, if_true, hnl]
              · simp at hg2; omega
              · rw [HOUT.out]
                simp only [Pl.dirty, Bool.and_self, if_true]
                exact (((hr2.other hrg _).other hrg _).other hrg _).other hrg _
              · have hC3 : Chg [r.1] wr ((((w2.setCell ⟨r.1, j * 4, none⟩ (.int .u64 0)).setCell ⟨r.1, j * 4 + 1, none⟩ (.bool false)).setCell ⟨r.1, j * 4 + 2, none⟩ (.bool false)).setCell ⟨r.1, j * 4 + 3, none⟩ (.int .i64 0)) := ((((hCw.mono (by simp)).setCell (.inl (by simp)) _).setCell (.inl (by simp)) _).setCell (.inl (by simp)) _).setCell (.inl (by simp)) _
                exact hchg'.trans hC3 (by simpa using .inl hrb)
            case measure => simp [intOf]; omega
          all_goals
            have hrg : r.1 ≠ g' := by
              intro e
              rw [← e] at hg'
              have := hlt _ hrb
              omega
            dsimp only [Pl.toSl] at q0 q1 q2 q3
            clear hout hclr hstep hzero v1 v2 v3 hpl1 HAt
            go_wp2
            go_roundw
            case rel =>
              refine ⟨j + 1, by omega, by go_num, g', c', ?_, hg', ?_, ?_, ?_⟩
              · rw [HOUT.out]
                simp [Pl.dirty]
              · rw [HOUT.out]
                simp only [Pl.dirty, Bool.and_false, Bool.false_and, Bool.and_self, Bool.false_eq_true, if_false]
                exact ((((hrow'.other hrg _).other hrg _).other hrg _).other hrg _).alloc _
              · exact (HZ.out wr (Chg.refl _ _)).chg (S := []) ((Chg.refl _ _).alloc _) (by simp)
              · have hC3 : Chg [r.1] wr ((((wr.setCell ⟨r.1, j * 4, none⟩ (.int .u64 0)).setCell ⟨r.1, j * 4 + 1, none⟩ (.bool false)).setCell ⟨r.1, j * 4 + 2, none⟩ (.bool false)).setCell ⟨r.1, j * 4 + 3, none⟩ (.int .i64 0)) := (((((Chg.refl [r.1] wr)).setCell (.inl (by simp)) _).setCell (.inl (by simp)) _).setCell (.inl (by simp)) _).setCell (.inl (by simp)) _
                exact (hchg'.trans hC3 (by simpa using .inl hrb)).alloc _
            case measure => simp [intOf]; omega
        · obtain rfl : j = σ.ways := by omega
          have hKK : (K + 1) * σ.ways = K * σ.ways + σ.ways := Nat.succ_mul _ _
          have HR : Hid (FlushAt w b bo bs rs σ ((K + 1) * σ.ways) (.slice (some ⟨g', 0, none⟩) (σ.outTo (K * σ.ways + σ.ways)).length c') wr) := by
            show FlushAt _ _ _ _ _ _ _ _ _
            rw [hKK]; exact ⟨g', c', rfl, hg', hrow', hR', hchg'⟩
          clear hrow' hR' hchg' v1 v2 v3 hrr HAt
          go_wp2
          go_roundw
          case rel => exact ⟨K + 1, by omega, by go_num, HR.out⟩
          case measure => simp [intOf]; omega
    · obtain rfl : K = σ.sets := by omega
      rw [← hpl] at hR hrow ⊢
      have e0 : σ.clear.pl = (σ.clearTo σ.pl.length).pl := (clearPl_all σ.pl).symm
      have c1 : wr.cell? ⟨b, 1, none⟩ = some (.slice (some ⟨bs, 0, none⟩) σ.sl.length cs) := u1.cell (j := 1) rfl
      have f1 := u1.frozen
      have hsz := hchg.size
      have hbl := u1.lt
      have hl18 := h.lt
      have HU : Hid (RepR wr b bo bs rs (σ.clearTo σ.pl.length) ∧ Row wr g 22 c (encs (σ.outTo σ.pl.length)) ∧ Chg (blocksR b bo bs rs) w wr) := ⟨hR, hrow, hchg⟩
      clear hR hrow hchg u2 u3
      go_upto_region 13 with fail
      refine wp_name fun W hW => ?_
      have hP : FlushPostR w b bo bs rs σ (.returned (.slice (some ⟨g, 0, none⟩) (σ.outTo σ.pl.length).length c)) W := by
        obtain ⟨hR, hrow, hchg⟩ := HU.out
        obtain ⟨d1, d2, d3, d4, d5⟩ := hR.ne
        obtain ⟨co2, cs2, r1, r2, r3, hco2, _⟩ := hR.top
        have hz : (wr.setCell { block := b, off := 1 } (Value.slice (some { block := wr.heap.size, off := 0 }) σ.sl.length σ.sl.length)).heap.size = wr.heap.size := by simp [World.setCell]
        have hb0 := hl18 b (by simp [blocksR])
        have hcW : Chg [b] wr W := by rw [hW]; exact ((Chg.refl [b] wr).setCell (.inl (by simp)) _).alloc _
        have hgb : b ≠ g := by omega
        refine ⟨g, c, wr.heap.size, rfl, hg, hrow.chg hcW (by simpa using Ne.symm hgb), ⟨⟨co2, σ.sl.length, ?_, r2.chg hcW (by simpa using Ne.symm d1), ?_, hco2, by unfold maxLen; omega⟩, hR.len, ?_, ?_⟩, hsz, ?_, ?_⟩
        · rw [hW]
          have := (r1.set 1 (.slice (some ⟨wr.heap.size, 0, none⟩) σ.sl.length σ.sl.length)).alloc (Obj.cells (madeCells #[Value.int IntKind.u64 0, Value.bool false, Value.bool false, Value.int IntKind.i64 0] (σ.sl.length * 4)) 72)
          simpa [topR, St.clear, St.clearTo] using this
        · rw [hW]
          have := made_row (wr.setCell { block := b, off := 1 } (Value.slice (some { block := wr.heap.size, off := 0 }) σ.sl.length σ.sl.length)) σ.sl.length
          rw [hz] at this
          simpa [St.clear, List.map_const'] using this
        · intro i r hr
          obtain ⟨a1, a2⟩ := hR.rows i r hr
          have e1 : (σ.clear).row i = (σ.clearTo σ.pl.length).row i := by
            unfold St.row
            rw [e0]; rfl
          rw [e1]
          exact ⟨a1.chg hcW (by simpa using (d4 i r hr).1), a2⟩
        · have hnd := hR.apart
          have hlt2 := hR.lt
          simp only [List.nodup_cons, List.mem_cons, not_or] at hnd ⊢
          refine ⟨⟨hnd.1.1, by omega, hnd.1.2.2⟩, ⟨?_, hnd.2.1.2⟩, ?_, hnd.2.2.2⟩
          · have := r2.lt; omega
          · intro hm
            have := hlt2 wr.heap.size (by simp only [blocksR, List.mem_cons]; exact .inr (.inr (.inr hm)))
            omega
        · have := hrow.lt; omega
        · exact hchg.trans hcW (by simp [blocksR])
      clear hW u1 c1 f1 HU
      go_wp2
      go_ret
      exact hP

end Go.Proofs.Ytmagpdbnefbfkaa
