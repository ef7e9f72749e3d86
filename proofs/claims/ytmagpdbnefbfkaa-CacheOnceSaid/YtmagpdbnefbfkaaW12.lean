/- The walks of the program's cache: Flush. -/
import Derived.Test.YtmagpdbnefbfkaaW7
import Derived.Test.YtmagpdbnefbfkaaS16
namespace Go.Proofs.Ytmagpdbnefbfkaa
open Go Go.RowKit

theorem Try.info22 : (Try.prog.info? 22).map (fun i => (i.zero, i.size, i.bytes)) = some (some (.int .u64 0), 1, 8) := by kernel_rfl
theorem zero65 (w : World) : (zeroValue 65).run Try.prog w = .ok (.agg #[.int .u64 0, .bool false, .bool false]) w := by kernel_rfl
theorem zero68 (w : World) : (zeroValue 68).run Try.prog w = .ok (.agg #[.int .u64 0, .bool false, .bool false, .int .i64 0]) w := by kernel_rfl

def Pl.dirty (p : Pl) : Bool := p.is && p.wr
def St.dirtyTo (σ : St) (k : Nat) : List Int := ((σ.pl.take k).filter Pl.dirty).map fun p => p.line * 64

theorem dirtyTo_succ {σ : St} {k : Nat} {p : Pl} (hp : σ.pl[k]? = some p) : σ.dirtyTo (k + 1) = σ.dirtyTo k ++ if p.dirty then [p.line * 64] else [] := by
  unfold St.dirtyTo
  rw [List.take_add_one, hp, List.filter_append, List.map_append]
  congr 1
  cases h : p.dirty <;> simp [h]

theorem dirtyTo_len (σ : St) (k : Nat) : (σ.dirtyTo k).length ≤ k := by
  unfold St.dirtyTo
  rw [List.length_map]
  exact Nat.le_trans (List.length_filter_le _ _) (by simp; omega)

theorem dirtyTo_all (σ : St) : σ.dirtyTo σ.pl.length = σ.dirty := by
  unfold St.dirtyTo St.dirty
  rw [List.take_length]; rfl

theorem zeroed_pl (n : Nat) : (Builtin.zeroCells (Value.agg #[.int .u64 0, .bool false, .bool false]).cells n).toList = (List.replicate n Pl.zero).flatMap Pl.enc := made_pl n
theorem zeroed_sl (n : Nat) : (Builtin.zeroCells (Value.agg #[.int .u64 0, .bool false, .bool false, .int .i64 0]).cells n).toList = (List.replicate n Sl.zero).flatMap Sl.enc := made_sl n

def FlushRel (w : World) (σ : St) (o i : Value) (wr : World) : Prop :=
  ∃ k : Nat, k ≤ σ.pl.length ∧ i = .int .i64 k ∧ wr.ownsRow w.heap.size 22 1 o (σ.dirtyTo k).length (encs (σ.dirtyTo k)) ∧ Chg [] w wr

def FlushPost (w : World) (b ba bm bs : Nat) (σ : St) (e : Ending) (w' : World) : Prop :=
  ∃ v, e = .returned v ∧ w'.ownsRow w.heap.size 22 1 v σ.dirty.length (encs (sorted σ.dirty)) ∧ RepP w' b ba bm bs σ.clear ∧ Chg [b, ba, bm, bs] w w'

set_option maxRecDepth 100000 in
set_option maxHeartbeats 4000000 in
theorem flush_any {w : World} {b ba bm bs : Nat} {σ : St} (h : RepP w b ba bm bs σ) (hw : WP σ) (hs1 : 1 ≤ σ.sl.length) : Calls Try.prog 17 #[.pointer (some ⟨b, 0, none⟩)] w (FlushPost w b ba bm bs σ) := by
  have hlt := h.lt
  obtain ⟨ca, cs, t1, t2, t3, hca, hcs⟩ := h.top
  have c4 : w.cell? ⟨b, 4, none⟩ = some (.slice (some ⟨ba, 0, none⟩) σ.pl.length ca) := t1.cell (j := 4) rfl
  have hb8 := hw.len2
  have HT := Lib.hid (⟨t1, t2, t3, hca, hcs⟩ : _ ∧ _ ∧ _ ∧ _ ∧ _)
  clear t1 t2 t3 hca hcs
  go_enter Try.func17, Try.ntmps17
  go_wp2
  go_loopw [3, 11] (FlushRel w σ) (fun _ i _ => σ.pl.length - (intOf i).toNat)
  case atStart => exact ⟨0, Nat.zero_le _, rfl, World.ownsRow_nil _ _ _ _, Chg.refl _ _⟩
  case round =>
    obtain ⟨k, hk, rfl, hown, hchg⟩ := hrel
    have hdl := dirtyTo_len σ k
    by_cases hkl : k < σ.pl.length
    · obtain ⟨p, hp⟩ : ∃ p, σ.pl[k]? = some p := ⟨_, List.getElem?_eq_getElem hkl⟩
      have hstep := dirtyTo_succ hp
      obtain ⟨g0, g1, g2⟩ := (HT.out.2.1.chg hchg (by simp)).pl hp
      have hpi := hw.pl1 k p hp
      have hsz := hchg.size
      cases hd : p.dirty with
      | false =>
        rw [hd] at hstep
        simp only [Bool.false_eq_true, if_false, List.append_nil] at hstep
        have HST := Lib.hid hstep
        have HD := Lib.hid hd
        clear hstep hp hpi hd
        obtain ⟨pl, pi, pw⟩ := p
        dsimp only at g0 g1 g2
        cases pi <;> cases pw
        case true.true => exact absurd HD.out (by simp [Pl.dirty])
        all_goals
          go_wp2
          go_roundw
          case rel => exact ⟨k + 1, by omega, by go_num, by rw [HST.out]; exact hown.alloc _, hchg.alloc _⟩
          case measure => simp [intOf]; omega
      | true =>
        rw [hd] at hstep
        simp only [if_true] at hstep
        have HST := Lib.hid hstep
        obtain ⟨d1, d2⟩ : p.is = true ∧ p.wr = true := by simpa [Pl.dirty] using hd
        obtain ⟨l0, l1, _⟩ := hpi d1
        have e8 : IntKind.u64.wrap (p.line * 64) = p.line * 64 := IntWalk.u64_in _ (by omega)
        rw [d1] at g1
        rw [d2] at g2
        obtain ⟨i0, hi0, hz0, hz1, hz2⟩ := info_parts Try.info22
        have hown2 := (hown.alloc (Obj.cells #[.int .u64 p.line, .bool true, .bool true] 65)).alloc (Obj.cells #[.int .u64 (p.line * 64)] 22)
        clear hstep hp hpi hd
        go_wp2_with (at_builtin; go_loud (refine wpList_append_own _ rfl _ _ 44 rfl w.heap.size 22 i0 (.int .u64 0) 1 8 Try.underlying44 hi0 hz0 hz1 hz2 rfl (by decide) _ _ _ rfl hown2 ⟨wr.heap.size + 1, 0, none⟩ 1 1 [.int .u64 (p.line * 64)] rfl rfl (by have := news_new (wr.alloc (Obj.cells #[.int .u64 p.line, .bool true, .bool true] 65)) [.int .u64 (p.line * 64)] 22; simpa using this) (fun u hu => by simp at hu; rcases hu with rfl; rfl) (by unfold maxLen; omega) (by omega) (by simp; omega) ?_); intro v' w3 hown3 hgrow3 _; have hC3 := Chg.of_row hgrow3)
        have hC6 : Chg [] w w3 := ((hchg.alloc _).alloc _).trans hC3 (fun y hy => .inr (hown2.lt y (by have hy' : y ∈ u3.ownBlock.toList := hy; simpa using hy')).1)
        refine ⟨⟨k + 1, by omega, by go_num, ?_, hC6⟩, by simp [intOf]; omega⟩
        rw [HST.out, List.length_append]
        unfold encs
        rw [List.map_append]
        exact hown3
    · obtain rfl : k = σ.pl.length := by omega
      rw [dirtyTo_all] at hown hdl
      go_wp2_with fail
      refine (sort_any hown (by omega)).mono ?_
      rintro e w2 ⟨rfl, hown2, hC2⟩
      have hCX : Chg [] w w2 := hchg.trans hC2 (fun y hy => .inr (hown.lt y (by simpa using hy)).1)
      have hR2 := h.chg hCX (by simp)
      obtain ⟨d1, d2, d3, d4, d5, d6⟩ := hR2.ne
      obtain ⟨ca2, cs2, q1, q2, q3, qa, qs⟩ := hR2.top
      obtain ⟨L, qm, _⟩ := hR2.map
      have hN1 : 1 ≤ σ.pl.length := by rw [hw.len]; exact Nat.mul_le_mul hw.sets1 hw.ways1
      obtain ⟨w3, k3, r3, hC3⟩ := run_clear_row w2 51 65 65 _ ba σ.pl.length ca2 _ _ _ Try.underlying51 zero65 q2 (by omega) (zeroed_pl σ.pl.length) (by rw [flat_length Pl.enc 3 Pl.enc_len, flat_length Pl.enc 3 Pl.enc_len, List.length_replicate]) (by
        intro v hv
        simp only [List.mem_flatMap, List.mem_replicate] at hv
        obtain ⟨p, ⟨_, rfl⟩, hv⟩ := hv
        simp [Pl.enc, Pl.zero] at hv
        rcases hv with rfl | rfl <;> rfl)
      obtain ⟨w4, k4, hm4, hC4, _⟩ := (qm.chg hC3 (by simpa using Ne.symm d4)).clear Try.underlying52 0
      obtain ⟨w5, k5, r5, hC5⟩ := run_clear_row w4 53 68 68 _ bs σ.sl.length cs2 _ _ _ Try.underlying53 zero68 ((q3.chg hC3 (by simpa using Ne.symm d5)).chg hC4 (by simpa using Ne.symm d6)) (by omega) (zeroed_sl σ.sl.length) (by rw [flat_length Sl.enc 4 Sl.enc_len, flat_length Sl.enc 4 Sl.enc_len, List.length_replicate]) (by
        intro v hv
        simp only [List.mem_flatMap, List.mem_replicate] at hv
        obtain ⟨p, ⟨_, rfl⟩, hv⟩ := hv
        simp [Sl.enc, Sl.zero] at hv
        rcases hv with rfl | rfl | rfl <;> rfl)
      have y4 := q1.cell (j := 4) rfl
      have t3 := q1.chg hC3 (by simpa using d1)
      have y5 := t3.cell (j := 5) rfl
      have t4 := t3.chg hC4 (by simpa using d2)
      have y6 := t4.cell (j := 6) rfl
      have t5 := t4.chg hC5 (by simpa using d3)
      have hcl : ∀ x ∈ [b, ba, bm, bs], x < w.heap.size := hlt
      have hCA : Chg [ba, bm, bs] w2 w5 := ((hC3.mono (by simp)).trans hC4 (by simp)).trans hC5 (by simp)
      have hR5 : RepP w5 b ba bm bs σ.clear := by
        refine ⟨⟨ca2, cs2, ?_, ?_, ?_, qa, qs⟩, ⟨[], ?_, ?_⟩, hR2.apart⟩
        · simpa [St.clear] using t5
        · have := (r3.chg hC4 (by simpa using d4)).chg hC5 (by simpa using d5)
          simpa [St.clear, List.map_const'] using this
        · simpa [St.clear, List.map_const'] using r5
        · exact hm4.chg hC5 (by simpa using d6)
        · intro line n
          simp only [asc, List.find?_nil, Option.map_none, reduceCtorEq, false_iff]
          rintro ⟨p, hp, hi, _⟩
          have := List.mem_of_getElem? hp
          simp only [St.clear, List.mem_map] at this
          obtain ⟨_, _, rfl⟩ := this
          simp [Pl.zero] at hi
      have hownZ := owns_chg hown2 hCA (by
        intro x hx; simp only [List.mem_cons, List.not_mem_nil, or_false] at hx
        rcases hx with rfl | rfl | rfl <;> exact hcl _ (by simp))
      have hCZ : Chg [b, ba, bm, bs] w w5 := (hCX.mono (by simp)).trans hCA (by
        intro x hx; simp only [List.mem_cons, List.not_mem_nil, or_false] at hx
        rcases hx with rfl | rfl | rfl <;> simp)
      clear qm q2 q3 r3 hm4 hC4 hC5 r5 t3 t4 t5 hown hown2 hcl q1
      go_wp2
      go_ret
      exact ⟨_, rfl, hownZ, hR5, hCZ⟩

end Go.Proofs.Ytmagpdbnefbfkaa
