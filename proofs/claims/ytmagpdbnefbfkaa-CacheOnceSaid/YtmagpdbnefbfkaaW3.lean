/- The walks of the program's cache: a line is laid in its set. -/
import Derived.Test.YtmagpdbnefbfkaaW2
import Derived.BigRegion
namespace Go.Proofs.Ytmagpdbnefbfkaa
open Go Go.RowKit

/-- The cells of the program's cache. -/
def topP (sets ways delay : Nat) (seed : Int) (ba np ca bm bs ns cs : Nat) : List Value :=
  [.int .i64 sets, .int .i64 ways, .int .i64 delay, .int .u64 seed, .slice (some ⟨ba, 0, none⟩) np ca, .map (some bm), .slice (some ⟨bs, 0, none⟩) ns cs]

set_option maxRecDepth 100000 in
set_option maxHeartbeats 2000000 in
theorem lay_free (b ba ca bm bs ns cs sets ways delay F k : Nat) (seed line : Int) (wr : Bool) (L : List (Int × Nat)) (pl : List Pl) (w : World) (hb : Row w b 55 7 (topP sets ways delay seed ba pl.length ca bm bs ns cs))
    (ha : Row w ba 65 (ca * 3) (pl.flatMap Pl.enc)) (hm : MapT okLine (ekLine sets) evInt w bm L) (h1 : 1 ≤ sets) (h2 : sets ≤ 64) (h3 : 1 ≤ ways) (h4 : ways ≤ 8) (hq : 0 ≤ line ∧ line < 288230376151711744)
    (hF : line % sets * ways = (F : Int)) (hFl : F + ways ≤ pl.length) (hpl : pl.length ≤ 512) (hk : k < ways) (hno : ∀ j p, j < k → pl[F + j]? = some p → p.is = true) (hyes : ∃ p, pl[F + k]? = some p ∧ p.is = false)
    (hd1 : b ≠ ba) (hd2 : b ≠ bm) (hd3 : ba ≠ bm) :
    Calls Try.prog 27 #[.pointer (some ⟨b, 0, none⟩), .int .u64 line, .bool wr] w fun e w' => e = .returned (.agg #[.int .u64 (line * 64), .int .u64 0, .bool false]) ∧
      Row w' b 55 7 (topP sets ways delay seed ba pl.length ca bm bs ns cs) ∧ Row w' ba 65 (ca * 3) ((pl.set (F + k) ⟨line, true, wr⟩).flatMap Pl.enc) ∧ MapT okLine (ekLine sets) evInt w' bm (upd L line (F + k)) ∧ Chg [b, ba, bm] w w' := by
  have c0 : w.cell? ⟨b, 0, none⟩ = some (.int .i64 sets) := hb.cell rfl
  have c1 : w.cell? ⟨b, 1, none⟩ = some (.int .i64 ways) := hb.cell rfl
  have c4 : w.cell? ⟨b, 4, none⟩ = some (.slice (some ⟨ba, 0, none⟩) pl.length ca) := hb.cell rfl
  have c5 : w.cell? ⟨b, 5, none⟩ = some (.map (some bm)) := hb.cell rfl
  have hbl := hb.lt
  have hba := ha.lt
  have hbm := hm.lt
  obtain ⟨q0, q1⟩ := hq
  have hok : okLine line := ⟨q0, by omega⟩
  have r0 : 0 ≤ line % (sets : Int) := Int.emod_nonneg _ (by omega)
  have r1 : line % (sets : Int) < sets := Int.emod_lt_of_pos _ (by omega)
  have w1 : IntKind.u64.wrap (line * 64) = line * 64 := IntWalk.u64_in _ (by omega)
  have w4 : wrap64 (line.tmod sets) = line % sets := by rw [Int.tmod_eq_emod_of_nonneg q0]; unfold wrap64; omega
  have w5 : wrap64 (line % sets * ways) = F := by rw [hF]; unfold wrap64; omega
  have HF := Lib.hid hF
  clear hF q1 q0
  go_enter Try.func27, Try.ntmps27
  go_wp2
  go_quiet (fail)
  simp only [w5]
  clear w4 w5
  go_wp2
  go_loop [9] (fun i => ∃ j : Nat, j ≤ k ∧ i = .int .i64 ((F + j : Nat) : Int)) (fun i => F + k - (intOf i).toNat)
  case atStart => exact ⟨0, Nat.zero_le _, rfl⟩
  case round =>
    obtain ⟨j, hj, rfl⟩ := hrel
    by_cases hjk : j < k
    · obtain ⟨p, hp⟩ : ∃ p, pl[F + j]? = some p := ⟨_, List.getElem?_eq_getElem (by omega)⟩
      obtain ⟨pl0, pis, pwr⟩ := p
      have : pis = true := hno j _ hjk hp
      subst this
      obtain ⟨_, g1, _⟩ := ha.pl hp
      clear hp
      dsimp only at g1
      go_wp2
      all_goals
        go_round
        case rel => exact ⟨j + 1, by omega, by go_num⟩
        case measure => simp [intOf]; omega
    · obtain rfl : j = k := by omega
      obtain ⟨p, hp, hfree⟩ := hyes
      obtain ⟨pl0, pis, pwr⟩ := p
      dsimp only at hfree
      subst hfree
      obtain ⟨g0, g1, g2⟩ := ha.pl hp
      have gf := ha.frozen
      have HP := Lib.hid hp
      clear hp hno
      dsimp only at g0 g1 g2
      have hne : ((F : Int) + j == F + ways) = false := by
        rw [beq_eq_false_iff_ne]; omega
      go_wp2
      refine wp_name fun W1 hW1 => ?_
      have hC1 : Chg [ba] w W1 := by
        rw [hW1]
        exact ((((((Chg.refl _ w).alloc _).alloc _).drewN _).setCell (.inl (by simp)) _).setCell (.inl (by simp)) _).setCell (.inl (by simp)) _
      have hR1 : Row W1 ba 65 (ca * 3) ((pl.set (F + j) ⟨line, true, wr⟩).flatMap Pl.enc) := by
        rw [hW1]
        exact Row.storePl (q := ⟨line, true, wr⟩) (Row.drewN (Row.alloc (Row.alloc ha _) _) nq) HP.out
      have hT1 := hb.chg hC1 (by simpa using hd1)
      have hM1 := hm.chg hC1 (by simpa using Ne.symm hd3)
      have z0 : ∀ o v, ([.int .u64 (line * 64), .int .u64 0, .bool false] : List Value)[o]? = some v → W1.cell? ⟨w.heap.size + 1, o, none⟩ = some v := by
        intro o v hv
        rw [hW1]
        have hne : ba ≠ w.heap.size + 1 := by omega
        rw [World.cell?_setCell_other _ _ _ _ (by simp), World.cell?_setCell_other _ _ _ _ (by simp), World.cell?_setCell_other _ _ _ _ (by simp)]
        show (World.alloc _ _).cell? _ = _
        have e1 : w.heap.size + 1 = (w.alloc (Obj.cells #[Value.int IntKind.u64 0, Value.int IntKind.u64 0, Value.bool false] 40)).heap.size := by simp
        rw [e1, World.cell?_alloc_new]
        simpa using hv
      have hne' : ba ≠ w.heap.size := by omega
      have y0 : ∀ o v, ([.int .u64 0, .int .u64 0, .bool false] : List Value)[o]? = some v → W1.cell? ⟨w.heap.size, o, none⟩ = some v := by
        intro o v hv
        rw [hW1]
        rw [World.cell?_setCell_other _ _ _ _ (by simp), World.cell?_setCell_other _ _ _ _ (by simp), World.cell?_setCell_other _ _ _ _ (by simp)]
        show (World.alloc _ _).cell? _ = _
        rw [World.cell?_alloc_old _ _ _ (by simp), World.cell?_alloc_new]
        simpa using hv
      have yf : ∀ o, W1.frozen? ⟨w.heap.size, o, none⟩ = false := by
        intro o
        rw [hW1]
        rw [World.frozen?_setCell, World.frozen?_setCell, World.frozen?_setCell]
        show (World.alloc _ _).frozen? _ = _
        rw [World.frozen?_alloc_old _ _ _ (by simp), World.frozen?_alloc_new]
      have x0 := Ext.cell (hT1.cell (j := 0) rfl)
      have x5 := Ext.cell (hT1.cell (j := 5) rfl)
      have hbl1 := hT1.lt
      have HW := Lib.hid hW1
      clear hW1 c0 c1 c4 c5
      refine wp_region_ext_tail 8 (by kernel_rfl) (by kernel_rfl) ?_
      simp only [List.take_succ_cons, List.take_zero, List.drop_succ_cons, List.drop_zero]
      repeat (go_big_quiet_step ((go_at_call 23; exact Ext.calls (key_any b sets line _ (x0 _) (Nat.lt_of_lt_of_le hbl1 (Ext.chg _).size) h1 h2 hok))))
      refine wpQuiet_nil ?_
      intro _ hw'
      obtain ⟨x, hw''⟩ := hw'
      subst hw''
      obtain ⟨w2, hrun, hm2, hc2, hsz⟩ := (hM1.chg x.chg (by simp)).store law62 (keyOk62 sets h1 h2) Try.underlying52 hok (F + j)
      have hrun' : (Instr.mapUpdate 52 (.map (some bm)) (ekLine sets line) (.int .i64 ((F : Int) + j))).run Try.prog x.to = .ok () w2 := by
        rw [← hrun]; simp [evInt]
      clear hrun
      have hC2 : Chg [bm] W1 w2 := (x.chg.mono (by simp)).tr hc2
      have n1 : w.heap.size ∉ [bm] := by simp; omega
      have n2 : w.heap.size + 1 ∉ [bm] := by simp; omega
      have v0 := hC2.keep (z0 0 _ rfl) n2
      have v1 := hC2.keep (z0 1 _ rfl) n2
      have v2 := hC2.keep (z0 2 _ rfl) n2
      have u0 := hC2.keep (y0 0 _ rfl) n1
      have u1 := hC2.keep (y0 1 _ rfl) n1
      have u2 := hC2.keep (y0 2 _ rfl) n1
      have uf : ∀ o, w2.frozen? ⟨w.heap.size, o, none⟩ = false := fun o => (hC2.frozen (p := ⟨w.heap.size, o, none⟩) (show w.heap.size < W1.heap.size from World.block_lt_of_cell? _ _ (y0 0 _ rfl)) n1).trans (yf o)
      have hT2 := hT1.chg hC2 (by simpa using hd2)
      have hR2 := hR1.chg hC2 (by simpa using hd3)
      clear hsz n1 n2 x0 x5
      go_wp2
      refine bodyPost_ret (v := .agg #[.int .u64 (line * 64), .int .u64 0, .bool false]) (by simp [results, Try.results27, go_sem, u0, u1, u2]) rfl ⟨rfl, ?_, ?_, ?_, ?_⟩
      · exact Row.other (Row.other (Row.other hT2 (by simp; omega) _) (by simp; omega) _) (by simp; omega) _
      · exact Row.other (Row.other (Row.other hR2 (by simp; omega) _) (by simp; omega) _) (by simp; omega) _
      · exact MapT.other (MapT.other (MapT.other hm2 (by simp; omega) _) (by simp; omega) _) (by simp; omega) _
      · exact ((((hC1.mono (by simp)).trans hC2 (by simp)).setCell (.inr (Nat.le_refl _)) _).setCell (.inr (Nat.le_refl _)) _).setCell (.inr (Nat.le_refl _)) _

end Go.Proofs.Ytmagpdbnefbfkaa
