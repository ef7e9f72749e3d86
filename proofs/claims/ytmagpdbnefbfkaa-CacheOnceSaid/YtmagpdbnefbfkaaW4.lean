/- The walks of the program's cache: a line is laid in its set where all ways are taken. -/
import Derived.Test.YtmagpdbnefbfkaaW3
namespace Go.Proofs.Ytmagpdbnefbfkaa
open Go Go.RowKit

theorem u64_wrap_eq (n : Int) : IntKind.u64.wrap n = n % 18446744073709551616 := by
  simp [IntKind.wrap, IntKind.bits, IntKind.signed]

theorem seed_wrap (s : Int) : IntKind.u64.wrap (IntKind.u64.wrap (6364136223846793005 * s) + 1442695040888963407) = nextSeed s := by
  rw [u64_wrap_eq, u64_wrap_eq, nextSeed, Int.emod_add_emod]

theorem nextSeed_in (s : Int) : okLine (nextSeed s) := ⟨Int.emod_nonneg _ (by decide), Int.emod_lt_of_pos _ (by decide)⟩

set_option maxRecDepth 100000 in
set_option maxHeartbeats 2000000 in
theorem lay_full (b ba ca bm bs ns cs sets ways delay F k : Nat) (seed line : Int) (wr : Bool) (L : List (Int × Nat)) (pl : List Pl) (p : Pl) (w : World) (hb : Row w b 55 7 (topP sets ways delay seed ba pl.length ca bm bs ns cs))
    (ha : Row w ba 65 (ca * 3) (pl.flatMap Pl.enc)) (hm : MapT okLine (ekLine sets) evInt w bm L) (h1 : 1 ≤ sets) (h2 : sets ≤ 64) (h3 : 1 ≤ ways) (h4 : ways ≤ 8) (hq : 0 ≤ line ∧ line < 288230376151711744)
    (hF : line % sets * ways = (F : Int)) (hFl : F + ways ≤ pl.length) (hpl : pl.length ≤ 512) (hno : ∀ j p, j < ways → pl[F + j]? = some p → p.is = true) (hk : (nextSeed seed / 4294967296 % ways) = (k : Int)) (hp : pl[F + k]? = some p)
    (hpq : 0 ≤ p.line ∧ p.line < 288230376151711744) (hd1 : b ≠ ba) (hd2 : b ≠ bm) (hd3 : ba ≠ bm) :
    Calls Try.prog 27 #[.pointer (some ⟨b, 0, none⟩), .int .u64 line, .bool wr] w fun e w' => e = .returned (.agg #[.int .u64 (line * 64), .int .u64 (p.line * 64), .bool p.wr]) ∧
      Row w' b 55 7 (topP sets ways delay (nextSeed seed) ba pl.length ca bm bs ns cs) ∧ Row w' ba 65 (ca * 3) ((pl.set (F + k) ⟨line, true, wr⟩).flatMap Pl.enc) ∧ MapT okLine (ekLine sets) evInt w' bm (upd (del L p.line) line (F + k)) ∧ Chg [b, ba, bm] w w' := by
  have c0 : w.cell? ⟨b, 0, none⟩ = some (.int .i64 sets) := hb.cell rfl
  have c1 : w.cell? ⟨b, 1, none⟩ = some (.int .i64 ways) := hb.cell rfl
  have c3 : w.cell? ⟨b, 3, none⟩ = some (.int .u64 seed) := hb.cell rfl
  have c4 : w.cell? ⟨b, 4, none⟩ = some (.slice (some ⟨ba, 0, none⟩) pl.length ca) := hb.cell rfl
  have f3 := hb.frozen 3
  have hbl := hb.lt
  have hba := ha.lt
  have hbm := hm.lt
  obtain ⟨q0, q1⟩ := hq
  have hok : okLine line := ⟨q0, by omega⟩
  have hokp : okLine p.line := ⟨hpq.1, by omega⟩
  have r0 : 0 ≤ line % (sets : Int) := Int.emod_nonneg _ (by omega)
  have r1 : line % (sets : Int) < sets := Int.emod_lt_of_pos _ (by omega)
  have w1 : IntKind.u64.wrap (line * 64) = line * 64 := IntWalk.u64_in _ (by omega)
  have w4 : wrap64 (line.tmod sets) = line % sets := by rw [Int.tmod_eq_emod_of_nonneg q0]; unfold wrap64; omega
  have w5 : wrap64 (line % sets * ways) = F := by rw [hF]; unfold wrap64; omega
  have HF := Lib.hid hF
  have HK := Lib.hid hk
  have HP := Lib.hid hp
  clear hF q1 q0 hk hp
  go_enter Try.func27, Try.ntmps27
  go_wp2
  go_quiet (fail)
  simp only [w5]
  clear w4 w5
  go_wp2
  go_loop [9] (fun i => ∃ j : Nat, j ≤ ways ∧ i = .int .i64 ((F + j : Nat) : Int)) (fun i => F + ways - (intOf i).toNat)
  case atStart => exact ⟨0, Nat.zero_le _, rfl⟩
  case round =>
    obtain ⟨j, hj, rfl⟩ := hrel
    by_cases hjk : j < ways
    · obtain ⟨p, hp⟩ : ∃ p, pl[F + j]? = some p := ⟨_, List.getElem?_eq_getElem (by omega)⟩
      obtain ⟨pl0, pis, pwr⟩ := p
      have : pis = true := hno j _ hjk hp
      subst this
      obtain ⟨_, g1, _⟩ := ha.pl hp
      clear hp
      dsimp only at g1
      go_wp2
      all_goals
        go_round
        case rel => exact ⟨j + 1, by omega, by go_num⟩
        case measure => simp [intOf]; omega
    · obtain rfl : j = ways := by omega
      have gf := ha.frozen
      clear hno
      have hne : ((F : Int) + j == F + j) = true := by
        rw [beq_iff_eq]
      go_wp2
      refine wp_name fun W1 hW1 => ?_
      rw [seed_wrap] at hW1
      have hC1 : Chg [b] w W1 := by
        rw [hW1]
        exact (((((Chg.refl _ w).alloc _).alloc _).drewN _).setCell (.inl (by simp)) _)
      have hT1 : Row W1 b 55 7 (topP sets j delay (nextSeed seed) ba pl.length ca bm bs ns cs) := by
        rw [hW1]
        exact Row.set (Row.drewN (Row.alloc (Row.alloc hb _) _) nq) 3 _
      have hR1 := ha.chg hC1 (by simpa using Ne.symm hd1)
      have hM1 := hm.chg hC1 (by simpa using Ne.symm hd2)
      obtain ⟨S, hS⟩ : ∃ S, S = nextSeed seed := ⟨_, rfl⟩
      have HS := Lib.hid hS
      have z3 : W1.cell? ⟨b, 3, none⟩ = some (.int .u64 S) := by rw [hS]; exact hT1.cell (j := 3) rfl
      have z1 : W1.cell? ⟨b, 1, none⟩ = some (.int .i64 j) := hT1.cell (j := 1) rfl
      have z4 : W1.cell? ⟨b, 4, none⟩ = some (.slice (some ⟨ba, 0, none⟩) pl.length ca) := hT1.cell (j := 4) rfl
      have HW := Lib.hid hW1
      clear hW1 c0 c1 c4 c3 f3 hS hne
      go_quiet (fail)
      have e9 : wrap64 (↑F + wrap64 ((S / 4294967296).tmod ↑j)) = (F : Int) + k := by
        have a1 := nextSeed_in seed
        have a2 := HK.out
        rw [← HS.out] at a1 a2
        have a0 : 0 ≤ S / 4294967296 := Int.ediv_nonneg a1.1 (by decide)
        rw [Int.tmod_eq_emod_of_nonneg a0, a2]
        have a3 : (k : Int) < j := by rw [← a2]; exact Int.emod_lt_of_pos _ (by omega)
        rw [IntWalk.wrap64_in (k : Int) (by omega), IntWalk.wrap64_in _ (by omega)]
      simp only [e9]
      have hkj : k < j := by
        have a2 := HK.out
        have a3 : (k : Int) < j := by rw [← a2]; exact Int.emod_lt_of_pos _ (by omega)
        omega
      clear e9
      go_wp2
      refine wp_name fun W2 hW2 => ?_
      have hC2 : Chg [b] w W2 := by rw [hW2]; exact hC1.drewN _
      have hT2 : Row W2 b 55 7 (topP sets j delay (nextSeed seed) ba pl.length ca bm bs ns cs) := by rw [hW2]; exact Row.drewN hT1 _
      have hR2 := ha.chg hC2 (by simpa using Ne.symm hd1)
      have hM2 := hm.chg hC2 (by simpa using Ne.symm hd2)
      have y4 : W2.cell? ⟨b, 4, none⟩ = some (.slice (some ⟨ba, 0, none⟩) pl.length ca) := hT2.cell (j := 4) rfl
      obtain ⟨g0, g1, g2⟩ := hR2.pl HP.out
      have z0 : ∀ o v, ([.int .u64 (line * 64), .int .u64 0, .bool false] : List Value)[o]? = some v → W2.cell? ⟨w.heap.size + 1, o, none⟩ = some v := by
        intro o v hv
        rw [hW2, HW.out]
        show (World.setCell _ _ _).cell? _ = _
        rw [World.cell?_setCell_other _ _ _ _ (by simp)]
        show (World.alloc _ _).cell? _ = _
        have e1 : w.heap.size + 1 = (w.alloc (Obj.cells #[Value.int IntKind.u64 0, Value.int IntKind.u64 0, Value.bool false] 40)).heap.size := by simp
        rw [e1, World.cell?_alloc_new]
        simpa using hv
      have zf : ∀ o, W2.frozen? ⟨w.heap.size + 1, o, none⟩ = false := by
        intro o
        rw [hW2, HW.out]
        show (World.setCell _ _ _).frozen? _ = _
        rw [World.frozen?_setCell]
        show (World.alloc _ _).frozen? _ = _
        have e1 : w.heap.size + 1 = (w.alloc (Obj.cells #[Value.int IntKind.u64 0, Value.int IntKind.u64 0, Value.bool false] 40)).heap.size := by simp
        rw [e1, World.frozen?_alloc_new]
      have y0 : ∀ o v, ([.int .u64 0, .int .u64 0, .bool false] : List Value)[o]? = some v → W2.cell? ⟨w.heap.size, o, none⟩ = some v := by
        intro o v hv
        rw [hW2, HW.out]
        show (World.setCell _ _ _).cell? _ = _
        rw [World.cell?_setCell_other _ _ _ _ (by simp)]
        show (World.alloc _ _).cell? _ = _
        rw [World.cell?_alloc_old _ _ _ (by simp), World.cell?_alloc_new]
        simpa using hv
      have yf : ∀ o, W2.frozen? ⟨w.heap.size, o, none⟩ = false := by
        intro o
        rw [hW2, HW.out]
        show (World.setCell _ _ _).frozen? _ = _
        rw [World.frozen?_setCell]
        show (World.alloc _ _).frozen? _ = _
        rw [World.frozen?_alloc_old _ _ _ (by simp), World.frozen?_alloc_new]
      have t1 := z0 1 _ rfl
      have t2 := z0 2 _ rfl
      have HW2 := Lib.hid hW2
      clear hW2 z1 z3 z4
      have hsum : ((F : Int) + k).toNat = F + k := by omega
      have hs0 : 0 ≤ (F : Int) + k := by omega
      have hs1 : (F : Int) + k < pl.length := by omega
      go_region
      go_wp2
      refine wp_name fun W3 hW3 => ?_
      have hC3 : Chg [b] w W3 := by rw [hW3]; exact ((hC2.setCell (.inr (show w.heap.size ≤ w.heap.size + 1 by omega)) _).setCell (.inr (show w.heap.size ≤ w.heap.size + 1 by omega)) _).drew
      have n1 : w.heap.size + 1 ≠ b := by omega
      have n2 : w.heap.size + 1 ≠ ba := by omega
      have hT3 : Row W3 b 55 7 (topP sets j delay (nextSeed seed) ba pl.length ca bm bs ns cs) := by rw [hW3]; exact Row.drew (Row.other (Row.other hT2 n1 _) n1 _)
      have hR3 := ha.chg hC3 (by simpa using Ne.symm hd1)
      have hM3 := hm.chg hC3 (by simpa using Ne.symm hd2)
      have z3 : ∀ o v, ([.int .u64 (line * 64), .int .u64 (p.line * 64), .bool p.wr] : List Value)[o]? = some v → W3.cell? ⟨w.heap.size + 1, o, none⟩ = some v := by
        intro o v hv
        rw [hW3]
        show ((W2.setCell _ _).setCell _ _).cell? _ = _
        have t1' : (W2.setCell ⟨w.heap.size + 1, 1, none⟩ (.int .u64 (p.line * 64))).cell? ⟨w.heap.size + 1, 2, none⟩ = some (.bool false) := by
          rw [World.cell?_setCell_other _ _ _ _ (by simp)]; exact t2
        rcases o with _ | _ | _ | o
        · rw [World.cell?_setCell_other _ _ _ _ (by simp), World.cell?_setCell_other _ _ _ _ (by simp)]
          rw [z0 0 _ rfl]; simpa using hv
        · rw [World.cell?_setCell_other _ _ _ _ (by simp), World.cell?_setCell_same _ _ _ t1]; simpa using hv
        · rw [World.cell?_setCell_same _ _ _ t1']; simpa using hv
        · simp at hv
      have y3 : ∀ o v, ([.int .u64 0, .int .u64 0, .bool false] : List Value)[o]? = some v → W3.cell? ⟨w.heap.size, o, none⟩ = some v := by
        intro o v hv
        rw [hW3]
        show ((W2.setCell _ _).setCell _ _).cell? _ = _
        rw [World.cell?_setCell_other _ _ _ _ (by simp), World.cell?_setCell_other _ _ _ _ (by simp)]
        exact y0 o v hv
      have yf3 : ∀ o, W3.frozen? ⟨w.heap.size, o, none⟩ = false := by
        intro o
        rw [hW3]
        show ((W2.setCell _ _).setCell _ _).frozen? _ = _
        rw [World.frozen?_setCell, World.frozen?_setCell]
        exact yf o
      clear hW3 y0 yf z0 zf t1 t2 g0 g1 g2 y4 hT2 hR2 hM2 hC2 hT1 hR1 hM1 hC1 n1 n2 w1
      have x0 := Ext.cell (hT3.cell (j := 0) rfl)
      have x4 := Ext.cell (hT3.cell (j := 4) rfl)
      have x5 := Ext.cell (hT3.cell (j := 5) rfl)
      have xg := Ext.cell (hR3.pl HP.out).1
      have hbl3 := hT3.lt
      refine wp_region_ext_tail 14 (by kernel_rfl) (by kernel_rfl) ?_
      simp only [List.take_succ_cons, List.take_zero, List.drop_succ_cons, List.drop_zero]
      repeat (go_big_quiet_step ((go_at_call 23; exact Ext.calls (key_any b sets p.line _ (x0 _) (Nat.lt_of_lt_of_le hbl3 (Ext.chg _).size) h1 h2 hokp))))
      refine wpQuiet_nil ?_
      intro _ hw'
      obtain ⟨x, hw''⟩ := hw'
      subst hw''
      clear x0 x4 x5 xg
      obtain ⟨w4, hrun, hm4, hc4, hsz⟩ := (hM3.chg x.chg (by simp)).drop law62 (keyOk62 sets h1 h2) Try.underlying52 hokp 0
      have hC4 : Chg [bm] W3 w4 := (x.chg.mono (by simp)).tr hc4
      clear hsz
      have hT4 := hT3.chg hC4 (by simpa using hd2)
      have hR4 := hR3.chg hC4 (by simpa using hd3)
      have c4 : w4.cell? ⟨b, 4, none⟩ = some (.slice (some ⟨ba, 0, none⟩) pl.length ca) := hT4.cell (j := 4) rfl
      obtain ⟨g0, g1, g2⟩ := hR4.pl HP.out
      have gf4 := hR4.frozen
      go_wp2
      refine wp_name fun W5 hW5 => ?_
      have hC5 : Chg [ba] w4 W5 := by
        rw [hW5]
        exact (((Chg.refl _ w4).setCell (.inl (by simp)) _).setCell (.inl (by simp)) _).setCell (.inl (by simp)) _
      have hR5 : Row W5 ba 65 (ca * 3) ((pl.set (F + k) ⟨line, true, wr⟩).flatMap Pl.enc) := by
        rw [hW5]
        exact Row.storePl (q := ⟨line, true, wr⟩) hR4 HP.out
      have hT5 := hT4.chg hC5 (by simpa using hd1)
      have hM5 := hm4.chg hC5 (by simpa using Ne.symm hd3)
      clear hW5 hrun c4 g0 g1 g2 gf4
      have x0 := Ext.cell (hT5.cell (j := 0) rfl)
      have x5 := Ext.cell (hT5.cell (j := 5) rfl)
      have hbl5 := hT5.lt
      refine wp_region_ext_tail 8 (by kernel_rfl) (by kernel_rfl) ?_
      simp only [List.take_succ_cons, List.take_zero, List.drop_succ_cons, List.drop_zero]
      repeat (go_big_quiet_step ((go_at_call 23; exact Ext.calls (key_any b sets line _ (x0 _) (Nat.lt_of_lt_of_le hbl5 (Ext.chg _).size) h1 h2 hok))))
      refine wpQuiet_nil ?_
      intro _ hw'
      obtain ⟨z, hw''⟩ := hw'
      subst hw''
      obtain ⟨w6, hrun, hm6, hc6, hsz⟩ := (hM5.chg z.chg (by simp)).store law62 (keyOk62 sets h1 h2) Try.underlying52 hok (F + k)
      have hrun' : (Instr.mapUpdate 52 (.map (some bm)) (ekLine sets line) (.int .i64 ((F : Int) + k))).run Try.prog z.to = .ok () w6 := by
        rw [← hrun]; simp [evInt]
      clear hrun hsz
      have hC6 : Chg [bm] W5 w6 := (z.chg.mono (by simp)).tr hc6
      have hC7 : Chg [ba, bm] W3 w6 := ((hC4.mono (by simp)).trans hC5 (by simp)).trans hC6 (by simp)
      have n1 : w.heap.size ∉ [ba, bm] := by simp; omega
      have n2 : w.heap.size + 1 ∉ [ba, bm] := by simp; omega
      have v0 := hC7.keep (z3 0 _ rfl) n2
      have v1 := hC7.keep (z3 1 _ rfl) n2
      have v2 := hC7.keep (z3 2 _ rfl) n2
      have u0 := hC7.keep (y3 0 _ rfl) n1
      have u1 := hC7.keep (y3 1 _ rfl) n1
      have u2 := hC7.keep (y3 2 _ rfl) n1
      have uf : ∀ o, w6.frozen? ⟨w.heap.size, o, none⟩ = false := fun o => (hC7.frozen (p := ⟨w.heap.size, o, none⟩) (show w.heap.size < W3.heap.size from World.block_lt_of_cell? _ _ (y3 0 _ rfl)) n1).trans (yf3 o)
      have hT6 := hT5.chg hC6 (by simpa using hd2)
      have hR6 := hR5.chg hC6 (by simpa using hd3)
      clear n1 n2 x0 x5
      go_wp2
      refine bodyPost_ret (v := .agg #[.int .u64 (line * 64), .int .u64 (p.line * 64), .bool p.wr]) (by simp [results, Try.results27, go_sem, u0, u1, u2]) rfl ⟨rfl, ?_, ?_, ?_, ?_⟩
      · exact Row.other (Row.other (Row.other hT6 (by simp; omega) _) (by simp; omega) _) (by simp; omega) _
      · exact Row.other (Row.other (Row.other hR6 (by simp; omega) _) (by simp; omega) _) (by simp; omega) _
      · exact MapT.other (MapT.other (MapT.other hm6 (by simp; omega) _) (by simp; omega) _) (by simp; omega) _
      · exact ((((hC3.mono (by simp)).trans hC7 (by simp)).setCell (.inr (Nat.le_refl _)) _).setCell (.inr (Nat.le_refl _)) _).setCell (.inr (Nat.le_refl _)) _
end Go.Proofs.Ytmagpdbnefbfkaa
