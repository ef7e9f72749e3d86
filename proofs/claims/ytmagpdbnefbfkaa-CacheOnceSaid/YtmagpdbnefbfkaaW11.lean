/- The document's cache: a tick. -/
import Derived.Test.YtmagpdbnefbfkaaW10
import Derived.Test.YtmagpdbnefbfkaaW4
import Derived.Deep.Cut
namespace Go.Proofs.Ytmagpdbnefbfkaa
open Go Go.RowKit

theorem Try.info75 : (Try.prog.info? 75).map (fun i => (i.zero, i.size, i.bytes)) = some (some (.agg #[.int .u64 0, .int .u64 0, .bool false]), 3, 24) := by kernel_rfl

theorem found_at {α : Type} {l : List α} {f : α → Bool} {k : Nat} (h : l.findIdx? f = some k) : ∃ p, l[k]? = some p ∧ k < l.length ∧ f p = true := by
  obtain ⟨k1, k2, _⟩ := List.findIdx?_eq_some_iff_getElem.1 h
  exact ⟨_, List.getElem?_eq_getElem k1, k1, k2⟩

theorem owns_apart {w w' : World} {base size len : Nat} {e : TypeId} {xs : List Value} {v : Value} {S : List Nat} (h : w.ownsRow base e size v len xs) (hc : Chg S w w') (hS : ∀ y, v.ownBlock = some y → y ∉ S) : w'.ownsRow base e size v len xs := by
  obtain ⟨h1, h2⟩ := h
  refine ⟨h1, ?_⟩
  rcases h2 with h2 | ⟨g', cap', cur, h', hb, hg, rest⟩
  · exact .inl h2
  · refine .inr ⟨g', cap', cur, h', hb, ?_, rest⟩
    rw [hc.block g' (Array.getElem?_eq_some_iff.1 hg).1 (hS g' (by rw [h']; rfl))]
    exact hg

def TickPostR (w : World) (b bo bs : Nat) (rs : List (Nat × Nat)) (σ : St) (e : Ending) (w' : World) : Prop :=
  ∃ v, e = .returned v ∧ w'.ownsRow w.heap.size 75 3 v σ.tick.2.length (σ.tick.2.flatMap Dn.enc) ∧ RepR w' b bo bs rs σ.tick.1 ∧ Chg (blocksR b bo bs rs) w w'

def TickRelR (w : World) (b bo bs : Nat) (rs : List (Nat × Nat)) (σ : St) (o i : Value) (wr : World) : Prop :=
  ∃ k : Nat, k ≤ σ.sl.length ∧ i = .int .i64 k ∧ wr.ownsRow w.heap.size 75 3 o (σ.tickTo k).2.length ((σ.tickTo k).2.flatMap Dn.enc) ∧ RepR wr b bo bs rs (σ.tickTo k).1 ∧ Chg (blocksR b bo bs rs) w wr

set_option maxRecDepth 100000 in
set_option maxHeartbeats 4000000 in
theorem tickR {w : World} {b bo bs : Nat} {rs : List (Nat × Nat)} {σ : St} (h : RepR w b bo bs rs σ) (hw : WF σ) : Calls Try.prog 11 #[.pointer (some ⟨b, 0, none⟩)] w (TickPostR w b bo bs rs σ) := by
  have hlt := h.lt
  have hb8 := hw.sl2
  go_enter Try.func11, Try.ntmps11
  go_wp2
  go_loopw [3, 4] (TickRelR w b bo bs rs σ) (fun _ i _ => σ.sl.length - (intOf i).toNat)
  case atStart =>
    exact ⟨0, Nat.zero_le _, rfl, World.ownsRow_made w #[] 0 (Nat.le_refl _) (by unfold maxLen; omega) rfl, h.chg (S := []) ((Chg.refl _ _).alloc _) (by simp), (Chg.refl _ _).alloc _⟩
  case round =>
    obtain ⟨k, hk, rfl, hown, hrep, hchg⟩ := hrel
    obtain ⟨e1, e2, e3, e4, e5, e6⟩ := tickTo_keeps σ k
    have hwk := hw.tickTo k
    obtain ⟨ca', cs', r1, r2, r3, hca, hcs⟩ := hrep.top
    have c1 : wr.cell? ⟨b, 1, none⟩ = some (.slice (some ⟨bs, 0, none⟩) σ.sl.length cs') := by rw [← e1]; exact r1.cell (j := 1) rfl
    have hbl := r1.lt
    have hbs := r3.lt
    by_cases hkl : k < σ.sl.length
    · obtain ⟨s, hs⟩ : ∃ s, (σ.tickTo k).1.sl[k]? = some s := ⟨_, List.getElem?_eq_getElem (by omega)⟩
      have hstep := tickTo_succ σ k
      obtain ⟨g0, g1, g2, g3⟩ := r3.sl hs
      have hf3 := r3.frozen
      cases hi : s.is with
      | false =>
        have hst : σ.tickTo (k + 1) = σ.tickTo k := by rw [hstep]; unfold St.tickAt; rw [hs]; simp [hi]
        rw [hi] at g1
        have HST := Lib.hid hst
        clear hst hstep hs hi e1 e2 e3 e4 e6 r1 r2 r3
        go_wp2
        go_roundw
        case rel => exact ⟨k + 1, by omega, by go_num, by rw [HST.out]; exact hown.alloc _, by rw [HST.out]; exact hrep.chg (S := []) ((Chg.refl _ _).alloc _) (by simp), hchg.alloc _⟩
        case measure => simp [intOf]; omega
      | true =>
        obtain ⟨l0, l1, l2, l3⟩ := hwk.sl3 k s hs hi
        rw [hi] at g1
        by_cases hl : s.left = 1
        · have hst : σ.tickTo (k + 1) = ({ ((σ.tickTo k).1.lay s.line s.wr).1 with sl := (σ.tickTo k).1.sl.set k Sl.zero }, (σ.tickTo k).2 ++ [((σ.tickTo k).1.lay s.line s.wr).2]) := by
            rw [hstep]; unfold St.tickAt; rw [hs]; simp [hi, hl]
          have HST := Lib.hid hst
          have e8 : IntKind.u64.wrap (64 * s.line) = 64 * s.line := IntWalk.u64_in _ (by omega)
          have HS := Lib.hid hs
          clear hst hstep hs hi e1 e2 e3 e4 e6 r1 r2 r3
          go_upto_region 11 with fail
          refine wp_name fun W hW => ?_
          have hC0 : Chg [bs] wr W := by
            rw [hW]
            exact (((((((Chg.refl [bs] wr).setCell (.inl (by simp)) _).setCell (.inl (by simp)) _).setCell (.inl (by simp)) _).setCell (.inl (by simp)) _).setCell (.inl (by simp)) _).alloc _).alloc _
          obtain ⟨τ, hτ⟩ : ∃ τ : St, τ = { (σ.tickTo k).1 with sl := (σ.tickTo k).1.sl.set k Sl.zero } := ⟨_, rfl⟩
          have hRW : RepR W b bo bs rs τ := by
            rw [hτ]
            refine hrep.setSlot (by simp) hC0 (fun cs hr => ?_)
            rw [hW]
            have := Row.storeSl (q := Sl.zero) (hr.leftSl (v := 0) HS.out) (get_set (List.getElem?_eq_some_iff.1 HS.out).1)
            rw [List.set_set] at this
            exact (this.alloc _).alloc _
          have hx : Row W wr.heap.size 72 4 [.int .u64 s.line, .bool true, .bool s.wr, .int .i64 1] := by
            rw [hW]; exact Row.alloc (by have := Row.new ((((((wr.setCell { block := bs, off := k * 4 + 3 } (Value.int IntKind.i64 0)).setCell { block := bs, off := k * 4 } (Value.int IntKind.u64 0)).setCell { block := bs, off := k * 4 + 1 } (Value.bool false)).setCell { block := bs, off := k * 4 + 2 } (Value.bool false)).setCell { block := bs, off := k * 4 + 3 } (Value.int IntKind.i64 0))) #[Value.int IntKind.u64 s.line, Value.bool true, Value.bool s.wr, Value.int IntKind.i64 1] 72; simpa using this) _
          have hd : Row W (wr.heap.size + 1) 75 3 [.int .u64 (64 * s.line), .int .u64 0, .bool false] := by
            rw [hW]; have := Row.new (((((((wr.setCell { block := bs, off := k * 4 + 3 } (Value.int IntKind.i64 0)).setCell { block := bs, off := k * 4 } (Value.int IntKind.u64 0)).setCell { block := bs, off := k * 4 + 1 } (Value.bool false)).setCell { block := bs, off := k * 4 + 2 } (Value.bool false)).setCell { block := bs, off := k * 4 + 3 } (Value.int IntKind.i64 0))).alloc (Obj.cells #[Value.int IntKind.u64 s.line, Value.bool true, Value.bool s.wr, Value.int IntKind.i64 1] 72)) #[.int .u64 (64 * s.line), .int .u64 0, .bool false] 75; simpa using this
          have hbs : bs < w.heap.size := hlt bs (by simp [blocksR])
          have hownW := owns_chg hown hC0 (by simpa using hbs)
          have hCW := hchg.trans hC0 (by simp [blocksR])
          have hsz := hchg.size
          have hob : ∀ y, u3.ownBlock = some y → y < wr.heap.size := fun y hy => (hown.lt y hy).2
          have HOB := Lib.hid hob
          clear hob hW hrep hown g0 g1 g2 g3 hf3 c1 hC0 hchg
          have hwk' : WP τ := by rw [hτ]; exact hwk.toWP.slots _
          have HST' : Hid (σ.tickTo (k + 1) = ((τ.lay s.line s.wr).1, (σ.tickTo k).2 ++ [(τ.lay s.line s.wr).2])) := by
            show _ = _
            rw [HST.out, hτ, lay_sl (σ.tickTo k).1 ((σ.tickTo k).1.sl.set k Sl.zero) s.line s.wr]
          have HL8 := Lib.hid (⟨l0, l1⟩ : 0 ≤ s.line ∧ s.line < 288230376151711744)
          have x0 := hx.cell (j := 0) rfl
          have x2 := hx.cell (j := 2) rfl
          clear HST hτ hwk HS
          obtain ⟨co, r, hr, c0, cv, hrow, hlen, hK, hKs⟩ := hRW.rowAt hwk' s.line
          generalize hKK : (s.line % τ.sets).toNat = K at hr cv hrow hlen hK hKs
          go_wp2_with fail
          refine (set_row b bo co τ.sets K s.line _ W c0 cv hwk'.sets2 hK (by have := HL8.out; omega) hKs).mono ?_
          rintro e w1 ⟨rfl, n1, rfl⟩
          go_wp2_with fail
          refine (empty_any r.1 (r.2 * 4) r.2 τ.ways _ _ (hrow.drewN n1) hlen hwk'.ways2).mono ?_
          rintro e w2 ⟨rfl, rfl⟩
          rw [free_toSl]
          have hC5 : Chg (blocksR b bo bs rs) w (W.drewN n1) := hCW.drewN n1
          have hRW1 := hRW.drewN n1
          have hd1 := hd.drewN n1
          have hownW1 := owns_chg hownW ((Chg.refl [] W).drewN n1) (by simp)
          obtain ⟨i0, hi0, hz0, hz1, hz2⟩ := info_parts Try.info75
          obtain ⟨d1, d2, d3, d4, d5⟩ := hRW.ne
          have hrb : r.1 ∈ blocksR b bo bs rs := by simp only [blocksR, List.mem_cons, List.mem_map]; exact .inr (.inr (.inr ⟨r, List.mem_of_getElem? hr, rfl⟩))
          have hrlt := hlt _ hrb
          cases hf : (τ.row K).findIdx? Pl.free with
          | some kk =>
            obtain ⟨p, hp, k1, _⟩ := found_at hf
            have hkw : kk < τ.ways := by rw [← hlen, List.length_map]; exact k1
            have hpm : ((τ.row K).map Pl.toSl)[kk]? = some p.toSl := by simp [hp]
            obtain ⟨g0, g1, g2, g3⟩ := (hrow.drewN n1).sl hpm
            have gf := (hrow.drewN n1).frozen
            have HLAY : Hid (τ.lay s.line s.wr = ({ τ with pl := τ.pl.set (K * τ.ways + kk) ⟨s.line, true, s.wr⟩ }, ⟨64 * s.line, 0, false⟩)) := by
              show _ = _
              unfold St.lay; rw [hKK, hf, Int.mul_comm]
            have HPM := Lib.hid hpm
            clear k1 hf hKK hp hpm
            rw [show idx (some kk) = (kk : Int) from rfl]
            go_upto_region 19 with fail
            refine wp_name fun V hV => ?_
            have hcV : Chg [r.1] (W.drewN n1) V := by
              rw [hV]
              exact ((((Chg.refl [r.1] _).setCell (.inl (by simp)) _).setCell (.inl (by simp)) _).setCell (.inl (by simp)) _).setCell (.inl (by simp)) _
            have hRV : RepR V b bo bs rs { τ with pl := τ.pl.set (K * τ.ways + kk) ⟨s.line, true, s.wr⟩ } := by
              refine hRW1.setRow hr hwk'.ways1 hkw _ hcV ?_
              rw [hV, List.map_set]
              exact Row.storeSl (q := Pl.toSl ⟨s.line, true, s.wr⟩) (hrow.drewN n1) HPM.out
            have hdV := hd1.chg hcV (by simp; omega)
            have q0 := hdV.cell (j := 0) rfl
            have q1 := hdV.cell (j := 1) rfl
            have q2 := hdV.cell (j := 2) rfl
            have hCV := hC5.trans hcV (by simpa using .inl hrb)
            have hszV := hCV.size
            have hown2 := (owns_chg hownW1 hcV (by simpa using hrlt)).alloc (Obj.cells #[.int .u64 (64 * s.line), .int .u64 0, .bool false] 75)
            clear hV g0 g1 g2 g3 gf c0 cv hcV hd hd1 hdV x0 x2 hx hrow hRW hRW1
            have hbk : ∀ y ∈ blocksR b bo bs rs, y ∉ (u3.ownBlock).toList := by
              intro y hy hm
              have := (hown2.lt y (by simpa using hm)).1
              have := hlt y hy
              omega
            go_wp2_with (at_builtin; go_loud (refine wpList_append_own _ rfl _ _ 36 rfl w.heap.size 75 i0 (.agg #[.int .u64 0, .int .u64 0, .bool false]) 3 24 Try.underlying36 hi0 hz0 hz1 hz2 rfl (by decide) _ _ _ rfl hown2 ⟨V.heap.size, 0, none⟩ 1 1 [.int .u64 (64 * s.line), .int .u64 (0), .bool false] rfl rfl (news_new _ _ _) (fun u hu => by simp at hu; rcases hu with rfl | rfl | rfl <;> rfl) (by unfold maxLen; omega) (by omega) (by simp; omega) ?_); intro v' w3 hown3 hgrow3 _; have hC3 := Chg.of_row hgrow3)
            have hR3 := (hRV.chg (S := []) ((Chg.refl _ _).alloc _) (by simp)).chg hC3 hbk
            have hC6 : Chg (blocksR b bo bs rs) w w3 := (hCV.alloc _).trans hC3 (fun y hy => .inr (hown2.lt y (by have hy' : y ∈ u3.ownBlock.toList := hy; simpa using hy')).1)
            refine ⟨⟨k + 1, by omega, by go_num, ?_, ?_, ?_⟩, by simp [intOf]; omega⟩
            · rw [HST'.out, HLAY.out, List.flatMap_append, List.length_append]
              exact hown3
            · rw [HST'.out, HLAY.out]
              exact hR3
            · exact hC6
          | none =>
            obtain ⟨kk, hkk⟩ : ∃ kk, kk = (nextSeed τ.seed / 4294967296 % (τ.ways : Int)).toNat := ⟨_, rfl⟩
            have hw1 := hwk'.ways1
            have hw8 := hwk'.ways2
            have hkz : nextSeed τ.seed / 4294967296 % (τ.ways : Int) = (kk : Int) := by rw [hkk, Int.toNat_of_nonneg (Int.emod_nonneg _ (by omega))]
            have hkw : kk < τ.ways := by have := Int.emod_lt_of_pos (nextSeed τ.seed / 4294967296) (show (0 : Int) < τ.ways by omega); omega
            have hg := row_get (σ := τ) s.line hkw
            rw [hKK] at hg
            obtain ⟨p, hp⟩ : ∃ p, (τ.row K)[kk]? = some p := ⟨_, List.getElem?_eq_getElem (by rw [← List.length_map (f := Pl.toSl), hlen]; exact hkw)⟩
            have hpi : p.is = true := by
              rw [List.findIdx?_eq_none_iff] at hf
              have := hf p (List.mem_of_getElem? hp)
              simpa [Pl.free] using this
            have hpb := hwk'.pl1 _ p (hg.symm.trans hp) hpi
            have hpm : ((τ.row K).map Pl.toSl)[kk]? = some p.toSl := by simp [hp]
            have gf := (hrow.drewN n1).frozen
            have HLAY : Hid (τ.lay s.line s.wr = ({ τ with seed := nextSeed τ.seed, pl := τ.pl.set (K * τ.ways + kk) ⟨s.line, true, s.wr⟩ }, ⟨64 * s.line, 64 * p.line, p.wr⟩)) := by
              show _ = _
              unfold St.lay; rw [hKK, hf]; dsimp only; rw [hkz]
              simp [List.getD, ← hg, hp, Int.mul_comm]
            have HPM := Lib.hid hpm
            have e9 : IntKind.u64.wrap (64 * p.line) = 64 * p.line := IntWalk.u64_in _ (by omega)
            obtain ⟨co5, cs5, t5, _⟩ := hRW1.top
            have c3 := t5.cell (j := 3) rfl
            have cf := t5.frozen
            have HKZ := Lib.hid hkz
            clear hkk hf hKK hp hpm t5 hpi hpb hg hkz
            rw [show idx none = -1 from rfl]
            go_upto_region 15 with fail
            refine wp_name fun W2 hW2 => ?_
            rw [seed_wrap] at hW2
            have hC2 : Chg [b] (W.drewN n1) W2 := by rw [hW2]; exact (Chg.refl _ _).setCell (.inl (by simp)) _
            have hR2 : RepR W2 b bo bs rs { τ with seed := nextSeed τ.seed } := by rw [hW2]; exact hRW1.setSeed _
            have hrow2 := (hrow.drewN n1).chg hC2 (by simpa using (d4 K r hr).1)
            have hd2 := hd1.chg hC2 (by have := hlt b (by simp [blocksR]); simp; omega)
            have hown0 := owns_chg hownW1 hC2 (by simpa using hlt b (by simp [blocksR]))
            have hC7 := hC5.trans hC2 (by simp [blocksR])
            have hx2 := (hx.drewN n1).chg hC2 (by have := hlt b (by simp [blocksR]); simp; omega)
            have x0 := hx2.cell (j := 0) rfl
            have x2 := hx2.cell (j := 2) rfl
            obtain ⟨co5, cs5, t5, _⟩ := hR2.top
            have c3 := t5.cell (j := 3) rfl
            have gf := hrow2.frozen
            obtain ⟨g0, g1, g2, g3⟩ := hrow2.sl HPM.out
            have f2 := hd2.frozen
            have q1 := hd2.cell (j := 1) rfl
            have q2 := hd2.cell (j := 2) rfl
            obtain ⟨S, hS⟩ : ∃ S, S = nextSeed τ.seed := ⟨_, rfl⟩
            have hSb := nextSeed_in τ.seed
            have HKZ' := HKZ.out
            rw [← hS] at c3 hSb HKZ'
            unfold okLine at hSb
            have e3 : IntKind.u64.wrap (S.tdiv 4294967296) = S / 4294967296 := IntWalk.u64_quo _ _ ⟨hSb.1, by omega, by omega⟩
            have eW : IntKind.u64.wrap (τ.ways : Int) = τ.ways := IntWalk.u64_in _ (by omega)
            have e4 : (S / 4294967296).tmod (τ.ways : Int) = kk := by rw [Int.tmod_eq_emod_of_nonneg (by omega), HKZ']
            have e5' : IntKind.u64.wrap (kk : Int) = kk := IntWalk.u64_in _ (by omega)
            clear hS hSb HKZ'
            clear hW2 hRW hRW1 hrow hd hd1 hownW hownW1 hC5 hC2 c0 cv t5
            go_upto_region 18 with fail
            refine wp_name fun W3 hW3 => ?_
            rw [show p.toSl.line = p.line from rfl, show p.toSl.wr = p.wr from rfl, e9] at hW3
            have hC3' : Chg [wr.heap.size + 1] W2 W3 := by rw [hW3]; exact ((Chg.refl _ _).setCell (.inl (by simp)) _).setCell (.inl (by simp)) _
            have hlt2 : ∀ x ∈ blocksR b bo bs rs, x ≠ wr.heap.size + 1 := fun x hx => by have := hlt x hx; omega
            have hR3' := hR2.chg hC3' (by simpa using hlt2)
            have hrow3 := hrow2.chg hC3' (by simpa using hlt2 _ hrb)
            have hd3 : Row W3 (wr.heap.size + 1) 75 3 [.int .u64 (64 * s.line), .int .u64 (64 * p.line), .bool p.wr] := by
              rw [hW3]; exact (hd2.set 1 (.int .u64 (64 * p.line))).set 2 (.bool p.wr)
            have hx3 := hx2.chg hC3' (by simp)
            have hown1 := hown0
            have hown3' : W3.ownsRow w.heap.size 75 3 u3 (σ.tickTo k).2.length ((σ.tickTo k).2.flatMap Dn.enc) :=
              owns_apart hown0 hC3' (fun y hy => by have := HOB.out y hy; simp; omega)
            have hC8 : Chg (blocksR b bo bs rs) w W3 := hC7.trans hC3' (by simp; omega)
            have x0 := hx3.cell (j := 0) rfl
            have x2 := hx3.cell (j := 2) rfl
            have gf := hrow3.frozen
            obtain ⟨g0, g1, g2, g3⟩ := hrow3.sl HPM.out
            clear hW3 hrow2 hR2 hd2 hx hx2 hC7 hown0 hown1 q1 q2 f2 c3 
            go_upto_region 19 with fail
            refine wp_name fun V hV => ?_
            have hcV : Chg [r.1] W3 V := by
              rw [hV]
              exact ((((Chg.refl [r.1] _).setCell (.inl (by simp)) _).setCell (.inl (by simp)) _).setCell (.inl (by simp)) _).setCell (.inl (by simp)) _
            have hRV : RepR V b bo bs rs { τ with seed := nextSeed τ.seed, pl := τ.pl.set (K * τ.ways + kk) ⟨s.line, true, s.wr⟩ } := by
              refine hR3'.setRow hr hwk'.ways1 hkw _ hcV ?_
              rw [hV, List.map_set]
              exact Row.storeSl (q := Pl.toSl ⟨s.line, true, s.wr⟩) hrow3 HPM.out
            have hdV := hd3.chg hcV (by simp; omega)
            have q0 := hdV.cell (j := 0) rfl
            have q1 := hdV.cell (j := 1) rfl
            have q2 := hdV.cell (j := 2) rfl
            have hCV := hC8.trans hcV (by simpa using .inl hrb)
            have hszV := hCV.size
            have hown2 := (owns_chg hown3' hcV (by simpa using hrlt)).alloc (Obj.cells #[.int .u64 (64 * s.line), .int .u64 (64 * p.line), .bool p.wr] 75)
            clear hV g0 g1 g2 g3 gf hcV hd3 hdV x0 x2 hx3 hrow3 hR3'
            have hbk : ∀ y ∈ blocksR b bo bs rs, y ∉ (u3.ownBlock).toList := by
              intro y hy hm
              have := (hown2.lt y (by simpa using hm)).1
              have := hlt y hy
              omega
            go_wp2_with (at_builtin; go_loud (refine wpList_append_own _ rfl _ _ 36 rfl w.heap.size 75 i0 (.agg #[.int .u64 0, .int .u64 0, .bool false]) 3 24 Try.underlying36 hi0 hz0 hz1 hz2 rfl (by decide) _ _ _ rfl hown2 ⟨V.heap.size, 0, none⟩ 1 1 [.int .u64 (64 * s.line), .int .u64 (64 * p.line), .bool p.wr] rfl rfl (news_new _ _ _) (fun u hu => by simp at hu; rcases hu with rfl | rfl | rfl <;> rfl) (by unfold maxLen; omega) (by omega) (by simp; omega) ?_); intro v' w3 hown3 hgrow3 _; have hC3 := Chg.of_row hgrow3)
            have hR3 := (hRV.chg (S := []) ((Chg.refl _ _).alloc _) (by simp)).chg hC3 hbk
            have hC6 : Chg (blocksR b bo bs rs) w w3 := (hCV.alloc _).trans hC3 (fun y hy => .inr (hown2.lt y (by have hy' : y ∈ u3.ownBlock.toList := hy; simpa using hy')).1)
            refine ⟨⟨k + 1, by omega, by go_num, ?_, ?_, ?_⟩, by simp [intOf]; omega⟩
            · rw [HST'.out, HLAY.out, List.flatMap_append, List.length_append]
              exact hown3
            · rw [HST'.out, HLAY.out]
              exact hR3
            · exact hC6
        · have hst : σ.tickTo (k + 1) = ({ (σ.tickTo k).1 with sl := (σ.tickTo k).1.sl.set k { s with left := s.left - 1 } }, (σ.tickTo k).2) := by
            rw [hstep]; unfold St.tickAt; rw [hs]; simp [hi, hl]
          have hgt : 1 < s.left := by omega
          have HST := Lib.hid hst
          have hbs' : bs < w.heap.size := hlt bs (by simp [blocksR])
          have HS := Lib.hid hs
          clear hst hstep hs hi e1 e2 e3 e4 e6 r1 r2 r3 hl
          go_wp2
          go_roundw
          case rel =>
            have hc0 : Chg [bs] wr ((wr.setCell ⟨bs, k * 4 + 3, none⟩ (.int .i64 (s.left - 1))).alloc (.cells #[.int .u64 s.line, .bool true, .bool s.wr, .int .i64 s.left] 72)) := ((Chg.refl [bs] wr).setCell (.inl (by simp)) _).alloc _
            refine ⟨k + 1, by omega, by go_num, ?_, ?_, hchg.trans hc0 (by simp [blocksR])⟩
            · rw [HST.out]
              exact owns_chg hown hc0 (by simpa using hbs')
            · rw [HST.out]
              exact hrep.setSlot (by simp) hc0 (fun cs hr => (hr.leftSl HS.out).alloc _)
          case measure => simp [intOf]; omega
    · obtain rfl : k = σ.sl.length := by omega
      go_wp2
      go_ret
      exact ⟨_, rfl, hown, hrep, hchg⟩

end Go.Proofs.Ytmagpdbnefbfkaa
