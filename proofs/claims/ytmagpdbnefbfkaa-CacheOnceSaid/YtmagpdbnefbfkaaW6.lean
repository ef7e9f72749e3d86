/- The walks of the program's cache: a tick. -/
import Derived.Test.YtmagpdbnefbfkaaW5
import Derived.Test.YtmagpdbnefbfkaaPure3
namespace Go.Proofs.Ytmagpdbnefbfkaa
open Go Go.RowKit

theorem Try.info40 : (Try.prog.info? 40).map (fun i => (i.zero, i.size, i.bytes)) = some (some (.agg #[.int .u64 0, .int .u64 0, .bool false]), 3, 24) := by kernel_rfl

theorem RepP.drew {w : World} {b ba bm bs : Nat} {σ : St} (h : RepP w b ba bm bs σ) : RepP w.drew b ba bm bs σ := h.chg (S := []) (Chg.refl _ _).drew (by simp)

theorem RepP.leftAt {w : World} {b ba bm bs : Nat} {σ : St} (h : RepP w b ba bm bs σ) {k : Nat} {s : Sl} (hs : σ.sl[k]? = some s) (v : Int) :
    RepP (w.setCell ⟨bs, k * 4 + 3, none⟩ (.int .i64 v)) b ba bm bs { σ with sl := σ.sl.set k { s with left := v } } := by
  obtain ⟨ca, cs, h1, h2, h3, hca, hcs⟩ := h.top
  obtain ⟨L, h4, h5⟩ := h.map
  obtain ⟨d1, d2, d3, d4, d5, d6⟩ := h.ne
  exact ⟨⟨ca, cs, by rw [List.length_set]; exact h1.other (Ne.symm d3) _, h2.other (Ne.symm d5) _, h3.leftSl hs, hca, hcs⟩, ⟨L, h4.other (Ne.symm d6) _, h5⟩, h.apart⟩

theorem RepP.emptied {w : World} {b ba bm bs : Nat} {σ : St} (h : RepP w b ba bm bs σ) {k : Nat} {s : Sl} (hs : σ.sl[k]? = some s) :
    RepP ((((w.setCell ⟨bs, k * 4, none⟩ (.int .u64 0)).setCell ⟨bs, k * 4 + 1, none⟩ (.bool false)).setCell ⟨bs, k * 4 + 2, none⟩ (.bool false)).setCell ⟨bs, k * 4 + 3, none⟩ (.int .i64 0)) b ba bm bs { σ with sl := σ.sl.set k Sl.zero } := by
  obtain ⟨ca, cs, h1, h2, h3, hca, hcs⟩ := h.top
  obtain ⟨L, h4, h5⟩ := h.map
  obtain ⟨d1, d2, d3, d4, d5, d6⟩ := h.ne
  exact ⟨⟨ca, cs, by rw [List.length_set]; exact Row.other (Row.other (Row.other (h1.other (Ne.symm d3) _) (Ne.symm d3) _) (Ne.symm d3) _) (Ne.symm d3) _,
    Row.other (Row.other (Row.other (h2.other (Ne.symm d5) _) (Ne.symm d5) _) (Ne.symm d5) _) (Ne.symm d5) _, Row.storeSl (q := Sl.zero) h3 hs, hca, hcs⟩,
    ⟨L, MapT.other (MapT.other (MapT.other (h4.other (Ne.symm d6) _) (Ne.symm d6) _) (Ne.symm d6) _) (Ne.symm d6) _, h5⟩, h.apart⟩

theorem lay_call {w : World} {b ba bm bs : Nat} {σ : St} (h : RepP w b ba bm bs σ) (hw : WP σ) {line : Int} (wr : Bool) (hl : 0 ≤ line ∧ line < 288230376151711744)
    (hfresh : ∀ (j : Nat) p, σ.pl[j]? = some p → p.is = true → p.line ≠ line) :
    Calls Try.prog 27 #[.pointer (some ⟨b, 0, none⟩), .int .u64 line, .bool wr] w fun e w' => ∃ d : Dn, Hid ((σ.lay line wr).2 = d) ∧ e = .returned (.agg #[.int .u64 d.at_, .int .u64 d.out, .bool d.wr]) ∧ RepP w' b ba bm bs (σ.lay line wr).1 ∧ Chg [b, ba, bm] w w' :=
  (lay_any h hw wr hl hfresh).mono fun _ _ ⟨h1, h2, h3⟩ => ⟨_, rfl, h1, h2, h3⟩

/-- What Tick hands back. -/
def TickPost (w : World) (b ba bm bs : Nat) (σ : St) (e : Ending) (w' : World) : Prop :=
  ∃ v, e = .returned v ∧ w'.ownsRow w.heap.size 40 3 v σ.tick.2.length (σ.tick.2.flatMap Dn.enc) ∧ RepP w' b ba bm bs σ.tick.1 ∧ Chg [b, ba, bm, bs] w w'

def TickRel (w : World) (b ba bm bs : Nat) (σ : St) (o i : Value) (wr : World) : Prop :=
  ∃ k : Nat, k ≤ σ.sl.length ∧ i = .int .i64 k ∧ wr.ownsRow w.heap.size 40 3 o (σ.tickTo k).2.length ((σ.tickTo k).2.flatMap Dn.enc) ∧ RepP wr b ba bm bs (σ.tickTo k).1 ∧ Chg [b, ba, bm, bs] w wr

set_option maxRecDepth 100000 in
set_option maxHeartbeats 4000000 in
theorem tick_any {w : World} {b ba bm bs : Nat} {σ : St} (h : RepP w b ba bm bs σ) (hw : WF σ) : Calls Try.prog 10 #[.pointer (some ⟨b, 0, none⟩)] w (TickPost w b ba bm bs σ) := by
  have hlt := h.lt
  obtain ⟨ca, cs, t1, t2, t3, hca, hcs⟩ := h.top
  have c6 : w.cell? ⟨b, 6, none⟩ = some (.slice (some ⟨bs, 0, none⟩) σ.sl.length cs) := t1.cell (j := 6) rfl
  have hb8 := hw.sl2
  clear t1 t2 t3 hca hcs
  go_enter Try.func10, Try.ntmps10
  go_wp2
  go_loopw [3, 11] (TickRel w b ba bm bs σ) (fun _ i _ => σ.sl.length - (intOf i).toNat)
  case atStart => exact ⟨0, Nat.zero_le _, rfl, World.ownsRow_nil _ _ _ _, by simpa [St.tickTo] using h, Chg.refl _ _⟩
  case round =>
    obtain ⟨k, hk, rfl, hown, hrep, hchg⟩ := hrel
    obtain ⟨e1, e2, e3, e4, e5, e6⟩ := tickTo_keeps σ k
    have hwk := hw.tickTo k
    obtain ⟨ca', cs', r1, r2, r3, hca, hcs⟩ := hrep.top
    have c6' : wr.cell? ⟨b, 6, none⟩ = some (.slice (some ⟨bs, 0, none⟩) σ.sl.length cs') := by rw [← e1]; exact r1.cell (j := 6) rfl
    by_cases hkl : k < σ.sl.length
    · obtain ⟨s, hs⟩ : ∃ s, (σ.tickTo k).1.sl[k]? = some s := ⟨_, List.getElem?_eq_getElem (by omega)⟩
      have hstep := tickTo_succ σ k
      obtain ⟨g0, g1, g2, g3⟩ := r3.sl hs
      have hf3 := r3.frozen (k * 4 + 3)
      cases hi : s.is with
      | false =>
        have hst : σ.tickTo (k + 1) = σ.tickTo k := by rw [hstep]; unfold St.tickAt; rw [hs]; simp [hi]
        rw [hi] at g1
        have HST := Lib.hid hst
        clear hst hstep hs hi e1 e2 e3 e4 e6 r1 r2 r3
        go_wp2
        go_roundw
        case rel => exact ⟨k + 1, by omega, by go_num, by rw [HST.out]; exact hown, by rw [HST.out]; exact hrep, hchg⟩
        case measure => simp [intOf]; omega
      | true =>
        obtain ⟨l0, l1, l2, l3⟩ := hwk.sl3 k s hs hi
        rw [hi] at g1
        by_cases hl : s.left = 1
        · have hst : σ.tickTo (k + 1) = ({ ((σ.tickTo k).1.lay s.line s.wr).1 with sl := (σ.tickTo k).1.sl.set k Sl.zero }, (σ.tickTo k).2 ++ [((σ.tickTo k).1.lay s.line s.wr).2]) := by
            rw [hstep]; unfold St.tickAt; rw [hs]; simp [hi, hl]
          have hne : (s.left - 1 == 0) = true := by rw [beq_iff_eq]; omega
          have HST := Lib.hid hst
          have hfresh : ∀ (j : Nat) p, (σ.tickTo k).1.pl[j]? = some p → p.is = true → p.line ≠ s.line := fun j p hp hpi => (hwk.apart k j s p hs hp hi hpi).symm
          have hR1 := hrep.leftAt hs 0
          have hwp := hwk.toWP.slots ((σ.tickTo k).1.sl.set k { s with left := 0 })
          have hbs : bs < w.heap.size := hlt bs (by simp)
          have hkn := (List.getElem?_eq_some_iff.1 hs).1
          have HS := Lib.hid hs
          have HH := Lib.hid h
          clear hst hstep e1 e2 e3 e4 e6 r1 r2 r3 hs h
          go_wp2
          refine wp_name fun W1 hW1 => ?_
          have hRW : RepP W1 b ba bm bs { (σ.tickTo k).1 with sl := (σ.tickTo k).1.sl.set k { s with left := 0 } } := by rw [hW1]; exact hR1
          have hC1 : Chg [bs] wr W1 := by rw [hW1]; exact (Chg.refl [bs] wr).setCell (.inl (by simp)) _
          clear hW1 hR1 g0 g1 g2 g3 hf3 hne c6 c6' hrep
          obtain ⟨ca1, cs1, _, _, q3, _, _⟩ := hRW.top
          obtain ⟨g0, g1, g2, _⟩ := q3.sl (show _ = some ({ s with left := 0 } : Sl) from get_set hkn)
          have x0 := Ext.cell g0
          have x2 := Ext.cell g2
          have hown1 := owns_chg hown hC1 (by simpa using hbs)
          clear g0 g1 g2 q3 hown
          refine wp_region_any (by kernel_rfl) ?_
          refine wpAny_take (i := 0) (v := u3) rfl (by kernel_rfl) (by kernel_rfl) (by kernel_rfl) (fun _ _ _ h => h) (Or.inl ⟨by rfl, ?_⟩) ?_
          · intro w; go_simp
          refine wpAny_ext_tail (w0 := W1) 1 10 rfl (by kernel_rfl) (Cx.drew W1) ?_
          simp only [List.take_succ_cons, List.take_zero, List.drop_succ_cons, List.drop_zero, List.getElem_toArray, List.getElem_cons_zero, Act.put, List.setIfInBounds_toArray, List.set_cons_succ, List.set_cons_zero]
          repeat (go_big_quiet_step (fail))
          refine wpQuiet_nil ?_
          intro _ hw'
          obtain ⟨x, hw''⟩ := hw'
          subst hw''
          clear x0 x2
          have hRX := hRW.chg x.chg (by simp)
          have hownX := owns_chg hown1 x.chg (by simp)
          have hCX : Chg [b, ba, bm, bs] w x.to := ((hchg.trans hC1 (by simp)).trans x.chg (by simp))
          have HL := Lib.hid hl
          clear hl hRW hC1 hown1 hchg
          obtain ⟨i0, hi0, hz0, hz1, hz2⟩ := info_parts Try.info40
          have hsz := hCX.size
          have hbl : ∀ y ∈ [b, ba, bm], y < w.heap.size := fun y hy => hlt y (by simp at hy ⊢; rcases hy with h | h | h <;> simp [h])
          go_wp2_with fail
          refine (lay_call hRX hwp s.wr ⟨l0, l1⟩ hfresh).mono ?_
          rintro e w2 ⟨d, HD, rfl, hR2, hC2⟩
          have hsz2 := hC2.size
          have hown2 := (owns_chg hownX hC2 hbl).alloc (Obj.cells #[Value.int IntKind.u64 d.at_, Value.int IntKind.u64 d.out, Value.bool d.wr] 40)
          have hbk : ∀ y ∈ [b, ba, bm, bs], y ∉ (u3.ownBlock).toList := by
            intro y hy hm
            have := (hown2.lt y (by simpa using hm)).1
            have := hlt y hy
            omega
          have hyl : (St.lay { (σ.tickTo k).1 with sl := (σ.tickTo k).1.sl.set k { s with left := 0 } } s.line s.wr).1.sl[k]? = some { s with left := 0 } := by
            rw [(lay_sets _ _ _).2.2.2.1]; exact get_set hkn
          have HYL := Lib.hid hyl
          clear hyl
          go_wp2_with (at_builtin; refine wpList_append_own _ rfl _ _ 34 rfl w.heap.size 40 i0 (.agg #[.int .u64 0, .int .u64 0, .bool false]) 3 24 Try.underlying34 hi0 hz0 hz1 hz2 rfl (by decide) _ _ _ rfl hown2 ⟨w2.heap.size, 0, none⟩ 1 1 [.int .u64 d.at_, .int .u64 d.out, .bool d.wr] rfl rfl (news_new _ _ _) (fun u hu => by simp at hu; rcases hu with rfl | rfl | rfl <;> rfl) (by unfold maxLen; omega) (by omega) (by simp; omega) ?_; intro v' w3 hown3 hgrow3 _; have hC3 := Chg.of_row hgrow3; have hR3 := (hR2.chg (S := []) ((Chg.refl _ _).alloc _) (by simp)).chg hC3 hbk; obtain ⟨ca3, cs3, _, _, q3, _, _⟩ := hR3.top; obtain ⟨m0, m1, m2, m3⟩ := q3.sl HYL.out; have mf := q3.frozen; dsimp only at m0 m1 m2 m3; clear q3)
          have hd := HD.out
          have hy := HYL.out
          have hR4 := hR3.emptied hy
          rw [lay_sl] at hd hR4
          have hC5 : Chg [b, ba, bm, bs] w w3 := ((hCX.trans hC2 (by simp)).trans (((Chg.refl [] _).alloc _)) (by simp)).trans hC3 (fun y hy => .inr (hown2.lt y (by have hy' : y ∈ u3.ownBlock.toList := hy; simpa using hy')).1)
          refine ⟨⟨k + 1, by omega, by go_num, ?_, ?_, ?_⟩, by simp [intOf]; omega⟩
          · rw [HST.out, List.flatMap_append, List.length_append]
            have := owns_chg hown3 (((((Chg.refl [bs] w3).setCell (p := ⟨bs, k * 4, none⟩) (.inl (by simp)) (.int .u64 0)).setCell (p := ⟨bs, k * 4 + 1, none⟩) (.inl (by simp)) (.bool false)).setCell (p := ⟨bs, k * 4 + 2, none⟩) (.inl (by simp)) (.bool false)).setCell (p := ⟨bs, k * 4 + 3, none⟩) (.inl (by simp)) (.int .i64 0)) (by simpa using hbs)
            rw [← hd] at this
            exact this
          · rw [HST.out]
            dsimp only at hR4 ⊢
            rwa [List.set_set] at hR4
          · exact (((hC5.setCell (.inl (by simp)) _).setCell (.inl (by simp)) _).setCell (.inl (by simp)) _).setCell (.inl (by simp)) _
        · have hst : σ.tickTo (k + 1) = ({ (σ.tickTo k).1 with sl := (σ.tickTo k).1.sl.set k { s with left := s.left - 1 } }, (σ.tickTo k).2) := by
            rw [hstep]; unfold St.tickAt; rw [hs]; simp [hi, hl]
          have hne : (s.left - 1 == 0) = false := by rw [beq_eq_false_iff_ne]; omega
          have HST := Lib.hid hst
          have HR := Lib.hid (hrep.leftAt hs (s.left - 1))
          have hlb : ∀ x ∈ [b, ba, bm, bs], x < w.heap.size := hlt
          have hbs : bs < w.heap.size := hlt bs (by simp)
          clear hst hstep hs hi e1 e2 e3 e4 e6 r1 r2 r3 hlt
          go_wp2
          go_roundw
          case rel =>
            refine ⟨k + 1, by omega, by go_num, ?_, by rw [HST.out]; exact HR.out, hchg.setCell (.inl (by simp)) _⟩
            rw [HST.out]
            exact owns_chg hown ((Chg.refl [bs] wr).setCell (.inl (by simp)) _) (by simpa using hbs)
          case measure => simp [intOf]; omega
    · obtain rfl : k = σ.sl.length := by omega
      go_wp2
      go_ret
      exact ⟨_, rfl, hown, hrep, hchg⟩

end Go.Proofs.Ytmagpdbnefbfkaa
