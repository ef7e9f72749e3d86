/- The walks of the program's cache: Copy. -/
import Derived.Test.YtmagpdbnefbfkaaW13
import Derived.Test.YtmagpdbnefbfkaaK2
import Derived.Deep.RegionHeld3
namespace Go.Proofs.Ytmagpdbnefbfkaa
open Go Go.RowKit

def CopyRel (W6 : World) (bm bm2 r sets : Nat) (L : List (Int × Nat)) (wr : World) : Prop :=
  ∃ (rest N : List (Int × Nat)), RangeT okLine (ekLine sets) evInt wr bm r L rest ∧ rest.Sublist L ∧ MapT okLine (ekLine sets) evInt wr bm2 N ∧ (∀ a u, asc N a = some u ↔ (a, u) ∈ L ∧ (a, u) ∉ rest) ∧ Chg [bm2, r] W6 wr

set_option maxRecDepth 100000 in
set_option maxHeartbeats 4000000 in
theorem copy_any {w : World} {b ba bm bs : Nat} {σ : St} (h : RepP w b ba bm bs σ) (hw : WP σ) (hs1 : 1 ≤ σ.sl.length) (hs2 : σ.sl.length ≤ 8) : Calls Try.prog 20 #[.pointer (some ⟨b, 0, none⟩)] w (NewPost w σ) := by
  have hlt := h.lt
  obtain ⟨ca, cs, t1, t2, t3, hca, hcs⟩ := h.top
  have c0 := t1.cell (j := 0) rfl
  have c1 := t1.cell (j := 1) rfl
  have c2 := t1.cell (j := 2) rfl
  have c3 := t1.cell (j := 3) rfl
  have c4 := t1.cell (j := 4) rfl
  have c5 := t1.cell (j := 5) rfl
  have c6 := t1.cell (j := 6) rfl
  go_enter Try.func20, Try.ntmps20
  go_upto_region 2 with fail
  refine wp_name fun W hW => ?_
  have hC : Chg [] w W := by rw [hW]; exact (Chg.refl _ _).alloc _
  have hB : Row W w.heap.size 55 7 (topP σ.sets σ.ways σ.delay σ.seed ba σ.pl.length ca bm bs σ.sl.length cs) := by rw [hW]; exact Row.new _ _ _
  have hWs : W.heap.size = w.heap.size + 1 := by rw [hW]; simp
  clear hW c0 c1 c2 c3 c4 c5 c6
  have u1 := t1.chg hC (by simp)
  have u2 := t2.chg hC (by simp)
  have u3 := t3.chg hC (by simp)
  have y4 := u1.cell (j := 4) rfl
  have y6 := u1.cell (j := 6) rfl
  have hbB : w.heap.size ≠ b := by have := t1.lt; omega
  have hN1 : 1 ≤ σ.pl.length := by rw [hw.len]; exact Nat.mul_le_mul hw.sets1 hw.ways1
  go_region_held3 (fun w' => w'.cell? ⟨b, 4, none⟩ = some (.slice (some ⟨ba, 0, none⟩) σ.pl.length ca) ∧ w'.cell? ⟨b, 6, none⟩ = some (.slice (some ⟨bs, 0, none⟩) σ.sl.length cs))
    (first | exact ⟨y4, y6⟩ | exact ⟨v4, v6⟩ | exact ⟨w4, w6⟩ | exact ⟨(Row.other hU2 hbB _).cell (j := 4) rfl, (Row.other hU2 hbB _).cell (j := 6) rfl⟩ | exact ⟨(Row.other (Row.other hU2 hbB _) hbB _).cell (j := 4) rfl, (Row.other (Row.other hU2 hbB _) hbB _).cell (j := 6) rfl⟩)
    (first
      | (go_at_call 30; go_must (refine (clonePl (Row.drew u2) hN1 hw.len2).mono ?_); rintro e w1 ⟨g1, k1, rfl, hg1, hr1, hk1, hC1⟩; have v4 := (u1.drew.chg hC1 (by simp)).cell (j := 4) rfl; have v6 := (u1.drew.chg hC1 (by simp)).cell (j := 6) rfl)
      | (go_at_call 31; go_must (refine (cloneSl (u3.drew.chg hC1 (by simp)) hs1 (by omega)).mono ?_); rintro e w2 ⟨g2, k2, rfl, hg2, hr2, hk2, hC2⟩; have w4 := ((u1.drew.chg hC1 (by simp)).chg hC2 (by simp)).cell (j := 4) rfl; have w6 := ((u1.drew.chg hC1 (by simp)).chg hC2 (by simp)).cell (j := 6) rfl; have hU2 := ((u1.drew.chg hC1 (by simp)).chg hC2 (by simp)); have hB2 := ((hB.drew.chg hC1 (by simp)).chg hC2 (by simp)); have zz4 := hB2.cell (j := 4) rfl; have zz6 := hB2.cell (j := 6) rfl; have zz5 := hB2.cell (j := 5) rfl; have zzf := hB2.frozen))
  go_upto_region 3 with fail
  refine wp_name fun W4 hW4 => ?_
  have hB4 : Row W4 w.heap.size 55 7 (topP σ.sets σ.ways σ.delay σ.seed g1 σ.pl.length k1 bm g2 σ.sl.length k2) := by
    rw [hW4]
    exact (hB2.set 4 (.slice (some ⟨g1, 0, none⟩) σ.pl.length k1)).set 6 (.slice (some ⟨g2, 0, none⟩) σ.sl.length k2)
  have hC4 : Chg [w.heap.size] w2 W4 := by
    rw [hW4]
    exact ((Chg.refl _ _).setCell (.inl (by simp)) _).setCell (.inl (by simp)) _
  have s1 := hC1.size
  have s2 := hC2.size
  have s4 := hC4.size
  have hsd : W.drew.heap.size = w.heap.size + 1 := hWs
  have hA1 : Chg [] w W4 := ((hC.drew.trans hC1 (by simp)).trans hC2 (by simp)).trans hC4 (by simp)
  have hG1 := (hr1.chg hC2 (by simp)).chg hC4 (by simp; omega)
  have hG2 := hr2.chg hC4 (by simp; omega)
  have l1 : g1 < w1.heap.size := hr1.lt
  have l2 : g2 < w2.heap.size := hr2.lt
  clear hW4 hB2 zz4 zz6 zz5 zzf hU2 w4 w6 v4 v6 y4 y6 u1 u2 u3 hB hr1 hr2
  have z5 := (hB4.alloc (.map #[] 0)).cell (j := 5) rfl
  have zf := (hB4.alloc (.map #[] 0)).frozen
  have k3 := @run_makeMap Try.prog
  go_upto_region 4 with fail
  refine wp_name fun W5 hW5 => ?_
  obtain ⟨L, hML, hAg⟩ := h.map
  have hB5 : Row W5 w.heap.size 55 7 (topP σ.sets σ.ways σ.delay σ.seed g1 σ.pl.length k1 W4.heap.size g2 σ.sl.length k2) := by
    rw [hW5]; exact (hB4.alloc (.map #[] 0)).set 5 (.map (some W4.heap.size))
  have hB4l := hB4.lt
  have hC5 : Chg [w.heap.size] W4 W5 := by
    rw [hW5]; exact ((Chg.refl _ _).alloc _).setCell (.inl (by simp)) _
  have hA5 : Chg [] w W5 := hA1.trans hC5 (by simp)
  have hM5 : MapT okLine (ekLine σ.sets) evInt W5 W4.heap.size ([] : List (Int × Nat)) := by
    rw [hW5]; exact (MapT.new _).other (by simp; omega) _
  have hMo := hML.chg hA5 (by simp)
  have hG15 := hG1.chg hC5 (by simp; omega)
  have hG25 := hG2.chg hC5 (by simp; omega)
  obtain ⟨o, kr, hRg⟩ := hMo.range (P := Try.prog) Try.underlying52
  have x5 := (t1.chg hA5 (by simp)).cell (j := 5) rfl
  have s5 : W4.heap.size < W5.heap.size := hM5.lt
  have hLn : (L.map (·.1)).Nodup := by
    obtain ⟨es, clock, _, _, _, hn, _⟩ := hML
    exact hn
  clear hW5 hB4 hG1 hG2 hC5 z5 zf hC4
  go_wp2
  refine wp_name fun W6 hW6 => ?_
  have hC6 : Chg [] W5 W6 := by rw [hW6]; exact (Chg.refl _ _).alloc _
  rw [← hW6] at hRg
  have hM6 := hM5.chg hC6 (by simp)
  have hok : ∀ p ∈ L, okLine p.1 := by
    obtain ⟨es, clock, _, _, hn, _⟩ := hML
    exact hn
  clear hW6 kr x5
  go_loopw [5] (fun _ wr => CopyRel W6 bm W4.heap.size W5.heap.size σ.sets L wr) (fun _ wr => wr.rangeLeft bm W5.heap.size)
  case atStart => exact ⟨L, [], hRg, List.Sublist.refl _, hM6, fun a u => by simp [asc], Chg.refl _ _⟩
  case round =>
    obtain ⟨rest, N, hrg, hsub, hN, hcop, hchg⟩ := hrel
    have hne := hrg.lt.2.2
    have hbm := h.map
    go_wp2_with (at_next; go_loud (refine wpList_next_T (P := Try.prog) _ rfl _ rfl bm W5.heap.size L rest rfl hrg ?_ ?_))
    · intro h0
      subst h0
      have hAll : Chg [] w wr := (hA5.trans hC6 (by simp)).trans hchg (by simp; omega)
      have hX : ∀ x, x < W4.heap.size → x ∉ [W4.heap.size, W5.heap.size] := fun x hx => by simp; omega
      have f1 := (hB5.chg hC6 (by simp)).chg hchg (hX _ hB4l)
      have f2 := (hG15.chg hC6 (by simp)).chg hchg (hX _ (by omega))
      have f3 := (hG25.chg hC6 (by simp)).chg hchg (hX _ (by omega))
      have hP : NewPost w σ (.returned (.pointer (some ⟨w.heap.size, 0, none⟩))) wr := by
        refine ⟨w.heap.size, g1, W4.heap.size, g2, rfl, ⟨⟨k1, k2, f1, f2, f3, hk1, hk2⟩, ⟨N, hN, fun line n => ?_⟩, ?_⟩, ?_, hAll⟩
        · rw [hcop line n, ← hAg line n, asc_some hLn]
          simp
        · simp; omega
        · intro x hx
          simp only [List.mem_cons, List.not_mem_nil, or_false] at hx
          omega
      clear f1 f2 f3
      go_wp2
      go_ret
      exact hP
    · intro a v w1' hm hrg1 hc1 hen
      have hN1 := (hN.chg hc1 (by simp; omega)).alloc (.cells #[.int .u64 (a % σ.sets), .int .u64 a] 62)
      have hX : w.heap.size ∉ [W4.heap.size, W5.heap.size] := by simp; omega
      have f1 := ((((hB5.chg hC6 (by simp)).chg hchg hX).chg hc1 (by simp; omega)).alloc (.cells #[.int .u64 (a % σ.sets), .int .u64 a] 62)).cell (j := 5) rfl
      obtain ⟨w2', hrun, hm2, hc2, hsz⟩ := hN1.store (P := Try.prog) law62 (keyOk62 σ.sets hw.sets1 hw.sets2) Try.underlying52 (hok _ (hsub.subset hm)) v
      have hrg2 := (hrg1.chg (S := []) ((Chg.refl _ _).alloc (.cells #[.int .u64 (a % σ.sets), .int .u64 a] 62)) (by simp) (by simp)).chg hc2 (by simp; have := hMo.lt; have := hML.lt; omega) (by simp; omega)
      have hstep := copied_step hLn hsub hcop hm
      have hsub2 : (del rest a).Sublist L := (List.filter_sublist).trans hsub
      have hchg2 : Chg [W4.heap.size, W5.heap.size] W6 w2' := ((hchg.trans hc1 (by simp)).alloc (.cells #[.int .u64 (a % σ.sets), .int .u64 a] 62)).trans hc2 (by simp)
      have HR : Hid (CopyRel W6 bm W4.heap.size W5.heap.size σ.sets L w2') := ⟨_, _, hrg2, hsub2, hm2, hstep, hchg2⟩
      have e1 := hrg2.left_eq
      have e0 := hrg.left_eq
      have hlen : (del rest a).length < rest.length := by
        have hx := List.length_filter_lt_length_iff_exists (p := fun p : Int × Nat => decide (p.1 ≠ a)) (l := rest)
        exact hx.2 ⟨(a, v), hm, by simp⟩
      clear hN1 hrg1 hrg2 hm2 hstep hchg2 hN hcop hrg
      unfold ekLine evInt at hen hrun
      go_wp2
      go_roundw
      case rel => exact HR.out
      case measure => rw [e0, e1]; exact hlen

end Go.Proofs.Ytmagpdbnefbfkaa
