/- CacheOnce: a line is there at most once, what is written is told when it goes, and never more lines are there than there is room for: for every input, with no condition. -/
import Derived.Test.YtmagpdbnefbfkaaR0
import Derived.Test.YtmagpdbnefbfkaaW29
namespace Go.Proofs.Ytmagpdbnefbfkaa
open Go Go.ChangeShapes Go.WideShapes Go.ChangeAt Go.RowKit

theorem once_any (s1 s2 s3 s4 s5 : Int) (a : Option Addr) (n c : Nat) (ks ats : Nat → Int) (ws : Nat → Bool) (w : World) (hst : StepRow w a n ks ats ws) (hn : n ≤ 140737488351232) :
    Calls Try.prog 4 #[.agg #[.int .i64 s1, .int .i64 s2, .int .i64 s3, .int .i64 s4, .int .u64 s5], .slice a n c] w fun e w' => e = .returned (.bool true) ∧ Below w.heap.size w w' := by
  by_cases h : fits s1 s2 s3 s4
  · have h0 := h
    obtain ⟨hs, h1, h2, h3, h4, h5, h6⟩ := h0
    have hs0 : 0 ≤ s1 := by unfold isSets at hs; omega
    obtain ⟨t1, rfl⟩ := Int.eq_ofNat_of_zero_le hs0
    obtain ⟨t2, rfl⟩ := Int.eq_ofNat_of_zero_le (show 0 ≤ s2 by omega)
    obtain ⟨t3, rfl⟩ := Int.eq_ofNat_of_zero_le (show 0 ≤ s3 by omega)
    obtain ⟨t4, rfl⟩ := Int.eq_ofNat_of_zero_le (show 0 ≤ s4 by omega)
    exact (once_good t1 t2 t3 t4 s5 a n c ks ats ws w h hst (by omega)).mono fun e w' ⟨he, hc⟩ => ⟨he, hc.below (Nat.le_refl _) (by simp)⟩
  · exact (once_bad s1 s2 s3 s4 s5 a n c w h).mono fun e w' ⟨he, hc⟩ => ⟨he, hc.below (Nat.le_refl _) (by simp)⟩

set_option maxRecDepth 100000 in
theorem once_lifted (os : Os) (started : os.Started) (H : Type) (enc : TypeId × Value → H) :
    ReturnsInHanded {} Try.checked os 4 .any (Rows.cacheOnceSpec.pre6 enc Try.prog Try.f4 Rows.cacheOnceRow.domain false) (Rows.cacheOnceSpec.post enc Try.prog Try.f4 false true false false) := by
  refine returnsInHanded_of_change_sized (C := Try.checked) Try.own started (by kernel_rfl) Try.func4
    (ChangeSpec.witness6 (enc := enc) (C := Try.checked) false ⟨#[], #[.agg #[.int .i64 0, .int .i64 0, .int .i64 0, .int .i64 0, .int .u64 0], .slice none 0 0], []⟩ 8 (by kernel_rfl) (by kernel_rfl) (by kernel_rfl) (by kernel_rfl)) ?_
  intro W base args ds gs before hval0 hW hcnd hsz0 _
  have hsz : (DataW.weightsEach Try.prog (Try.f4.params.toList ++ Rows.cacheOnceSpec.plain.varTypes Try.prog) (ds ++ gs)).all (· ≤ reachBytes) = true := hsz0
  have hval : ∀ (j : Nat) t v, Try.f4.params[j]? = some t → args[j]? = some v → Value.okWide Try.prog W .any base t v := hval0
  have hW' := hW
  obtain ⟨p, q, hA0, hV, rfl, hfz, hnd⟩ := hW
  have hA : DataW.TrodAll enc Try.prog W 0 (fun _ => true) true Try.f4.params.toList args.toList ds p := hA0
  rw [Try.params4] at hA hval hsz
  obtain ⟨v0, vs0, d0, ds0, p0, q0, hargs, rfl, rfl, h0, r0⟩ := trodAll_cons hA
  obtain ⟨v1, vs1, d1, ds1, p1, q1, rfl, rfl, rfl, h1, r1⟩ := trodAll_cons r0
  obtain ⟨rfl, rfl, rfl⟩ := trodAll_nil r1
  obtain rfl : args = #[v0, v1] := by cases args; simp_all
  obtain ⟨rfl, rfl⟩ := trodVars_none hV
  have k0 := h0
  have k1 := h1
  have lt0 : ∀ x ∈ p0, x.block < W.heap.size := by obtain ⟨m, hm⟩ := k0; exact DataW.trod_lt m _ _ _ hm
  have lt1 : ∀ x ∈ p1, x.block < W.heap.size := by obtain ⟨m, hm⟩ := k1; exact DataW.trod_lt m _ _ _ hm
  obtain ⟨s1, s2, s3, s4, s5, rfl⟩ := shape_open (hval 0 24 v0 rfl rfl) h0
  obtain ⟨a, len, cap, rfl⟩ := okWide_slice Try.underlying25 (hval 1 25 v1 rfl rfl)
  obtain ⟨hn, ks, ats, ws, hst⟩ := steps_open h1
  have hlen := steps_len hsz hn
  clear hA0 hval0
  refine (once_any s1 s2 s3 s4 s5 a len cap ks ats ws W hst hlen).mono fun e W' ⟨he, bel⟩ => ?_
  subst he
  exact ⟨_, rfl, _, _, _, [], _, [], hW', trodAll_mk1 (shut_bool Try.underlying4 _), (trodAll_cons_mk (Below.trod Try.laidOut (by kernel_rfl) (of_decide_eq_true (by kernel_rfl)) k0 bel lt0) (trodAll_cons_mk (Below.trod Try.laidOut (by kernel_rfl) (of_decide_eq_true (by kernel_rfl)) k1 bel lt1) trodAll_mk0)), rfl, bel.frame _, fun h => by cases h⟩

theorem cacheOnce_holds : Rows.CacheOnceSaid :=
  OpenClaim.holds_of_wide 4 Try.f4 rfl rfl rfl rfl rfl rfl rfl ⟨rfl, rfl, rfl, rfl, rfl⟩ rfl rfl rfl rfl rfl (by kernel_rfl) Try.func4 (by kernel_rfl)
    (of_decide_eq_true (by kernel_rfl)) (by unfold Func.isWrapper; first | (rw [if_pos (by decide +kernel)]; kernel_rfl) | (rw [if_neg (by decide +kernel)]; exact ⟨rfl, rfl⟩))
    (fun os started H enc _ => once_lifted os started H enc)

#print axioms cacheOnce_holds
end Go.Proofs.Ytmagpdbnefbfkaa
