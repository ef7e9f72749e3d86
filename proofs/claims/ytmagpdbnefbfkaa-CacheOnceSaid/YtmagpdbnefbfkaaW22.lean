/- The law CacheDoes, walked: good numbers. -/
import Derived.Test.YtmagpdbnefbfkaaW21
namespace Go.Proofs.Ytmagpdbnefbfkaa
open Go Go.RowKit

theorem StepRow.chg {w w' : World} {a : Option Addr} {n : Nat} {ks ats : Nat → Int} {ws : Nat → Bool} (h : StepRow w a n ks ats ws) (hc : Chg [] w w') : StepRow w' a n ks ats ws :=
  ⟨fun j hj => by
    obtain ⟨g, o, e, c0, c1, c2⟩ := h.cells j hj
    exact ⟨g, o, e, hc.keep c0 (by simp), hc.keep c1 (by simp), hc.keep c2 (by simp)⟩, h.ok⟩

theorem Row.storeDn {w : World} {g N : Nat} {e : TypeId} {l : List Dn} (h : Row w g e N (l.flatMap Dn.enc)) {k : Nat} {p q : Dn} (hp : l[k]? = some p) :
    Row (((w.setCell ⟨g, k * 3, none⟩ (.int .u64 q.at_)).setCell ⟨g, k * 3 + 1, none⟩ (.int .u64 q.out)).setCell ⟨g, k * 3 + 2, none⟩ (.bool q.wr)) g e N ((l.set k q).flatMap Dn.enc) := by
  have h1 := ((h.set (k * 3 + 0) (.int .u64 q.at_)).set (k * 3 + 1) (.int .u64 q.out)).set (k * 3 + 2) (.bool q.wr)
  have hlt := (List.getElem?_eq_some_iff.1 hp).1
  rw [flat_set Dn.enc 3 Dn.enc_len l k 0 p ⟨q.at_, p.out, p.wr⟩ _ hp (by omega) rfl] at h1
  rw [flat_set Dn.enc 3 Dn.enc_len _ k 1 ⟨q.at_, p.out, p.wr⟩ ⟨q.at_, q.out, p.wr⟩ _ (by simp [hlt]) (by omega) rfl] at h1
  rw [flat_set Dn.enc 3 Dn.enc_len _ k 2 ⟨q.at_, q.out, p.wr⟩ q _ (by simp [hlt]) (by omega) rfl] at h1
  simpa using h1

theorem both_new {w w1 w2 w3 : World} {σ : St} {c r : Value} (hC : Chg [] w w1) (hσ : WF σ) (hP : NewPost w1 σ (.returned c) w2) (hR : NewPostR w2 σ (.returned r) w3) : Both w c r σ w3 := by
  obtain ⟨b, ba, bm, bs, e1, hp, hg, hC2⟩ := hP
  obtain ⟨b', bo', bs', rs', e2, hr, hg', hC3⟩ := hR
  cases e1; cases e2
  have z := hC.size
  have z2 := hC2.size
  have hl := hp.lt
  refine ⟨b, ba, bm, bs, b', bo', bs', rs', rfl, rfl, hσ, hp.chg hC3 (by simp), hr, ?_, ?_, (hC.trans hC2 (by simp)).trans hC3 (by simp)⟩
  · intro x hx
    refine ⟨by have := hg x hx; omega, fun hm => ?_⟩
    have := hl x hx
    have := hg' x hm
    omega
  · intro x hx; have := hg' x hx; omega

set_option maxRecDepth 100000 in
set_option maxHeartbeats 8000000 in
theorem does_good (sets ways slots delay seed : Int) (a : Option Addr) (n c : Nat) (ks ats : Nat → Int) (ws : Nat → Bool) (w : World) (h : fits sets ways slots delay) (hst : StepRow w a n ks ats ws) (hn : n < 4611686018427387904) :
    Calls Try.prog 3 #[.agg #[.int .i64 sets, .int .i64 ways, .int .i64 slots, .int .i64 delay, .int .u64 seed], .slice a n c] w fun e w' => e = .returned (.bool true) ∧ Chg [] w w' := by
  go_enter Try.func3, Try.ntmps3
  go_wp2_with fail
  refine (fixed_any _).mono ?_
  rintro e w1 ⟨rfl, hC1⟩
  have hb := Row.new w #[.int .i64 sets, .int .i64 ways, .int .i64 slots, .int .i64 delay, .int .u64 seed] 24
  have hb1 := hb.chg hC1 (by simp)
  have c0 := hb1.cell (j := 0) rfl
  have c1 := hb1.cell (j := 1) rfl
  have c2 := hb1.cell (j := 2) rfl
  have c3 := hb1.cell (j := 3) rfl
  have c4 := hb1.cell (j := 4) rfl
  have hCw : Chg [] w w1 := ((Chg.refl _ _).alloc _).tr hC1
  have HH := Lib.hid h
  clear h
  go_wp2_with fail
  refine (goodP sets ways slots delay seed _ HH.out).mono ?_
  intro e w2 hP
  have hP0 := hP
  obtain ⟨b, ba, bm, bs, rfl, hp, hg, hC2⟩ := hP0
  have hb2 := hb1.chg hC2 (by simp)
  have c0 := hb2.cell (j := 0) rfl
  have c1 := hb2.cell (j := 1) rfl
  have c2 := hb2.cell (j := 2) rfl
  have c3 := hb2.cell (j := 3) rfl
  have c4 := hb2.cell (j := 4) rfl
  go_wp2_with fail
  refine (goodR sets ways slots delay seed _ HH.out).mono ?_
  intro e w3 hR
  have hR0 := hR
  obtain ⟨b', bo', bs', rs', rfl, hr, hg', hC3⟩ := hR0
  have HB : Hid (Both w (.pointer (some ⟨b, 0, none⟩)) (.pointer (some ⟨b', 0, none⟩)) (St.new sets.toNat ways.toNat slots.toNat delay.toNat seed) w3) := both_new hCw (good_wf HH.out) hP hR
  have HS := Lib.hid hst
  clear hb hb1 hb2 c0 c1 c2 c3 c4 hP hR hp hg hC2 hr hg' hC3 hC1 hCw hst HH
  go_wp2
  go_loopw [5, 6, 7] (fun c r i wr => DoesRel w n c r i wr) (fun _ _ i _ => n - (intOf i).toNat)
  case atStart => exact ⟨0, _, Nat.zero_le _, rfl, HB.out⟩
  case round =>
    obtain ⟨k, σ, hk, rfl, hBoth⟩ := hrel
    have HBo := Lib.hid hBoth
    obtain ⟨b, ba, bm, bs, b', bo', bs', rs', rfl, rfl, hσ, hp, hr, hap, hgr, hC⟩ := hBoth
    by_cases hkn : k < n
    · obtain ⟨g, o, rfl, q0, q1, q2⟩ := (HS.out.chg hC).cells k hkn
      have hok := HS.out.ok k hkn
      generalize ats k = at_ at q1 hok
      generalize ws k = wri at q2
      generalize ks k = kind at q0
      have W1 := Row.new wr #[.int .i64 kind, .int .u64 at_, .bool wri] 32
      have hpA := hp.chg (S := []) ((Chg.refl _ wr).alloc (.cells #[.int .i64 kind, .int .u64 at_, .bool wri] 32)) (by simp)
      have hrA := hr.chg (S := []) ((Chg.refl _ wr).alloc (.cells #[.int .i64 kind, .int .u64 at_, .bool wri] 32)) (by simp)
      have hCA : Chg [] w (wr.alloc (.cells #[.int .i64 kind, .int .u64 at_, .bool wri] 32)) := hC.alloc _
      have hws := hC.size
      have hpl := hp.lt
      have hrl := hr.lt
      by_cases h0 : kind = 0
      · subst h0
        go_wp2_with fail
        refine (ask_any hpA hσ hok wri).mono ?_
        rintro e w4 ⟨rfl, p4, c4⟩
        have X1 := (W1.chg c4 (fun hm => by have := hpl _ hm; omega)).cell (j := 1) rfl
        have X2 := (W1.chg c4 (fun hm => by have := hpl _ hm; omega)).cell (j := 2) rfl
        go_wp2_with fail
        refine (askR (hrA.chg c4 (fun x hx hm => (hap x hm).2 hx)) hσ hok wri).mono ?_
        rintro e w5 ⟨rfl, r5, c5⟩
        have HR : Hid (DoesRel w n (.pointer (some ⟨b, 0, none⟩)) (.pointer (some ⟨b', 0, none⟩)) (.int .i64 ((k : Int) + 1)) w5) :=
          ⟨k + 1, _, by omega, by go_num, b, ba, bm, bs, b', bo', bs', rs', rfl, rfl, hσ.ask hok wri, p4.chg c5 (fun x hx => (hap x hx).2), r5, hap, hgr, (hCA.trans c4 (fun x hx => .inr (hap x hx).1)).trans c5 (fun x hx => .inr (hgr x hx))⟩
        clear p4 c4 r5 c5 hpA hrA hCA W1 hp hr HBo
        go_wp2
        go_roundw
        case rel => exact HR.out
        case measure => simp [intOf]; omega
      · by_cases h2 : kind = 2
        · subst h2
          go_wp2_with fail
          refine (has_any hpA hσ.toWP hok).mono ?_
          rintro e w4 ⟨rfl, c4⟩
          have X1 := (W1.chg c4 (by simp)).cell (j := 1) rfl
          go_wp2_with fail
          refine (hasR (hrA.chg c4 (by simp)) hσ.toWP hok (p1 := (σ.hasLine at_).1) (p2 := (σ.hasLine at_).2) (by unfold St.hasLine; split <;> simp [*]) (by unfold St.hasLine; split <;> simp [*])).mono ?_
          rintro e w5 ⟨rfl, q5, rfl⟩
          have p5 := (hpA.chg c4 (by simp)).chg (S := []) ((Chg.refl _ w4).drewN q5) (by simp)
          have r5 := ((hrA.chg c4 (by simp)).drewN q5)
          generalize (σ.hasLine at_).1 = y1
          generalize (σ.hasLine at_).2 = y2
          go_wp2_with fail
          refine (under_any p5 hσ).mono ?_
          rintro e w6 ⟨rfl, c6⟩
          go_wp2_with fail
          refine (underR (r5.chg c6 (by simp)) hσ).mono ?_
          rintro e w7 ⟨rfl, rfl⟩
          have HR : Hid (DoesRel w n (.pointer (some ⟨b, 0, none⟩)) (.pointer (some ⟨b', 0, none⟩)) (.int .i64 ((k : Int) + 1)) w6) :=
            ⟨k + 1, σ, by omega, by go_num, b, ba, bm, bs, b', bo', bs', rs', rfl, rfl, hσ, p5.chg c6 (by simp), r5.chg c6 (by simp), hap, hgr, ((hCA.tr c4).drewN q5).tr c6⟩
          clear p5 c4 r5 c6 hpA hrA hCA W1 hp hr HBo
          go_wp2
          go_roundw
          case rel => exact HR.out
          case measure => simp [intOf]; omega
        · by_cases h3 : kind = 3
          · subst h3
            go_wp2_with fail
            refine (flush_any hpA hσ.toWP hσ.sl1).mono ?_
            rintro e w4 ⟨x4, rfl, o4, p4, c4⟩
            go_wp2_with fail
            refine (flushR (hrA.chg c4 (fun x hx hm => (hap x hm).2 hx)) hσ.toWP hσ.sl1 hσ.sl2).mono ?_
            rintro e w5 ⟨g5, k5, bs5, rfl, hg5, q5, r5, hbs5, hne5, c5⟩
            rw [outTo_all] at q5 ⊢
            have hgrl : ∀ x ∈ blocksR b' bo' bs' rs', x < wr.heap.size := hrl
            have z4 := c4.size
            have hA1 : (wr.alloc (Obj.cells #[.int .i64 3, .int .u64 at_, .bool wri] 32)).heap.size = wr.heap.size + 1 := by simp
            have p5 := p4.chg c5 (fun x hx => (hap x hx).2)
            have hC5 := (hCA.trans c4 (fun x hx => .inr (hap x hx).1)).trans c5 (fun x hx => .inr (hgr x hx))
            have HR : ∀ q, Hid (DoesRel w n (.pointer (some ⟨b, 0, none⟩)) (.pointer (some ⟨b', 0, none⟩)) (.int .i64 ((k : Int) + 1)) (w5.drewN q)) := fun q =>
              ⟨k + 1, σ.clear, by omega, by go_num, b, ba, bm, bs, b', bo', bs5, rs', rfl, rfl, hσ.cleared, p5.chg (S := []) ((Chg.refl _ w5).drewN q) (by simp), r5.drewN q, fun x hx => ⟨(hap x hx).1, fun hm => by
                have h1 := (hap x hx).2
                have h2 := hpl x hx
                simp only [blocksR, List.mem_cons] at hm h1
                rcases hm with e | e | e | e
                · exact h1 (.inl e)
                · exact h1 (.inr (.inl e))
                · omega
                · exact h1 (.inr (.inr (.inr e)))⟩, fun x hx => by
                simp only [blocksR, List.mem_cons] at hx
                rcases hx with e | e | e | e
                · exact hgr x (by simp [blocksR, e])
                · exact hgr x (by simp [blocksR, e])
                · omega
                · exact hgr x (by simp only [blocksR, List.mem_cons]; exact .inr (.inr (.inr e))), hC5.drewN q⟩
            have hsl : (sorted σ.dirty).length = σ.dirty.length := sorted_length _
            have hdl : σ.dirty.length ≤ 512 := by
              have := dirtyTo_len σ σ.pl.length
              rw [dirtyTo_all] at this
              have := hσ.toWP.len2
              omega
            have o5 := owns_chg o4 c5 (fun x hx => by have := hgrl x hx; rw [hA1]; omega)
            have HO := Lib.hid o5
            have HQ := Lib.hid q5
            generalize hN : σ.dirty.length = N at hsl hdl
            rw [hsl]
            clear p4 c4 r5 c5 hpA hrA hCA W1 hp hr HBo o4 o5 q5 p5 hC5
            by_cases hN0 : N = 0
            · subst hN0
              have hz : x4 = .slice none 0 0 ∨ ∃ p c, x4 = .slice p 0 c := by
                have := HO.out
                rw [hN] at this
                exact .inr (owns_none this)
              obtain ⟨p, cc, rfl⟩ : ∃ p c, x4 = .slice p 0 c := by
                rcases hz with h | h
                · exact ⟨none, 0, h⟩
                · exact h
              go_wp2_with fail
              refine (sameList_nil p cc g5 k5 w5).mono ?_
              rintro e w6 ⟨rfl, rfl⟩
              have HR0 := HR 0
              clear HR hN HO HQ hz
              go_wp2
              go_roundw
              case rel => exact HR0.out
              case measure => simp [intOf]; omega
            · obtain ⟨g4, k4, rfl, _, q4⟩ : ∃ g c, x4 = .slice (some ⟨g, 0, none⟩) N c ∧ _ ∧ Row w5 g 22 (c * 1) (encs (sorted σ.dirty)) := by
                have := HO.out
                rw [hN] at this
                exact owns_more this (by omega)
              go_wp2_with fail
              refine (sameList_row q4 HQ.out hsl (by omega)).mono ?_
              rintro e w6 ⟨rfl, q6, rfl⟩
              have HR0 := HR q6
              clear HR hN HO HQ q4
              go_wp2
              go_roundw
              case rel => exact HR0.out
              case measure => simp [intOf]; omega
          · by_cases h1 : kind = 1
            · subst h1
              go_wp2_with fail
              refine (tick_any hpA hσ).mono ?_
              rintro e w4 ⟨x4, rfl, o4, p4, c4⟩
              go_wp2_with fail
              refine (tickR (hrA.chg c4 (fun x hx hm => (hap x hm).2 hx)) hσ).mono ?_
              rintro e w5 ⟨x5, rfl, o5, r5, c5⟩
              have z4 := c4.size
              have hA1 : (wr.alloc (Obj.cells #[.int .i64 1, .int .u64 at_, .bool wri] 32)).heap.size = wr.heap.size + 1 := by simp
              have p5 := p4.chg c5 (fun x hx => (hap x hx).2)
              have hC5 := (hCA.trans c4 (fun x hx => .inr (hap x hx).1)).trans c5 (fun x hx => .inr (hgr x hx))
              have o4' := owns_chg o4 c5 (fun x hx => by have := hrl x hx; rw [hA1]; omega)
              have HR : ∀ g w', wr.heap.size ≤ g → Chg [g] w5 w' → Hid (DoesRel w n (.pointer (some ⟨b, 0, none⟩)) (.pointer (some ⟨b', 0, none⟩)) (.int .i64 ((k : Int) + 1)) w') := fun g w' hg hc =>
                ⟨k + 1, _, by omega, by go_num, b, ba, bm, bs, b', bo', bs', rs', rfl, rfl, hσ.tick, p5.chg hc (fun x hx hm => by simp only [List.mem_singleton] at hm; have := hpl x hx; omega), r5.chg hc (fun x hx hm => by simp only [List.mem_singleton] at hm; have := hrl x hx; omega), hap, hgr, hC5.trans hc (fun x hx => by simp only [List.mem_singleton] at hx; right; omega)⟩
              have ht8 : σ.tick.2.length ≤ 8 := by
                have := (tickTo_keeps σ σ.sl.length).2.2.2.2.1
                have h8 := hσ.sl2
                unfold St.tick
                omega
              have HO := Lib.hid o4'
              have HQ := Lib.hid o5
              generalize hN : σ.tick.2.length = N at ht8
              clear p4 c4 r5 c5 hpA hrA hCA W1 hp hr HBo o4 o4' o5 p5 hC5
              by_cases hN0 : N = 0
              · subst hN0
                obtain ⟨p, cc, rfl⟩ : ∃ p c, x4 = .slice p 0 c := by
                  have := HO.out
                  rw [hN] at this
                  exact owns_none this
                obtain ⟨p', cc', rfl⟩ : ∃ p c, x5 = .slice p 0 c := by
                  have := HQ.out
                  rw [hN] at this
                  exact owns_none this
                go_wp2_with fail
                refine (sameDone_nil p p' cc cc' w5).mono ?_
                rintro e w6 ⟨rfl, rfl⟩
                have HR0 := HR wr.heap.size w6 (Nat.le_refl _) (Chg.refl _ _)
                clear HR hN HO HQ
                go_wp2
                refine wp_loop_rounds 1 ?_
                rw [rounds_succ]
                go_wp2
                go_roundw
                case rel => exact HR0.out
                case measure => simp [intOf]; omega
              · obtain ⟨g4, k4, rfl, hg4, q4⟩ : ∃ g c, x4 = .slice (some ⟨g, 0, none⟩) N c ∧ wr.heap.size + 1 ≤ g ∧ Row w5 g 40 (c * 3) (σ.tick.2.flatMap Dn.enc) := by
                  have := HO.out
                  rw [hN] at this
                  obtain ⟨g, c, e1, e2, e3⟩ := owns_more this (by omega)
                  exact ⟨g, c, e1, by rw [hA1] at e2; exact e2, e3⟩
                obtain ⟨g5, k5, rfl, hg5, q5⟩ : ∃ g c, x5 = .slice (some ⟨g, 0, none⟩) N c ∧ w4.heap.size ≤ g ∧ Row w5 g 75 (c * 3) (σ.tick.2.flatMap Dn.enc) := by
                  have := HQ.out
                  rw [hN] at this
                  exact owns_more this (by omega)
                go_wp2_with fail
                refine (sameDone_row q4 q5 hN (by omega)).mono ?_
                rintro e w6 ⟨rfl, q6, rfl⟩
                have HQ4 := Lib.hid q4
                have HN := Lib.hid hN
                clear hN HO HQ q4 q5
                go_wp2
                go_loopw [13] (fun i w' => ∃ (j : Nat) (ds : List Dn), j ≤ N ∧ i = .int .i64 j ∧ ds.length = N ∧ Row w' g4 40 (k4 * 3) (ds.flatMap Dn.enc) ∧ Chg [g4] w5 w') (fun i _ => N - (intOf i).toNat)
                case atStart => exact ⟨0, σ.tick.2, Nat.zero_le _, rfl, HN.out, HQ4.out.drewN q6, (Chg.refl _ _).drewN q6⟩
                case round =>
                  obtain ⟨j, ds, hj, rfl, hds, hrow, hcj⟩ := hrel
                  by_cases hjN : j < N
                  · obtain ⟨d, hd⟩ : ∃ d, ds[j]? = some d := ⟨_, List.getElem?_eq_getElem (by omega)⟩
                    obtain ⟨m0, m1, m2⟩ := hrow.dn hd
                    have mf := hrow.frozen
                    have hlt := (List.getElem?_eq_some_iff.1 hd).1
                    have HD := Lib.hid hd
                    have HW := Lib.hid hrow
                    clear hd hrow HR
                    go_wp2
                    go_roundw
                    case rel =>
                      exact ⟨j + 1, ds.set j ⟨5, 0, false⟩, by omega, by go_num, by simpa using hds, Row.storeDn (q := ⟨5, 0, false⟩) HW.out HD.out, (((hcj.setCell (.inl (by simp)) _).setCell (.inl (by simp)) _).setCell (.inl (by simp)) _)⟩
                    case measure => simp [intOf]; omega
                  · obtain rfl : j = N := by omega
                    have HR0 := HR g4 _ (by omega) hcj
                    clear HR hrow
                    go_wp2
                    go_roundw
                    case rel => exact HR0.out
                    case measure => simp [intOf]; omega
            · go_wp2_with fail
              refine (copy_any hpA hσ.toWP hσ.sl1 hσ.sl2).mono ?_
              rintro e w4 ⟨nb, nba, nbm, nbs, rfl, np4, ng4, c4⟩
              go_wp2_with fail
              refine (copyR (hrA.chg c4 (by simp)) hσ.toWP hσ.sl1 hσ.sl2).mono ?_
              rintro e w5 ⟨nb', nbo', nbs', nrs', rfl, nr5, ng5, c5⟩
              have X1 := ((W1.chg c4 (by simp)).chg c5 (by simp)).cell (j := 1) rfl
              go_wp2_with fail
              refine (ask_any ((hpA.chg c4 (by simp)).chg c5 (by simp)) hσ hok true).mono ?_
              rintro e w6 ⟨rfl, p6, c6⟩
              go_wp2_with fail
              refine (tick_any p6 (hσ.ask hok true)).mono ?_
              rintro e w7 ⟨x7, rfl, o7, p7, c7⟩
              go_wp2_with fail
              refine (flush_any p7 (hσ.ask hok true).tick.toWP (hσ.ask hok true).tick.sl1).mono ?_
              rintro e w8 ⟨x8, rfl, o8, p8, c8⟩
              have hA1 : (wr.alloc (Obj.cells #[.int .i64 kind, .int .u64 at_, .bool wri] 32)).heap.size = wr.heap.size + 1 := by simp
              have hA : ∀ x, wr.heap.size + 1 ≤ x → x ∉ [b, ba, bm, bs] := fun x hx hm => by have := hpl x hm; omega
              have z4 := c4.size
              have npl := np4.lt
              have np8 := (((np4.chg c5 (by simp)).chg c6 (fun x hx => hA x (by have := ng4 x hx; omega))).chg c7 (fun x hx => hA x (by have := ng4 x hx; omega))).chg c8 (fun x hx => hA x (by have := ng4 x hx; omega))
              have nr8 := ((nr5.chg c6 (fun x hx => hA x (by have := ng5 x hx; omega))).chg c7 (fun x hx => hA x (by have := ng5 x hx; omega))).chg c8 (fun x hx => hA x (by have := ng5 x hx; omega))
              have HR : Hid (DoesRel w n (.pointer (some ⟨nb, 0, none⟩)) (.pointer (some ⟨nb', 0, none⟩)) (.int .i64 ((k : Int) + 1)) w8) :=
                ⟨k + 1, σ, by omega, by go_num, nb, nba, nbm, nbs, nb', nbo', nbs', nrs', rfl, rfl, hσ, np8, nr8, fun x hx => ⟨by have := ng4 x hx; omega, fun hm => by have := ng5 x hm; have := npl x hx; omega⟩, fun x hx => by have := ng5 x hx; omega,
                  ((((hCA.tr c4).tr c5).trans c6 (fun x hx => .inr (hap x hx).1)).trans c7 (fun x hx => .inr (hap x hx).1)).trans c8 (fun x hx => .inr (hap x hx).1)⟩
              clear np4 ng4 c4 nr5 ng5 c5 p6 c6 o7 p7 c7 o8 p8 c8 np8 nr8 npl hpA hrA hCA W1 hp hr HBo hA
              go_wp2
              go_roundw
              case rel => exact HR.out
              case measure => simp [intOf]; omega
    · obtain rfl : k = n := by omega
      go_wp2_with fail
      refine (under_any hp hσ).mono ?_
      rintro e w4 ⟨rfl, c4⟩
      go_wp2_with fail
      refine (underR (hr.chg c4 (by simp)) hσ).mono ?_
      rintro e w5 ⟨rfl, rfl⟩
      go_wp2
      go_ret
      exact ⟨rfl, hC.tr c4⟩

end Go.Proofs.Ytmagpdbnefbfkaa
