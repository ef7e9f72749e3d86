/- The document's cache: a copy. -/
import Derived.Test.YtmagpdbnefbfkaaW15
import Derived.Test.YtmagpdbnefbfkaaW13
namespace Go.Proofs.Ytmagpdbnefbfkaa
open Go Go.RowKit

def CopyRelR (w : World) (σ : St) (c bs cs : Nat) (i : Value) (wr : World) : Prop :=
  ∃ (k : Nat) (v : Value) (rs : List (Nat × Nat)), k ≤ σ.sets ∧ i = .int .i64 k ∧ rs.length = k ∧ Row wr c 60 4 [v, .slice (some ⟨bs, 0, none⟩) σ.sl.length cs, .int .i64 σ.delay, .int .u64 σ.seed] ∧
    wr.ownsRow w.heap.size 57 1 v k (rs.map fun r => .slice (some ⟨r.1, 0, none⟩) σ.ways r.2) ∧ Row wr bs 72 (cs * 4) (σ.sl.flatMap Sl.enc) ∧
    (∀ (j : Nat) r, rs[j]? = some r → r.2 ≤ maxLen ∧ Row wr r.1 72 (r.2 * 4) (((σ.row j).map Pl.toSl).flatMap Sl.enc)) ∧ (c :: bs :: rs.map (·.1)).Nodup ∧ (∀ g, v.ownBlock = some g → g ∉ (c :: bs :: rs.map (·.1))) ∧
    (∀ x ∈ (c :: bs :: rs.map (·.1)), w.heap.size ≤ x ∧ x < wr.heap.size) ∧ Chg [] w wr

theorem copyR_step {w wr W2 w3 : World} {σ : St} {k c bs cs g cap ρ κ : Nat} {v : Value} {rs : List (Nat × Nat)} (hks : k < σ.sets) (hrl : rs.length = k)
    (hT3 : Row w3 c 60 4 [v, .slice (some ⟨bs, 0, none⟩) σ.sl.length cs, .int .i64 σ.delay, .int .u64 σ.seed])
    (hB : Row wr bs 72 (cs * 4) (σ.sl.flatMap Sl.enc)) (hrs : ∀ (j : Nat) r, rs[j]? = some r → r.2 ≤ maxLen ∧ Row wr r.1 72 (r.2 * 4) (((σ.row j).map Pl.toSl).flatMap Sl.enc))
    (hnd : (c :: bs :: rs.map (·.1)).Nodup) (hob : ∀ g, v.ownBlock = some g → g ∉ (c :: bs :: rs.map (·.1))) (hol : ∀ g, v.ownBlock = some g → g < wr.heap.size) (hge : ∀ x ∈ (c :: bs :: rs.map (·.1)), w.heap.size ≤ x ∧ x < wr.heap.size) (hchg : Chg [] w wr)
    (hC2 : Chg [] wr W2) (hρ : wr.heap.size ≤ ρ) (hκ : κ ≤ maxLen) (hrow : Row W2 ρ 72 (κ * 4) (((σ.row k).map Pl.toSl).flatMap Sl.enc))
    (hown3 : w3.ownsRow w.heap.size 57 1 (.slice (some ⟨g, 0, none⟩) (k + 1) cap) (k + 1) ((rs.map fun r => .slice (some ⟨r.1, 0, none⟩) σ.ways r.2) ++ [.slice (some ⟨ρ, 0, none⟩) σ.ways κ]))
    (hC3 : Chg v.ownBlock.toList W2 w3) (hat : v.ownBlock = some g ∨ g = W2.heap.size) (hvb : ∀ g, v.ownBlock = some g → w.heap.size ≤ g) :
    CopyRelR w σ c bs cs (.int .i64 ((k : Int) + 1)) (w3.setCell ⟨c, 0, none⟩ (.slice (some ⟨g, 0, none⟩) (k + 1) cap)) := by
  have hs3 := hC3.size
  have hs2 := hC2.size
  have hw := hchg.size
  have hρl := hrow.lt
  have hcx := hge c (by simp)
  have hbx := hge bs (by simp)
  have hkeep : ∀ x, x < wr.heap.size → x ≠ c → x ∉ v.ownBlock.toList → ∀ {e : TypeId} {N : Nat} {xs : List Value}, Row wr x e N xs → Row (w3.setCell ⟨c, 0, none⟩ (.slice (some ⟨g, 0, none⟩) (k + 1) cap)) x e N xs := by
    intro x hx hxc hxo e N xs hr
    exact ((hr.chg hC2 (by simp)).chg hC3 hxo).other (Ne.symm hxc) _
  have hown : ∀ x ∈ (c :: bs :: rs.map (·.1)), x ∉ v.ownBlock.toList := fun x hx hm => hob x (by simpa using hm) hx
  simp only [List.nodup_cons] at hnd
  have hgc : g ≠ c := by
    rcases hat with h | h
    · exact fun e => hob g h (by simp [e])
    · omega
  refine ⟨k + 1, .slice (some ⟨g, 0, none⟩) (k + 1) cap, rs ++ [(ρ, κ)], by omega, by simp, by simp [hrl], hT3.set 0 _, ?_, ?_, ?_, ?_, ?_, ?_, ?_⟩
  · rw [List.map_append]
    exact owns_apart hown3 ((Chg.refl [c] w3).setCell (.inl (by simp)) _) (fun y hy => by cases hy; simpa using hgc)
  · exact hkeep bs hbx.2 (fun e => hnd.1 (by simp [e])) (hown bs (by simp)) hB
  · intro j r hr
    by_cases hj : j < rs.length
    · rw [List.getElem?_append_left hj] at hr
      obtain ⟨a1, a2⟩ := hrs j r hr
      have hm : r.1 ∈ rs.map (·.1) := List.mem_map.2 ⟨r, List.mem_of_getElem? hr, rfl⟩
      exact ⟨a1, hkeep r.1 (hge r.1 (by simp only [List.mem_cons]; exact .inr (.inr hm))).2 (fun e => hnd.1 (by rw [← e]; simp only [List.mem_cons]; exact .inr hm)) (hown r.1 (by simp only [List.mem_cons]; exact .inr (.inr hm))) a2⟩
    · have hjl : j = k := by
        have := (List.getElem?_eq_some_iff.1 hr).1
        simp at this
        omega
      rw [hjl, ← hrl] at hr
      simp at hr
      subst hr
      rw [hjl]
      refine ⟨hκ, (hrow.chg hC3 ?_).other ?_ _⟩
      · intro hm
        have := hol ρ (by simpa using hm)
        omega
      · show c ≠ ρ
        omega
  · rw [List.map_append]
    have hfresh : ∀ x ∈ (c :: bs :: rs.map (·.1)), x ≠ ρ := fun x hx => by have := hge x hx; omega
    simp only [List.nodup_cons, List.mem_cons, List.mem_append, List.map_cons, List.map_nil, List.not_mem_nil, or_false, not_or, List.nodup_append] at hnd ⊢
    refine ⟨⟨hnd.1.1, hnd.1.2, hfresh c (by simp)⟩, ⟨hnd.2.1, hfresh bs (by simp)⟩, hnd.2.2, by simp, ?_⟩
    rintro x hx y rfl
    exact hfresh x (by simp only [List.mem_cons]; exact .inr (.inr hx))
  · intro g' hg'
    have : g' = g := by cases hg'; rfl
    subst this
    rw [List.map_append]
    have hgf : g' ≠ ρ := by
      rcases hat with h | h
      · have := hol g' h; omega
      · omega
    have hgo : g' ∉ (c :: bs :: rs.map (·.1)) := by
      rcases hat with h | h
      · exact hob g' h
      · intro hm; have := hge g' hm; omega
    simp only [List.mem_cons, List.mem_append, List.map_cons, List.map_nil, List.not_mem_nil, or_false, not_or] at hgo ⊢
    exact ⟨hgo.1, hgo.2.1, hgo.2.2, hgf⟩
  · intro x hx
    rw [List.map_append] at hx
    have hz : (w3.setCell ⟨c, 0, none⟩ (.slice (some ⟨g, 0, none⟩) (k + 1) cap)).heap.size = w3.heap.size := by simp [World.setCell]
    simp only [List.mem_cons, List.mem_append, List.map_cons, List.map_nil, List.not_mem_nil, or_false] at hx
    rw [hz]
    rcases hx with rfl | rfl | hx | rfl
    · omega
    · omega
    · have := hge x (by simp only [List.mem_cons]; exact .inr (.inr hx)); omega
    · omega
  · refine ((hchg.trans hC2 (by simp)).trans hC3 ?_).setCell (.inr hcx.1) _
    intro x hx
    exact .inr (hvb x (by simpa using hx))

theorem copyR_end {w wr : World} {σ : St} {c bs cs : Nat} {v : Value} {rs : List (Nat × Nat)} (h1 : 1 ≤ σ.sets) (hcs : cs ≤ maxLen) (hrl : rs.length = σ.sets)
    (hT : Row wr c 60 4 [v, .slice (some ⟨bs, 0, none⟩) σ.sl.length cs, .int .i64 σ.delay, .int .u64 σ.seed])
    (hown : wr.ownsRow w.heap.size 57 1 v σ.sets (rs.map fun r => .slice (some ⟨r.1, 0, none⟩) σ.ways r.2)) (hB : Row wr bs 72 (cs * 4) (σ.sl.flatMap Sl.enc))
    (hrs : ∀ (j : Nat) r, rs[j]? = some r → r.2 ≤ maxLen ∧ Row wr r.1 72 (r.2 * 4) (((σ.row j).map Pl.toSl).flatMap Sl.enc)) (hnd : (c :: bs :: rs.map (·.1)).Nodup) (hob : ∀ g, v.ownBlock = some g → g ∉ (c :: bs :: rs.map (·.1)))
    (hge : ∀ x ∈ (c :: bs :: rs.map (·.1)), w.heap.size ≤ x ∧ x < wr.heap.size) (hchg : Chg [] w wr) :
    NewPostR w σ (.returned (.pointer (some ⟨c, 0, none⟩))) wr := by
  have h0 := hown
  rcases hown.2 with ⟨_, hz⟩ | ⟨g, cap, cur, rfl, hb, _⟩
  · omega
  · obtain ⟨r1, r2, r3, r4, r5⟩ := Row.of_owns h0
    have hg := hob g rfl
    simp only [List.nodup_cons, List.mem_cons, not_or] at hnd hg
    refine ⟨c, g, bs, rs, rfl, ⟨⟨cap, cs, hT, ?_, hB, r4, hcs⟩, hrl, ?_, ?_⟩, ?_, hchg⟩
    · rw [Nat.mul_one] at r1; exact r1
    · intro i r hr
      obtain ⟨a1, a2⟩ := hrs i r hr
      exact ⟨a2, a1⟩
    · simp only [List.nodup_cons, List.mem_cons, not_or]
      exact ⟨⟨Ne.symm hg.1, hnd.1.1, hnd.1.2⟩, ⟨hg.2.1, hg.2.2⟩, hnd.2.1, hnd.2.2⟩
    · intro x hx
      simp only [blocksR, List.mem_cons] at hx
      rcases hx with rfl | rfl | rfl | hx
      · exact (hge _ (by simp)).1
      · exact r5
      · exact (hge _ (by simp)).1
      · exact (hge x (by simp only [List.mem_cons]; exact .inr (.inr hx))).1

set_option maxRecDepth 100000 in
set_option maxHeartbeats 4000000 in
theorem copyR {w : World} {b bo bs : Nat} {rs : List (Nat × Nat)} {σ : St} (h : RepR w b bo bs rs σ) (hw : WP σ) (hs1 : 1 ≤ σ.sl.length) (hs2 : σ.sl.length ≤ 8) : Calls Try.prog 21 #[.pointer (some ⟨b, 0, none⟩)] w (NewPostR w σ) := by
  have hlt := h.lt
  obtain ⟨co, cs, t1, t2, t3, hco, hcs⟩ := h.top
  have c1 := t1.cell (j := 1) rfl
  have c2 := t1.cell (j := 2) rfl
  have c3 := t1.cell (j := 3) rfl
  obtain ⟨i0, hi0, hz0, hz1, hz2⟩ := info_parts Try.info72
  have hfl := flat_length Sl.enc 4 Sl.enc_len σ.sl
  have hbx : b ∉ (Value.slice (some ⟨w.heap.size, 0, none⟩) 0 0).ownBlock.toList := by
    intro hm
    have hm' : b ∈ (some w.heap.size).toList := hm
    have := t1.lt
    simp at hm'; omega
  go_enter Try.func21, Try.ntmps21
  go_wp2_with fail
  go_region_held3 (fun w' => w'.cell? ⟨b, 1, none⟩ = some (.slice (some ⟨bs, 0, none⟩) σ.sl.length cs) ∧ w'.cell? ⟨b, 2, none⟩ = some (.int .i64 σ.delay) ∧ w'.cell? ⟨b, 3, none⟩ = some (.int .u64 σ.seed))
    (first | go_keep | exact ⟨y1, y2, y3⟩)
    (((refine step_append_lies _ (by rfl) _ _ _ (by rfl) w.heap.size 72 i0 (.agg #[.int .u64 0, .bool false, .bool false, .int .i64 0]) 4 24 Try.underlying57 hi0 hz0 hz1 hz2 rfl (by decide) _ 0 [] (by rfl) (World.ownsRow_made w.drew #[] 0 (Nat.le_refl _) (by unfold maxLen; omega) rfl) ⟨bs, 0, none⟩ σ.sl.length cs (σ.sl.flatMap Sl.enc) (by rfl) hfl (row_part (t3.drew.alloc _)) one_sl (by omega) (by unfold maxLen; omega) (by omega) (by simp) _ rfl ?_); intro g1 cap1 w1 hown1 hgrow1 hat1 hlt1; have hC1 := Chg.of_row hgrow1; have y1 := ((t1.drew.alloc _).chg hC1 hbx).cell (j := 1) rfl; have y2 := ((t1.drew.alloc _).chg hC1 hbx).cell (j := 2) rfl; have y3 := ((t1.drew.alloc _).chg hC1 hbx).cell (j := 3) rfl))
  have hCd : Chg [] w w1 := ((Chg.refl [] w).drew.alloc (.cells #[] 72)).trans hC1 (by
    intro x hx
    have hx' : x ∈ (some w.heap.size).toList := hx
    simp at hx'
    right; omega)
  rw [Nat.zero_add, List.nil_append] at hown1
  obtain ⟨hS1, _, _, hcap1, hg1⟩ := Row.of_owns hown1
  go_upto_region 2 with fail
  refine wp_name fun W hW => ?_
  have hT : Row W w1.heap.size 60 4 [.slice none 0 0, .slice (some ⟨g1, 0, none⟩) σ.sl.length cap1, .int .i64 σ.delay, .int .u64 σ.seed] := by rw [hW]; exact Row.new _ _ _
  have hCW : Chg [] w W := by rw [hW]; exact hCd.alloc _
  have hSW : Row W g1 72 (cap1 * 4) (σ.sl.flatMap Sl.enc) := by rw [hW]; exact hS1.alloc _
  have hW1 : W.heap.size = w1.heap.size + 1 := by rw [hW]; simp
  have hw1 := hCd.size
  clear hW c1 c2 c3 y1 y2 y3 hown1 hC1 hS1
  go_wp2
  go_loopw [4] (fun i wr => CopyRelR w σ w1.heap.size g1 cap1 i wr) (fun i _ => σ.sets - (intOf i).toNat)
  case atStart =>
    refine ⟨0, .slice none 0 0, [], Nat.zero_le _, rfl, rfl, hT, World.ownsRow_nil _ _ _ _, hSW, by simp, by simp; omega, ?_, ?_, hCW⟩
    · intro g hg; cases hg
    · intro x hx; simp at hx; omega
  case round =>
    obtain ⟨k, v, qs, hk, rfl, hrl, hT', hown, hB, hrs, hnd, hob, hge, hchg⟩ := hrel
    have hR := h.chg hchg (by simp)
    obtain ⟨co', cs', u1, u2, u3, _, _⟩ := hR.top
    have c0 := u1.cell (j := 0) rfl
    by_cases hks : k < σ.sets
    · obtain ⟨r, hr⟩ : ∃ r, rs[k]? = some r := ⟨_, List.getElem?_eq_getElem (by rw [h.len]; exact hks)⟩
      obtain ⟨hrow, _⟩ := hR.rows k r hr
      have ck := u2.cell (j := k) (v := .slice (some ⟨r.1, 0, none⟩) σ.ways r.2) (by simp [hr])
      obtain ⟨j0, hj0, jz0, jz1, jz2⟩ := info_parts Try.info57
      have d0 := hT'.cell (j := 0) rfl
      have hl2 : (((σ.row k).map Pl.toSl)).length = σ.ways := by
        have : (σ.row k).length = σ.ways := by
          unfold St.row
          rw [List.length_take, List.length_drop, hw.len]
          have : k * σ.ways + σ.ways ≤ σ.sets * σ.ways := by rw [← Nat.succ_mul]; exact Nat.mul_le_mul_right _ hks
          omega
        rw [List.length_map, this]
      have hfl2 := flat_length Sl.enc 4 Sl.enc_len ((σ.row k).map Pl.toSl)
      rw [hl2] at hfl2
      have hcsz := hchg.size
      have hrl' := hrow.lt
      have hblt := u1.lt
      have hbolt := u2.lt
      have hb0 := hlt b (by simp [blocksR])
      have hbo0 := hlt bo (by simp [blocksR])
      have hw8 := hw.ways2
      have hw1' := hw.ways1
      have hsets := hw.sets2
      have hcb : w1.heap.size ≠ b := by omega
      have hcbo : w1.heap.size ≠ bo := by omega
      have hobx : ∀ x, x < w.heap.size → x ∉ v.ownBlock.toList := fun x hx hm => by have := (hown.lt x (by simpa using hm)).1; omega
      have hobc : w1.heap.size ∉ v.ownBlock.toList := fun hm => hob w1.heap.size (by simpa using hm) (by simp)
      have hnx : ∀ x, x < wr.heap.size → x ∉ (Value.slice (some ⟨wr.heap.size, 0, none⟩) 0 0).ownBlock.toList := by
        intro x hx hm
        have hm' : x ∈ (some wr.heap.size).toList := hm
        simp at hm'; omega
      have hcl := (hge w1.heap.size (by simp)).2
      have dA := (hT'.drew.alloc (.cells #[] 72)).cell (j := 0) rfl
      go_wp2_with fail
      have dB := (u1.drew.alloc (.cells #[] 72)).cell (j := 0) rfl
      have dBo := (u2.drew.alloc (.cells #[] 72)).cell (j := k) (v := .slice (some ⟨r.1, 0, none⟩) σ.ways r.2) (by simp [hr])
      go_region_law
        (first
          | ((refine step_append_lies _ (by rfl) _ _ 57 (by rfl) wr.heap.size 72 i0 (.agg #[.int .u64 0, .bool false, .bool false, .int .i64 0]) 4 24 Try.underlying57 hi0 hz0 hz1 hz2 rfl (by decide) _ 0 [] (by rfl) (World.ownsRow_made wr.drew #[] 0 (Nat.le_refl _) (by unfold maxLen; omega) rfl) ⟨r.1, 0, none⟩ σ.ways r.2 (((σ.row k).map Pl.toSl).flatMap Sl.enc) (by rfl) hfl2 (row_part (hrow.drew.alloc _)) one_sl (by omega) (by unfold maxLen; omega) (by omega) (by simp) (wr.heap.size + 1) (by simp) ?_); intro g2 cap2 w2 hown2 hgrow2 hat2 hlt2; have hC2 := Chg.of_row hgrow2; have v1 := (u1.drew.alloc (.cells #[] 72)).chg hC2 (hnx b hblt); have v2 := (u2.drew.alloc (.cells #[] 72)).chg hC2 (hnx bo hbolt); have y1 := v1.cell (j := 0) rfl; have y2 := v2.cell (j := k) (v := .slice (some ⟨r.1, 0, none⟩) σ.ways r.2) (by simp [hr]); have T2 := (hT'.drew.alloc (.cells #[] 72)).chg hC2 (hnx _ hcl); have d2 := T2.cell (j := 0) rfl; have d2b := (T2.alloc (.cells #[.slice (some ⟨g2, 0, none⟩) σ.ways cap2] 57)).cell (j := 0) rfl; have own2 := owns_apart (hown.drew.alloc (.cells #[] 72)) hC2 (fun y hy => hnx y (hown.lt y hy).2))
          | ((refine step_append_lies _ (by rfl) _ _ 58 (by rfl) w.heap.size 57 j0 (.slice none 0 0) 1 24 Try.underlying58 hj0 jz0 jz1 jz2 rfl (by decide) v k _ (by rfl) (own2.alloc (.cells #[.slice (some ⟨g2, 0, none⟩) σ.ways cap2] 57)) ⟨w2.heap.size, 0, none⟩ 1 1 [.slice (some ⟨g2, 0, none⟩) σ.ways cap2] (by rfl) (by rfl) (news_new _ _ _) (fun u hu => by simp at hu; subst hu; rfl) (by omega) (by unfold maxLen; omega) (by omega) (by have := hC2.size; simp at this ⊢; omega) _ rfl ?_); intro g3 cap3 w3 hown3 hgrow3 hat3 hlt3; have hC3 := Chg.of_row hgrow3; have zv1 := (v1.alloc (.cells #[.slice (some ⟨g2, 0, none⟩) σ.ways cap2] 57)).chg hC3 (hobx b hb0); have zv2 := (v2.alloc (.cells #[.slice (some ⟨g2, 0, none⟩) σ.ways cap2] 57)).chg hC3 (hobx bo hbo0); have z1 := zv1.cell (j := 0) rfl; have z2 := zv2.cell (j := k) (v := .slice (some ⟨r.1, 0, none⟩) σ.ways r.2) (by simp [hr]); have T3 := (T2.alloc (.cells #[.slice (some ⟨g2, 0, none⟩) σ.ways cap2] 57)).chg hC3 hobc; have d3 := T3.cell (j := 0) rfl; have f3 := T3.frozen))
      all_goals
        have HR : Hid (CopyRelR w σ w1.heap.size g1 cap1 (.int .i64 ((k : Int) + 1)) (w3.setCell ⟨w1.heap.size, 0, none⟩ (.slice (some ⟨g3, 0, none⟩) (k + 1) cap3))) := by
          rw [Nat.zero_add, List.nil_append] at hown2
          obtain ⟨q1, _, _, q4, q5⟩ := Row.of_owns hown2
          have hCw : Chg [] wr (w2.alloc (.cells #[.slice (some ⟨g2, 0, none⟩) σ.ways cap2] 57)) := (((Chg.refl [] wr).drew.alloc (.cells #[] 72)).trans hC2 (by
            intro x hx
            have hx' : x ∈ (some wr.heap.size).toList := hx
            simp at hx'
            right; omega)).alloc _
          exact copyR_step (W2 := w2.alloc (.cells #[.slice (some ⟨g2, 0, none⟩) σ.ways cap2] 57)) hks hrl T3 hB hrs hnd hob (fun y hy => (hown.lt y hy).2) hge hchg hCw q5 q4 (q1.alloc _) hown3 hC3 hat3 (fun y hy => (hown.lt y hy).1)
        clear hT' hown hB hrs hnd hob hge u1 u2 u3 hR c0 ck d0 dA v1 v2 y1 y2 T2 d2 d2b own2 zv1 zv2 z1 z2 T3 d3 f3 hown2 hown3 hgrow2 hgrow3 hC2 hC3
        go_wp2
        go_roundw
        case rel => exact HR.out
        case measure => simp [intOf]; omega
    · obtain rfl : k = σ.sets := by omega
      have HR : Hid (NewPostR w σ (.returned (.pointer (some ⟨w1.heap.size, 0, none⟩))) wr) := copyR_end hw.sets1 hcap1 hrl hT' hown hB hrs hnd hob hge hchg
      clear hT' hown hB hrs hnd hob hge u1 u2 u3 hR
      go_wp2
      go_ret
      exact HR.out

end Go.Proofs.Ytmagpdbnefbfkaa
