/- The document's cache in memory: Has and Ask. -/
import Derived.Test.YtmagpdbnefbfkaaW8
import Derived.BigRegion
import Derived.Deep.DeepFit
namespace Go.Proofs.Ytmagpdbnefbfkaa
open Go Go.RowKit

def Pl.toSl (p : Pl) : Sl := ⟨p.line, p.is, p.wr, 0⟩

def topR (sets delay : Nat) (seed : Int) (bo co bs ns cs : Nat) : List Value :=
  [.slice (some ⟨bo, 0, none⟩) sets co, .slice (some ⟨bs, 0, none⟩) ns cs, .int .i64 delay, .int .u64 seed]

/-- The document's cache at block b: its sets at bo, its slots at bs, its rows rs. -/
structure RepR (w : World) (b bo bs : Nat) (rs : List (Nat × Nat)) (σ : St) : Prop where
  top : ∃ co cs : Nat, Row w b 60 4 (topR σ.sets σ.delay σ.seed bo co bs σ.sl.length cs) ∧ Row w bo 57 co (rs.map fun r => .slice (some ⟨r.1, 0, none⟩) σ.ways r.2) ∧
    Row w bs 72 (cs * 4) (σ.sl.flatMap Sl.enc) ∧ co ≤ maxLen ∧ cs ≤ maxLen
  len : rs.length = σ.sets
  rows : ∀ (i : Nat) r, rs[i]? = some r → Row w r.1 72 (r.2 * 4) (((σ.row i).map Pl.toSl).flatMap Sl.enc) ∧ r.2 ≤ maxLen
  apart : (b :: bo :: bs :: rs.map (·.1)).Nodup

def blocksR (b bo bs : Nat) (rs : List (Nat × Nat)) : List Nat := b :: bo :: bs :: rs.map (·.1)

theorem RepR.lt {w : World} {b bo bs : Nat} {rs : List (Nat × Nat)} {σ : St} (h : RepR w b bo bs rs σ) : ∀ x ∈ blocksR b bo bs rs, x < w.heap.size := by
  obtain ⟨co, cs, h1, h2, h3, _⟩ := h.top
  intro x hx
  simp only [blocksR, List.mem_cons, List.mem_map] at hx
  rcases hx with rfl | rfl | rfl | ⟨r, hr, rfl⟩
  · exact h1.lt
  · exact h2.lt
  · exact h3.lt
  · obtain ⟨i, hi, rfl⟩ := List.getElem_of_mem hr
    exact (h.rows i _ (List.getElem?_eq_getElem hi)).1.lt

theorem RepR.chg {w w' : World} {b bo bs : Nat} {rs : List (Nat × Nat)} {σ : St} {S : List Nat} (h : RepR w b bo bs rs σ) (hc : Chg S w w') (hS : ∀ x ∈ blocksR b bo bs rs, x ∉ S) : RepR w' b bo bs rs σ := by
  obtain ⟨co, cs, h1, h2, h3, h4⟩ := h.top
  refine ⟨⟨co, cs, h1.chg hc (hS _ (by simp [blocksR])), h2.chg hc (hS _ (by simp [blocksR])), h3.chg hc (hS _ (by simp [blocksR])), h4⟩, h.len, fun i r hr => ?_, h.apart⟩
  obtain ⟨g1, g2⟩ := h.rows i r hr
  exact ⟨g1.chg hc (hS _ (by simp only [blocksR, List.mem_cons, List.mem_map]; exact .inr (.inr (.inr ⟨r, List.mem_of_getElem? hr, rfl⟩)))), g2⟩

theorem RepR.drewN {w : World} {b bo bs : Nat} {rs : List (Nat × Nat)} {σ : St} (h : RepR w b bo bs rs σ) (n : Nat) : RepR (w.drewN n) b bo bs rs σ := h.chg (S := []) ((Chg.refl _ _).drewN n) (by simp)

/-- The rows' blocks stand apart from the others. -/
theorem RepR.ne {w : World} {b bo bs : Nat} {rs : List (Nat × Nat)} {σ : St} (h : RepR w b bo bs rs σ) : b ≠ bo ∧ b ≠ bs ∧ bo ≠ bs ∧ (∀ (i : Nat) r, rs[i]? = some r → r.1 ≠ b ∧ r.1 ≠ bo ∧ r.1 ≠ bs) ∧
    ∀ (i j : Nat) r s, rs[i]? = some r → rs[j]? = some s → i ≠ j → r.1 ≠ s.1 := by
  have := h.apart
  simp only [List.nodup_cons, List.mem_cons, not_or] at this
  obtain ⟨⟨h1, h2, h3⟩, ⟨h4, h5⟩, h6, h7⟩ := this
  refine ⟨h1, h2, h4, fun i r hr => ?_, fun i j r s hr hs hij e => ?_⟩
  · have hm : r.1 ∈ rs.map (·.1) := List.mem_map.2 ⟨r, List.mem_of_getElem? hr, rfl⟩
    exact ⟨fun e => h3 (e ▸ hm), fun e => h5 (e ▸ hm), fun e => h6 (e ▸ hm)⟩
  · have hi : i < (rs.map (·.1)).length := by simp; exact (List.getElem?_eq_some_iff.1 hr).1
    have e1 : (rs.map (·.1))[i]? = some r.1 := by simp [hr]
    have e2 : (rs.map (·.1))[j]? = some r.1 := by simp [hs, e]
    exact hij ((List.getElem?_inj hi h7).1 (e1.trans e2.symm))

theorem has_toSl (line : Int) (p : Pl) : Sl.has line p.toSl = Pl.has line p := rfl

theorem find_toSl (line : Int) (l : List Pl) : (l.map Pl.toSl).findIdx? (Sl.has line) = l.findIdx? (Pl.has line) := by
  rw [List.findIdx?_map]; rfl

theorem free_toSl (l : List Pl) : (l.map Pl.toSl).findIdx? Sl.free = l.findIdx? Pl.free := by
  rw [List.findIdx?_map]; rfl

/-- A line stands in its set, or nowhere. -/
theorem WP.find_row {σ : St} (h : WP σ) (line : Int) : σ.pl.findIdx? (Pl.has line) = ((σ.row (line % σ.sets).toNat).findIdx? (Pl.has line)).map ((line % σ.sets).toNat * σ.ways + ·) := by
  have hw := h.ways1
  have hs := h.sets1
  cases hk : (σ.row (line % σ.sets).toNat).findIdx? (Pl.has line) with
  | some k =>
    obtain ⟨k1, k2, _⟩ := List.findIdx?_eq_some_iff_getElem.1 hk
    rw [h.row_len line] at k1
    have hg := row_get (σ := σ) line k1
    have hp : σ.pl[(line % σ.sets).toNat * σ.ways + k]? = some (σ.row (line % σ.sets).toNat)[k] := by rw [← hg]; exact List.getElem?_eq_getElem (by rw [h.row_len line]; exact k1)
    refine some_at' hp (fun j t hj ht => ?_) k2
    by_cases hb : Pl.has line t = true
    · simp only [Pl.has, Bool.and_eq_true, beq_iff_eq] at hb k2
      have := h.one _ _ _ _ ht hp hb.1 k2.1 (by rw [hb.2, k2.2])
      dsimp only at hj
      omega
    · simpa using hb
  | none =>
    refine none_at' (fun j t hj ht => ?_)
    by_cases hb : Pl.has line t = true
    · exfalso
      have hb' := hb
      simp only [Pl.has, Bool.and_eq_true, beq_iff_eq] at hb
      have h3 := (h.pl1 j t ht hb.1).2.2
      rw [hb.2] at h3
      have e1 : (line % (σ.sets : Int)).toNat = j / σ.ways := by rw [h3]; rfl
      have hd := Nat.div_add_mod j σ.ways
      have hm := Nat.mod_lt j (show 0 < σ.ways by omega)
      have hg := row_get (σ := σ) line hm
      rw [e1, Nat.mul_comm, hd, ht] at hg
      rw [← e1] at hg
      rw [List.findIdx?_eq_none_iff] at hk
      have := hk t (List.mem_of_getElem? hg)
      rw [hb'] at this; cases this
    · simpa using hb


/-- What the document's Has does to the world: it draws. -/
theorem line_wrap' {x : Int} (h : 0 ≤ x ∧ x < 18446744073709551616) : IntKind.u64.wrap (x.tdiv 64) = x / 64 := IntWalk.u64_quo _ _ ⟨h.1, by omega, by omega⟩

set_option maxRecDepth 100000 in
set_option maxHeartbeats 1000000 in
theorem hasR_no (b g c ways bo co sets K n : Nat) (at_ : Int) (l : List Sl) (w : World) (c0 : w.cell? ⟨b, 0, none⟩ = some (.slice (some ⟨bo, 0, none⟩) sets co)) (cv : w.cell? ⟨bo, K, none⟩ = some (.slice (some ⟨g, 0, none⟩) ways c))
    (h2 : sets ≤ 64) (hK : at_ / 64 % sets = (K : Int)) (hat : 0 ≤ at_ ∧ at_ < 18446744073709551616) (hKs : K < sets) (hr : Row w g 72 n (l.flatMap Sl.enc)) (hlen : l.length = ways) (hl : ways ≤ 8) (hno : l.findIdx? (Sl.has (at_ / 64)) = none) :
    Calls Try.prog 14 #[.pointer (some ⟨b, 0, none⟩), .int .u64 at_] w fun e w' => e = .returned (.tuple #[.bool false, .bool false]) ∧ ∃ n, w' = w.drewN n := by
  have e1 : IntKind.u64.wrap (at_.tdiv 64) = at_ / 64 := line_wrap' hat
  have hx : idx (l.findIdx? (Sl.has (at_ / 64))) = -1 := by rw [hno]; rfl
  have HX := Lib.hid hx
  have q0 : 0 ≤ at_ / 64 := by omega
  have q1 : at_ / 64 < 18446744073709551616 := by omega
  have HQ := Lib.hid (⟨q0, q1⟩ : 0 ≤ at_ / 64 ∧ at_ / 64 < 18446744073709551616)
  have HK := Lib.hid hK
  have HL := Lib.hid hlen
  clear hx hno hat q1 hK hlen
  go_enter Try.func14, Try.ntmps14
  go_wp2_with fail
  refine (set_row b bo co sets K (at_ / 64) _ w c0 cv h2 HK.out HQ.out hKs).mono ?_
  rintro e w1 ⟨rfl, n1, rfl⟩
  go_wp2_with fail
  refine (find_any g n c ways l (at_ / 64) _ (hr.drewN n1) HL.out hl).mono ?_
  rintro e w2 ⟨rfl, rfl⟩
  rw [HX.out]
  go_wp2
  go_quiet (fail)
  go_wp2
  go_ret2
  exact ⟨rfl, _, World.drewN_drewN _ _ _⟩


set_option maxRecDepth 100000 in
set_option maxHeartbeats 1000000 in
theorem hasR_yes (b g c ways bo co sets K n k : Nat) (at_ : Int) (l : List Sl) (s : Sl) (w : World) (c0 : w.cell? ⟨b, 0, none⟩ = some (.slice (some ⟨bo, 0, none⟩) sets co)) (cv : w.cell? ⟨bo, K, none⟩ = some (.slice (some ⟨g, 0, none⟩) ways c))
    (h2 : sets ≤ 64) (hK : at_ / 64 % sets = (K : Int)) (hat : 0 ≤ at_ ∧ at_ < 18446744073709551616) (hKs : K < sets) (hr : Row w g 72 n (l.flatMap Sl.enc)) (hlen : l.length = ways) (hl : ways ≤ 8)
    (hyes : l.findIdx? (Sl.has (at_ / 64)) = some k) (hs : l[k]? = some s) :
    Calls Try.prog 14 #[.pointer (some ⟨b, 0, none⟩), .int .u64 at_] w fun e w' => e = .returned (.tuple #[.bool true, .bool s.wr]) ∧ ∃ n, w' = w.drewN n := by
  have e1 : IntKind.u64.wrap (at_.tdiv 64) = at_ / 64 := line_wrap' hat
  have hx : idx (l.findIdx? (Sl.has (at_ / 64))) = k := by rw [hyes]; rfl
  have hk := (List.getElem?_eq_some_iff.1 hs).1
  have HX := Lib.hid hx
  have q0 : 0 ≤ at_ / 64 := by omega
  have q1 : at_ / 64 < 18446744073709551616 := by omega
  have HQ := Lib.hid (⟨q0, q1⟩ : 0 ≤ at_ / 64 ∧ at_ / 64 < 18446744073709551616)
  have HK := Lib.hid hK
  have HL := Lib.hid hlen
  obtain ⟨_, _, g2, _⟩ := hr.sl hs
  have hkw : k < ways := by omega
  clear hx hyes hat q1 hK hlen hs hk
  go_enter Try.func14, Try.ntmps14
  go_wp2_with fail
  refine (set_row b bo co sets K (at_ / 64) _ w c0 cv h2 HK.out HQ.out hKs).mono ?_
  rintro e w1 ⟨rfl, n1, rfl⟩
  go_wp2_with fail
  refine (find_any g n c ways l (at_ / 64) _ (hr.drewN n1) HL.out hl).mono ?_
  rintro e w2 ⟨rfl, rfl⟩
  rw [HX.out]
  go_wp2
  go_quiet (fail)
  go_wp2
  go_ret2
  exact ⟨rfl, _, World.drewN_drewN _ _ _⟩

set_option maxRecDepth 100000 in
set_option maxHeartbeats 1000000 in
theorem askR_hit (b g c ways bo co sets K n k : Nat) (at_ : Int) (wr : Bool) (l : List Sl) (s : Sl) (w : World) (c0 : w.cell? ⟨b, 0, none⟩ = some (.slice (some ⟨bo, 0, none⟩) sets co)) (cv : w.cell? ⟨bo, K, none⟩ = some (.slice (some ⟨g, 0, none⟩) ways c))
    (h2 : sets ≤ 64) (hK : at_ / 64 % sets = (K : Int)) (hat : 0 ≤ at_ ∧ at_ < 18446744073709551616) (hKs : K < sets) (hr : Row w g 72 n (l.flatMap Sl.enc)) (hlen : l.length = ways) (hl : ways ≤ 8)
    (hyes : l.findIdx? (Sl.has (at_ / 64)) = some k) (hs : l[k]? = some s) :
    Calls Try.prog 9 #[.pointer (some ⟨b, 0, none⟩), .int .u64 at_, .bool wr] w fun e w' => e = .returned (.int .i64 1) ∧ ∃ n, w' = (w.drewN n).setCell ⟨g, k * 4 + 2, none⟩ (.bool (s.wr || wr)) := by
  have e1 : IntKind.u64.wrap (at_.tdiv 64) = at_ / 64 := line_wrap' hat
  have hx : idx (l.findIdx? (Sl.has (at_ / 64))) = k := by rw [hyes]; rfl
  have hk := (List.getElem?_eq_some_iff.1 hs).1
  have HX := Lib.hid hx
  have q0 : 0 ≤ at_ / 64 := by omega
  have q1 : at_ / 64 < 18446744073709551616 := by omega
  have HQ := Lib.hid (⟨q0, q1⟩ : 0 ≤ at_ / 64 ∧ at_ / 64 < 18446744073709551616)
  have HK := Lib.hid hK
  have HL := Lib.hid hlen
  obtain ⟨_, _, g2, _⟩ := hr.sl hs
  have gf := hr.frozen
  have hkw : k < ways := by omega
  clear hx hyes hat q1 hK hlen hs hk
  obtain ⟨sl0, sis, swr, sleft⟩ := s
  cases swr
  all_goals
    go_enter Try.func9, Try.ntmps9
    go_wp2_with fail
    refine (set_row b bo co sets K (at_ / 64) _ w c0 cv h2 HK.out HQ.out hKs).mono ?_
    rintro e w1 ⟨rfl, n1, rfl⟩
    go_wp2_with fail
    refine (find_any g n c ways l (at_ / 64) _ (hr.drewN n1) HL.out hl).mono ?_
    rintro e w2 ⟨rfl, rfl⟩
    rw [HX.out]
    go_wp2
    go_ret
    exact ⟨rfl, _, rfl⟩

set_option maxRecDepth 100000 in
set_option maxHeartbeats 1000000 in
theorem askR_wait (b g c ways bo co sets K n k bs cs : Nat) (at_ : Int) (wr : Bool) (l sl : List Sl) (s : Sl) (w : World) (c0 : w.cell? ⟨b, 0, none⟩ = some (.slice (some ⟨bo, 0, none⟩) sets co)) (cv : w.cell? ⟨bo, K, none⟩ = some (.slice (some ⟨g, 0, none⟩) ways c))
    (c1 : w.cell? ⟨b, 1, none⟩ = some (.slice (some ⟨bs, 0, none⟩) sl.length cs)) (hrs : Row w bs 72 (cs * 4) (sl.flatMap Sl.enc)) (hl8 : sl.length ≤ 8)
    (h2 : sets ≤ 64) (hK : at_ / 64 % sets = (K : Int)) (hat : 0 ≤ at_ ∧ at_ < 18446744073709551616) (hKs : K < sets) (hr : Row w g 72 n (l.flatMap Sl.enc)) (hlen : l.length = ways) (hl : ways ≤ 8)
    (hno : l.findIdx? (Sl.has (at_ / 64)) = none) (hyes : sl.findIdx? (Sl.has (at_ / 64)) = some k) (hs : sl[k]? = some s) :
    Calls Try.prog 9 #[.pointer (some ⟨b, 0, none⟩), .int .u64 at_, .bool wr] w fun e w' => e = .returned (.int .i64 2) ∧ ∃ x : Ext w, w' = x.to.setCell ⟨bs, k * 4 + 2, none⟩ (.bool (s.wr || wr)) := by
  have e1 : IntKind.u64.wrap (at_.tdiv 64) = at_ / 64 := line_wrap' hat
  have hx : idx (l.findIdx? (Sl.has (at_ / 64))) = -1 := by rw [hno]; rfl
  have hy : idx (sl.findIdx? (Sl.has (at_ / 64))) = k := by rw [hyes]; rfl
  have hk := (List.getElem?_eq_some_iff.1 hs).1
  have HX := Lib.hid hx
  have HY := Lib.hid hy
  have q0 : 0 ≤ at_ / 64 := by omega
  have q1 : at_ / 64 < 18446744073709551616 := by omega
  have HQ := Lib.hid (⟨q0, q1⟩ : 0 ≤ at_ / 64 ∧ at_ / 64 < 18446744073709551616)
  have HK := Lib.hid hK
  have HL := Lib.hid hlen
  obtain ⟨_, _, g2, _⟩ := hrs.sl hs
  clear hx hy hyes hno hat q1 hK hlen hs
  obtain ⟨sl0, sis, swr, sleft⟩ := s
  cases swr
  all_goals
    go_enter Try.func9, Try.ntmps9
    go_wp2_with fail
    refine (set_row b bo co sets K (at_ / 64) _ w c0 cv h2 HK.out HQ.out hKs).mono ?_
    rintro e w1 ⟨rfl, n1, rfl⟩
    go_wp2_with fail
    refine (find_any g n c ways l (at_ / 64) _ (hr.drewN n1) HL.out hl).mono ?_
    rintro e w2 ⟨rfl, rfl⟩
    rw [HX.out]
    go_wp2_with fail
    refine (find_any bs (cs * 4) cs sl.length sl (at_ / 64) _ (hrs.drewN n1) rfl hl8).mono ?_
    rintro e w2 ⟨rfl, rfl⟩
    rw [HY.out]
    go_wp2
    have x1 : ∀ x : Ext (w.drewN n1), x.to.cell? ⟨b, 1, none⟩ = some (.slice (some ⟨bs, 0, none⟩) sl.length cs) := Ext.cell c1
    have xg := Ext.cell (w := w.drewN n1) g2
    refine wp_region_ext_tail 18 (by kernel_rfl) (by kernel_rfl) ?_
    simp only [List.take_succ_cons, List.take_zero, List.drop_succ_cons, List.drop_zero]
    repeat (go_big_quiet_step (fail))
    refine wpQuiet_nil ?_
    intro _ hw'
    obtain ⟨x, hw''⟩ := hw'
    subst hw''
    have gx := xg x
    have ky : x.to.frozen? ⟨bs, k * 4 + 2, none⟩ = false := ((hrs.drewN n1).chg x.chg (by simp)).frozen _
    go_wp2
    go_ret
    exact ⟨rfl, ⟨x.to, ((Chg.refl [] w).drewN n1).tr x.chg⟩, rfl⟩

set_option maxRecDepth 100000 in
set_option maxHeartbeats 1000000 in
theorem askR_new (b g c ways bo co sets K n k bs cs delay : Nat) (at_ : Int) (wr : Bool) (l sl : List Sl) (s : Sl) (w : World) (c0 : w.cell? ⟨b, 0, none⟩ = some (.slice (some ⟨bo, 0, none⟩) sets co)) (cv : w.cell? ⟨bo, K, none⟩ = some (.slice (some ⟨g, 0, none⟩) ways c))
    (c1 : w.cell? ⟨b, 1, none⟩ = some (.slice (some ⟨bs, 0, none⟩) sl.length cs)) (c2 : w.cell? ⟨b, 2, none⟩ = some (.int .i64 delay)) (hrs : Row w bs 72 (cs * 4) (sl.flatMap Sl.enc)) (hl8 : sl.length ≤ 8)
    (h2 : sets ≤ 64) (hK : at_ / 64 % sets = (K : Int)) (hat : 0 ≤ at_ ∧ at_ < 18446744073709551616) (hKs : K < sets) (hr : Row w g 72 n (l.flatMap Sl.enc)) (hlen : l.length = ways) (hl : ways ≤ 8)
    (hno : l.findIdx? (Sl.has (at_ / 64)) = none) (hno2 : sl.findIdx? (Sl.has (at_ / 64)) = none) (hyes : sl.findIdx? Sl.free = some k) (hs : sl[k]? = some s) :
    Calls Try.prog 9 #[.pointer (some ⟨b, 0, none⟩), .int .u64 at_, .bool wr] w fun e w' => e = .returned (.int .i64 2) ∧ ∃ x : Ext w, w' = (((x.to.setCell ⟨bs, k * 4, none⟩ (.int .u64 (at_ / 64))).setCell ⟨bs, k * 4 + 1, none⟩ (.bool true)).setCell ⟨bs, k * 4 + 2, none⟩ (.bool wr)).setCell ⟨bs, k * 4 + 3, none⟩ (.int .i64 delay) := by
  have e1 : IntKind.u64.wrap (at_.tdiv 64) = at_ / 64 := line_wrap' hat
  have hx : idx (l.findIdx? (Sl.has (at_ / 64))) = -1 := by rw [hno]; rfl
  have hy : idx (sl.findIdx? (Sl.has (at_ / 64))) = -1 := by rw [hno2]; rfl
  have hz : idx (sl.findIdx? Sl.free) = k := by rw [hyes]; rfl
  have hk := (List.getElem?_eq_some_iff.1 hs).1
  have HX := Lib.hid hx
  have HY := Lib.hid hy
  have HZ := Lib.hid hz
  have q0 : 0 ≤ at_ / 64 := by omega
  have q1 : at_ / 64 < 18446744073709551616 := by omega
  have HQ := Lib.hid (⟨q0, q1⟩ : 0 ≤ at_ / 64 ∧ at_ / 64 < 18446744073709551616)
  have HK := Lib.hid hK
  have HL := Lib.hid hlen
  obtain ⟨g0, g1, g2, g3⟩ := hrs.sl hs
  clear hx hy hz hyes hno hno2 hat q1 hK hlen hs
  go_enter Try.func9, Try.ntmps9
  go_wp2_with fail
  refine (set_row b bo co sets K (at_ / 64) _ w c0 cv h2 HK.out HQ.out hKs).mono ?_
  rintro e w1 ⟨rfl, n1, rfl⟩
  go_wp2_with fail
  refine (find_any g n c ways l (at_ / 64) _ (hr.drewN n1) HL.out hl).mono ?_
  rintro e w2 ⟨rfl, rfl⟩
  rw [HX.out]
  go_wp2_with fail
  refine (find_any bs (cs * 4) cs sl.length sl (at_ / 64) _ (hrs.drewN n1) rfl hl8).mono ?_
  rintro e w2 ⟨rfl, rfl⟩
  rw [HY.out]
  go_wp2_with fail
  refine (empty_any bs (cs * 4) cs sl.length sl _ (hrs.drewN n1) rfl hl8).mono ?_
  rintro e w2 ⟨rfl, rfl⟩
  rw [HZ.out]
  go_wp2
  have x1 : ∀ x : Ext (w.drewN n1), x.to.cell? ⟨b, 1, none⟩ = some (.slice (some ⟨bs, 0, none⟩) sl.length cs) := Ext.cell c1
  have x2 : ∀ x : Ext (w.drewN n1), x.to.cell? ⟨b, 2, none⟩ = some (.int .i64 delay) := Ext.cell c2
  refine wp_region_ext_tail 13 (by kernel_rfl) (by kernel_rfl) ?_
  simp only [List.take_succ_cons, List.take_zero, List.drop_succ_cons, List.drop_zero]
  repeat (go_big_quiet_step (fail))
  refine wpQuiet_nil ?_
  intro _ hw'
  obtain ⟨x, hw''⟩ := hw'
  subst hw''
  have m0 := Ext.cell (w := w.drewN n1) g0 x
  have m1 := Ext.cell (w := w.drewN n1) g1 x
  have m2 := Ext.cell (w := w.drewN n1) g2 x
  have m3 := Ext.cell (w := w.drewN n1) g3 x
  have ky : ∀ o, x.to.frozen? ⟨bs, o, none⟩ = false := ((hrs.drewN n1).chg x.chg (by simp)).frozen
  go_wp2
  go_ret
  exact ⟨rfl, ⟨x.to, ((Chg.refl [] w).drewN n1).tr x.chg⟩, rfl⟩

set_option maxRecDepth 100000 in
set_option maxHeartbeats 1000000 in
theorem askR_full (b g c ways bo co sets K n bs cs : Nat) (at_ : Int) (wr : Bool) (l sl : List Sl) (w : World) (c0 : w.cell? ⟨b, 0, none⟩ = some (.slice (some ⟨bo, 0, none⟩) sets co)) (cv : w.cell? ⟨bo, K, none⟩ = some (.slice (some ⟨g, 0, none⟩) ways c))
    (c1 : w.cell? ⟨b, 1, none⟩ = some (.slice (some ⟨bs, 0, none⟩) sl.length cs)) (hrs : Row w bs 72 (cs * 4) (sl.flatMap Sl.enc)) (hl8 : sl.length ≤ 8)
    (h2 : sets ≤ 64) (hK : at_ / 64 % sets = (K : Int)) (hat : 0 ≤ at_ ∧ at_ < 18446744073709551616) (hKs : K < sets) (hr : Row w g 72 n (l.flatMap Sl.enc)) (hlen : l.length = ways) (hl : ways ≤ 8)
    (hno : l.findIdx? (Sl.has (at_ / 64)) = none) (hno2 : sl.findIdx? (Sl.has (at_ / 64)) = none) (hno3 : sl.findIdx? Sl.free = none) :
    Calls Try.prog 9 #[.pointer (some ⟨b, 0, none⟩), .int .u64 at_, .bool wr] w fun e w' => e = .returned (.int .i64 3) ∧ ∃ n, w' = w.drewN n := by
  have e1 : IntKind.u64.wrap (at_.tdiv 64) = at_ / 64 := line_wrap' hat
  have hx : idx (l.findIdx? (Sl.has (at_ / 64))) = -1 := by rw [hno]; rfl
  have hy : idx (sl.findIdx? (Sl.has (at_ / 64))) = -1 := by rw [hno2]; rfl
  have hz : idx (sl.findIdx? Sl.free) = -1 := by rw [hno3]; rfl
  have HX := Lib.hid hx
  have HY := Lib.hid hy
  have HZ := Lib.hid hz
  have q0 : 0 ≤ at_ / 64 := by omega
  have q1 : at_ / 64 < 18446744073709551616 := by omega
  have HQ := Lib.hid (⟨q0, q1⟩ : 0 ≤ at_ / 64 ∧ at_ / 64 < 18446744073709551616)
  have HK := Lib.hid hK
  have HL := Lib.hid hlen
  clear hx hy hz hno hno2 hno3 hat q1 hK hlen
  go_enter Try.func9, Try.ntmps9
  go_wp2_with fail
  refine (set_row b bo co sets K (at_ / 64) _ w c0 cv h2 HK.out HQ.out hKs).mono ?_
  rintro e w1 ⟨rfl, n1, rfl⟩
  go_wp2_with fail
  refine (find_any g n c ways l (at_ / 64) _ (hr.drewN n1) HL.out hl).mono ?_
  rintro e w2 ⟨rfl, rfl⟩
  rw [HX.out]
  go_wp2_with fail
  refine (find_any bs (cs * 4) cs sl.length sl (at_ / 64) _ (hrs.drewN n1) rfl hl8).mono ?_
  rintro e w2 ⟨rfl, rfl⟩
  rw [HY.out]
  go_wp2_with fail
  refine (empty_any bs (cs * 4) cs sl.length sl _ (hrs.drewN n1) rfl hl8).mono ?_
  rintro e w2 ⟨rfl, rfl⟩
  rw [HZ.out]
  go_wp2
  go_ret
  exact ⟨rfl, _, rfl⟩

end Go.Proofs.Ytmagpdbnefbfkaa
