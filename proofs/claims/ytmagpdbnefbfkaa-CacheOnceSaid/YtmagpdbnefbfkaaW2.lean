/- The walks of the program's cache: Ask where nothing is there. -/
import Derived.Test.YtmagpdbnefbfkaaW1
namespace Go.Proofs.Ytmagpdbnefbfkaa
open Go Go.RowKit

/-- What Ask does where the line isn't there: which slot, and what it holds then. -/
def askSlots (sl : List Sl) (line : Int) (wr : Bool) (delay : Nat) : Option (Nat × Sl × Bool) × Int :=
  match sl.findIdx? (Sl.has line) with
  | some i => (some (i, { (sl.getD i Sl.zero) with wr := (sl.getD i Sl.zero).wr || wr }, false), 2)
  | none => match sl.findIdx? Sl.free with
    | some i => (some (i, ⟨line, true, wr, delay⟩, true), 2)
    | none => (none, 3)

theorem has_at {sl : List Sl} {line : Int} {k : Nat} {s : Sl} (hs : sl[k]? = some s) (hno : ∀ j t, j < k → sl[j]? = some t → Sl.has line t = false) (h : Sl.has line s = true) :
    sl.findIdx? (Sl.has line) = some k := by
  rw [List.findIdx?_eq_some_iff_getElem]
  have hk := (List.getElem?_eq_some_iff.1 hs).1
  have he := (List.getElem?_eq_some_iff.1 hs).2
  refine ⟨hk, by rw [he]; exact h, fun j hj => ?_⟩
  have := hno j _ hj (List.getElem?_eq_getElem (by omega))
  simp [this]

theorem none_at {α : Type} {l : List α} {f : α → Bool} (hno : ∀ (j : Nat) t, j < l.length → l[j]? = some t → f t = false) : l.findIdx? f = none := by
  rw [List.findIdx?_eq_none_iff]
  intro x hx
  obtain ⟨j, hj, rfl⟩ := List.getElem_of_mem hx
  exact hno j _ hj (List.getElem?_eq_getElem hj)

theorem some_at {α : Type} {l : List α} {f : α → Bool} {k : Nat} {s : α} (hs : l[k]? = some s) (hno : ∀ (j : Nat) t, j < k → l[j]? = some t → f t = false) (h : f s = true) : l.findIdx? f = some k := by
  rw [List.findIdx?_eq_some_iff_getElem]
  have hk := (List.getElem?_eq_some_iff.1 hs).1
  have he := (List.getElem?_eq_some_iff.1 hs).2
  refine ⟨hk, by rw [he]; exact h, fun j hj => ?_⟩
  have := hno j _ hj (List.getElem?_eq_getElem (by omega))
  simp [this]

theorem none_step {α : Type} {l : List α} {f : α → Bool} {k : Nat} {s : α} (hs : l[k]? = some s) (hno : ∀ (j : Nat) t, j < k → l[j]? = some t → f t = false) (h : f s = false) :
    ∀ (j : Nat) t, j < k + 1 → l[j]? = some t → f t = false := fun j t hj ht => by
  by_cases e : j = k
  · subst e; rw [hs] at ht; cases ht; exact h
  · exact hno j t (by omega) ht

def storeSl (W : World) (g : Nat) (k : Nat) (s : Sl) : World :=
  (((W.setCell ⟨g, k * 4, none⟩ (.int .u64 s.line)).setCell ⟨g, k * 4 + 1, none⟩ (.bool s.is)).setCell ⟨g, k * 4 + 2, none⟩ (.bool s.wr)).setCell ⟨g, k * 4 + 3, none⟩ (.int .i64 s.left)

/-- The post of Ask at a miss. -/
def AskMiss (w : World) (bs : Nat) (sl : List Sl) (line : Int) (wr : Bool) (delay : Nat) (e : Ending) (w' : World) : Prop :=
  e = .returned (.int .i64 (askSlots sl line wr delay).2) ∧ ∃ x : Ext w, match (askSlots sl line wr delay).1 with
    | none => w' = x.to
    | some (k, s, whole) => w' = if whole then storeSl x.to bs k s else x.to.setCell ⟨bs, k * 4 + 2, none⟩ (.bool s.wr)

set_option maxRecDepth 100000 in
set_option maxHeartbeats 2000000 in
theorem ask_miss (b bm bs cs sets delay : Nat) (at_ : Int) (wr : Bool) (L : List (Int × Nat)) (sl : List Sl) (w : World) (c0 : w.cell? ⟨b, 0, none⟩ = some (.int .i64 sets)) (c2 : w.cell? ⟨b, 2, none⟩ = some (.int .i64 delay))
    (c5 : w.cell? ⟨b, 5, none⟩ = some (.map (some bm))) (c6 : w.cell? ⟨b, 6, none⟩ = some (.slice (some ⟨bs, 0, none⟩) sl.length cs))
    (hr : Row w bs 68 (cs * 4) (sl.flatMap Sl.enc)) (hm : MapT okLine (ekLine sets) evInt w bm L) (h1 : 1 ≤ sets) (h2 : sets ≤ 64) (hat : okLine at_) (hb : b < w.heap.size) (hl8 : sl.length ≤ 8)
    (hn : asc L (at_ / 64) = none) :
    Calls Try.prog 8 #[.pointer (some ⟨b, 0, none⟩), .int .u64 at_, .bool wr] w (AskMiss w bs sl (at_ / 64) wr delay) := by
  have e1 : IntKind.u64.wrap (at_.tdiv 64) = at_ / 64 := line_wrap hat
  have hq : okLine (at_ / 64) := hat.line
  have k0 := Ext.cell c0
  have k5 := Ext.cell c5
  have hl : ∀ x : Ext w, (Instr.lookup 52 (.map (some bm)) (ekLine sets (at_ / 64)) true).run Try.prog x.to = .ok (.tuple #[.int .i64 0, .bool false]) x.to := fun x =>
    look62_none hm h1 h2 hq hn (x.chg.block _ hm.lt (by simp))
  clear hat hn
  go_enter Try.func8, Try.ntmps8
  go_wp2
  refine wp_region_ext (by kernel_rfl) (by kernel_rfl) ?_
  repeat (go_big_quiet_step ((go_at_call 23; exact Ext.calls (key_any b sets (at_ / 64) _ (k0 _) (Nat.lt_of_lt_of_le hb (Ext.chg _).size) h1 h2 hq))))
  refine wpQuiet_nil ?_
  intro _ hw'
  obtain ⟨x, hw''⟩ := hw'
  subst hw''
  have k2 := Ext.cell c2 x
  have k6 := Ext.cell c6 x
  have hrx := hr.chg x.chg (by simp)
  have hf : ∀ o, x.to.frozen? ⟨bs, o, none⟩ = false := hrx.frozen
  clear hl k0 k5
  go_wp2
  go_loop [50] (fun i => ∃ k : Nat, k ≤ sl.length ∧ i = .int .i64 k ∧ ∀ (j : Nat) t, j < k → sl[j]? = some t → Sl.has (at_ / 64) t = false) (fun i => sl.length - (intOf i).toNat)
  case atStart => exact ⟨0, Nat.zero_le _, rfl, fun j t h => by omega⟩
  case round =>
    obtain ⟨k, hk, rfl, hno⟩ := hrel
    have HNO := Lib.hid hno
    clear hno
    by_cases hlt : k < sl.length
    · obtain ⟨⟨sline, sis, swr, sleft⟩, hs⟩ : ∃ s, sl[k]? = some s := ⟨_, List.getElem?_eq_getElem hlt⟩
      obtain ⟨g0, g1, g2, g3⟩ := hrx.sl hs
      dsimp only at g0 g1 g2 g3
      have HS := Lib.hid hs
      clear hs
      cases sis
      · go_wp2
        go_round
        case rel => exact ⟨k + 1, by omega, by go_num, none_step HS.out HNO.out rfl⟩
        case measure => simp [intOf]; omega
      · by_cases he : sline = at_ / 64
        · have he' : (sline == at_ / 64) = true := by simpa using he
          clear he
          have hx : askSlots sl (at_ / 64) wr delay = (some (k, ⟨sline, true, swr || wr, sleft⟩, false), 2) := by
            simp [askSlots, some_at HS.out HNO.out (show Sl.has (at_ / 64) ⟨sline, true, swr, sleft⟩ = true by simp [Sl.has, he']), List.getD, HS.out]
          have HX := Lib.hid hx
          clear hx
          cases swr
          all_goals
            go_wp2
            go_ret
            exact ⟨by rw [HX.out]; rfl, x, by rw [HX.out]; rfl⟩
        · have he' : (sline == at_ / 64) = false := by simpa using he
          have HE := Lib.hid he'
          clear he
          go_wp2
          go_round
          case rel => exact ⟨k + 1, by omega, by go_num, none_step HS.out HNO.out (by simp [Sl.has, HE.out])⟩
          case measure => simp [intOf]; omega
    · obtain rfl : k = sl.length := by omega
      have hno := HNO.out
      have HN := Lib.hid (none_at hno)
      clear hno HNO hk hlt
      go_wp2
      go_loop [87] (fun i => ∃ k : Nat, k ≤ sl.length ∧ i = .int .i64 k ∧ ∀ (j : Nat) t, j < k → sl[j]? = some t → Sl.free t = false) (fun i => sl.length - (intOf i).toNat)
      case atStart => exact ⟨0, Nat.zero_le _, rfl, fun j t h => by omega⟩
      case round =>
        obtain ⟨k, hk, rfl, hno⟩ := hrel
        have HNO := Lib.hid hno
        clear hno
        by_cases hlt : k < sl.length
        · obtain ⟨⟨sline, sis, swr, sleft⟩, hs⟩ : ∃ s, sl[k]? = some s := ⟨_, List.getElem?_eq_getElem hlt⟩
          obtain ⟨g0, g1, g2, g3⟩ := hrx.sl hs
          dsimp only at g0 g1 g2 g3
          have HS := Lib.hid hs
          clear hs
          cases sis
          · have hx : askSlots sl (at_ / 64) wr delay = (some (k, ⟨at_ / 64, true, wr, delay⟩, true), 2) := by
              simp [askSlots, HN.out, some_at HS.out HNO.out (show Sl.free ⟨sline, false, swr, sleft⟩ = true by simp [Sl.free])]
            have HX := Lib.hid hx
            clear hx
            have kx : ∀ y : Ext x.to, y.to.cell? ⟨b, 6, none⟩ = some (.slice (some ⟨bs, 0, none⟩) sl.length cs) := Ext.cell k6
            have kz : ∀ y : Ext x.to, y.to.cell? ⟨b, 2, none⟩ = some (.int .i64 delay) := Ext.cell k2
            go_wp2
            refine wp_region_ext_tail 13 (by kernel_rfl) (by kernel_rfl) ?_
            simp only [List.take_succ_cons, List.take_zero, List.drop_succ_cons, List.drop_zero]
            repeat (go_big_quiet_step (fail))
            refine wpQuiet_nil ?_
            intro _ hw'
            obtain ⟨y, hw''⟩ := hw'
            subst hw''
            have m0 := Ext.cell g0 y
            have m1 := Ext.cell g1 y
            have m2 := Ext.cell g2 y
            have m3 := Ext.cell g3 y
            have mf : ∀ o, y.to.frozen? ⟨bs, o, none⟩ = false := (hrx.chg y.chg (by simp)).frozen
            go_wp2
            go_ret
            exact ⟨by rw [HX.out]; rfl, ⟨y.to, x.chg.tr y.chg⟩, by rw [HX.out]; rfl⟩
          · go_wp2
            go_round
            case rel => exact ⟨k + 1, by omega, by go_num, none_step HS.out HNO.out rfl⟩
            case measure => simp [intOf]; omega
        · obtain rfl : k = sl.length := by omega
          have hx : askSlots sl (at_ / 64) wr delay = (none, 3) := by
            simp [askSlots, HN.out, none_at HNO.out]
          have HX := Lib.hid hx
          clear hx
          go_wp2
          go_ret
          exact ⟨by rw [HX.out]; rfl, x, by rw [HX.out]⟩

end Go.Proofs.Ytmagpdbnefbfkaa
