/- The law CacheOnce, walked: good numbers. -/
import Derived.Test.YtmagpdbnefbfkaaW26
import Derived.Test.YtmagpdbnefbfkaaW28
import Derived.Deep.CutBlock
namespace Go.Proofs.Ytmagpdbnefbfkaa
open Go Go.RowKit

set_option maxRecDepth 1000000 in
theorem sw_all {W0 W : World} {g b ba bm bs t p x sets ways slots delay : Nat} {seed L tp kind : Int} {wri : Bool} {σ : St} {th pe : List (Int × Int)} (E : SwEnv W0 W g b ba bm bs t p x sets ways slots delay seed L tp kind wri σ th pe) (c0 c1 c3 c4 c8 c12 c13 c14 c15 c16 c17 c18 c19 c20 c21 c22 c23 c24 c25 c26 c27 c28 c29 c30 c31 c32 c33 c34 c35 c36 c37 c38 c39 c40 c41 c42 c43 c44 c45 c46 c47 c48 c49 c50 c51 c52 c53 c54 c55 c56 c57 c58 c59 c60 c61 c62 c63 c65 c66 c67 c68 c69 c70 c71 c72 c73 c74 c75 c76 c77 c78 c79 c80 c81 c82 c83 c84 c85 c86 c87 c88 c89 c90 c91 c92 c93 c94 c95 c96 c97 c98 c99 c100 c101 c102 c103 c104 c105 c106 c107 c108 c109 c110 c111 c112 c113 c114 c115 c116 c117 c118 c119 c120 c121 c122 c123 c124 c125 c126 c127 c128 c129 c130 c131 c132 c133 c134 c135 c136 c137 c138 c139 c140 c141 c142 c143 c144 c145 c146 c147 c148 c149 c150 c151 c152 c153 c154 c155 c156 c157 c158 c159 c160 c161 c162 c163 c164 c165 c166 c167 c168 c169 c170 c171 c172 c173 c174 c175 c176 c177 c178 c179 c180 c181 c182 c183 c184 c185 c186 c187 c188 c189 c190 c191 c192 c193 c194 c195 c196 c197 c198 c199 c200 c201 c202 c203 c204 c205 c206 c207 c208 c209 c210 c211 c212 c213 c214 c215 c216 c217 c218 c219 c220 c221 c222 c223 c224 c225 c226 c227 c228 c229 c230 c231 c232 c233 c234 c235 c236 c237 c238 c239 c240 c241 c242 c243 c244 c245 c246 c247 c248 c249 c250 c251 c252 c253 c254 c255 c256 c257 c258 c259 c260 c261 c262 c263 c264 c265 c266 c267 c268 c269 c270 c271 c272 c273 c274 c275 c276 c277 c278 c279 c280 c281 c282 c283 c284 c285 c286 c287 c288 c289 c290 c291 c292 c293 c294 c295 c296 c297 c298 c299 c300 c301 c302 c303 c304 c305 c306 c307 c308 c309 c310 c311 c312 c313 c314 c315 c316 c317 c318 c319 c320 c321 c322 c323 c324 c325 c326 c327 : Value) :
    Code.wp Try.prog swCode (SwEnd (SwPost (fun w' => ∃ σ th pe, OnceNow W0 b ba bm bs t p sets ways slots σ th pe w') g b t p x L kind wri c0 c1 c3 c8 c17 c18 c19 c20 c21 c22 c23 c24 c25 c26 c27 c28 c29 c30 c31 c32 c33 c34 c35 c36 c37 c38 c39 c40 c41 c42 c43 c44 c45 c46 c47 c48 c49 c50 c51 c52 c53 c54 c55 c56 c57 c58 c59 c60 c61 c62 c63 c248 c249 c250 c251 c252 c253 c254 c255 c256 c257 c258 c259 c260 c261 c262 c263 c264 c265 c266 c267 c268 c269 c270 c271 c272 c273 c274 c275 c276 c277 c278 c279 c280 c281 c282 c283 c284 c285 c286 c287 c288 c289 c290 c291 c292 c293 c294 c295 c296 c297 c298 c299 c300 c301 c302 c303 c304 c305 c306 c307 c308 c309 c310 c311 c312 c313 c314 c315 c316 c317 c318 c319 c320 c321 c322 c323 c324 c325 c326 c327)) (swAct g b t p x L kind wri c0 c1 c3 c4 c8 c12 c13 c14 c15 c16 c17 c18 c19 c20 c21 c22 c23 c24 c25 c26 c27 c28 c29 c30 c31 c32 c33 c34 c35 c36 c37 c38 c39 c40 c41 c42 c43 c44 c45 c46 c47 c48 c49 c50 c51 c52 c53 c54 c55 c56 c57 c58 c59 c60 c61 c62 c63 c65 c66 c67 c68 c69 c70 c71 c72 c73 c74 c75 c76 c77 c78 c79 c80 c81 c82 c83 c84 c85 c86 c87 c88 c89 c90 c91 c92 c93 c94 c95 c96 c97 c98 c99 c100 c101 c102 c103 c104 c105 c106 c107 c108 c109 c110 c111 c112 c113 c114 c115 c116 c117 c118 c119 c120 c121 c122 c123 c124 c125 c126 c127 c128 c129 c130 c131 c132 c133 c134 c135 c136 c137 c138 c139 c140 c141 c142 c143 c144 c145 c146 c147 c148 c149 c150 c151 c152 c153 c154 c155 c156 c157 c158 c159 c160 c161 c162 c163 c164 c165 c166 c167 c168 c169 c170 c171 c172 c173 c174 c175 c176 c177 c178 c179 c180 c181 c182 c183 c184 c185 c186 c187 c188 c189 c190 c191 c192 c193 c194 c195 c196 c197 c198 c199 c200 c201 c202 c203 c204 c205 c206 c207 c208 c209 c210 c211 c212 c213 c214 c215 c216 c217 c218 c219 c220 c221 c222 c223 c224 c225 c226 c227 c228 c229 c230 c231 c232 c233 c234 c235 c236 c237 c238 c239 c240 c241 c242 c243 c244 c245 c246 c247 c248 c249 c250 c251 c252 c253 c254 c255 c256 c257 c258 c259 c260 c261 c262 c263 c264 c265 c266 c267 c268 c269 c270 c271 c272 c273 c274 c275 c276 c277 c278 c279 c280 c281 c282 c283 c284 c285 c286 c287 c288 c289 c290 c291 c292 c293 c294 c295 c296 c297 c298 c299 c300 c301 c302 c303 c304 c305 c306 c307 c308 c309 c310 c311 c312 c313 c314 c315 c316 c317 c318 c319 c320 c321 c322 c323 c324 c325 c326 c327) W := by
  by_cases h0 : kind = 0
  · exact sw_ask E h0 _ _ _ _ _ _ _ _ _ _ _ _ _ _ _ _ _ _ _ _ _ _ _ _ _ _ _ _ _ _ _ _ _ _ _ _ _ _ _ _ _ _ _ _ _ _ _ _ _ _ _ _ _ _ _ _ _ _ _ _ _ _ _ _ _ _ _ _ _ _ _ _ _ _ _ _ _ _ _ _ _ _ _ _ _ _ _ _ _ _ _ _ _ _ _ _ _ _ _ _ _ _ _ _ _ _ _ _ _ _ _ _ _ _ _ _ _ _ _ _ _ _ _ _ _ _ _ _ _ _ _ _ _ _ _ _ _ _ _ _ _ _ _ _ _ _ _ _ _ _ _ _ _ _ _ _ _ _ _ _ _ _ _ _ _ _ _ _ _ _ _ _ _ _ _ _ _ _ _ _ _ _ _ _ _ _ _ _ _ _ _ _ _ _ _ _ _ _ _ _ _ _ _ _ _ _ _ _ _ _ _ _ _ _ _ _ _ _ _ _ _ _ _ _ _ _ _ _ _ _ _ _ _ _ _ _ _ _ _ _ _ _ _ _ _ _ _ _ _ _ _ _ _ _ _ _ _ _ _ _ _ _ _ _ _ _ _ _ _ _ _ _ _ _ _ _ _ _ _ _ _ _ _ _ _ _ _ _ _ _ _ _ _ _ _ _ _ _ _ _ _ _ _ _ _ _ _ _ _ _ _ _ _ _ _ _ _ _ _ _
  · by_cases h1 : kind = 1
    · exact sw_tick E h1 _ _ _ _ _ _ _ _ _ _ _ _ _ _ _ _ _ _ _ _ _ _ _ _ _ _ _ _ _ _ _ _ _ _ _ _ _ _ _ _ _ _ _ _ _ _ _ _ _ _ _ _ _ _ _ _ _ _ _ _ _ _ _ _ _ _ _ _ _ _ _ _ _ _ _ _ _ _ _ _ _ _ _ _ _ _ _ _ _ _ _ _ _ _ _ _ _ _ _ _ _ _ _ _ _ _ _ _ _ _ _ _ _ _ _ _ _ _ _ _ _ _ _ _ _ _ _ _ _ _ _ _ _ _ _ _ _ _ _ _ _ _ _ _ _ _ _ _ _ _ _ _ _ _ _ _ _ _ _ _ _ _ _ _ _ _ _ _ _ _ _ _ _ _ _ _ _ _ _ _ _ _ _ _ _ _ _ _ _ _ _ _ _ _ _ _ _ _ _ _ _ _ _ _ _ _ _ _ _ _ _ _ _ _ _ _ _ _ _ _ _ _ _ _ _ _ _ _ _ _ _ _ _ _ _ _ _ _ _ _ _ _ _ _ _ _ _ _ _ _ _ _ _ _ _ _ _ _ _ _ _ _ _ _ _ _ _ _ _ _ _ _ _ _ _ _ _ _ _ _ _ _ _ _ _ _ _ _ _ _ _ _ _ _ _ _ _ _ _ _ _ _ _ _ _ _ _ _ _ _ _ _ _ _ _ _ _ _ _ _
    · exact sw_has E h0 h1 _ _ _ _ _ _ _ _ _ _ _ _ _ _ _ _ _ _ _ _ _ _ _ _ _ _ _ _ _ _ _ _ _ _ _ _ _ _ _ _ _ _ _ _ _ _ _ _ _ _ _ _ _ _ _ _ _ _ _ _ _ _ _ _ _ _ _ _ _ _ _ _ _ _ _ _ _ _ _ _ _ _ _ _ _ _ _ _ _ _ _ _ _ _ _ _ _ _ _ _ _ _ _ _ _ _ _ _ _ _ _ _ _ _ _ _ _ _ _ _ _ _ _ _ _ _ _ _ _ _ _ _ _ _ _ _ _ _ _ _ _ _ _ _ _ _ _ _ _ _ _ _ _ _ _ _ _ _ _ _ _ _ _ _ _ _ _ _ _ _ _ _ _ _ _ _ _ _ _ _ _ _ _ _ _ _ _ _ _ _ _ _ _ _ _ _ _ _ _ _ _ _ _ _ _ _ _ _ _ _ _ _ _ _ _ _ _ _ _ _ _ _ _ _ _ _ _ _ _ _ _ _ _ _ _ _ _ _ _ _ _ _ _ _ _ _ _ _ _ _ _ _ _ _ _ _ _ _ _ _ _ _ _ _ _ _ _ _ _ _ _ _ _ _ _ _ _ _ _ _ _ _ _ _ _ _ _ _ _ _ _ _ _ _ _ _ _ _ _ _ _ _ _ _ _ _ _ _ _ _ _ _ _ _ _ _ _ _ _ _

set_option maxRecDepth 100000 in
set_option maxHeartbeats 8000000 in
theorem once_good (sets ways slots delay : Nat) (seed : Int) (a : Option Addr) (n c : Nat) (ks ats : Nat → Int) (ws : Nat → Bool) (w : World) (h : fits sets ways slots delay) (hst : StepRow w a n ks ats ws) (hn : n < 4611686018427387904) :
    Calls Try.prog 4 #[.agg #[.int .i64 sets, .int .i64 ways, .int .i64 slots, .int .i64 delay, .int .u64 seed], .slice a n c] w fun e w' => e = .returned (.bool true) ∧ Chg [] w w' := by
  go_enter Try.func4, Try.ntmps4
  go_wp2_with fail
  refine (fixed_any _).mono ?_
  rintro e w1 ⟨rfl, hC1⟩
  have hb := Row.new w #[.int .i64 sets, .int .i64 ways, .int .i64 slots, .int .i64 delay, .int .u64 seed] 24
  have hb1 := hb.chg hC1 (by simp)
  have c0 := hb1.cell (j := 0) rfl
  have c1 := hb1.cell (j := 1) rfl
  have c2 := hb1.cell (j := 2) rfl
  have c3 := hb1.cell (j := 3) rfl
  have c4 := hb1.cell (j := 4) rfl
  have HH := Lib.hid h
  have H0 : Chg [] w w1 := ((Chg.refl _ _).alloc _).tr hC1
  have z1 := hC1.size
  clear h
  go_wp2_with fail
  refine (goodP sets ways slots delay seed _ HH.out).mono ?_
  rintro e w2 ⟨b, ba, bm, bs, rfl, hp, hg, hC2⟩
  have k3 := @run_makeMap Try.prog
  go_upto_region 8 with fail
  refine wp_name fun W0 hW0 => ?_
  have hCW : Chg [] w2 W0 := by rw [hW0]; exact ((Chg.refl [] w2).alloc _).alloc _
  have hz0 : W0.heap.size = w2.heap.size + 2 := by rw [hW0]; simp
  have hT : MapI W0 w2.heap.size [] := by rw [hW0]; exact MapT.alloc (MapT.new w2) _
  have hP : MapI W0 (w2.heap.size + 1) [] := by rw [hW0]; have := MapT.new (ok := okLine) (ek := fun a : Int => Value.int .u64 a) (ev := fun v : Int => Value.int .i64 v) (w2.alloc (.map #[] 0)); unfold MapI; simpa using this
  have hrow : Row W0 w.heap.size 24 5 [.int .i64 sets, .int .i64 ways, .int .i64 slots, .int .i64 delay, .int .u64 seed] := (hb1.chg hC2 (by simp)).chg hCW (by simp)
  have hst0 : StepRow W0 a n ks ats ws := hst.chg ((H0.tr hC2).tr hCW)
  have hlt := hp.lt
  have hnow : OnceNow W0 b ba bm bs w2.heap.size (w2.heap.size + 1) sets ways slots (St.new sets ways slots delay seed) [] [] W0 :=
    ⟨good_wf HH.out, rfl, rfl, by simp [St.new], hp.chg hCW (by simp), hT, hP, new_tells _ _ _ _ _, Chg.refl _ _⟩
  have H2 : Chg [] w W0 := (H0.tr hC2).tr hCW
  have hw1 : w.heap.size < w1.heap.size := by have := hC1.size; simp at this; omega
  have hap := hp.apart
  have HN := Lib.hid hnow
  have HS := Lib.hid hst0
  have HGL : Hid (∀ g o, a = some ⟨g, o, none⟩ → 0 < n → g < w.heap.size) := fun g o ha hn0 => by
    obtain ⟨g', o', e, q, _⟩ := hst.cells 0 hn0
    rw [ha] at e
    simp only [Option.some.injEq, Addr.mk.injEq, and_true] at e
    rw [e.1]
    exact World.block_lt_of_cell? _ _ q
  have HRow := Lib.hid hrow
  have hgn : w.heap.size ∉ [b, ba, bm, bs, w2.heap.size, w2.heap.size + 1] := fun hm => by
    have z2 := hC2.size
    simp only [List.mem_cons, List.not_mem_nil, or_false] at hm; rcases hm with h | h | h | h | h | h; all_goals (first | omega | (have := hg w.heap.size (by simp [h]); omega))
  have hl6 : ∀ y ∈ [b, ba, bm, bs, w2.heap.size, w2.heap.size + 1], y < W0.heap.size := fun y hm => by
    simp only [List.mem_cons, List.not_mem_nil, or_false] at hm; rcases hm with h | h | h | h | h | h; all_goals (first | omega | (have := hlt y (by simp [h]); omega))
  have hnd : [b, ba, bm, bs, w2.heap.size, w2.heap.size + 1].Nodup := by
    have h1 := hlt b (by simp)
    have h2 := hlt ba (by simp)
    have h3 := hlt bm (by simp)
    have h4 := hlt bs (by simp)
    simp only [List.nodup_cons, List.mem_cons, List.not_mem_nil, or_false, not_or, not_false_eq_true, List.nodup_nil, and_true] at hap ⊢
    omega
  have hz2 := hC2.size
  clear hW0 hCW hT hP hst hp hnow hrow hst0 hap hb hb1 c0 c1 c2 c3 c4 hC1 hC2 H0 k3
  go_wp2
  go_loopw [8] (fun i wr => OnceRel W0 b ba bm bs w2.heap.size (w2.heap.size + 1) sets ways slots n i wr) (fun i _ => n - (intOf i).toNat)
  case atStart => exact ⟨0, _, [], [], Nat.zero_le _, rfl, HN.out⟩
  case round =>
    obtain ⟨k, σ, th, pe, hk, rfl, hnow⟩ := hrel
    have hwz := hnow.chg.size
    have hxn : wr.heap.size ∉ [b, ba, bm, bs, w2.heap.size, w2.heap.size + 1] := fun hm => by have := hl6 _ hm; omega
    by_cases hkn : k < n
    · obtain ⟨g, o, rfl, q0, q1, q2⟩ := HS.out.cells k hkn
      have hok := HS.out.ok k hkn
      have hgl := HGL.out g o rfl (by omega)
      have hst9 : g ∉ [b, ba, bm, bs, w2.heap.size, w2.heap.size + 1] := fun hm => by simp only [List.mem_cons, List.not_mem_nil, or_false] at hm; rcases hm with h | h | h | h | h | h; all_goals (first | omega | (have := hg g (by simp [h]); omega))
      have q0 := hnow.chg.keep q0 hst9
      have q1 := hnow.chg.keep q1 hst9
      have q2 := hnow.chg.keep q2 hst9
      generalize ats k = at_ at q1 hok
      generalize ws k = wri at q2
      generalize ks k = kind at q0
      have HNow := Lib.hid hnow
      clear hnow
      go_upto_region 13 with fail
      refine wp_name fun W1 hW1 => ?_
      have htop := topBit_ge hok.1 hok.2
      have hX : Row W1 wr.heap.size 32 3 [.int .i64 kind, .int .u64 (topBit at_), .bool wri] := by
        rw [hW1]; exact Row.new wr #[.int .i64 kind, .int .u64 (topBit at_), .bool wri] 32
      have hCX : Chg [] wr W1 := by rw [hW1]; exact (Chg.refl [] wr).alloc _
      clear hW1
      change 9223372036854775808 ≤ topBit at_ ∧ _ at htop
      generalize hbt : bits BinOp.or IntKind.u64 at_ 9223372036854775808 = tp
      have hbt' : topBit at_ = tp := hbt
      rw [hbt'] at hX htop
      have hNow1 := HNow.out.new hCX
      have HNow1 := Lib.hid hNow1
      clear hbt hbt' hok hNow1 HNow q0 q1 q2
      have x0 := hX.cell (j := 0) rfl
      have x1 := hX.cell (j := 1) rfl
      have x2 := hX.cell (j := 2) rfl
      have hline := bits_line (x := tp) (by omega) htop.2
      obtain ⟨L, hL⟩ : ∃ L, L = tp / 64 * 64 := ⟨_, rfl⟩
      rw [← hL] at hline
      have HL := Lib.hid hL
      have hLok : okLine L := ⟨by omega, by omega⟩
      have htok : okLine tp := ⟨by omega, by omega⟩
      have htp := Lib.hid htop.1
      clear hL htop
      go_upto_if 62 with fail
      go_cut [11] from 61 to 62 (fun s w' => s = .int .i64 (mark wri) ∧ w' = W1)
      case first =>
        cases wri
        all_goals
          go_wp2
          go_meet
          case rel => exact ⟨rfl, rfl⟩
      case rest =>
        obtain ⟨rfl, rfl⟩ := hcut
        go_upto_block 2 with fail
        go_cut [] from 65 to 247 (fun w' => ∃ σ th pe, OnceNow W0 b ba bm bs w2.heap.size (w2.heap.size + 1) sets ways slots σ th pe w')
        case first =>
          rename_i J K' hJ hK
          have E : SwEnv W0 wc w.heap.size b ba bm bs w2.heap.size (w2.heap.size + 1) wr.heap.size sets ways slots delay seed L tp kind wri σ th pe := by
            refine ⟨HNow1.out, hX, HRow.out.chg HNow1.out.chg hgn, hxn, hgn, hnd, hl6, HL.out, htp.out, htok.2⟩
          refine wp_mono (sw_all E _ _ _ _ _ _ _ _ _ _ _ _ _ _ _ _ _ _ _ _ _ _ _ _ _ _ _ _ _ _ _ _ _ _ _ _ _ _ _ _ _ _ _ _ _ _ _ _ _ _ _ _ _ _ _ _ _ _ _ _ _ _ _ _ _ _ _ _ _ _ _ _ _ _ _ _ _ _ _ _ _ _ _ _ _ _ _ _ _ _ _ _ _ _ _ _ _ _ _ _ _ _ _ _ _ _ _ _ _ _ _ _ _ _ _ _ _ _ _ _ _ _ _ _ _ _ _ _ _ _ _ _ _ _ _ _ _ _ _ _ _ _ _ _ _ _ _ _ _ _ _ _ _ _ _ _ _ _ _ _ _ _ _ _ _ _ _ _ _ _ _ _ _ _ _ _ _ _ _ _ _ _ _ _ _ _ _ _ _ _ _ _ _ _ _ _ _ _ _ _ _ _ _ _ _ _ _ _ _ _ _ _ _ _ _ _ _ _ _ _ _ _ _ _ _ _ _ _ _ _ _ _ _ _ _ _ _ _ _ _ _ _ _ _ _ _ _ _ _ _ _ _ _ _ _ _ _ _ _ _ _ _ _ _ _ _ _ _ _ _ _ _ _ _ _ _ _ _ _ _ _ _ _ _ _ _ _ _ _ _ _ _ _ _ _ _ _ _ _ _ _ _ _ _ _ _ _ _ _ _ _ _ _ _ _ _ _ _ _ _) ?_
          intro e a' w' hq
          cases e with
          | normal => exact hK _ _ (Met.intro (hJ _ _ hq))
          | exit _ => exact hq.elim
          | goto _ => exact hq.elim
          | ret => exact hq.elim
          | panic _ => exact hq.elim
          | outgrown => exact hq.elim
        case rest =>
          obtain ⟨σ', th', pe', hnow'⟩ := hcut
          have hG := HRow.out.chg hnow'.chg hgn
          have y0 := hG.cell (j := 0) rfl
          have y1 := hG.cell (j := 1) rfl
          have n1 := fun ty => hnow'.mth.count ty
          have hle : th'.length ≤ sets * ways := by rw [← hnow'.sets, ← hnow'.ways]; exact hnow'.tells.len_th hnow'.wf.toWP hnow'.mth.nodup
          have hpe := hnow'.tells.len_pe hnow'.wf hnow'.mpe.nodup
          obtain ⟨N, hN⟩ : ∃ N, sets * ways = N := ⟨_, rfl⟩
          rw [hN] at hle
          have hN1 : N ≤ 512 := by rw [← hN, ← hnow'.sets, ← hnow'.ways]; exact Nat.mul_le_mul hnow'.wf.sets2 hnow'.wf.ways2
          have e1 : wrap64 ((sets : Int) * ways) = N := by rw [← Int.natCast_mul, hN]; unfold wrap64; omega
          have hU := under_any hnow'.rep hnow'.wf
          rw [← hpe] at hU
          have HU := Lib.hid hU
          have HN' := Lib.hid hnow'
          clear hU hpe hN hnow' hG
          go_wp2_with fail
          refine HU.out.mono ?_
          rintro e w5 ⟨rfl, c5⟩
          have hnow5 := HN'.out.new c5
          have n2 := fun ty => hnow5.mpe.count ty
          have HR : Hid (OnceRel W0 b ba bm bs w2.heap.size (w2.heap.size + 1) sets ways slots n (.int .i64 ((k : Int) + 1)) w5) := ⟨k + 1, σ', th', pe', by omega, by go_num, hnow5⟩
          have hdec : decide (N < th'.length) = false := by simp; omega
          clear hnow5 c5 HU HN' n1
          go_wp2
          go_roundw
          case rel => exact HR.out
          case measure => simp [intOf]; omega
    · obtain rfl : k = n := by omega
      have hnd' := hnd
      simp only [List.nodup_cons, List.mem_cons, List.not_mem_nil, or_false, not_or] at hnd'
      have HND := Lib.hid hnd'
      clear hnd'
      go_wp2_with fail
      refine (flush_any hnow.rep hnow.wf.toWP hnow.wf.sl1).mono ?_
      rintro e w8 ⟨x8, rfl, o8, p8, c8⟩
      have m8 : MapI w8 w2.heap.size th := hnow.mth.chg c8 (by have := HND.out; simp only [List.mem_cons, List.not_mem_nil, or_false, not_or]; omega)
      have C8 : Chg [b, ba, bm, bs, w2.heap.size, w2.heap.size + 1] W0 w8 := hnow.chg.trans c8 (fun y hy => .inl (by simp only [List.mem_cons, List.not_mem_nil, or_false] at hy ⊢; omega))
      have hsl := sorted_length σ.dirty
      have hdl : σ.dirty.length ≤ 512 := by
        have := dirtyTo_len σ σ.pl.length
        rw [dirtyTo_all] at this
        have := hnow.wf.toWP.len2
        omega
      have HSeen : Hid (∀ (j : Nat) y, (sorted σ.dirty)[j]? = some y → asc (struck th ((sorted σ.dirty).take j)) y = some 2 ∧ okLine y ∧ ∀ u, 1 ≤ j → (sorted σ.dirty)[j - 1]? = some u → u < y) := fun j y h => out_seen hnow.tells hnow.wf.toWP h
      have HNone : Hid (∀ y, asc (struck th (sorted σ.dirty)) y ≠ some 2) := fun y => struck_none hnow.tells y
      have hwc := hnow.wf.cleared
      have hch := clear_has σ
      have hcu := clear_under σ
      generalize sorted σ.dirty = zs at o8 hsl HSeen HNone
      generalize σ.dirty.length = N at o8 hsl hdl
      generalize σ.clear = τ at p8 hwc hch hcu
      have HCH := Lib.hid hch
      have HCU := Lib.hid hcu
      have HO := Lib.hid o8
      have HSL := Lib.hid hsl
      have HP := Lib.hid (And.intro p8 hwc)
      have hz8 := c8.size
      clear hsl o8 c8 hnow hch hcu p8 hwc
      go_upto_block 6 with fail
      go_cut [] from 265 to 298 (fun w' => MapI w' w2.heap.size (struck th zs) ∧ Chg [w2.heap.size] w8 w')
      case first =>
        by_cases hN0 : N = 0
        · subst hN0
          obtain ⟨pp, cc, rfl⟩ := owns_none HO.out
          have hz0 : zs = [] := List.eq_nil_of_length_eq_zero HSL.out
          have HR : Hid (MapI w8 w2.heap.size (struck th zs) ∧ Chg [w2.heap.size] w8 w8) := ⟨by rw [hz0]; exact m8, Chg.refl _ _⟩
          clear hz0 m8 C8 HO HSL HSeen HNone
          go_wp2
          refine wp_loop_rounds 1 ?_
          rw [rounds_succ]
          go_wp2
          go_meet
          case rel => exact HR.out
        · obtain ⟨g4, k4, rfl, hg4, q40⟩ := owns_more HO.out (by omega)
          have hg6 : g4 ∉ [w2.heap.size] := fun hm => by have := hl6 w2.heap.size (by simp); simp only [List.mem_singleton] at hm; omega
          have HQ := Lib.hid q40
          have HM := Lib.hid m8
          clear q40 m8 C8 HO HNone
          go_wp2
          go_loopw [18] (fun i w' => ∃ j : Nat, j ≤ N ∧ i = .int .i64 j ∧ MapI w' w2.heap.size (struck th (zs.take j)) ∧ Chg [w2.heap.size] w8 w') (fun i _ => N - (intOf i).toNat)
          case atStart => exact ⟨0, Nat.zero_le _, rfl, HM.out, Chg.refl _ _⟩
          case round =>
            obtain ⟨j, hj, rfl, mj, cj⟩ := hrel
            by_cases hjN : j < N
            · obtain ⟨y, hy⟩ : ∃ y, zs[j]? = some y := ⟨_, List.getElem?_eq_getElem (by have := HSL.out; omega)⟩
              obtain ⟨hy2, hyok, hylt⟩ := HSeen.out j y hy
              have hrow := HQ.out.chg cj hg6
              have r0 := hrow.cell (j := j) (v := .int .u64 y) (by simp [encs, hy])
              have hstep : struck th (zs.take (j + 1)) = upd (struck th (zs.take j)) y 1 := by
                rw [List.take_add_one, hy]; unfold struck; rw [List.foldl_append]; rfl
              have HStep := Lib.hid hstep
              have HY := Lib.hid hy
              have lo := fun z : Ext _ => (mj.chg z.chg (by simp)).look_some hyok hy2
              have xa := Ext.cell r0
              clear hstep hy
              have HL2 := Lib.hid hylt
              clear hylt r0
              by_cases hj0 : j = 0
              · subst hj0
                go_wp2
                refine wp_region_ext (by kernel_rfl) (by kernel_rfl) ?_
                repeat (go_big_quiet_step (fail))
                refine wpQuiet_nil ?_
                intro _ hw'
                obtain ⟨z, hw''⟩ := hw'
                subst hw''
                have xz := xa z
                obtain ⟨w9, hrun, m9, c9⟩ := (mj.chg z.chg (by simp)).store hyok 1
                have C9 : Chg [w2.heap.size] w8 w9 := (cj.trans z.chg (by simp)).trans c9 (by simp)
                clear lo xa mj cj c9
                go_wp2
                go_roundw
                case rel => exact ⟨0 + 1, by omega, by go_num, by rw [HStep.out]; exact m9, C9⟩
                case measure => simp [intOf]; omega
              · obtain ⟨m, rfl⟩ : ∃ m, j = m + 1 := ⟨j - 1, by omega⟩
                obtain ⟨u, hu⟩ : ∃ u, zs[m]? = some u := ⟨_, List.getElem?_eq_getElem (by have := HSL.out; omega)⟩
                have hlt2 := HL2.out u (by omega) (by simpa using hu)
                have xb := Ext.cell (hrow.cell (j := m) (v := .int .u64 u) (by simp [encs, hu]))
                have HU := Lib.hid hu
                have hdec : decide (y ≤ u) = false := by simp; omega
                have hj1 : IntKind.i64.wrap (((m + 1 : Nat) : Int) - 1) = (m : Int) := by rw [IntKind.wrap_i64]; omega
                clear hu hrow
                go_wp2
                refine wp_region_ext (by kernel_rfl) (by kernel_rfl) ?_
                repeat (go_big_quiet_step (fail))
                refine wpQuiet_nil ?_
                intro _ hw'
                obtain ⟨z, hw''⟩ := hw'
                subst hw''
                have xz := xa z
                obtain ⟨w9, hrun, m9, c9⟩ := (mj.chg z.chg (by simp)).store hyok 1
                have C9 : Chg [w2.heap.size] w8 w9 := (cj.trans z.chg (by simp)).trans c9 (by simp)
                clear lo xa xb mj cj c9 hj1
                go_wp2
                go_roundw
                case rel => exact ⟨m + 1 + 1, by omega, by go_num, by rw [HStep.out]; exact m9, C9⟩
                case measure => simp [intOf]; omega
            · obtain rfl : j = N := by omega
              have hall : zs.take j = zs := List.take_of_length_le (by have := HSL.out; omega)
              rw [hall] at mj
              have HR := Lib.hid (And.intro mj cj)
              clear mj cj hall
              go_wp2
              go_meet
              case rel => exact HR.out
      case rest =>
        obtain ⟨mc, cc⟩ := hcut
        have CC : Chg [b, ba, bm, bs, w2.heap.size, w2.heap.size + 1] W0 wc := C8.trans cc (by simp)
        have pc : RepP wc b ba bm bs τ := HP.out.1.chg cc (by have := HND.out; simp only [List.mem_cons, List.not_mem_nil, or_false]; omega)
        have HPC := Lib.hid pc
        have HMC := Lib.hid mc
        have HCC := Lib.hid CC
        clear mc cc CC pc C8 m8
        go_wp2
        go_loopw [19] (fun i w' => ∃ j : Nat, j ≤ k ∧ i = .int .i64 j ∧ Chg [] wc w') (fun i _ => k - (intOf i).toNat)
        case atStart => exact ⟨0, Nat.zero_le _, rfl, Chg.refl _ _⟩
        case round =>
          obtain ⟨j, hj, rfl, cj⟩ := hrel
          by_cases hjn : j < k
          · obtain ⟨g, o, rfl, q0, q1, q2⟩ := HS.out.cells j hjn
            have hok := HS.out.ok j hjn
            have hgl := HGL.out g o rfl (by omega)
            have hst9 : g ∉ [b, ba, bm, bs, w2.heap.size, w2.heap.size + 1] := fun hm => by simp only [List.mem_cons, List.not_mem_nil, or_false] at hm; rcases hm with h | h | h | h | h | h; all_goals (first | omega | (have := hg g (by simp [h]); omega))
            have q1 := (HCC.out.trans cj (by simp)).keep q1 hst9
            generalize ats j = at_ at q1 hok
            have htop := topBit_ge hok.1 hok.2
            obtain ⟨tp, htp⟩ : ∃ tp, tp = topBit at_ := ⟨_, rfl⟩
            have hor : bits BinOp.or IntKind.u64 at_ 9223372036854775808 = tp := by rw [htp]; rfl
            rw [← htp] at htop
            have hand := bits_line (x := tp) (by omega) htop.2
            obtain ⟨L, hL⟩ : ∃ L, L = tp / 64 * 64 := ⟨_, rfl⟩
            rw [← hL] at hand
            have hLok : okLine L := ⟨by omega, by omega⟩
            have mw := HMC.out.chg cj (by simp)
            obtain ⟨v, hv⟩ : ∃ v, v = (asc (struck th zs) L).getD 0 := ⟨_, rfl⟩
            have hv2 : (v == 2) = false := by
              have := HNone.out L
              cases hc : asc (struck th zs) L with
              | none => rw [hv, hc]; rfl
              | some v' => rw [hc] at this; rw [hv, hc]; simp at this ⊢; exact this
            have hC13 := has_any (HPC.out.chg cj (by simp)) HP.out.2.toWP hLok
            rw [HCH.out] at hC13
            have H13 := Lib.hid hC13
            have HV := Lib.hid hv
            have HMW := Lib.hid mw
            clear q0 q2 hC13 htp hL htop hok hv mw
            go_wp2_with fail
            refine H13.out.mono ?_
            rintro e w10 ⟨rfl, c10⟩
            have lo := (HMW.out.chg c10 (by simp)).look hLok
            rw [← HV.out] at lo
            have C10 := cj.tr c10
            clear H13 cj c10 hor hand q1
            go_wp2
            go_roundw
            case rel => exact ⟨j + 1, by omega, by go_num, C10⟩
            case measure => simp [intOf]; omega
          · obtain rfl : j = k := by omega
            have hCU := under_any (HPC.out.chg cj (by simp)) HP.out.2
            rw [HCU.out] at hCU
            have H15 := Lib.hid hCU
            clear hCU
            go_wp2_with fail
            refine H15.out.mono ?_
            rintro e w10 ⟨rfl, c10⟩
            have HEnd : Hid (Chg [] w w10) := ((H2.trans HCC.out (fun y hy => .inr (by simp only [List.mem_cons, List.not_mem_nil, or_false] at hy; rcases hy with h | h | h | h | h | h; all_goals (first | omega | (have := hg y (by simp [h]); omega))))).tr cj).tr c10
            clear cj c10 H15
            go_wp2
            go_ret
            exact ⟨rfl, HEnd.out⟩

end Go.Proofs.Ytmagpdbnefbfkaa
