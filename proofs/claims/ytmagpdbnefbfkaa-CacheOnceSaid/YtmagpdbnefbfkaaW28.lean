/- CacheOnce's switch: Tick. -/
import Derived.Test.YtmagpdbnefbfkaaW25
namespace Go.Proofs.Ytmagpdbnefbfkaa
open Go Go.RowKit

set_option maxRecDepth 1000000 in
set_option maxHeartbeats 8000000 in
theorem sw_tick {W0 W : World} {g b ba bm bs t p x sets ways slots delay : Nat} {seed L tp kind : Int} {wri : Bool} {σ : St} {th pe : List (Int × Int)} (E : SwEnv W0 W g b ba bm bs t p x sets ways slots delay seed L tp kind wri σ th pe) (hk : kind = 1) (c0 c1 c3 c4 c8 c12 c13 c14 c15 c16 c17 c18 c19 c20 c21 c22 c23 c24 c25 c26 c27 c28 c29 c30 c31 c32 c33 c34 c35 c36 c37 c38 c39 c40 c41 c42 c43 c44 c45 c46 c47 c48 c49 c50 c51 c52 c53 c54 c55 c56 c57 c58 c59 c60 c61 c62 c63 c65 c66 c67 c68 c69 c70 c71 c72 c73 c74 c75 c76 c77 c78 c79 c80 c81 c82 c83 c84 c85 c86 c87 c88 c89 c90 c91 c92 c93 c94 c95 c96 c97 c98 c99 c100 c101 c102 c103 c104 c105 c106 c107 c108 c109 c110 c111 c112 c113 c114 c115 c116 c117 c118 c119 c120 c121 c122 c123 c124 c125 c126 c127 c128 c129 c130 c131 c132 c133 c134 c135 c136 c137 c138 c139 c140 c141 c142 c143 c144 c145 c146 c147 c148 c149 c150 c151 c152 c153 c154 c155 c156 c157 c158 c159 c160 c161 c162 c163 c164 c165 c166 c167 c168 c169 c170 c171 c172 c173 c174 c175 c176 c177 c178 c179 c180 c181 c182 c183 c184 c185 c186 c187 c188 c189 c190 c191 c192 c193 c194 c195 c196 c197 c198 c199 c200 c201 c202 c203 c204 c205 c206 c207 c208 c209 c210 c211 c212 c213 c214 c215 c216 c217 c218 c219 c220 c221 c222 c223 c224 c225 c226 c227 c228 c229 c230 c231 c232 c233 c234 c235 c236 c237 c238 c239 c240 c241 c242 c243 c244 c245 c246 c247 c248 c249 c250 c251 c252 c253 c254 c255 c256 c257 c258 c259 c260 c261 c262 c263 c264 c265 c266 c267 c268 c269 c270 c271 c272 c273 c274 c275 c276 c277 c278 c279 c280 c281 c282 c283 c284 c285 c286 c287 c288 c289 c290 c291 c292 c293 c294 c295 c296 c297 c298 c299 c300 c301 c302 c303 c304 c305 c306 c307 c308 c309 c310 c311 c312 c313 c314 c315 c316 c317 c318 c319 c320 c321 c322 c323 c324 c325 c326 c327 : Value) :
    Code.wp Try.prog swCode (SwEnd (SwPost (fun w' => ∃ σ th pe, OnceNow W0 b ba bm bs t p sets ways slots σ th pe w') g b t p x L kind wri c0 c1 c3 c8 c17 c18 c19 c20 c21 c22 c23 c24 c25 c26 c27 c28 c29 c30 c31 c32 c33 c34 c35 c36 c37 c38 c39 c40 c41 c42 c43 c44 c45 c46 c47 c48 c49 c50 c51 c52 c53 c54 c55 c56 c57 c58 c59 c60 c61 c62 c63 c248 c249 c250 c251 c252 c253 c254 c255 c256 c257 c258 c259 c260 c261 c262 c263 c264 c265 c266 c267 c268 c269 c270 c271 c272 c273 c274 c275 c276 c277 c278 c279 c280 c281 c282 c283 c284 c285 c286 c287 c288 c289 c290 c291 c292 c293 c294 c295 c296 c297 c298 c299 c300 c301 c302 c303 c304 c305 c306 c307 c308 c309 c310 c311 c312 c313 c314 c315 c316 c317 c318 c319 c320 c321 c322 c323 c324 c325 c326 c327)) (swAct g b t p x L kind wri c0 c1 c3 c4 c8 c12 c13 c14 c15 c16 c17 c18 c19 c20 c21 c22 c23 c24 c25 c26 c27 c28 c29 c30 c31 c32 c33 c34 c35 c36 c37 c38 c39 c40 c41 c42 c43 c44 c45 c46 c47 c48 c49 c50 c51 c52 c53 c54 c55 c56 c57 c58 c59 c60 c61 c62 c63 c65 c66 c67 c68 c69 c70 c71 c72 c73 c74 c75 c76 c77 c78 c79 c80 c81 c82 c83 c84 c85 c86 c87 c88 c89 c90 c91 c92 c93 c94 c95 c96 c97 c98 c99 c100 c101 c102 c103 c104 c105 c106 c107 c108 c109 c110 c111 c112 c113 c114 c115 c116 c117 c118 c119 c120 c121 c122 c123 c124 c125 c126 c127 c128 c129 c130 c131 c132 c133 c134 c135 c136 c137 c138 c139 c140 c141 c142 c143 c144 c145 c146 c147 c148 c149 c150 c151 c152 c153 c154 c155 c156 c157 c158 c159 c160 c161 c162 c163 c164 c165 c166 c167 c168 c169 c170 c171 c172 c173 c174 c175 c176 c177 c178 c179 c180 c181 c182 c183 c184 c185 c186 c187 c188 c189 c190 c191 c192 c193 c194 c195 c196 c197 c198 c199 c200 c201 c202 c203 c204 c205 c206 c207 c208 c209 c210 c211 c212 c213 c214 c215 c216 c217 c218 c219 c220 c221 c222 c223 c224 c225 c226 c227 c228 c229 c230 c231 c232 c233 c234 c235 c236 c237 c238 c239 c240 c241 c242 c243 c244 c245 c246 c247 c248 c249 c250 c251 c252 c253 c254 c255 c256 c257 c258 c259 c260 c261 c262 c263 c264 c265 c266 c267 c268 c269 c270 c271 c272 c273 c274 c275 c276 c277 c278 c279 c280 c281 c282 c283 c284 c285 c286 c287 c288 c289 c290 c291 c292 c293 c294 c295 c296 c297 c298 c299 c300 c301 c302 c303 c304 c305 c306 c307 c308 c309 c310 c311 c312 c313 c314 c315 c316 c317 c318 c319 c320 c321 c322 c323 c324 c325 c326 c327) W := by
  unfold swAct SwEnd
  conv => arg 2; whnf
  have hnow := E.now
  have hX := E.row
  have x0 := hX.cell (j := 0) rfl
  have HE := Lib.hid E
  subst hk
  clear E
  go_wp2_with fail
  refine (tick_any hnow.rep hnow.wf).mono ?_
  rintro e w4 ⟨x4, rfl, o4, p4, c4⟩
  obtain ⟨hT, hR⟩ := tick_seen hnow.tells hnow.wf
  have hwf := hnow.wf.tick
  have hkeep : σ.tick.1.sets = σ.sets ∧ σ.tick.1.ways = σ.ways ∧ σ.tick.1.sl.length = σ.sl.length := by
    have := tickTo_keeps σ σ.sl.length
    exact ⟨this.2.1, this.2.2.1, this.1⟩
  have ht8 : σ.tick.2.length ≤ 8 := by
    have := (tickTo_keeps σ σ.sl.length).2.2.2.2.1
    have h8 := hnow.wf.sl2
    unfold St.tick
    omega
  have hsz4 := c4.size
  have hlt := HE.out.lt
  have hWz := hnow.chg.size
  have hnd := HE.out.nd
  simp only [List.nodup_cons, List.mem_cons, List.not_mem_nil, or_false, not_or] at hnd
  have m4 : MapI w4 t th := hnow.mth.chg c4 (by simp only [List.mem_cons, List.not_mem_nil, or_false, not_or]; omega)
  have q4 : MapI w4 p pe := hnow.mpe.chg c4 (by simp only [List.mem_cons, List.not_mem_nil, or_false, not_or]; omega)
  have C4 : Chg [b, ba, bm, bs, t, p] W0 w4 := hnow.chg.trans c4 (fun y hy => .inl (by simp only [List.mem_cons, List.not_mem_nil, or_false] at hy ⊢; omega))
  have hG := (HE.out.top.chg c4 (fun hm => HE.out.gn (by simp only [List.mem_cons, List.not_mem_nil, or_false] at hm ⊢; omega)))
  have hrs := hnow.sets
  have hs1 := hnow.wf.sets1
  have hs2 := hnow.wf.sets2
  rw [hrs] at hR hs1 hs2
  have HK := Lib.hid (And.intro (hkeep.1.trans hnow.sets) (And.intro (hkeep.2.1.trans hnow.ways) (hkeep.2.2.trans hnow.slots)))
  have HRd := Lib.hid hR
  have HND := Lib.hid hnd
  have HO := Lib.hid o4
  generalize hds : σ.tick.2 = ds at *
  generalize hN : ds.length = N at *
  have HNN := Lib.hid hN
  clear hN hds hR hkeep hrs hnd o4 c4 hX x0
  by_cases hN0 : N = 0
  · subst hN0
    obtain ⟨pp, cc, rfl⟩ := owns_none HO.out
    have hd0 : ds = [] := List.eq_nil_of_length_eq_zero HNN.out
    have HR : Hid (∃ σ th pe, OnceNow W0 b ba bm bs t p sets ways slots σ th pe w4) :=
      ⟨_, _, _, hwf, HK.out.1, HK.out.2.1, HK.out.2.2, p4, m4, q4, by rw [hd0] at hT; exact hT, C4⟩
    clear hT hwf HK HRd HO HNN hd0 p4 m4 q4 C4 hG hnow HE
    go_wp2
    refine wp_loop_rounds 1 ?_
    rw [rounds_succ]
    go_wp2
    unfold SwPost
    repeat apply Exists.intro
    exact ⟨HR.out, rfl⟩
  · obtain ⟨g4, k4, rfl, hg4, q40⟩ := owns_more HO.out (by omega)
    have HQ := Lib.hid q40
    have hg6 : g4 ∉ [t, p] := fun hm => by have h1 := hlt t (by simp); have h2 := hlt p (by simp); simp only [List.mem_cons, List.not_mem_nil, or_false] at hm; omega
    have hg7 : g ∉ [t, p] := fun hm => HE.out.gn (by simp only [List.mem_cons, List.not_mem_nil, or_false] at hm ⊢; omega)
    have HM := Lib.hid (And.intro m4 q4)
    have HG := Lib.hid hG
    have HF : ∀ w', MapI w' t (ds.foldl oneRound (th, pe)).1 → MapI w' p (ds.foldl oneRound (th, pe)).2 → Chg [t, p] w4 w' → Hid (∃ σ th pe, OnceNow W0 b ba bm bs t p sets ways slots σ th pe w') := fun w' m q c =>
      ⟨_, _, _, hwf, HK.out.1, HK.out.2.1, HK.out.2.2, p4.chg c (by have := HND.out; intro y hy hm; simp only [List.mem_cons, List.not_mem_nil, or_false] at hy hm; omega), m, q, hT, C4.trans c (fun y hy => .inl (by simp only [List.mem_cons, List.not_mem_nil, or_false] at hy ⊢; omega))⟩
    have HFF := Lib.hid HF
    clear hT hwf HK HO p4 m4 q4 C4 hG hnow q40 HF
    go_wp2
    go_loopw [14] (fun i w' => ∃ j : Nat, j ≤ N ∧ i = .int .i64 j ∧ MapI w' t ((ds.take j).foldl oneRound (th, pe)).1 ∧ MapI w' p ((ds.take j).foldl oneRound (th, pe)).2 ∧ Chg [t, p] w4 w') (fun i _ => N - (intOf i).toNat)
    case atStart => exact ⟨0, Nat.zero_le _, rfl, HM.out.1, HM.out.2, Chg.refl _ _⟩
    case round =>
      obtain ⟨j, hj, rfl, mj, qj, cj⟩ := hrel
      by_cases hjN : j < N
      · obtain ⟨d, hd⟩ : ∃ d, ds[j]? = some d := ⟨_, List.getElem?_eq_getElem (by have := HNN.out; omega)⟩
        have hok := HRd.out j d hd
        have hfold : (ds.take (j + 1)).foldl oneRound (th, pe) = oneRound ((ds.take j).foldl oneRound (th, pe)) d := by
          rw [List.take_add_one, hd, List.foldl_append]; rfl
        generalize (ds.take j).foldl oneRound (th, pe) = z at mj qj hok hfold
        obtain ⟨zt, zp⟩ := z
        have HFold := Lib.hid hfold
        have HD := Lib.hid hd
        obtain ⟨r0, r1, r2⟩ := (HQ.out.chg cj hg6).dn hd
        obtain ⟨⟨v1, hv1, hv2, hv3⟩, ha2, hout, okA, okO⟩ := hok
        dsimp only at mj qj hv1 ha2 hout
        have l1 := qj.look_some okA hv1
        have l2 := mj.look_none okA ha2
        clear hfold hd
        rcases hout with ⟨ho, hwr⟩ | ⟨ho, ⟨v, hv, hva, hvb, hwr⟩, hset⟩
        · have HFold2 : Hid ((ds.take (j + 1)).foldl oneRound (th, pe) = (upd zt d.at_ v1, del zp d.at_)) := by
            show _ = _
            rw [HFold.out]; unfold oneRound; dsimp only; rw [if_pos ho, hv1]; rfl
          rw [ho] at r1
          rw [hwr] at r2
          clear ho hwr
          go_upto_region 48 with fail
          have m5 := mj
          have q5 := qj
          have C5 := cj
          clear mj qj cj l1 l2 r0 r1 r2

          obtain ⟨d5, _, _⟩ := (HQ.out.chg C5 hg6).dn HD.out
          have xa := Ext.cell d5
          have lq := fun y : Ext wr => (q5.chg y.chg (by simp)).look_some okA hv1
          clear d5
          refine wp_region_ext_tail 13 (by kernel_rfl) (by kernel_rfl) ?_
          simp only [List.take_succ_cons, List.take_zero, List.drop_succ_cons, List.drop_zero]
          repeat (go_big_quiet_step (fail))
          refine wpQuiet_nil ?_
          intro _ hw'
          obtain ⟨y, hw''⟩ := hw'
          subst hw''
          clear xa lq
          obtain ⟨w6, hrun, m6, c6⟩ := (m5.chg y.chg (by simp)).store okA v1
          have q6 := (q5.chg y.chg (by simp)).chg c6 (by have := HND.out; simp only [List.mem_singleton]; omega)
          have C6 : Chg [t, p] w4 w6 := (C5.trans y.chg (by simp)).trans c6 (by simp)
          obtain ⟨d6, _, _⟩ := (HQ.out.chg C6 hg6).dn HD.out
          obtain ⟨w7, hdrop, q7, c7⟩ := q6.drop okA 0
          have m7 := m6.chg c7 (by have := HND.out; simp only [List.mem_singleton]; omega)
          have C7 : Chg [t, p] w4 w7 := C6.trans c7 (by simp)
          clear m5 q5 m6 q6 C5 C6 c6 c7
          go_wp2
          go_roundw
          case rel => exact ⟨j + 1, by omega, by go_num, by rw [HFold2.out]; exact m7, by rw [HFold2.out]; exact q7, C7⟩
          case measure => simp [intOf]; omega

        · have HFold2 : Hid ((ds.take (j + 1)).foldl oneRound (th, pe) = (upd (del zt d.out) d.at_ v1, del zp d.at_)) := by
            show _ = _
            rw [HFold.out]; unfold oneRound; dsimp only; rw [if_neg ho, hv1]; rfl
          have lo := fun y : Ext wr => (mj.chg y.chg (by simp)).look_some okO hv
          have xa := Ext.cell r0
          have xo := Ext.cell r1
          have xw := Ext.cell r2
          have xg := Ext.cell ((HG.out.chg cj hg7).cell (j := 0) rfl)
          have e1 : IntKind.u64.wrap (d.out.tdiv 64) = d.out / 64 := line_wrap okO
          have e2 : IntKind.u64.wrap (d.at_.tdiv 64) = d.at_ / 64 := line_wrap okA
          have e3 : IntKind.u64.wrap (sets : Int) = sets := by rw [IntKind.wrap_u64]; omega
          have hv12 : v = 1 ∨ v = 2 := by omega
          have hS1 : (1 : Int) ≤ sets := by omega
          have hS2 : (sets : Int) ≤ 64 := by omega
          have HV := Lib.hid hv
          have HSet := Lib.hid hset
          have HA := Lib.hid (And.intro ha2 hv1)
          clear hset hv ha2 hv1
          go_upto_region 43 with fail
          clear l1 l2
          refine wp_region_ext (by kernel_rfl) (by kernel_rfl) ?_
          have hM0 : 0 ≤ d.out / 64 ∧ 0 ≤ d.at_ / 64 := ⟨by have := okO.1; omega, by have := okA.1; omega⟩
          have hb : d.wr = true ∨ d.wr = false := by cases d.wr <;> simp
          have HV12 : Hid ((v = 2 → d.wr = true) ∧ (v = 1 → d.wr = false)) := ⟨fun h => by rw [hwr, h]; rfl, fun h => by rw [hwr, h]; rfl⟩
          clear hwr hb
          rcases hv12 with rfl | rfl
          all_goals
            first
              | (have hwr' := HV12.out.1 rfl; rw [hwr'] at xw; clear hwr')
              | (have hwr' := HV12.out.2 rfl; rw [hwr'] at xw; clear hwr')
            repeat (go_big_quiet_step (fail))
            refine wpQuiet_nil ?_
            intro _ hw'
            obtain ⟨y0, hw''⟩ := hw'
            subst hw''
            have hne : (d.out / 64 % (sets : Int) != d.at_ / 64 % (sets : Int)) = false := by rw [HSet.out]; simp
            clear hM0 e1 e2 e3 lo xa xw xg
            have xo0 := xo y0
            clear xo
            obtain ⟨w5, hrun5, m5, c5⟩ := (mj.chg y0.chg (by simp)).drop okO 0
            have q5 := (qj.chg y0.chg (by simp)).chg c5 (by have := HND.out; simp only [List.mem_singleton]; omega)
            have C5 : Chg [t, p] w4 w5 := (cj.trans y0.chg (by simp)).trans c5 (by simp)
            clear c5
            go_upto_region 48 with fail
            have hv1 := HA.out.2
            clear mj qj cj hne xo0 hrun5

            obtain ⟨d5, _, _⟩ := (HQ.out.chg C5 hg6).dn HD.out
            have xa := Ext.cell d5
            have lq := fun y : Ext w5 => (q5.chg y.chg (by simp)).look_some okA hv1
            clear d5
            refine wp_region_ext_tail 13 (by kernel_rfl) (by kernel_rfl) ?_
            simp only [List.take_succ_cons, List.take_zero, List.drop_succ_cons, List.drop_zero]
            repeat (go_big_quiet_step (fail))
            refine wpQuiet_nil ?_
            intro _ hw'
            obtain ⟨y, hw''⟩ := hw'
            subst hw''
            clear xa lq
            obtain ⟨w6, hrun, m6, c6⟩ := (m5.chg y.chg (by simp)).store okA v1
            have q6 := (q5.chg y.chg (by simp)).chg c6 (by have := HND.out; simp only [List.mem_singleton]; omega)
            have C6 : Chg [t, p] w4 w6 := (C5.trans y.chg (by simp)).trans c6 (by simp)
            obtain ⟨d6, _, _⟩ := (HQ.out.chg C6 hg6).dn HD.out
            obtain ⟨w7, hdrop, q7, c7⟩ := q6.drop okA 0
            have m7 := m6.chg c7 (by have := HND.out; simp only [List.mem_singleton]; omega)
            have C7 : Chg [t, p] w4 w7 := C6.trans c7 (by simp)
            clear m5 q5 m6 q6 C5 C6 c6 c7
            go_wp2
            go_roundw
            case rel => exact ⟨j + 1, by omega, by go_num, by rw [HFold2.out]; exact m7, by rw [HFold2.out]; exact q7, C7⟩
            case measure => simp [intOf]; omega

      · obtain rfl : j = N := by omega
        have hall : ds.take j = ds := List.take_of_length_le (by have := HNN.out; omega)
        rw [hall] at mj qj
        have HR := HFF.out _ mj qj cj
        clear mj qj cj hall
        go_wp2
        unfold SwPost
        repeat apply Exists.intro
        exact ⟨HR.out, rfl⟩

end Go.Proofs.Ytmagpdbnefbfkaa
