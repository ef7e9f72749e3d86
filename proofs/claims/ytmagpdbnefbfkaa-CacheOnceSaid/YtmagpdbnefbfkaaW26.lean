/- CacheOnce's switch: Ask, and Has. -/
import Derived.Test.YtmagpdbnefbfkaaW25
namespace Go.Proofs.Ytmagpdbnefbfkaa
open Go Go.RowKit

theorem ask_keeps (σ : St) (at_ : Int) (wr : Bool) : (σ.ask at_ wr).1.sets = σ.sets ∧ (σ.ask at_ wr).1.ways = σ.ways ∧ (σ.ask at_ wr).1.sl.length = σ.sl.length := by
  unfold St.ask
  split
  · exact ⟨rfl, rfl, rfl⟩
  · split
    · exact ⟨rfl, rfl, by simp⟩
    · split
      · exact ⟨rfl, rfl, by simp⟩
      · exact ⟨rfl, rfl, rfl⟩

set_option maxRecDepth 1000000 in
set_option maxHeartbeats 8000000 in
theorem sw_ask {W0 W : World} {g b ba bm bs t p x sets ways slots delay : Nat} {seed L tp kind : Int} {wri : Bool} {σ : St} {th pe : List (Int × Int)} (E : SwEnv W0 W g b ba bm bs t p x sets ways slots delay seed L tp kind wri σ th pe) (hk : kind = 0) (c0 c1 c3 c4 c8 c12 c13 c14 c15 c16 c17 c18 c19 c20 c21 c22 c23 c24 c25 c26 c27 c28 c29 c30 c31 c32 c33 c34 c35 c36 c37 c38 c39 c40 c41 c42 c43 c44 c45 c46 c47 c48 c49 c50 c51 c52 c53 c54 c55 c56 c57 c58 c59 c60 c61 c62 c63 c65 c66 c67 c68 c69 c70 c71 c72 c73 c74 c75 c76 c77 c78 c79 c80 c81 c82 c83 c84 c85 c86 c87 c88 c89 c90 c91 c92 c93 c94 c95 c96 c97 c98 c99 c100 c101 c102 c103 c104 c105 c106 c107 c108 c109 c110 c111 c112 c113 c114 c115 c116 c117 c118 c119 c120 c121 c122 c123 c124 c125 c126 c127 c128 c129 c130 c131 c132 c133 c134 c135 c136 c137 c138 c139 c140 c141 c142 c143 c144 c145 c146 c147 c148 c149 c150 c151 c152 c153 c154 c155 c156 c157 c158 c159 c160 c161 c162 c163 c164 c165 c166 c167 c168 c169 c170 c171 c172 c173 c174 c175 c176 c177 c178 c179 c180 c181 c182 c183 c184 c185 c186 c187 c188 c189 c190 c191 c192 c193 c194 c195 c196 c197 c198 c199 c200 c201 c202 c203 c204 c205 c206 c207 c208 c209 c210 c211 c212 c213 c214 c215 c216 c217 c218 c219 c220 c221 c222 c223 c224 c225 c226 c227 c228 c229 c230 c231 c232 c233 c234 c235 c236 c237 c238 c239 c240 c241 c242 c243 c244 c245 c246 c247 c248 c249 c250 c251 c252 c253 c254 c255 c256 c257 c258 c259 c260 c261 c262 c263 c264 c265 c266 c267 c268 c269 c270 c271 c272 c273 c274 c275 c276 c277 c278 c279 c280 c281 c282 c283 c284 c285 c286 c287 c288 c289 c290 c291 c292 c293 c294 c295 c296 c297 c298 c299 c300 c301 c302 c303 c304 c305 c306 c307 c308 c309 c310 c311 c312 c313 c314 c315 c316 c317 c318 c319 c320 c321 c322 c323 c324 c325 c326 c327 : Value) :
    Code.wp Try.prog swCode (SwEnd (SwPost (fun w' => ∃ σ th pe, OnceNow W0 b ba bm bs t p sets ways slots σ th pe w') g b t p x L kind wri c0 c1 c3 c8 c17 c18 c19 c20 c21 c22 c23 c24 c25 c26 c27 c28 c29 c30 c31 c32 c33 c34 c35 c36 c37 c38 c39 c40 c41 c42 c43 c44 c45 c46 c47 c48 c49 c50 c51 c52 c53 c54 c55 c56 c57 c58 c59 c60 c61 c62 c63 c248 c249 c250 c251 c252 c253 c254 c255 c256 c257 c258 c259 c260 c261 c262 c263 c264 c265 c266 c267 c268 c269 c270 c271 c272 c273 c274 c275 c276 c277 c278 c279 c280 c281 c282 c283 c284 c285 c286 c287 c288 c289 c290 c291 c292 c293 c294 c295 c296 c297 c298 c299 c300 c301 c302 c303 c304 c305 c306 c307 c308 c309 c310 c311 c312 c313 c314 c315 c316 c317 c318 c319 c320 c321 c322 c323 c324 c325 c326 c327)) (swAct g b t p x L kind wri c0 c1 c3 c4 c8 c12 c13 c14 c15 c16 c17 c18 c19 c20 c21 c22 c23 c24 c25 c26 c27 c28 c29 c30 c31 c32 c33 c34 c35 c36 c37 c38 c39 c40 c41 c42 c43 c44 c45 c46 c47 c48 c49 c50 c51 c52 c53 c54 c55 c56 c57 c58 c59 c60 c61 c62 c63 c65 c66 c67 c68 c69 c70 c71 c72 c73 c74 c75 c76 c77 c78 c79 c80 c81 c82 c83 c84 c85 c86 c87 c88 c89 c90 c91 c92 c93 c94 c95 c96 c97 c98 c99 c100 c101 c102 c103 c104 c105 c106 c107 c108 c109 c110 c111 c112 c113 c114 c115 c116 c117 c118 c119 c120 c121 c122 c123 c124 c125 c126 c127 c128 c129 c130 c131 c132 c133 c134 c135 c136 c137 c138 c139 c140 c141 c142 c143 c144 c145 c146 c147 c148 c149 c150 c151 c152 c153 c154 c155 c156 c157 c158 c159 c160 c161 c162 c163 c164 c165 c166 c167 c168 c169 c170 c171 c172 c173 c174 c175 c176 c177 c178 c179 c180 c181 c182 c183 c184 c185 c186 c187 c188 c189 c190 c191 c192 c193 c194 c195 c196 c197 c198 c199 c200 c201 c202 c203 c204 c205 c206 c207 c208 c209 c210 c211 c212 c213 c214 c215 c216 c217 c218 c219 c220 c221 c222 c223 c224 c225 c226 c227 c228 c229 c230 c231 c232 c233 c234 c235 c236 c237 c238 c239 c240 c241 c242 c243 c244 c245 c246 c247 c248 c249 c250 c251 c252 c253 c254 c255 c256 c257 c258 c259 c260 c261 c262 c263 c264 c265 c266 c267 c268 c269 c270 c271 c272 c273 c274 c275 c276 c277 c278 c279 c280 c281 c282 c283 c284 c285 c286 c287 c288 c289 c290 c291 c292 c293 c294 c295 c296 c297 c298 c299 c300 c301 c302 c303 c304 c305 c306 c307 c308 c309 c310 c311 c312 c313 c314 c315 c316 c317 c318 c319 c320 c321 c322 c323 c324 c325 c326 c327) W := by
  unfold swAct SwEnd
  conv => arg 2; whnf
  have hnow := E.now
  have hX := E.row
  have x0 := hX.cell (j := 0) rfl
  have x1 := hX.cell (j := 1) rfl
  have x2 := hX.cell (j := 2) rfl
  have htok : okLine tp := ⟨by have := E.tp1; omega, E.tp2⟩
  have hLok : okLine L := by have h1 := E.tp1; have h2 := E.tp2; have h3 := E.line; exact ⟨by omega, by omega⟩
  have HE := Lib.hid E
  subst hk
  clear E
  go_wp2_with fail
  refine (ask_any hnow.rep hnow.wf htok wri).mono ?_
  rintro e w4 ⟨rfl, p4, c4⟩
  have hs := ask_seen hnow.tells hnow.wf HE.out.tp1 wri
  rw [← HE.out.line] at hs
  have hwf := hnow.wf.ask htok wri
  have hkeep : (σ.ask tp wri).1.sets = σ.sets ∧ (σ.ask tp wri).1.ways = σ.ways ∧ (σ.ask tp wri).1.sl.length = σ.sl.length := ask_keeps σ tp wri
  generalize (σ.ask tp wri).2 = r at hs ⊢
  generalize (σ.ask tp wri).1 = τ at hs p4 hwf hkeep
  have X0 := hX.chg c4 (fun hm => HE.out.xn (by simp only [List.mem_cons, List.not_mem_nil, or_false] at hm ⊢; omega))
  have hnd := HE.out.nd
  simp only [List.nodup_cons, List.mem_cons, List.not_mem_nil, or_false, not_or] at hnd
  have m4 : MapI w4 t th := hnow.mth.chg c4 (by simp only [List.mem_cons, List.not_mem_nil, or_false, not_or]; omega)
  have q4 : MapI w4 p pe := hnow.mpe.chg c4 (by simp only [List.mem_cons, List.not_mem_nil, or_false, not_or]; omega)
  have C4 : Chg [b, ba, bm, bs, t, p] W0 w4 := hnow.chg.trans c4 (fun y hy => .inl (by simp only [List.mem_cons, List.not_mem_nil, or_false] at hy ⊢; omega))
  have e1 := hkeep.1.trans hnow.sets
  have e2 := hkeep.2.1.trans hnow.ways
  have e3 := hkeep.2.2.trans hnow.slots
  have HK := Lib.hid (And.intro e1 (And.intro e2 e3))
  clear e1 e2 e3 hkeep
  have HND := Lib.hid hnd
  clear hnd
  cases hs with
  | hit v h1 h2 h3 hr h =>
    subst hr
    have l1 := m4.look_some hLok h1
    obtain ⟨w5, hrun, m5, c5⟩ := m4.store hLok (max v (mark wri))
    have HR : Hid (∃ σ th pe, OnceNow W0 b ba bm bs t p sets ways slots σ th pe w5) :=
      ⟨τ, _, _, hwf, HK.out.1, HK.out.2.1, HK.out.2.2, p4.chg c5 (by have := HND.out; simp only [List.mem_cons, List.not_mem_nil, or_false]; omega), m5, q4.chg c5 (by have := HND.out; simp only [List.mem_singleton]; omega), h, C4.trans c5 (fun y hy => .inl (by simp only [List.mem_singleton] at hy; simp [hy]))⟩
    clear h m5 c5 h1 p4 m4 q4 C4 hX x0 x1 x2 X0 c4 hwf hnow HK HND HE
    go_wp2
    unfold SwPost
    repeat apply Exists.intro
    exact ⟨HR.out, rfl⟩
  | wait v h0 h1 h2 h3 hr h =>
    subst hr
    have l0 := m4.look_none hLok h0
    have l1 := q4.look_some hLok h1
    obtain ⟨w5, hrun, m5, c5⟩ := q4.store hLok (max v (mark wri))
    have HR : Hid (∃ σ th pe, OnceNow W0 b ba bm bs t p sets ways slots σ th pe w5) :=
      ⟨τ, _, _, hwf, HK.out.1, HK.out.2.1, HK.out.2.2, p4.chg c5 (by have := HND.out; simp only [List.mem_cons, List.not_mem_nil, or_false]; omega), m4.chg c5 (by have := HND.out; simp only [List.mem_singleton]; omega), m5, h, C4.trans c5 (fun y hy => .inl (by simp only [List.mem_singleton] at hy; simp [hy]))⟩
    clear h m5 c5 h0 h1 p4 m4 q4 C4 hX x0 x1 x2 X0 c4 hwf hnow HK HND HE
    go_wp2
    unfold SwPost
    repeat apply Exists.intro
    exact ⟨HR.out, rfl⟩
  | new h0 h1 hr h =>
    subst hr
    have l0 := m4.look_none hLok h0
    have l1 := q4.look_none hLok h1
    obtain ⟨w5, hrun, m5, c5⟩ := q4.store hLok (mark wri)
    have HR : Hid (∃ σ th pe, OnceNow W0 b ba bm bs t p sets ways slots σ th pe w5) :=
      ⟨τ, _, _, hwf, HK.out.1, HK.out.2.1, HK.out.2.2, p4.chg c5 (by have := HND.out; simp only [List.mem_cons, List.not_mem_nil, or_false]; omega), m4.chg c5 (by have := HND.out; simp only [List.mem_singleton]; omega), m5, h, C4.trans c5 (fun y hy => .inl (by simp only [List.mem_singleton] at hy; simp [hy]))⟩
    clear h m5 c5 h0 h1 p4 m4 q4 C4 hX x0 x1 x2 X0 c4 hwf hnow HK HND HE
    go_wp2
    unfold SwPost
    repeat apply Exists.intro
    exact ⟨HR.out, rfl⟩
  | full h0 h1 hr hu h =>
    subst hr
    have l0 := m4.look_none hLok h0
    have l1 := q4.look_none hLok h1
    have hG := (HE.out.top.chg c4 (fun hm => HE.out.gn (by simp only [List.mem_cons, List.not_mem_nil, or_false] at hm ⊢; omega)))
    have g2 := Ext.cell (hG.cell (j := 2) rfl)
    have hsl := hnow.slots
    have HR : ∀ y : Ext w4, Hid (∃ σ th pe, OnceNow W0 b ba bm bs t p sets ways slots σ th pe y.to) := fun y =>
      ⟨τ, _, _, hwf, HK.out.1, HK.out.2.1, HK.out.2.2, p4.chg y.chg (by simp), m4.chg y.chg (by simp), q4.chg y.chg (by simp), h, C4.trans y.chg (by simp)⟩
    have hu' : (τ.under : Int) = slots := by omega
    have hU : ∀ y : Ext w4, Calls Try.prog 15 #[.pointer (some ⟨b, 0, none⟩)] y.to fun e w' => e = .returned (.int .i64 slots) ∧ ∃ z : Ext w4, w' = z.to := fun y =>
      (under_any (p4.chg y.chg (by simp)) hwf).mono fun e w' ⟨he, hc⟩ => ⟨by rw [he, hu'], ⟨w', y.chg.tr hc⟩, rfl⟩
    have HU := Lib.hid hU
    clear h h0 h1 p4 m4 q4 C4 hX x0 x1 x2 X0 c4 hwf hnow HK HND HE hu hu' hsl hG hU
    go_wp2
    refine wp_region_ext (by kernel_rfl) (by kernel_rfl) ?_
    repeat (go_big_quiet_step ((go_at_call 15; exact HU.out _)))
    refine wpQuiet_nil ?_
    intro _ hw'
    obtain ⟨y, hw''⟩ := hw'
    subst hw''
    have HRy := HR y
    clear HR HU g2
    go_wp2
    unfold SwPost
    repeat apply Exists.intro
    exact ⟨HRy.out, rfl⟩

set_option maxRecDepth 1000000 in
set_option maxHeartbeats 8000000 in
theorem sw_has {W0 W : World} {g b ba bm bs t p x sets ways slots delay : Nat} {seed L tp kind : Int} {wri : Bool} {σ : St} {th pe : List (Int × Int)} (E : SwEnv W0 W g b ba bm bs t p x sets ways slots delay seed L tp kind wri σ th pe) (hk0 : ¬ kind = 0) (hk1 : ¬ kind = 1) (c0 c1 c3 c4 c8 c12 c13 c14 c15 c16 c17 c18 c19 c20 c21 c22 c23 c24 c25 c26 c27 c28 c29 c30 c31 c32 c33 c34 c35 c36 c37 c38 c39 c40 c41 c42 c43 c44 c45 c46 c47 c48 c49 c50 c51 c52 c53 c54 c55 c56 c57 c58 c59 c60 c61 c62 c63 c65 c66 c67 c68 c69 c70 c71 c72 c73 c74 c75 c76 c77 c78 c79 c80 c81 c82 c83 c84 c85 c86 c87 c88 c89 c90 c91 c92 c93 c94 c95 c96 c97 c98 c99 c100 c101 c102 c103 c104 c105 c106 c107 c108 c109 c110 c111 c112 c113 c114 c115 c116 c117 c118 c119 c120 c121 c122 c123 c124 c125 c126 c127 c128 c129 c130 c131 c132 c133 c134 c135 c136 c137 c138 c139 c140 c141 c142 c143 c144 c145 c146 c147 c148 c149 c150 c151 c152 c153 c154 c155 c156 c157 c158 c159 c160 c161 c162 c163 c164 c165 c166 c167 c168 c169 c170 c171 c172 c173 c174 c175 c176 c177 c178 c179 c180 c181 c182 c183 c184 c185 c186 c187 c188 c189 c190 c191 c192 c193 c194 c195 c196 c197 c198 c199 c200 c201 c202 c203 c204 c205 c206 c207 c208 c209 c210 c211 c212 c213 c214 c215 c216 c217 c218 c219 c220 c221 c222 c223 c224 c225 c226 c227 c228 c229 c230 c231 c232 c233 c234 c235 c236 c237 c238 c239 c240 c241 c242 c243 c244 c245 c246 c247 c248 c249 c250 c251 c252 c253 c254 c255 c256 c257 c258 c259 c260 c261 c262 c263 c264 c265 c266 c267 c268 c269 c270 c271 c272 c273 c274 c275 c276 c277 c278 c279 c280 c281 c282 c283 c284 c285 c286 c287 c288 c289 c290 c291 c292 c293 c294 c295 c296 c297 c298 c299 c300 c301 c302 c303 c304 c305 c306 c307 c308 c309 c310 c311 c312 c313 c314 c315 c316 c317 c318 c319 c320 c321 c322 c323 c324 c325 c326 c327 : Value) :
    Code.wp Try.prog swCode (SwEnd (SwPost (fun w' => ∃ σ th pe, OnceNow W0 b ba bm bs t p sets ways slots σ th pe w') g b t p x L kind wri c0 c1 c3 c8 c17 c18 c19 c20 c21 c22 c23 c24 c25 c26 c27 c28 c29 c30 c31 c32 c33 c34 c35 c36 c37 c38 c39 c40 c41 c42 c43 c44 c45 c46 c47 c48 c49 c50 c51 c52 c53 c54 c55 c56 c57 c58 c59 c60 c61 c62 c63 c248 c249 c250 c251 c252 c253 c254 c255 c256 c257 c258 c259 c260 c261 c262 c263 c264 c265 c266 c267 c268 c269 c270 c271 c272 c273 c274 c275 c276 c277 c278 c279 c280 c281 c282 c283 c284 c285 c286 c287 c288 c289 c290 c291 c292 c293 c294 c295 c296 c297 c298 c299 c300 c301 c302 c303 c304 c305 c306 c307 c308 c309 c310 c311 c312 c313 c314 c315 c316 c317 c318 c319 c320 c321 c322 c323 c324 c325 c326 c327)) (swAct g b t p x L kind wri c0 c1 c3 c4 c8 c12 c13 c14 c15 c16 c17 c18 c19 c20 c21 c22 c23 c24 c25 c26 c27 c28 c29 c30 c31 c32 c33 c34 c35 c36 c37 c38 c39 c40 c41 c42 c43 c44 c45 c46 c47 c48 c49 c50 c51 c52 c53 c54 c55 c56 c57 c58 c59 c60 c61 c62 c63 c65 c66 c67 c68 c69 c70 c71 c72 c73 c74 c75 c76 c77 c78 c79 c80 c81 c82 c83 c84 c85 c86 c87 c88 c89 c90 c91 c92 c93 c94 c95 c96 c97 c98 c99 c100 c101 c102 c103 c104 c105 c106 c107 c108 c109 c110 c111 c112 c113 c114 c115 c116 c117 c118 c119 c120 c121 c122 c123 c124 c125 c126 c127 c128 c129 c130 c131 c132 c133 c134 c135 c136 c137 c138 c139 c140 c141 c142 c143 c144 c145 c146 c147 c148 c149 c150 c151 c152 c153 c154 c155 c156 c157 c158 c159 c160 c161 c162 c163 c164 c165 c166 c167 c168 c169 c170 c171 c172 c173 c174 c175 c176 c177 c178 c179 c180 c181 c182 c183 c184 c185 c186 c187 c188 c189 c190 c191 c192 c193 c194 c195 c196 c197 c198 c199 c200 c201 c202 c203 c204 c205 c206 c207 c208 c209 c210 c211 c212 c213 c214 c215 c216 c217 c218 c219 c220 c221 c222 c223 c224 c225 c226 c227 c228 c229 c230 c231 c232 c233 c234 c235 c236 c237 c238 c239 c240 c241 c242 c243 c244 c245 c246 c247 c248 c249 c250 c251 c252 c253 c254 c255 c256 c257 c258 c259 c260 c261 c262 c263 c264 c265 c266 c267 c268 c269 c270 c271 c272 c273 c274 c275 c276 c277 c278 c279 c280 c281 c282 c283 c284 c285 c286 c287 c288 c289 c290 c291 c292 c293 c294 c295 c296 c297 c298 c299 c300 c301 c302 c303 c304 c305 c306 c307 c308 c309 c310 c311 c312 c313 c314 c315 c316 c317 c318 c319 c320 c321 c322 c323 c324 c325 c326 c327) W := by
  unfold swAct SwEnd
  conv => arg 2; whnf
  have hnow := E.now
  have hX := E.row
  have x0 := hX.cell (j := 0) rfl
  have x1 := hX.cell (j := 1) rfl
  have x2 := hX.cell (j := 2) rfl
  have htok : okLine tp := ⟨by have := E.tp1; omega, E.tp2⟩
  have hLok : okLine L := by have h1 := E.tp1; have h2 := E.tp2; have h3 := E.line; exact ⟨by omega, by omega⟩
  have HE := Lib.hid E
  clear E
  go_wp2_with fail
  refine (has_any hnow.rep hnow.wf.toWP htok).mono ?_
  rintro e w4 ⟨rfl, c4⟩
  have hs := has_seen hnow.tells (at_ := tp)
  rw [← HE.out.line] at hs
  have hnow4 := hnow.new c4
  generalize (σ.hasLine tp).1 = y1 at hs ⊢
  generalize (σ.hasLine tp).2 = y2 at hs ⊢
  have HR : Hid (∃ σ th pe, OnceNow W0 b ba bm bs t p sets ways slots σ th pe w4) := ⟨_, _, _, hnow4⟩
  have m4 := hnow4.mth
  clear hX x0 x1 x2 c4 hnow hnow4 HE
  rcases hs with ⟨rfl, rfl, h0⟩ | ⟨bb, rfl, rfl, h1⟩
  · have l0 := m4.look_none hLok h0
    clear m4 h0
    go_wp2
    unfold SwPost
    repeat apply Exists.intro
    exact ⟨HR.out, rfl⟩
  · have l1 := m4.look_some hLok h1
    clear m4 h1
    cases y2
    all_goals
      simp only [mark, if_true, if_false, Bool.false_eq_true] at l1
      go_wp2
      unfold SwPost
      repeat apply Exists.intro
      exact ⟨HR.out, rfl⟩

end Go.Proofs.Ytmagpdbnefbfkaa
