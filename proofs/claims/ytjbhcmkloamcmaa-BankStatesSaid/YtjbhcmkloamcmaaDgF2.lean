/- The rounds of a block, the reference's. -/
import Derived.Test.YtjbhcmkloamcmaaDgF0
namespace Go.Proofs.Ytjbhcmkloamcmaa
open Go.RowKit

set_option maxRecDepth 1000000
set_option maxHeartbeats 16000000
theorem rounds_part (Q : Exit → Act → World → Prop) (w wr0 : World) (pk pw pv cv : Nat) (Ws hj : List W32) (B1 B2 B3 : Res) {c0 c1 c2 c3 c5 c6 c7 c9 c10 c11 c12 c15 c16 c17 c18 c19 c20 c21 c22 c23 c24 c25 c26 c27 c28 c29 c30 c31 c32 c33 c34 c35 c36 c37 c38 c39 c40 c41 c42 c43 c44 c45 c46 c47 c48 c49 c50 c51 c52 c53 c54 c55 c56 c57 c58 c59 c60 c61 c62 c63 c64 c65 c66 c67 c68 c69 c70 c71 c72 c73 c74 c75 c76 c77 c78 c79 c80 c81 c82 c83 c84 c85 c86 c87 c88 c89 c90 c91 c92 c93 c94 c95 c96 c97 c98 c99 c100 c101 c102 c103 c104 c105 c106 c107 c108 c109 c110 c111 c112 c113 c114 c115 c116 c117 c118 c119 c120 c121 c122 c123 c124 c125 c126 c127 c128 c129 c130 c131 c132 c133 c134 c135 c136 c137 c138 c139 c140 c141 c142 c143 c144 c145 c146 c147 c148 c149 c150 c151 c152 c153 c154 c155 c156 c157 c158 c159 c160 c161 c162 c163 c164 c165 c166 c167 c168 c169 c170 c171 c172 c173 c174 c175 c176 c177 c178 c179 c180 c181 c182 c183 c184 c185 c186 c187 c188 c189 c190 c191 c192 c193 c194 c195 c196 c197 c198 c199 c200 c201 c202 c203 c204 c205 c206 c207 c208 c209 c210 c211 c212 c213 c214 c215 c216 c217 c218 c219 c220 c221 c222 c223 c224 c225 c226 c227 c228 c229 c230 c231 c232 c233 c234 c235 c236 c237 c238 c239 c240 c241 c242 c243 c244 c245 c246 c247 c248 c249 c250 c251 c252 c253 c254 c255 c256 c257 c258 c259 c260 c261 c262 c263 c264 c265 c266 c267 : Value} (hWl : Ws.length = 64) (hjl : hj.length = 8) (hoA : Own w (fun _ => False) wr0 [row 75 1 (.slice (some ⟨pv, 0, none⟩) 8 cv) 8 ((rnds kays Ws hj 0).map u32v), blk pw (.cells (vals Ws) 75 (0, 0)), blk pk (.cells (vals kays) 75 (0, 0)), B1, B2, B3]) (hQ : ∀ (pv' cv' : Nat) (f : Nat → Value) (w' : World), Own w (fun _ => False) w' [row 75 1 (.slice (some ⟨pv', 0, none⟩) 8 cv') 8 ((rnds kays Ws hj 64).map u32v), blk pw (.cells (vals Ws) 75 (0, 0)), blk pk (.cells (vals kays) 75 (0, 0)), B1, B2, B3] → Q .normal ⟨(List.toArray (c0 :: c1 :: c2 :: c3 :: (.slice (some ⟨pk, 0, none⟩) 64 64) :: c5 :: c6 :: c7 :: (.slice (some ⟨pw, 0, none⟩) 64 64) :: c9 :: c10 :: c11 :: c12 :: (.slice (some ⟨pv', 0, none⟩) 8 cv') :: f 14 :: f 15 :: f 16 :: f 17 :: f 18 :: c19 :: c20 :: c21 :: c22 :: c23 :: c24 :: c25 :: c26 :: c27 :: c28 :: c29 :: c30 :: c31 :: c32 :: c33 :: c34 :: c35 :: c36 :: c37 :: c38 :: c39 :: c40 :: c41 :: c42 :: c43 :: c44 :: c45 :: c46 :: c47 :: c48 :: c49 :: c50 :: c51 :: c52 :: c53 :: c54 :: c55 :: c56 :: c57 :: c58 :: c59 :: c60 :: c61 :: c62 :: c63 :: c64 :: c65 :: c66 :: c67 :: c68 :: c69 :: c70 :: c71 :: c72 :: c73 :: c74 :: c75 :: c76 :: c77 :: c78 :: c79 :: c80 :: c81 :: c82 :: c83 :: c84 :: c85 :: c86 :: c87 :: c88 :: c89 :: c90 :: c91 :: c92 :: c93 :: c94 :: c95 :: c96 :: c97 :: c98 :: c99 :: c100 :: c101 :: c102 :: c103 :: c104 :: c105 :: c106 :: c107 :: c108 :: c109 :: c110 :: c111 :: c112 :: c113 :: c114 :: c115 :: c116 :: c117 :: c118 :: c119 :: c120 :: c121 :: c122 :: c123 :: c124 :: c125 :: c126 :: c127 :: c128 :: c129 :: c130 :: c131 :: c132 :: f 133 :: f 134 :: f 135 :: f 136 :: f 137 :: f 138 :: f 139 :: f 140 :: f 141 :: f 142 :: f 143 :: f 144 :: f 145 :: f 146 :: f 147 :: f 148 :: f 149 :: f 150 :: f 151 :: f 152 :: f 153 :: f 154 :: f 155 :: f 156 :: f 157 :: f 158 :: f 159 :: f 160 :: f 161 :: f 162 :: f 163 :: f 164 :: f 165 :: f 166 :: f 167 :: f 168 :: f 169 :: f 170 :: f 171 :: f 172 :: f 173 :: f 174 :: f 175 :: f 176 :: f 177 :: f 178 :: f 179 :: f 180 :: f 181 :: f 182 :: f 183 :: f 184 :: f 185 :: f 186 :: f 187 :: f 188 :: f 189 :: f 190 :: f 191 :: f 192 :: f 193 :: f 194 :: f 195 :: f 196 :: f 197 :: f 198 :: f 199 :: f 200 :: f 201 :: f 202 :: f 203 :: f 204 :: f 205 :: f 206 :: f 207 :: f 208 :: f 209 :: f 210 :: f 211 :: f 212 :: f 213 :: f 214 :: f 215 :: f 216 :: f 217 :: f 218 :: f 219 :: f 220 :: f 221 :: f 222 :: f 223 :: f 224 :: f 225 :: f 226 :: f 227 :: f 228 :: f 229 :: f 230 :: f 231 :: f 232 :: c233 :: c234 :: c235 :: c236 :: c237 :: c238 :: c239 :: c240 :: c241 :: c242 :: c243 :: c244 :: c245 :: c246 :: c247 :: c248 :: c249 :: c250 :: c251 :: c252 :: c253 :: c254 :: c255 :: c256 :: c257 :: c258 :: c259 :: c260 :: c261 :: c262 :: c263 :: c264 :: c265 :: c266 :: c267 :: [])), []⟩ w') :
    ((Try.f16.body.bind (findBlk 10)).getD .skip).wp Try.prog Q ⟨(List.toArray (c0 :: c1 :: c2 :: c3 :: (.slice (some ⟨pk, 0, none⟩) 64 64) :: c5 :: c6 :: c7 :: (.slice (some ⟨pw, 0, none⟩) 64 64) :: c9 :: c10 :: c11 :: c12 :: (.slice (some ⟨pv, 0, none⟩) 8 cv) :: (.int .i64 0) :: c15 :: c16 :: c17 :: c18 :: c19 :: c20 :: c21 :: c22 :: c23 :: c24 :: c25 :: c26 :: c27 :: c28 :: c29 :: c30 :: c31 :: c32 :: c33 :: c34 :: c35 :: c36 :: c37 :: c38 :: c39 :: c40 :: c41 :: c42 :: c43 :: c44 :: c45 :: c46 :: c47 :: c48 :: c49 :: c50 :: c51 :: c52 :: c53 :: c54 :: c55 :: c56 :: c57 :: c58 :: c59 :: c60 :: c61 :: c62 :: c63 :: c64 :: c65 :: c66 :: c67 :: c68 :: c69 :: c70 :: c71 :: c72 :: c73 :: c74 :: c75 :: c76 :: c77 :: c78 :: c79 :: c80 :: c81 :: c82 :: c83 :: c84 :: c85 :: c86 :: c87 :: c88 :: c89 :: c90 :: c91 :: c92 :: c93 :: c94 :: c95 :: c96 :: c97 :: c98 :: c99 :: c100 :: c101 :: c102 :: c103 :: c104 :: c105 :: c106 :: c107 :: c108 :: c109 :: c110 :: c111 :: c112 :: c113 :: c114 :: c115 :: c116 :: c117 :: c118 :: c119 :: c120 :: c121 :: c122 :: c123 :: c124 :: c125 :: c126 :: c127 :: c128 :: c129 :: c130 :: c131 :: c132 :: c133 :: c134 :: c135 :: c136 :: c137 :: c138 :: c139 :: c140 :: c141 :: c142 :: c143 :: c144 :: c145 :: c146 :: c147 :: c148 :: c149 :: c150 :: c151 :: c152 :: c153 :: c154 :: c155 :: c156 :: c157 :: c158 :: c159 :: c160 :: c161 :: c162 :: c163 :: c164 :: c165 :: c166 :: c167 :: c168 :: c169 :: c170 :: c171 :: c172 :: c173 :: c174 :: c175 :: c176 :: c177 :: c178 :: c179 :: c180 :: c181 :: c182 :: c183 :: c184 :: c185 :: c186 :: c187 :: c188 :: c189 :: c190 :: c191 :: c192 :: c193 :: c194 :: c195 :: c196 :: c197 :: c198 :: c199 :: c200 :: c201 :: c202 :: c203 :: c204 :: c205 :: c206 :: c207 :: c208 :: c209 :: c210 :: c211 :: c212 :: c213 :: c214 :: c215 :: c216 :: c217 :: c218 :: c219 :: c220 :: c221 :: c222 :: c223 :: c224 :: c225 :: c226 :: c227 :: c228 :: c229 :: c230 :: c231 :: c232 :: c233 :: c234 :: c235 :: c236 :: c237 :: c238 :: c239 :: c240 :: c241 :: c242 :: c243 :: c244 :: c245 :: c246 :: c247 :: c248 :: c249 :: c250 :: c251 :: c252 :: c253 :: c254 :: c255 :: c256 :: c257 :: c258 :: c259 :: c260 :: c261 :: c262 :: c263 :: c264 :: c265 :: c266 :: c267 :: [])), []⟩ wr0 := by
  conv => arg 2; whnf
  replace hQ := Hidd.mk hQ
  replace hWl := Hidd.mk hWl
  replace hjl := Hidd.mk hjl
  replace hoA := Hidd.mk hoA
  go_wp2
  go_loopg [13, 14] 64 (fun g v13 v14 wx => ∃ (t pv cv : Nat), t + g = 64 ∧ v13 = .slice (some ⟨pv, 0, none⟩) 8 cv ∧ v14 = .int .i64 t ∧ Hidd (Own w (fun _ => False) wx [row 75 1 (.slice (some ⟨pv, 0, none⟩) 8 cv) 8 ((rnds kays Ws hj t).map u32v), blk pw (.cells (vals Ws) 75 (0, 0)), blk pk (.cells (vals kays) 75 (0, 0)), B1, B2, B3]))
  case atStart => exact ⟨0, pv, cv, by omega, rfl, rfl, hoA⟩
  case round =>
    clear hoA
    obtain ⟨t, pv, cv, hg, rfl, rfl, ho⟩ := hrel
    cases gk with
    | succ gz =>
      have ht : t < 64 := by omega
      have d5 : decide ((t : Int) < 64) = true := by rw [decide_eq_true_eq]; omega
      have bt0 : (0 : Int) ≤ (t : Int) := by omega
      have bt1 : (t : Int) < 64 := by omega
      have hgt : t + 1 + gz = 64 := by omega
      clear hg
      obtain ⟨v0, v1, v2, v3, v4, v5, v6, v7, ev⟩ := list8 (rnds_len (ks := kays) (ws := Ws) hjl.out t)
      have xk : kays[t]? = some (kays.getD t 0) := getD_some 0 (by show t < 64; exact ht)
      have xw : Ws[t]? = some (Ws.getD t 0) := getD_some 0 (by rw [hWl.out]; exact ht)
      have en : rnds kays Ws hj (t + 1) = rnd [v0, v1, v2, v3, v4, v5, v6, v7] (kays.getD t 0) (Ws.getD t 0) := by rw [rnds, ev]
      rw [ev] at ho
      generalize kays.getD t 0 = kx at xk en
      generalize Ws.getD t 0 = wx at xw en
      clear ev
      replace xk := Hidd.mk xk
      replace xw := Hidd.mk xw
      obtain ⟨s1, es1⟩ : ∃ x : W32, x = rr v4 6 ^^^ rr v4 11 ^^^ rr v4 25 := ⟨_, rfl⟩
      obtain ⟨nv, env⟩ : ∃ x : W32, x = ~~~v4 := ⟨_, rfl⟩
      obtain ⟨ch, ech⟩ : ∃ x : W32, x = v4 &&& v5 ^^^ nv &&& v6 := ⟨_, rfl⟩
      obtain ⟨ta, eta⟩ : ∃ x : W32, x = v7 + s1 := ⟨_, rfl⟩
      obtain ⟨tb, etb⟩ : ∃ x : W32, x = ta + ch := ⟨_, rfl⟩
      obtain ⟨tc, etc⟩ : ∃ x : W32, x = tb + kx := ⟨_, rfl⟩
      obtain ⟨t1, et⟩ : ∃ x : W32, x = tc + wx := ⟨_, rfl⟩
      obtain ⟨u, eu⟩ : ∃ x : W32, x = rr v0 2 ^^^ rr v0 13 ^^^ rr v0 22 := ⟨_, rfl⟩
      obtain ⟨m, em⟩ : ∃ x : W32, x = v0 &&& v1 ^^^ v0 &&& v2 ^^^ v1 &&& v2 := ⟨_, rfl⟩
      obtain ⟨two, etw⟩ : ∃ x : W32, x = u + m := ⟨_, rfl⟩
      obtain ⟨n4, en4⟩ : ∃ x : W32, x = v3 + t1 := ⟨_, rfl⟩
      obtain ⟨n0, en0⟩ : ∃ x : W32, x = t1 + two := ⟨_, rfl⟩
      have g1 := xor3_v (rr v4 6) (rr v4 11) (rr v4 25)
      rw [← es1] at g1
      have gn := v_not' v4
      rw [← env] at gn
      have g2 := ch2_v v4 v5 nv v6
      rw [← ech] at g2
      have g4 := xor3_v (rr v0 2) (rr v0 13) (rr v0 22)
      rw [← eu] at g4
      have g5 := maj_v v0 v1 v2
      rw [← em] at g5
      have ga := v_addm v7 s1
      rw [← eta] at ga
      have gaw := v_add v7 s1
      rw [← eta] at gaw
      have gb' := v_addm ta ch
      rw [← etb] at gb'
      have gb'w := v_add ta ch
      rw [← etb] at gb'w
      have gc := v_addm tb kx
      rw [← etc] at gc
      have gcw := v_add tb kx
      rw [← etc] at gcw
      have gd := v_addm tc wx
      rw [← et] at gd
      have gdw := v_add tc wx
      rw [← et] at gdw
      have ge := v_addm u m
      rw [← etw] at ge
      have gew := v_add u m
      rw [← etw] at gew
      have g6 := v_addm v3 t1
      rw [← en4] at g6
      have g6w := v_add v3 t1
      rw [← en4] at g6w
      have g7 := v_addm t1 two
      rw [← en0] at g7
      have g7w := v_add t1 two
      rw [← en0] at g7w
      replace en := Hidd.mk (show rnds kays Ws hj (t + 1) = [n0, v0, v1, v2, n4, v4, v5, v6] by
        rw [en, en0, en4, etw, em, eu, et, etc, etb, eta, ech, env, es1]
        simp [rnd, tOf, uOf, BitVec.add_assoc])
      clear en0 en4 etw em eu et etc etb eta ech env es1
      go_wp2
      obtain ⟨y0, y1, y2, y3, y4, y5, y6, y7⟩ := cells8c (row_cells ho.out 0 rfl)
      go_quiet (fail)
      have ho1 := Hidd.mk (ho.out.ext (below_drewN' nq (Below.refl _ _)))
      clear y0 y1 y2 y3 y4 y5 y6 y7 ho
      generalize World.drewN wr nq = W1 at ho1 ⊢
      go_wp2
      obtain ⟨y0, y1, y2, y3, y4, y5, y6, y7⟩ := cells8c (row_cells ho1.out 0 rfl)
      have yk := (ho1.out.cell 2 rfl t).trans (vals_get xk.out)
      have yw := (ho1.out.cell 1 rfl t).trans (vals_get xw.out)
      go_quiet ((go_at_call 37; exact quiet_drew (right_i _ _ (by decide) (by decide) _)))
      have ho2 := Hidd.mk (ho1.out.ext (below_drewN' nq (Below.refl _ _)))
      clear y0 y1 y2 y3 y4 y5 y6 y7 ho1 yk yw
      generalize World.drewN W1 nq = W2 at ho2 ⊢
      go_wp2
      obtain ⟨y0, y1, y2, y3, y4, y5, y6, y7⟩ := cells8c (row_cells ho2.out 0 rfl)
      go_quiet ((go_at_call 37; exact quiet_drew (right_i _ _ (by decide) (by decide) _)))
      have ho3 := Hidd.mk (ho2.out.ext (below_drewN' nq (Below.refl _ _)))
      clear y0 y1 y2 y3 y4 y5 y6 y7 ho2
      generalize World.drewN W2 nq = W3 at ho3 ⊢
      go_wp2
      obtain ⟨W0, hW0⟩ : ∃ zz, zz = World.drew W3 := ⟨_, rfl⟩
      refine wp_region_flow [([0, 1, 3, 6, 9, 12, 15, 17, 20, 23, 2, 4, 7, 10, 13, 18, 21, 24, 5, 8, 11, 14, 19, 22, 25, 16], some (26, [false])), ([27], none)] (by kernel_rfl) (by kernel_rfl) ?_
      rw [show ({ W3 with drawn := W3.drawn + 1 } : World) = W0 from hW0.symm]
      replace hW0 := Hidd.mk hW0
      simp only [opsF, List.map_cons, List.map_nil, List.getD_cons_succ, List.getD_cons_zero, Option.map]
      have ho4 := Hidd.mk (show Own w _ W0 _ by rw [hW0.out]; exact ho3.out.drew)
      clear hW0 ho3
      obtain ⟨y0, y1, y2, y3, y4, y5, y6, y7⟩ := cells8c (row_cells ho4.out 0 rfl)
      have ho5 := Hidd.mk (row_lit ho4.out.tail 75 1 8 (vals [n0, v0, v1, v2, n4, v4, v5, v6]) (([n0, v0, v1, v2, n4, v4, v5, v6] : List W32).map u32v) rfl rfl (by decide))
      refine FlW.stage (fun zz => zz = _) rfl ?_
      repeat (first | (refine StQ.skip (by rfl) ?_; simp only [Act.put, List.setIfInBounds_toArray, List.set_cons_zero, List.set_cons_succ]) | (refine StQ.go' (by rfl) (Exists.intro ?_ (And.intro (fun w' hS => ?_) ?_)); rotate_left; (focus (rw [hS]; go_simp; try with_reducible rfl)); simp only [Act.put, List.setIfInBounds_toArray, List.set_cons_zero, List.set_cons_succ]))
      refine StQ.nil ?_
      refine FlO.go (by rfl) (fun K hK => ?_); go_simp; refine hK.out _ _ (.inr trivial) ?_; clear hK K
      clear y0 y1 y2 y3 y4 y5 y6 y7
      refine FlW.heads (fun zz => zz = _) rfl ?_
      repeat (first | (refine StQ.skip (by rfl) ?_; simp only [Act.put, List.setIfInBounds_toArray, List.set_cons_zero, List.set_cons_succ]) | (refine StQ.go' (by rfl) (Exists.intro ?_ (And.intro (fun w' hS => ?_) ?_)); rotate_left; (focus (rw [hS]; go_simp; try with_reducible rfl)); simp only [Act.put, List.setIfInBounds_toArray, List.set_cons_zero, List.set_cons_succ]))
      refine StQ.nil ?_
      refine FlW.nil (Calm.normal ?_)
      go_wp2
      go_roundg gz
      case rel => exact ⟨t + 1, _, 8, hgt, rfl, by go_num, ⟨by rw [en.out]; exact ho5.out⟩⟩
      case measure => omega
    | zero =>
      obtain rfl : t = 64 := by omega
      have d5 : decide ((64 : Int) < 64) = false := by decide
      clear hg
      go_wp2
      exact end_frame (M := fun f => (List.toArray (c0 :: c1 :: c2 :: c3 :: (.slice (some ⟨pk, 0, none⟩) 64 64) :: c5 :: c6 :: c7 :: (.slice (some ⟨pw, 0, none⟩) 64 64) :: c9 :: c10 :: c11 :: c12 :: (.slice (some ⟨pv, 0, none⟩) 8 cv) :: f 14 :: f 15 :: f 16 :: f 17 :: f 18 :: c19 :: c20 :: c21 :: c22 :: c23 :: c24 :: c25 :: c26 :: c27 :: c28 :: c29 :: c30 :: c31 :: c32 :: c33 :: c34 :: c35 :: c36 :: c37 :: c38 :: c39 :: c40 :: c41 :: c42 :: c43 :: c44 :: c45 :: c46 :: c47 :: c48 :: c49 :: c50 :: c51 :: c52 :: c53 :: c54 :: c55 :: c56 :: c57 :: c58 :: c59 :: c60 :: c61 :: c62 :: c63 :: c64 :: c65 :: c66 :: c67 :: c68 :: c69 :: c70 :: c71 :: c72 :: c73 :: c74 :: c75 :: c76 :: c77 :: c78 :: c79 :: c80 :: c81 :: c82 :: c83 :: c84 :: c85 :: c86 :: c87 :: c88 :: c89 :: c90 :: c91 :: c92 :: c93 :: c94 :: c95 :: c96 :: c97 :: c98 :: c99 :: c100 :: c101 :: c102 :: c103 :: c104 :: c105 :: c106 :: c107 :: c108 :: c109 :: c110 :: c111 :: c112 :: c113 :: c114 :: c115 :: c116 :: c117 :: c118 :: c119 :: c120 :: c121 :: c122 :: c123 :: c124 :: c125 :: c126 :: c127 :: c128 :: c129 :: c130 :: c131 :: c132 :: f 133 :: f 134 :: f 135 :: f 136 :: f 137 :: f 138 :: f 139 :: f 140 :: f 141 :: f 142 :: f 143 :: f 144 :: f 145 :: f 146 :: f 147 :: f 148 :: f 149 :: f 150 :: f 151 :: f 152 :: f 153 :: f 154 :: f 155 :: f 156 :: f 157 :: f 158 :: f 159 :: f 160 :: f 161 :: f 162 :: f 163 :: f 164 :: f 165 :: f 166 :: f 167 :: f 168 :: f 169 :: f 170 :: f 171 :: f 172 :: f 173 :: f 174 :: f 175 :: f 176 :: f 177 :: f 178 :: f 179 :: f 180 :: f 181 :: f 182 :: f 183 :: f 184 :: f 185 :: f 186 :: f 187 :: f 188 :: f 189 :: f 190 :: f 191 :: f 192 :: f 193 :: f 194 :: f 195 :: f 196 :: f 197 :: f 198 :: f 199 :: f 200 :: f 201 :: f 202 :: f 203 :: f 204 :: f 205 :: f 206 :: f 207 :: f 208 :: f 209 :: f 210 :: f 211 :: f 212 :: f 213 :: f 214 :: f 215 :: f 216 :: f 217 :: f 218 :: f 219 :: f 220 :: f 221 :: f 222 :: f 223 :: f 224 :: f 225 :: f 226 :: f 227 :: f 228 :: f 229 :: f 230 :: f 231 :: f 232 :: c233 :: c234 :: c235 :: c236 :: c237 :: c238 :: c239 :: c240 :: c241 :: c242 :: c243 :: c244 :: c245 :: c246 :: c247 :: c248 :: c249 :: c250 :: c251 :: c252 :: c253 :: c254 :: c255 :: c256 :: c257 :: c258 :: c259 :: c260 :: c261 :: c262 :: c263 :: c264 :: c265 :: c266 :: c267 :: []))) (by rfl) (fun f => hQ.out pv cv f _ ho.out)
end Go.Proofs.Ytjbhcmkloamcmaa
