/- The words of a block, the reference's. -/
import Derived.Test.YtjbhcmkloamcmaaDgF0
namespace Go.Proofs.Ytjbhcmkloamcmaa
open Go.RowKit

set_option maxRecDepth 1000000
set_option maxHeartbeats 16000000
theorem words_part (Q : Exit → Act → World → Prop) (w wr0 : World) (gb N c3' at' pw : Nat) (pad bj : List Int) (B1 B2 B3 : Res) {c0 c1 c2 c3 c4 c6 c10 c11 c12 c13 c14 c15 c16 c17 c18 c19 c20 c21 c22 c23 c24 c25 c26 c27 c28 c29 c30 c31 c32 c33 c34 c35 c36 c37 c38 c39 c40 c41 c42 c43 c44 c45 c46 c47 c48 c49 c50 c51 c52 c53 c54 c55 c56 c57 c58 c59 c60 c61 c62 c63 c64 c65 c66 c67 c68 c69 c70 c71 c72 c73 c74 c75 c76 c77 c78 c79 c80 c81 c82 c83 c84 c85 c86 c87 c88 c89 c90 c91 c92 c93 c94 c95 c96 c97 c98 c99 c100 c101 c102 c103 c104 c105 c106 c107 c108 c109 c110 c111 c112 c113 c114 c115 c116 c117 c118 c119 c120 c121 c122 c123 c124 c125 c126 c127 c128 c129 c130 c131 c132 c133 c134 c135 c136 c137 c138 c139 c140 c141 c142 c143 c144 c145 c146 c147 c148 c149 c150 c151 c152 c153 c154 c155 c156 c157 c158 c159 c160 c161 c162 c163 c164 c165 c166 c167 c168 c169 c170 c171 c172 c173 c174 c175 c176 c177 c178 c179 c180 c181 c182 c183 c184 c185 c186 c187 c188 c189 c190 c191 c192 c193 c194 c195 c196 c197 c198 c199 c200 c201 c202 c203 c204 c205 c206 c207 c208 c209 c210 c211 c212 c213 c214 c215 c216 c217 c218 c219 c220 c221 c222 c223 c224 c225 c226 c227 c228 c229 c230 c231 c232 c233 c234 c235 c236 c237 c238 c239 c240 c241 c242 c243 c244 c245 c246 c247 c248 c249 c250 c251 c252 c253 c254 c255 c256 c257 c258 c259 c260 c261 c262 c263 c264 c265 c266 c267 : Value} (hpN : pad.length = N) (hb1 : at' + 64 ≤ N) (hb2 : at' ≤ 64000000) (hb3 : N ≤ 64000000)
    (hbj : ∀ q, q < 64 → bj.getD q 0 = pad.getD (at' + q) 0) (hoA : Own w (fun _ => False) wr0 [blk pw (.cells (vals (sw bj 0)) 75 (0, 0)), row 5 1 (.slice (some ⟨gb, 0, none⟩) N c3') N (nums .u8 pad), B1, B2, B3]) (hQ : ∀ (f : Nat → Value) (w' : World), Own w (fun _ => False) w' [blk pw (.cells (vals (sched bj 64)) 75 (0, 0)), row 5 1 (.slice (some ⟨gb, 0, none⟩) N c3') N (nums .u8 pad), B1, B2, B3] → Q .normal ⟨(List.toArray (c0 :: c1 :: c2 :: c3 :: c4 :: (.slice (some ⟨gb, 0, none⟩) N c3') :: c6 :: (.int .i64 (at' : Int)) :: (.slice (some ⟨pw, 0, none⟩) 64 64) :: f 9 :: f 10 :: f 11 :: f 12 :: c13 :: c14 :: c15 :: c16 :: c17 :: c18 :: c19 :: c20 :: c21 :: c22 :: c23 :: c24 :: c25 :: c26 :: c27 :: c28 :: c29 :: c30 :: c31 :: c32 :: c33 :: c34 :: c35 :: c36 :: c37 :: c38 :: c39 :: c40 :: c41 :: c42 :: c43 :: c44 :: c45 :: c46 :: c47 :: c48 :: c49 :: c50 :: c51 :: c52 :: c53 :: c54 :: c55 :: c56 :: c57 :: c58 :: f 59 :: f 60 :: f 61 :: f 62 :: f 63 :: f 64 :: f 65 :: f 66 :: f 67 :: f 68 :: f 69 :: f 70 :: f 71 :: f 72 :: f 73 :: f 74 :: f 75 :: f 76 :: f 77 :: f 78 :: f 79 :: f 80 :: f 81 :: f 82 :: f 83 :: f 84 :: f 85 :: f 86 :: f 87 :: f 88 :: f 89 :: f 90 :: f 91 :: f 92 :: f 93 :: f 94 :: f 95 :: f 96 :: f 97 :: f 98 :: f 99 :: f 100 :: f 101 :: f 102 :: f 103 :: f 104 :: f 105 :: f 106 :: f 107 :: f 108 :: f 109 :: f 110 :: f 111 :: f 112 :: f 113 :: f 114 :: f 115 :: f 116 :: f 117 :: f 118 :: f 119 :: f 120 :: f 121 :: f 122 :: f 123 :: f 124 :: f 125 :: f 126 :: f 127 :: f 128 :: f 129 :: c130 :: c131 :: c132 :: c133 :: c134 :: c135 :: c136 :: c137 :: c138 :: c139 :: c140 :: c141 :: c142 :: c143 :: c144 :: c145 :: c146 :: c147 :: c148 :: c149 :: c150 :: c151 :: c152 :: c153 :: c154 :: c155 :: c156 :: c157 :: c158 :: c159 :: c160 :: c161 :: c162 :: c163 :: c164 :: c165 :: c166 :: c167 :: c168 :: c169 :: c170 :: c171 :: c172 :: c173 :: c174 :: c175 :: c176 :: c177 :: c178 :: c179 :: c180 :: c181 :: c182 :: c183 :: c184 :: c185 :: c186 :: c187 :: c188 :: c189 :: c190 :: c191 :: c192 :: c193 :: c194 :: c195 :: c196 :: c197 :: c198 :: c199 :: c200 :: c201 :: c202 :: c203 :: c204 :: c205 :: c206 :: c207 :: c208 :: c209 :: c210 :: c211 :: c212 :: c213 :: c214 :: c215 :: c216 :: c217 :: c218 :: c219 :: c220 :: c221 :: c222 :: c223 :: c224 :: c225 :: c226 :: c227 :: c228 :: c229 :: c230 :: c231 :: c232 :: c233 :: c234 :: c235 :: c236 :: c237 :: c238 :: c239 :: c240 :: c241 :: c242 :: c243 :: c244 :: c245 :: c246 :: c247 :: c248 :: c249 :: c250 :: c251 :: c252 :: c253 :: c254 :: c255 :: c256 :: c257 :: c258 :: c259 :: c260 :: c261 :: c262 :: c263 :: c264 :: c265 :: c266 :: c267 :: [])), []⟩ w') :
    ((Try.f16.body.bind (findBlk 6)).getD .skip).wp Try.prog Q ⟨(List.toArray (c0 :: c1 :: c2 :: c3 :: c4 :: (.slice (some ⟨gb, 0, none⟩) N c3') :: c6 :: (.int .i64 (at' : Int)) :: (.slice (some ⟨pw, 0, none⟩) 64 64) :: (.int .i64 0) :: c10 :: c11 :: c12 :: c13 :: c14 :: c15 :: c16 :: c17 :: c18 :: c19 :: c20 :: c21 :: c22 :: c23 :: c24 :: c25 :: c26 :: c27 :: c28 :: c29 :: c30 :: c31 :: c32 :: c33 :: c34 :: c35 :: c36 :: c37 :: c38 :: c39 :: c40 :: c41 :: c42 :: c43 :: c44 :: c45 :: c46 :: c47 :: c48 :: c49 :: c50 :: c51 :: c52 :: c53 :: c54 :: c55 :: c56 :: c57 :: c58 :: c59 :: c60 :: c61 :: c62 :: c63 :: c64 :: c65 :: c66 :: c67 :: c68 :: c69 :: c70 :: c71 :: c72 :: c73 :: c74 :: c75 :: c76 :: c77 :: c78 :: c79 :: c80 :: c81 :: c82 :: c83 :: c84 :: c85 :: c86 :: c87 :: c88 :: c89 :: c90 :: c91 :: c92 :: c93 :: c94 :: c95 :: c96 :: c97 :: c98 :: c99 :: c100 :: c101 :: c102 :: c103 :: c104 :: c105 :: c106 :: c107 :: c108 :: c109 :: c110 :: c111 :: c112 :: c113 :: c114 :: c115 :: c116 :: c117 :: c118 :: c119 :: c120 :: c121 :: c122 :: c123 :: c124 :: c125 :: c126 :: c127 :: c128 :: c129 :: c130 :: c131 :: c132 :: c133 :: c134 :: c135 :: c136 :: c137 :: c138 :: c139 :: c140 :: c141 :: c142 :: c143 :: c144 :: c145 :: c146 :: c147 :: c148 :: c149 :: c150 :: c151 :: c152 :: c153 :: c154 :: c155 :: c156 :: c157 :: c158 :: c159 :: c160 :: c161 :: c162 :: c163 :: c164 :: c165 :: c166 :: c167 :: c168 :: c169 :: c170 :: c171 :: c172 :: c173 :: c174 :: c175 :: c176 :: c177 :: c178 :: c179 :: c180 :: c181 :: c182 :: c183 :: c184 :: c185 :: c186 :: c187 :: c188 :: c189 :: c190 :: c191 :: c192 :: c193 :: c194 :: c195 :: c196 :: c197 :: c198 :: c199 :: c200 :: c201 :: c202 :: c203 :: c204 :: c205 :: c206 :: c207 :: c208 :: c209 :: c210 :: c211 :: c212 :: c213 :: c214 :: c215 :: c216 :: c217 :: c218 :: c219 :: c220 :: c221 :: c222 :: c223 :: c224 :: c225 :: c226 :: c227 :: c228 :: c229 :: c230 :: c231 :: c232 :: c233 :: c234 :: c235 :: c236 :: c237 :: c238 :: c239 :: c240 :: c241 :: c242 :: c243 :: c244 :: c245 :: c246 :: c247 :: c248 :: c249 :: c250 :: c251 :: c252 :: c253 :: c254 :: c255 :: c256 :: c257 :: c258 :: c259 :: c260 :: c261 :: c262 :: c263 :: c264 :: c265 :: c266 :: c267 :: [])), []⟩ wr0 := by
  conv => arg 2; whnf
  replace hQ := Hidd.mk hQ
  replace hpN := Hidd.mk hpN
  replace hbj := Hidd.mk hbj
  replace hoA := Hidd.mk hoA
  go_wp2
  go_loopg [9] 64 (fun g v9 wx => ∃ (t : Nat), t + g = 64 ∧ v9 = .int .i64 t ∧ Hidd (Own w (fun _ => False) wx [blk pw (.cells (vals (sw bj t)) 75 (0, 0)), row 5 1 (.slice (some ⟨gb, 0, none⟩) N c3') N (nums .u8 pad), B1, B2, B3]))
  case atStart => exact ⟨0, by omega, rfl, hoA⟩
  case round =>
    clear hoA
    obtain ⟨t, hg, rfl, ho⟩ := hrel
    cases gk with
    | succ gx =>
      have ht : t < 64 := by omega
      have d4 : decide ((t : Int) < 64) = true := by rw [decide_eq_true_eq]; omega
      have bt0 : (0 : Int) ≤ (t : Int) := by omega
      have bt1 : (t : Int) < 64 := by omega
      have hgt : t + 1 + gx = 64 := by omega
      clear hg
      by_cases h16 : t < 16
      · have d5 : decide ((t : Int) < 16) = true := by rw [decide_eq_true_eq]; omega
        go_wp2
        go_loopg [10] 4 (fun g v10 wx => ∃ (i : Nat), i + g = 4 ∧ v10 = .int .i64 i ∧ Hidd (Own w (fun _ => False) wx [blk pw (.cells (vals ((sw bj t).set t (partW bj t i))) 75 (0, 0)), row 5 1 (.slice (some ⟨gb, 0, none⟩) N c3') N (nums .u8 pad), B1, B2, B3]))
        case atStart => exact ⟨0, by omega, rfl, ⟨by rw [show partW bj t 0 = 0 from rfl, sw_zero _ _ ht]; exact ho.out⟩⟩
        case round =>
          clear ho
          obtain ⟨i, hg, rfl, ho⟩ := hrel
          cases gk with
          | succ g5 =>
            have d6 : decide ((i : Int) < 4) = true := by rw [decide_eq_true_eq]; omega
            have hx := Hidd.mk (hbj.out (4 * t + i) (by omega))
            obtain ⟨q, hq⟩ : ∃ q, q = at' + (4 * t + i) := ⟨_, rfl⟩
            rw [← hq] at hx
            obtain ⟨q0, hq0⟩ : ∃ q0, q0 = at' + 4 * t := ⟨_, rfl⟩
            have mq0 : IntKind.i64.wrap ((at' : Int) + 4 * (t : Int)) = (q0 : Int) := by rw [go_i64]; omega
            have mq1 : IntKind.i64.wrap ((q0 : Int) + (i : Int)) = (q : Int) := by rw [go_i64]; omega
            have m4 : IntKind.i64.wrap (4 * (t : Int)) = 4 * (t : Int) := by rw [go_i64]; omega
            have bq : (q : Int) < (N : Int) := by omega
            have bq' : q < N := by omega
            clear hq hq0
            go_wp2
            obtain ⟨W0, hW0⟩ : ∃ zz, zz = World.drew wr := ⟨_, rfl⟩
            refine wp_region_flow [([0, 1, 2, 3, 7, 8, 9, 12, 4, 10, 5, 11, 6, 13, 14, 15, 16, 17, 18], some (19, [false]))] (by kernel_rfl) (by kernel_rfl) ?_
            rw [show ({ wr with drawn := wr.drawn + 1 } : World) = W0 from hW0.symm]
            replace hW0 := Hidd.mk hW0
            simp only [opsF, List.map_cons, List.map_nil, List.getD_cons_succ, List.getD_cons_zero, Option.map]
            have ho2 := Hidd.mk (show Own w _ W0 _ by rw [hW0.out]; exact ho.out.drew)
            clear hW0 ho
            have hpq : pad[q]? = some (pad.getD q 0) := getD_some 0 (by rw [hpN.out]; exact bq')
            have y1 : W0.cell? ⟨gb, q, none⟩ = some (.int .u8 (pad.getD q 0)) := cells_atD (row_cells ho2.out 1 rfl) (nums_getD (k := .u8) hpq)
            have y0 : W0.cell? ⟨pw, t, none⟩ = some (.int .u32 ((partW bj t i).toNat : Int)) := (ho2.out.cell 0 rfl t).trans (vals_get (by rw [List.getElem?_set_self (by rw [sw_len _ _ (by omega)]; exact ht)]))
            have wz := v_wrapI (pad.getD q 0)
            have f0 := ho2.out.frozen 0 rfl t
            have eo := or8_v (partW bj t i) (bw (pad.getD q 0))
            have en := Hidd.mk (show partW bj t (i + 1) = partW bj t i <<< 8 ||| bw (pad.getD q 0) by rw [partW, hx.out])
            obtain ⟨z, ez⟩ : ∃ z, z = partW bj t i <<< 8 ||| bw (pad.getD q 0) := ⟨_, rfl⟩
            rw [← ez] at eo en
            clear ez hpq
            generalize pad.getD q 0 = b at y1 wz eo
            obtain ⟨y, ey⟩ : ∃ y, y = partW bj t i := ⟨_, rfl⟩
            rw [← ey] at y0 eo
            clear ey
            have ho3 := Hidd.mk (ho2.out.set 0 rfl t (u32v z))
            refine FlW.stage (fun zz => zz = _) rfl ?_
            repeat (first | (refine StQ.skip (by rfl) ?_; simp only [Act.put, List.setIfInBounds_toArray, List.set_cons_zero, List.set_cons_succ]) | (refine StQ.go' (by rfl) (Exists.intro ?_ (And.intro (fun w' hS => ?_) ?_)); rotate_left; (focus (rw [hS]; go_simp; try with_reducible rfl)); simp only [Act.put, List.setIfInBounds_toArray, List.set_cons_zero, List.set_cons_succ]))
            refine StQ.nil ?_
            refine FlO.go (by rfl) (fun K hK => ?_); go_simp; refine hK.out _ _ (.inr trivial) ?_; clear hK K
            refine FlW.nil (Calm.normal ?_)
            go_wp2
            go_roundg g5
            case rel =>
              refine ⟨i + 1, by omega, by go_num, ⟨?_⟩⟩
              have h3 := ho3.out
              simp only [List.set_cons_zero, vals_set, List.set_set] at h3
              rw [en.out]
              exact h3
            case measure => omega
          | zero =>
            obtain rfl : i = 4 := by omega
            have d6 : decide ((4 : Int) < 4) = false := by decide
            go_wp2
            go_roundg gx
            case rel =>
              refine ⟨t + 1, hgt, by go_num, ⟨?_⟩⟩
              have h3 := ho.out
              rw [partW_all, sw_set ht (nextW_lo h16).symm] at h3
              exact h3
            case measure => omega
      · have d5 : decide ((t : Int) < 16) = false := by rw [decide_eq_false_iff_not]; omega
        obtain ⟨a2, ha2⟩ : ∃ j, j = t - 2 := ⟨_, rfl⟩
        obtain ⟨a7, ha7⟩ : ∃ j, j = t - 7 := ⟨_, rfl⟩
        obtain ⟨a15, ha15⟩ : ∃ j, j = t - 15 := ⟨_, rfl⟩
        obtain ⟨a16, ha16⟩ : ∃ j, j = t - 16 := ⟨_, rfl⟩
        have en := nextW_hi (bs := bj) (t := t) (by omega)
        rw [← ha2, ← ha7, ← ha15, ← ha16] at en
        have x2 : (sw bj t)[a2]? = some ((sched bj t).getD a2 0) := sw_get (by omega)
        have x7 : (sw bj t)[a7]? = some ((sched bj t).getD a7 0) := sw_get (by omega)
        have x15 : (sw bj t)[a15]? = some ((sched bj t).getD a15 0) := sw_get (by omega)
        have x16 : (sw bj t)[a16]? = some ((sched bj t).getD a16 0) := sw_get (by omega)
        generalize (sched bj t).getD a2 0 = v2 at x2 en
        generalize (sched bj t).getD a7 0 = v7 at x7 en
        generalize (sched bj t).getD a15 0 = v15 at x15 en
        generalize (sched bj t).getD a16 0 = v16 at x16 en
        replace x2 := Hidd.mk x2
        replace x7 := Hidd.mk x7
        replace x15 := Hidd.mk x15
        replace x16 := Hidd.mk x16
        have m2 : IntKind.i64.wrap ((t : Int) - 2) = (a2 : Int) := by rw [go_i64]; omega
        have m7 : IntKind.i64.wrap ((t : Int) - 7) = (a7 : Int) := by rw [go_i64]; omega
        have m15 : IntKind.i64.wrap ((t : Int) - 15) = (a15 : Int) := by rw [go_i64]; omega
        have m16 : IntKind.i64.wrap ((t : Int) - 16) = (a16 : Int) := by rw [go_i64]; omega
        have n2 : (a2 : Int) < 64 := by omega
        have n7 : (a7 : Int) < 64 := by omega
        have n15 : (a15 : Int) < 64 := by omega
        have n16 : (a16 : Int) < 64 := by omega
        clear ha2 ha7 ha15 ha16
        obtain ⟨z0, ez0⟩ : ∃ x : W32, x = sg0 v15 := ⟨_, rfl⟩
        obtain ⟨z1, ez1⟩ : ∃ x : W32, x = sg1 v2 := ⟨_, rfl⟩
        obtain ⟨za, eza⟩ : ∃ x : W32, x = v16 + z0 := ⟨_, rfl⟩
        obtain ⟨zb, ezb⟩ : ∃ x : W32, x = za + v7 := ⟨_, rfl⟩
        obtain ⟨z, ez⟩ : ∃ x : W32, x = zb + z1 := ⟨_, rfl⟩
        have g0 := sg0_v v15
        rw [← ez0] at g0
        have g1 := sg1_v v2
        rw [← ez1] at g1
        have ga := v_add v16 z0
        rw [← eza] at ga
        have gb' := v_add za v7
        rw [← ezb] at gb'
        have gc := v_add zb z1
        rw [← ez] at gc
        replace en := Hidd.mk (show nextW bj (sched bj t) = z by rw [en, ez, ezb, eza, ez0, ez1])
        clear ez ezb eza ez0 ez1
        go_wp2
        have y15 := (ho.out.cell 0 rfl a15).trans (vals_get x15.out)
        have y2 := (ho.out.cell 0 rfl a2).trans (vals_get x2.out)
        go_quiet (fail)
        have ho1 := Hidd.mk (ho.out.ext (below_drewN' nq (Below.refl _ _)))
        clear y15 y2 ho
        generalize World.drewN wr nq = W1 at ho1 ⊢
        go_wp2
        obtain ⟨W0, hW0⟩ : ∃ zz, zz = World.drew W1 := ⟨_, rfl⟩
        refine wp_region_flow [([0, 1, 2, 3, 7, 9, 12, 16, 17, 22, 24, 27, 4, 13, 18, 28, 5, 19, 6, 20], some (8, [true])), ([], some (10, [false, true])), ([11, 14, 15, 21], some (23, [true, false, true])), ([], some (25, [false, true, false, true])), ([26, 29, 30, 31], some (32, [false, false, false, false, false]))] (by kernel_rfl) (by kernel_rfl) ?_
        rw [show ({ W1 with drawn := W1.drawn + 1 } : World) = W0 from hW0.symm]
        replace hW0 := Hidd.mk hW0
        simp only [opsF, List.map_cons, List.map_nil, List.getD_cons_succ, List.getD_cons_zero, Option.map]
        have ho2 := Hidd.mk (show Own w _ W0 _ by rw [hW0.out]; exact ho1.out.drew)
        clear hW0 ho1
        have y16 := (ho2.out.cell 0 rfl a16).trans (vals_get x16.out)
        have y7 := (ho2.out.cell 0 rfl a7).trans (vals_get x7.out)
        have hpl0 := ho2.out.lt 0 rfl
        refine FlW.stage (fun zz => Kept (fun _ => False) W0 zz) (Kept.refl _ _) ?_
        repeat (first | (refine StQ.skip (by rfl) ?_; simp only [Act.put, List.setIfInBounds_toArray, List.set_cons_zero, List.set_cons_succ]) | (refine StQ.go' (by rfl) (Exists.intro ?_ (And.intro (fun w' hS => ?_) ?_)); rotate_left; (focus (have hc := Kept.cell0 hS; go_simp; try with_reducible rfl)); simp only [Act.put, List.setIfInBounds_toArray, List.set_cons_zero, List.set_cons_succ]))
        refine StQ.nil ?_
        clear y16 y7
        refine FlO.go (by rfl) (fun K hK => ?_)
        go_simp
        (refine (right_i _ _ (by decide) (by decide) _).mono ?_; rintro e wd1 ⟨rfl, m1, rfl⟩)
        refine hK.out _ _ (.inr ⟨Kept.drewN _ _ _, trivial⟩) ?_
        clear hK K
        refine FlW.stage (fun _ => True) trivial (StQ.nil ?_)
        refine FlO.go (by rfl) (fun K hK => ?_)
        go_simp
        (refine (right_i _ _ (by decide) (by decide) _).mono ?_; rintro e wd2 ⟨rfl, m3, rfl⟩)
        refine hK.out _ _ (.inr ⟨(Kept.drewN _ _ _).trans (Kept.drewN _ _ _), trivial⟩) ?_
        clear hK K
        have ho3 := Hidd.mk (ho2.out.ext (below_drewN' m3 (below_drewN' m1 (Below.refl _ _))))
        have hk03 := (Kept.drewN (fun _ => False) W0 m1).trans (Kept.drewN _ _ m3)
        clear ho2
        generalize World.drewN (World.drewN W0 m1) m3 = W3 at ho3 hk03 ⊢
        replace hk03 := Hidd.mk hk03
        have y7 := (ho3.out.cell 0 rfl a7).trans (vals_get x7.out)
        have hpl1 := ho3.out.lt 0 rfl
        refine FlW.stage (fun zz => Kept (fun _ => False) W3 zz) (Kept.refl _ _) ?_
        repeat (first | (refine StQ.skip (by rfl) ?_; simp only [Act.put, List.setIfInBounds_toArray, List.set_cons_zero, List.set_cons_succ]) | (refine StQ.go' (by rfl) (Exists.intro ?_ (And.intro (fun w' hS => ?_) ?_)); rotate_left; (focus (have hc := Kept.cell0 hS; go_simp; try with_reducible rfl)); simp only [Act.put, List.setIfInBounds_toArray, List.set_cons_zero, List.set_cons_succ]))
        refine StQ.nil ?_
        clear y7
        refine FlO.go (by rfl) (fun K hK => ?_)
        go_simp
        (refine (right_i _ _ (by decide) (by decide) _).mono ?_; rintro e wd1 ⟨rfl, m5, rfl⟩)
        refine hK.out _ _ (.inr ⟨Kept.drewN _ _ _, hk03.out.trans (Kept.drewN _ _ _), trivial⟩) ?_
        clear hK K
        refine FlW.stage (fun _ => True) trivial (StQ.nil ?_)
        refine FlO.go (by rfl) (fun K hK => ?_)
        go_simp
        (refine (right_i _ _ (by decide) (by decide) _).mono ?_; rintro e wd2 ⟨rfl, m6, rfl⟩)
        refine hK.out _ _ (.inr ⟨(Kept.drewN _ _ _).trans (Kept.drewN _ _ _), hk03.out.trans ((Kept.drewN _ _ _).trans (Kept.drewN _ _ _)), trivial⟩) ?_
        clear hK K
        have ho5 := Hidd.mk (ho3.out.ext (below_drewN' m6 (below_drewN' m5 (Below.refl _ _))))
        clear ho3 hk03 hpl0 hpl1
        generalize World.drewN (World.drewN W3 m5) m6 = W5 at ho5 ⊢
        have f6 := ho5.out.frozen 0 rfl t
        have e6 := (ho5.out.cell 0 rfl t).trans (vals_get (getD_some 0 (by rw [sw_len _ _ (by omega)]; omega)))
        have ho6 := Hidd.mk (ho5.out.set 0 rfl t (u32v z))
        generalize (sw bj t).getD t 0 = x6 at e6
        refine FlW.stage (fun zz => zz = _) rfl ?_
        repeat (first | (refine StQ.skip (by rfl) ?_; simp only [Act.put, List.setIfInBounds_toArray, List.set_cons_zero, List.set_cons_succ]) | (refine StQ.go' (by rfl) (Exists.intro ?_ (And.intro (fun w' hS => ?_) ?_)); rotate_left; (focus (rw [hS]; go_simp; try with_reducible rfl)); simp only [Act.put, List.setIfInBounds_toArray, List.set_cons_zero, List.set_cons_succ]))
        refine StQ.nil ?_
        refine FlO.go (by rfl) (fun K hK => ?_); go_simp; refine hK.out _ _ (.inr trivial) ?_; clear hK K
        refine FlW.nil (Calm.normal ?_)
        go_wp2
        go_roundg gx
        case rel =>
          refine ⟨t + 1, hgt, by go_num, ⟨?_⟩⟩
          have h6 := ho6.out
          rw [List.set_cons_zero, vals_set, sw_set ht en.out.symm] at h6
          exact h6
        case measure => omega
    | zero =>
      obtain rfl : t = 64 := by omega
      have d4 : decide ((64 : Int) < 64) = false := by decide
      have esw : sw bj 64 = sched bj 64 := by simp [sw]
      rw [esw] at ho
      clear esw hg
      go_wp2
      exact end_frame (M := fun f => (List.toArray (c0 :: c1 :: c2 :: c3 :: c4 :: (.slice (some ⟨gb, 0, none⟩) N c3') :: c6 :: (.int .i64 (at' : Int)) :: (.slice (some ⟨pw, 0, none⟩) 64 64) :: f 9 :: f 10 :: f 11 :: f 12 :: c13 :: c14 :: c15 :: c16 :: c17 :: c18 :: c19 :: c20 :: c21 :: c22 :: c23 :: c24 :: c25 :: c26 :: c27 :: c28 :: c29 :: c30 :: c31 :: c32 :: c33 :: c34 :: c35 :: c36 :: c37 :: c38 :: c39 :: c40 :: c41 :: c42 :: c43 :: c44 :: c45 :: c46 :: c47 :: c48 :: c49 :: c50 :: c51 :: c52 :: c53 :: c54 :: c55 :: c56 :: c57 :: c58 :: f 59 :: f 60 :: f 61 :: f 62 :: f 63 :: f 64 :: f 65 :: f 66 :: f 67 :: f 68 :: f 69 :: f 70 :: f 71 :: f 72 :: f 73 :: f 74 :: f 75 :: f 76 :: f 77 :: f 78 :: f 79 :: f 80 :: f 81 :: f 82 :: f 83 :: f 84 :: f 85 :: f 86 :: f 87 :: f 88 :: f 89 :: f 90 :: f 91 :: f 92 :: f 93 :: f 94 :: f 95 :: f 96 :: f 97 :: f 98 :: f 99 :: f 100 :: f 101 :: f 102 :: f 103 :: f 104 :: f 105 :: f 106 :: f 107 :: f 108 :: f 109 :: f 110 :: f 111 :: f 112 :: f 113 :: f 114 :: f 115 :: f 116 :: f 117 :: f 118 :: f 119 :: f 120 :: f 121 :: f 122 :: f 123 :: f 124 :: f 125 :: f 126 :: f 127 :: f 128 :: f 129 :: c130 :: c131 :: c132 :: c133 :: c134 :: c135 :: c136 :: c137 :: c138 :: c139 :: c140 :: c141 :: c142 :: c143 :: c144 :: c145 :: c146 :: c147 :: c148 :: c149 :: c150 :: c151 :: c152 :: c153 :: c154 :: c155 :: c156 :: c157 :: c158 :: c159 :: c160 :: c161 :: c162 :: c163 :: c164 :: c165 :: c166 :: c167 :: c168 :: c169 :: c170 :: c171 :: c172 :: c173 :: c174 :: c175 :: c176 :: c177 :: c178 :: c179 :: c180 :: c181 :: c182 :: c183 :: c184 :: c185 :: c186 :: c187 :: c188 :: c189 :: c190 :: c191 :: c192 :: c193 :: c194 :: c195 :: c196 :: c197 :: c198 :: c199 :: c200 :: c201 :: c202 :: c203 :: c204 :: c205 :: c206 :: c207 :: c208 :: c209 :: c210 :: c211 :: c212 :: c213 :: c214 :: c215 :: c216 :: c217 :: c218 :: c219 :: c220 :: c221 :: c222 :: c223 :: c224 :: c225 :: c226 :: c227 :: c228 :: c229 :: c230 :: c231 :: c232 :: c233 :: c234 :: c235 :: c236 :: c237 :: c238 :: c239 :: c240 :: c241 :: c242 :: c243 :: c244 :: c245 :: c246 :: c247 :: c248 :: c249 :: c250 :: c251 :: c252 :: c253 :: c254 :: c255 :: c256 :: c257 :: c258 :: c259 :: c260 :: c261 :: c262 :: c263 :: c264 :: c265 :: c266 :: c267 :: []))) (by rfl) (fun f => hQ.out f _ ho.out)
end Go.Proofs.Ytjbhcmkloamcmaa
