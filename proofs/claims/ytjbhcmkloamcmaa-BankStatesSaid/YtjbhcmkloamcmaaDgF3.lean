/- All blocks, the reference's. -/
import Derived.Test.YtjbhcmkloamcmaaDgF1
import Derived.Test.YtjbhcmkloamcmaaDgF2
import Derived.Deep.CutBlock
namespace Go.Proofs.Ytjbhcmkloamcmaa
open Go.RowKit

set_option maxRecDepth 1000000
set_option maxHeartbeats 16000000
theorem blocks_part (Q : Exit → Act → World → Prop) (w wr0 : World) (gb N c3 pk ph p2 mb : Nat) (pad : List Int) {c0 c1 c2 c6 c8 c9 c10 c11 c12 c13 c14 c15 c16 c17 c18 c19 c20 c21 c22 c23 c24 c25 c26 c27 c28 c29 c30 c31 c32 c33 c34 c35 c36 c37 c38 c39 c40 c41 c42 c43 c44 c45 c46 c47 c48 c49 c50 c51 c52 c53 c54 c55 c56 c57 c58 c59 c60 c61 c62 c63 c64 c65 c66 c67 c68 c69 c70 c71 c72 c73 c74 c75 c76 c77 c78 c79 c80 c81 c82 c83 c84 c85 c86 c87 c88 c89 c90 c91 c92 c93 c94 c95 c96 c97 c98 c99 c100 c101 c102 c103 c104 c105 c106 c107 c108 c109 c110 c111 c112 c113 c114 c115 c116 c117 c118 c119 c120 c121 c122 c123 c124 c125 c126 c127 c128 c129 c130 c131 c132 c133 c134 c135 c136 c137 c138 c139 c140 c141 c142 c143 c144 c145 c146 c147 c148 c149 c150 c151 c152 c153 c154 c155 c156 c157 c158 c159 c160 c161 c162 c163 c164 c165 c166 c167 c168 c169 c170 c171 c172 c173 c174 c175 c176 c177 c178 c179 c180 c181 c182 c183 c184 c185 c186 c187 c188 c189 c190 c191 c192 c193 c194 c195 c196 c197 c198 c199 c200 c201 c202 c203 c204 c205 c206 c207 c208 c209 c210 c211 c212 c213 c214 c215 c216 c217 c218 c219 c220 c221 c222 c223 c224 c225 c226 c227 c228 c229 c230 c231 c232 c233 c234 c235 c236 c237 c238 c239 c240 c241 c242 c243 c244 c245 c246 c247 c248 c249 c250 c251 c252 c253 c254 c255 c256 c257 c258 c259 c260 c261 c262 c263 c264 c265 c266 c267 : Value} (hpN : pad.length = N) (hNm : N = 64 * mb) (hmb : mb ≤ 1000000) (hoA : Own w (fun _ => False) wr0 [row 5 1 (.slice (some ⟨gb, 0, none⟩) N c3) N (nums .u8 pad), blk pk (.cells (vals kays) 75 (0, 0)), blk ph (.cells (vals ivs) 75 (0, 0)), blk p2 (.cells (nums .u8 (List.replicate 32 0)).toArray 33 (0, 0))])
    (hQ : ∀ (f : Nat → Value) (w' : World), Own w (fun _ => False) w' [row 5 1 (.slice (some ⟨gb, 0, none⟩) N c3) N (nums .u8 pad), blk pk (.cells (vals kays) 75 (0, 0)), blk ph (.cells (vals (blocks kays ivs pad mb)) 75 (0, 0)), blk p2 (.cells (nums .u8 (List.replicate 32 0)).toArray 33 (0, 0))] → Q .normal ⟨(List.toArray (c0 :: c1 :: c2 :: (.slice (some ⟨ph, 0, none⟩) 8 8) :: (.slice (some ⟨pk, 0, none⟩) 64 64) :: (.slice (some ⟨gb, 0, none⟩) N c3) :: c6 :: f 7 :: f 8 :: f 9 :: f 10 :: f 11 :: f 12 :: f 13 :: f 14 :: f 15 :: f 16 :: f 17 :: f 18 :: f 19 :: c20 :: c21 :: c22 :: c23 :: c24 :: c25 :: c26 :: c27 :: c28 :: c29 :: c30 :: c31 :: c32 :: c33 :: c34 :: c35 :: c36 :: c37 :: c38 :: c39 :: c40 :: c41 :: c42 :: c43 :: c44 :: c45 :: c46 :: c47 :: c48 :: c49 :: c50 :: c51 :: f 52 :: f 53 :: f 54 :: f 55 :: f 56 :: f 57 :: f 58 :: f 59 :: f 60 :: f 61 :: f 62 :: f 63 :: f 64 :: f 65 :: f 66 :: f 67 :: f 68 :: f 69 :: f 70 :: f 71 :: f 72 :: f 73 :: f 74 :: f 75 :: f 76 :: f 77 :: f 78 :: f 79 :: f 80 :: f 81 :: f 82 :: f 83 :: f 84 :: f 85 :: f 86 :: f 87 :: f 88 :: f 89 :: f 90 :: f 91 :: f 92 :: f 93 :: f 94 :: f 95 :: f 96 :: f 97 :: f 98 :: f 99 :: f 100 :: f 101 :: f 102 :: f 103 :: f 104 :: f 105 :: f 106 :: f 107 :: f 108 :: f 109 :: f 110 :: f 111 :: f 112 :: f 113 :: f 114 :: f 115 :: f 116 :: f 117 :: f 118 :: f 119 :: f 120 :: f 121 :: f 122 :: f 123 :: f 124 :: f 125 :: f 126 :: f 127 :: f 128 :: f 129 :: f 130 :: f 131 :: f 132 :: f 133 :: f 134 :: f 135 :: f 136 :: f 137 :: f 138 :: f 139 :: f 140 :: f 141 :: f 142 :: f 143 :: f 144 :: f 145 :: f 146 :: f 147 :: f 148 :: f 149 :: f 150 :: f 151 :: f 152 :: f 153 :: f 154 :: f 155 :: f 156 :: f 157 :: f 158 :: f 159 :: f 160 :: f 161 :: f 162 :: f 163 :: f 164 :: f 165 :: f 166 :: f 167 :: f 168 :: f 169 :: f 170 :: f 171 :: f 172 :: f 173 :: f 174 :: f 175 :: f 176 :: f 177 :: f 178 :: f 179 :: f 180 :: f 181 :: f 182 :: f 183 :: f 184 :: f 185 :: f 186 :: f 187 :: f 188 :: f 189 :: f 190 :: f 191 :: f 192 :: f 193 :: f 194 :: f 195 :: f 196 :: f 197 :: f 198 :: f 199 :: f 200 :: f 201 :: f 202 :: f 203 :: f 204 :: f 205 :: f 206 :: f 207 :: f 208 :: f 209 :: f 210 :: f 211 :: f 212 :: f 213 :: f 214 :: f 215 :: f 216 :: f 217 :: f 218 :: f 219 :: f 220 :: f 221 :: f 222 :: f 223 :: f 224 :: f 225 :: f 226 :: f 227 :: f 228 :: f 229 :: f 230 :: f 231 :: f 232 :: f 233 :: f 234 :: f 235 :: f 236 :: f 237 :: f 238 :: f 239 :: f 240 :: f 241 :: f 242 :: f 243 :: f 244 :: f 245 :: f 246 :: f 247 :: f 248 :: c249 :: c250 :: c251 :: c252 :: c253 :: c254 :: c255 :: c256 :: c257 :: c258 :: c259 :: c260 :: c261 :: c262 :: c263 :: c264 :: c265 :: c266 :: c267 :: [])), []⟩ w') :
    ((Try.f16.body.bind (findBlk 4)).getD .skip).wp Try.prog Q ⟨(List.toArray (c0 :: c1 :: c2 :: (.slice (some ⟨ph, 0, none⟩) 8 8) :: (.slice (some ⟨pk, 0, none⟩) 64 64) :: (.slice (some ⟨gb, 0, none⟩) N c3) :: c6 :: (.int .i64 0) :: c8 :: c9 :: c10 :: c11 :: c12 :: c13 :: c14 :: c15 :: c16 :: c17 :: c18 :: c19 :: c20 :: c21 :: c22 :: c23 :: c24 :: c25 :: c26 :: c27 :: c28 :: c29 :: c30 :: c31 :: c32 :: c33 :: c34 :: c35 :: c36 :: c37 :: c38 :: c39 :: c40 :: c41 :: c42 :: c43 :: c44 :: c45 :: c46 :: c47 :: c48 :: c49 :: c50 :: c51 :: c52 :: c53 :: c54 :: c55 :: c56 :: c57 :: c58 :: c59 :: c60 :: c61 :: c62 :: c63 :: c64 :: c65 :: c66 :: c67 :: c68 :: c69 :: c70 :: c71 :: c72 :: c73 :: c74 :: c75 :: c76 :: c77 :: c78 :: c79 :: c80 :: c81 :: c82 :: c83 :: c84 :: c85 :: c86 :: c87 :: c88 :: c89 :: c90 :: c91 :: c92 :: c93 :: c94 :: c95 :: c96 :: c97 :: c98 :: c99 :: c100 :: c101 :: c102 :: c103 :: c104 :: c105 :: c106 :: c107 :: c108 :: c109 :: c110 :: c111 :: c112 :: c113 :: c114 :: c115 :: c116 :: c117 :: c118 :: c119 :: c120 :: c121 :: c122 :: c123 :: c124 :: c125 :: c126 :: c127 :: c128 :: c129 :: c130 :: c131 :: c132 :: c133 :: c134 :: c135 :: c136 :: c137 :: c138 :: c139 :: c140 :: c141 :: c142 :: c143 :: c144 :: c145 :: c146 :: c147 :: c148 :: c149 :: c150 :: c151 :: c152 :: c153 :: c154 :: c155 :: c156 :: c157 :: c158 :: c159 :: c160 :: c161 :: c162 :: c163 :: c164 :: c165 :: c166 :: c167 :: c168 :: c169 :: c170 :: c171 :: c172 :: c173 :: c174 :: c175 :: c176 :: c177 :: c178 :: c179 :: c180 :: c181 :: c182 :: c183 :: c184 :: c185 :: c186 :: c187 :: c188 :: c189 :: c190 :: c191 :: c192 :: c193 :: c194 :: c195 :: c196 :: c197 :: c198 :: c199 :: c200 :: c201 :: c202 :: c203 :: c204 :: c205 :: c206 :: c207 :: c208 :: c209 :: c210 :: c211 :: c212 :: c213 :: c214 :: c215 :: c216 :: c217 :: c218 :: c219 :: c220 :: c221 :: c222 :: c223 :: c224 :: c225 :: c226 :: c227 :: c228 :: c229 :: c230 :: c231 :: c232 :: c233 :: c234 :: c235 :: c236 :: c237 :: c238 :: c239 :: c240 :: c241 :: c242 :: c243 :: c244 :: c245 :: c246 :: c247 :: c248 :: c249 :: c250 :: c251 :: c252 :: c253 :: c254 :: c255 :: c256 :: c257 :: c258 :: c259 :: c260 :: c261 :: c262 :: c263 :: c264 :: c265 :: c266 :: c267 :: [])), []⟩ wr0 := by
  conv => arg 2; whnf
  replace hQ := Hidd.mk hQ
  replace hpN := Hidd.mk hpN
  replace hNm := Hidd.mk hNm
  have hoB := Hidd.mk hoA
  clear hoA
  obtain ⟨iw, hi0, hi1, hi2, hi3⟩ := info_parts info_u32'
  have hIW := Hidd.mk (And.intro hi0 (And.intro hi1 (And.intro hi2 hi3)))
  clear hi0 hi1 hi2 hi3
  go_wp2
  go_loopg [7] mb (fun g v7 wx => ∃ (at' j : Nat), j + g = mb ∧ v7 = .int .i64 at' ∧ Hidd (at' = 64 * j) ∧ Hidd (Own w (fun _ => False) wx [row 5 1 (.slice (some ⟨gb, 0, none⟩) N c3) N (nums .u8 pad), blk pk (.cells (vals kays) 75 (0, 0)), blk ph (.cells (vals (blocks kays ivs pad j)) 75 (0, 0)), blk p2 (.cells (nums .u8 (List.replicate 32 0)).toArray 33 (0, 0))]))
  case atStart => exact ⟨0, 0, by omega, rfl, ⟨rfl⟩, hoB⟩
  case round =>
    clear hoB
    obtain ⟨at', j, hg, rfl, hat, ho⟩ := hrel
    cases gk with
    | succ g3 =>
      have hatv := hat.out
      have hNv := hNm.out
      have d3 : decide (at' < N) = true := by rw [decide_eq_true_eq]; omega
      have hb1 : at' + 64 ≤ N := by omega
      have hb2 : at' ≤ 64000000 := by omega
      have hb3 : N ≤ 64000000 := by omega
      have hgj : j + 1 + g3 = mb := by omega
      clear hatv hNv hg
      obtain ⟨hj, ehj⟩ : ∃ h, h = blocks kays ivs pad j := ⟨_, rfl⟩
      have hjl : Hidd (hj.length = 8) := ⟨by rw [ehj]; exact blocks_len rfl _ _⟩
      have hnext : Hidd (blocks kays ivs pad (j + 1) = comp kays hj ((pad.drop at').take 64)) := ⟨by rw [blocks, ← ehj, hat.out]⟩
      rw [← ehj] at ho
      replace ehj := Hidd.mk ehj
      have hbj : Hidd (∀ q, q < 64 → ((pad.drop at').take 64).getD q 0 = pad.getD (at' + q) 0) := ⟨fun q hq => by
        rw [List.getD_eq_getElem?_getD, List.getD_eq_getElem?_getD, List.getElem?_take, if_pos hq, List.getElem?_drop]⟩
      obtain ⟨bj, ebj⟩ : ∃ b, b = (pad.drop at').take 64 := ⟨_, rfl⟩
      rw [← ebj] at hnext hbj
      replace ebj := Hidd.mk ebj
      have hm1 : ∀ W : World, (Instr.makeSlice 81 (.int .i64 64) (.int .i64 64)).run Try.prog W = .ok (.slice (some ⟨W.heap.size, 0, none⟩) 64 64) (W.alloc (.cells (madeCells #[.int .u32 0] 64) 75)) := fun W => run_make_row' 81 75 (.int .u32 0) 4 (by rfl) info_u32' rfl .i64 .i64 64 (by omega) (by omega) W
      obtain ⟨z64, hz64⟩ : ∃ z, z = sw bj 0 := ⟨_, rfl⟩
      rw [made64, show List.replicate 64 0 = z64 from hz64.symm] at hm1
      have hoA := Hidd.mk (ho.out.alloc (.cells (vals (sw bj 0)) 75 (0, 0)))
      replace hz64 := Hidd.mk hz64
      go_upto_block 6 with fail
      clear hm1
      rw [hz64.out]
      clear hz64
      generalize wr.heap.size = pw at hoA ⊢
      generalize World.alloc wr _ = wa at hoA ⊢
      show Code.wp Try.prog ((Try.f16.body.bind (findBlk 6)).getD .skip) _ _ _
      refine words_part _ w wa gb N c3 at' pw pad bj _ _ _ (hpN := hpN.out) (hb1 := hb1) (hb2 := hb2) (hb3 := hb3) (hbj := hbj.out) (hoA := hoA.out) (hQ := fun f wx ho4 => ?_)
      replace ho4 := Hidd.mk ho4
      clear ho hoA
      obtain ⟨Ws, hWs⟩ : ∃ W, W = sched bj 64 := ⟨_, rfl⟩
      have hWl : Hidd (Ws.length = 64) := ⟨by rw [hWs, sched_len]⟩
      have hcomp : Hidd (blocks kays ivs pad (j + 1) = List.zipWith (· + ·) hj (rnds kays Ws hj 64)) := ⟨by rw [hnext.out, comp, hWs]⟩
      rw [← hWs] at ho4
      replace hWs := Hidd.mk hWs
      go_upto_block 10 with (at_builtin; have hl0 := row_lit ho4.out 75 1 0 #[] [] rfl rfl (by decide); refine wpList_row rfl _ _ 81 rfl 75 iw (.int .u32 0) 1 4 Try.underlying81 hIW.out.1 hIW.out.2.1 hIW.out.2.2.1 hIW.out.2.2.2 rfl (by decide) hl0 0 _ 0 0 [] rfl rfl (some ⟨ph, 0, none⟩) 8 8 (hj.map u32v) rfl (by rw [List.length_map, hjl.out]) (Cells.of_block (hl0.get 4 rfl)) (by intro _ h; cases h) (one_u32 _) (by unfold maxLen; omega) (by omega) ?_; intro Av cv wv hov; rw [Nat.zero_add] at hov ⊢; rw [List.nil_append] at hov; replace hov := Hidd.mk hov; clear hl0 ho4)
      obtain ⟨pv, rfl, _, _⟩ := own_head (show wv.ownsRow 0 75 1 (.slice Av 8 cv) 8 (hj.map u32v) from hov.out.get 0 rfl) (by omega)
      show Code.wp Try.prog ((Try.f16.body.bind (findBlk 10)).getD .skip) _ _ _
      refine rounds_part _ w wv pk pw pv cv Ws hj _ _ _ (hWl := hWl.out) (hjl := hjl.out) (hoA := hov.out.reorder [0, 1, 3, 2, 4, 5] rfl (by decide)) (hQ := fun pv' cv' f' wy ho5 => ?_)
      replace ho5 := Hidd.mk ho5
      clear hov
      obtain ⟨V, hV⟩ : ∃ V, V = rnds kays Ws hj 64 := ⟨_, rfl⟩
      have hVl : V.length = 8 := by rw [hV]; exact rnds_len hjl.out 64
      rw [← hV] at ho5 hcomp
      replace hV := Hidd.mk hV
      go_wp2
      go_loopg [19] 8 (fun g v19 wx => ∃ (i : Nat), i + g = 8 ∧ v19 = .int .i64 i ∧ Hidd (Own w (fun _ => False) wx [row 75 1 (.slice (some ⟨pv', 0, none⟩) 8 cv') 8 (V.map u32v), row 5 1 (.slice (some ⟨gb, 0, none⟩) N c3) N (nums .u8 pad), blk pk (.cells (vals kays) 75 (0, 0)), blk ph (.cells (vals (hv hj V i)) 75 (0, 0)), blk p2 (.cells (nums .u8 (List.replicate 32 0)).toArray 33 (0, 0))]))
      case atStart => exact ⟨0, by omega, rfl, ⟨by rw [hv_zero]; exact ho5.out.reorder [0, 3, 2, 4, 5] rfl (by decide)⟩⟩
      case round =>
        clear ho5
        obtain ⟨i, hg, rfl, ho⟩ := hrel
        cases gk with
        | succ gy =>
          have hlt : i < 8 := by omega
          have d6 : decide ((i : Int) < 8) = true := by rw [decide_eq_true_eq]; omega
          have bi0 : (0 : Int) ≤ (i : Int) := by omega
          have bi1 : (i : Int) < 8 := by omega
          have hgi : i + 1 + gy = 8 := by omega
          clear hg
          go_wp2
          obtain ⟨W0, hW0⟩ : ∃ zz, zz = World.drew wr := ⟨_, rfl⟩
          refine wp_region_flow [([0, 1, 2, 3, 6, 7, 4, 8, 5, 9, 10, 11], some (12, [false]))] (by kernel_rfl) (by kernel_rfl) ?_
          rw [show ({ wr with drawn := wr.drawn + 1 } : World) = W0 from hW0.symm]
          replace hW0 := Hidd.mk hW0
          simp only [opsF, List.map_cons, List.map_nil, List.getD_cons_succ, List.getD_cons_zero, Option.map]
          have ho2 := Hidd.mk (show Own w _ W0 _ by rw [hW0.out]; exact ho.out.drew)
          clear hW0 ho
          have xh : (hv hj V i)[i]? = some (hj.getD i 0) := hv_get (by rw [hjl.out]; exact hlt) (by rw [hVl]; exact hlt)
          have xV : (V.map u32v)[i]? = some (.int .u32 ((V.getD i 0).toNat : Int)) := by rw [List.getElem?_map, getD_some 0 (by rw [hVl]; exact hlt)]; rfl
          have es := hv_set (i := i) (by rw [hjl.out]; exact hlt) (by rw [hVl]; exact hlt)
          have ga := v_add (hj.getD i 0) (V.getD i 0)
          generalize hj.getD i 0 = px at xh es ga
          generalize V.getD i 0 = py at xV es ga
          obtain ⟨z, ez⟩ : ∃ z, z = px + py := ⟨_, rfl⟩
          rw [← ez] at es ga
          clear ez
          have y0 := (ho2.out.cell 3 rfl i).trans (vals_get xh)
          have y1 : W0.cell? ⟨pv', i, none⟩ = _ := cells_atD (row_cells ho2.out 0 rfl) xV
          have f1 := ho2.out.frozen 3 rfl i
          have ho3 := Hidd.mk (ho2.out.set 3 rfl i (u32v z))
          clear xh xV
          refine FlW.stage (fun zz => zz = _) rfl ?_
          repeat (first | (refine StQ.skip (by rfl) ?_; simp only [Act.put, List.setIfInBounds_toArray, List.set_cons_zero, List.set_cons_succ]) | (refine StQ.go' (by rfl) (Exists.intro ?_ (And.intro (fun w' hS => ?_) ?_)); rotate_left; (focus (rw [hS]; go_simp; try with_reducible rfl)); simp only [Act.put, List.setIfInBounds_toArray, List.set_cons_zero, List.set_cons_succ]))
          refine StQ.nil ?_
          refine FlO.go (by rfl) (fun K hK => ?_); go_simp; refine hK.out _ _ (.inr trivial) ?_; clear hK K
          refine FlW.nil (Calm.normal ?_)
          go_wp2
          go_roundg gy
          case rel =>
            refine ⟨i + 1, hgi, by go_num, ⟨?_⟩⟩
            have h3 := ho3.out
            simp only [List.set_cons_zero, List.set_cons_succ, vals_set, es] at h3
            exact h3
          case measure => omega
                | zero =>
          obtain rfl : i = 8 := by omega
          have d6 : decide ((8 : Int) < 8) = false := by decide
          clear hg
          go_wp2
          go_roundg g3
          case rel =>
            refine ⟨at' + 64, j + 1, hgj, by go_num, ⟨by rw [hat.out]; omega⟩, ⟨?_⟩⟩
            rw [hcomp.out, ← hv_all hjl.out hVl]
            exact ho.out.tail
          case measure => omega
    | zero =>
      obtain rfl : j = mb := by omega
      have hatv := hat.out
      have hNv := hNm.out
      have d3 : decide (at' < N) = false := by rw [decide_eq_false_iff_not]; omega
      clear hatv hNv hg
      go_wp2
      exact end_frame (M := fun f => (List.toArray (c0 :: c1 :: c2 :: (.slice (some ⟨ph, 0, none⟩) 8 8) :: (.slice (some ⟨pk, 0, none⟩) 64 64) :: (.slice (some ⟨gb, 0, none⟩) N c3) :: c6 :: f 7 :: f 8 :: f 9 :: f 10 :: f 11 :: f 12 :: f 13 :: f 14 :: f 15 :: f 16 :: f 17 :: f 18 :: f 19 :: c20 :: c21 :: c22 :: c23 :: c24 :: c25 :: c26 :: c27 :: c28 :: c29 :: c30 :: c31 :: c32 :: c33 :: c34 :: c35 :: c36 :: c37 :: c38 :: c39 :: c40 :: c41 :: c42 :: c43 :: c44 :: c45 :: c46 :: c47 :: c48 :: c49 :: c50 :: c51 :: f 52 :: f 53 :: f 54 :: f 55 :: f 56 :: f 57 :: f 58 :: f 59 :: f 60 :: f 61 :: f 62 :: f 63 :: f 64 :: f 65 :: f 66 :: f 67 :: f 68 :: f 69 :: f 70 :: f 71 :: f 72 :: f 73 :: f 74 :: f 75 :: f 76 :: f 77 :: f 78 :: f 79 :: f 80 :: f 81 :: f 82 :: f 83 :: f 84 :: f 85 :: f 86 :: f 87 :: f 88 :: f 89 :: f 90 :: f 91 :: f 92 :: f 93 :: f 94 :: f 95 :: f 96 :: f 97 :: f 98 :: f 99 :: f 100 :: f 101 :: f 102 :: f 103 :: f 104 :: f 105 :: f 106 :: f 107 :: f 108 :: f 109 :: f 110 :: f 111 :: f 112 :: f 113 :: f 114 :: f 115 :: f 116 :: f 117 :: f 118 :: f 119 :: f 120 :: f 121 :: f 122 :: f 123 :: f 124 :: f 125 :: f 126 :: f 127 :: f 128 :: f 129 :: f 130 :: f 131 :: f 132 :: f 133 :: f 134 :: f 135 :: f 136 :: f 137 :: f 138 :: f 139 :: f 140 :: f 141 :: f 142 :: f 143 :: f 144 :: f 145 :: f 146 :: f 147 :: f 148 :: f 149 :: f 150 :: f 151 :: f 152 :: f 153 :: f 154 :: f 155 :: f 156 :: f 157 :: f 158 :: f 159 :: f 160 :: f 161 :: f 162 :: f 163 :: f 164 :: f 165 :: f 166 :: f 167 :: f 168 :: f 169 :: f 170 :: f 171 :: f 172 :: f 173 :: f 174 :: f 175 :: f 176 :: f 177 :: f 178 :: f 179 :: f 180 :: f 181 :: f 182 :: f 183 :: f 184 :: f 185 :: f 186 :: f 187 :: f 188 :: f 189 :: f 190 :: f 191 :: f 192 :: f 193 :: f 194 :: f 195 :: f 196 :: f 197 :: f 198 :: f 199 :: f 200 :: f 201 :: f 202 :: f 203 :: f 204 :: f 205 :: f 206 :: f 207 :: f 208 :: f 209 :: f 210 :: f 211 :: f 212 :: f 213 :: f 214 :: f 215 :: f 216 :: f 217 :: f 218 :: f 219 :: f 220 :: f 221 :: f 222 :: f 223 :: f 224 :: f 225 :: f 226 :: f 227 :: f 228 :: f 229 :: f 230 :: f 231 :: f 232 :: f 233 :: f 234 :: f 235 :: f 236 :: f 237 :: f 238 :: f 239 :: f 240 :: f 241 :: f 242 :: f 243 :: f 244 :: f 245 :: f 246 :: f 247 :: f 248 :: c249 :: c250 :: c251 :: c252 :: c253 :: c254 :: c255 :: c256 :: c257 :: c258 :: c259 :: c260 :: c261 :: c262 :: c263 :: c264 :: c265 :: c266 :: c267 :: []))) (by rfl) (fun f => hQ.out f _ ho.out)
end Go.Proofs.Ytjbhcmkloamcmaa
