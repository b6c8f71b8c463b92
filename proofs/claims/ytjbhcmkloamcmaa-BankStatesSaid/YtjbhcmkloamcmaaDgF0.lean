/- The digest of bytes, the reference's: what its walk wants. -/
import Derived.Test.YtjbhcmkloamcmaaDgE
import Derived.Deep.OwnRows
namespace Go.Proofs.Ytjbhcmkloamcmaa
open Go.RowKit

theorem numbers_any (w : World) : Calls Try.prog 36 #[] w fun e w' => ∃ pk, e = .returned (.slice (some ⟨pk, 0, none⟩) 64 64) ∧ Own w (fun _ => False) w' [blk pk (.cells (vals kays) 75 (0, 0))] := by
  go_enter Try.func36, Try.ntmps36
  go_wp2
  go_ret
  exact ⟨_, rfl, (Own.nil w _).alloc _⟩
/-- A word of the block, byte by byte. -/
def partW (bs : List Int) (t : Nat) : Nat → W32
  | 0 => 0
  | i + 1 => partW bs t i <<< 8 ||| bw (bs.getD (4 * t + i) 0)
theorem partW_all (bs : List Int) (t : Nat) : partW bs t 4 = wordAt bs t := by rw [wordAt_ref]; rfl
theorem sw_zero (bs : List Int) (t : Nat) (h : t < 64) : (sw bs t).set t 0 = sw bs t := by
  have h0 : (sw bs t)[t]? = some 0 := by
    rw [sw, List.getElem?_append_right (by rw [sched_len]; exact Nat.le_refl _), sched_len, Nat.sub_self, show 64 - t = (63 - t) + 1 by omega]
    rfl
  apply List.ext_getElem?
  intro k
  rw [List.getElem?_set]
  split
  · subst_vars; rw [h0]; simp; rw [sw_len _ _ (by omega)]; exact h
  · rfl
theorem made64 : madeCells #[.int .u32 0] 64 = vals (List.replicate 64 0) := by
  simp only [madeCells, vals]
  apply Array.ext
  · simp
  · intro i h1 h2
    simp only [Array.getElem_map, List.getElem_toArray, List.getElem_map, List.getElem_replicate, u32v]
    simp [Nat.mod_one]
theorem Kept.drewN (S : Nat → Prop) (w : World) (n : Nat) : Kept S w (w.drewN n) := Kept.below (below_drewN' n (Below.refl _ _))
theorem cells_atD {w : World} {g : Nat} {xs : List Value} {j : Nat} {v : Value} (h : Cells w (some ⟨g, 0, none⟩) xs) (hj : xs[j]? = some v) : w.cell? ⟨g, j, none⟩ = some v := by
  obtain ⟨ad, e, hc⟩ := h j v hj
  injection e with e
  subst e
  rwa [add_plain] at hc
theorem nums_getD {k : IntKind} {xs : List Int} {i : Nat} {x : Int} (h : xs[i]? = some x) : (nums k xs)[i]? = some (.int k x) := by simp [nums, h]
theorem or8_v (x y : W32) : bits .or .u32 (IntKind.u32.wrap ((x.toNat : Int) * 256)) (y.toNat : Int) = ((x <<< 8 ||| y).toNat : Int) := by rw [v_shl8w, v_or]
theorem info_ab2 : (Try.prog.info? 33).map (·.size) = some 32 := by kernel_rfl
/-- The first i bytes of the words, and zeros. -/
def ob1 (V : List W32) (i : Nat) : List Int := (outB V).take i ++ List.replicate (32 - i) 0
theorem outB_get : ∀ {V : List W32} {i : Nat} {x : W32}, V[i / 4]? = some x → (outB V)[i]? = some (byteOf x (i % 4))
  | [], i, x, h => by simp at h
  | v :: V, i, x, h => by
    by_cases hi : i < 4
    · have h0 : i / 4 = 0 := by omega
      rw [h0] at h
      obtain rfl : v = x := by simpa using h
      obtain rfl | rfl | rfl | rfl : i = 0 ∨ i = 1 ∨ i = 2 ∨ i = 3 := by omega
      all_goals rfl
    · obtain ⟨k, rfl⟩ : ∃ k, i = k + 4 := ⟨i - 4, by omega⟩
      rw [show (k + 4) / 4 = k / 4 + 1 by omega, List.getElem?_cons_succ] at h
      have := outB_get (V := V) (i := k) (x := x) h
      rw [show (k + 4) % 4 = k % 4 by omega, ← this]
      rfl
theorem ob1_set {V : List W32} (hV : V.length = 8) {i : Nat} (hi : i < 32) {x : W32} (hx : V[i / 4]? = some x) : (ob1 V i).set i (byteOf x (i % 4)) = ob1 V (i + 1) := by
  have hl : ((outB V).take i).length = i := by rw [List.length_take, outB_len]; omega
  rw [ob1, ob1, List.set_append_right _ _ (by omega), hl, Nat.sub_self, show 32 - i = (32 - (i + 1)) + 1 by omega, List.replicate_succ, List.set_cons_zero, List.take_add_one, outB_get hx, List.append_assoc]
  rfl
theorem ob1_len {V : List W32} {i : Nat} (h : V.length = 8) (hi : i ≤ 32) : (ob1 V i).length = 32 := by simp [ob1, outB_len]; omega
theorem ob1_all {V : List W32} (h : V.length = 8) : ob1 V 32 = outB V := by rw [ob1, List.take_of_length_le (by rw [outB_len]; omega)]; simp
theorem cells8c {w : World} {b : Nat} {p0 p1 p2 p3 p4 p5 p6 p7 : W32} (h : Cells w (some ⟨b, 0, none⟩) ([p0, p1, p2, p3, p4, p5, p6, p7].map u32v)) :
    w.cell? ⟨b, 0, none⟩ = some (.int .u32 (p0.toNat : Int)) ∧ w.cell? ⟨b, 1, none⟩ = some (.int .u32 (p1.toNat : Int)) ∧ w.cell? ⟨b, 2, none⟩ = some (.int .u32 (p2.toNat : Int)) ∧ w.cell? ⟨b, 3, none⟩ = some (.int .u32 (p3.toNat : Int)) ∧
    w.cell? ⟨b, 4, none⟩ = some (.int .u32 (p4.toNat : Int)) ∧ w.cell? ⟨b, 5, none⟩ = some (.int .u32 (p5.toNat : Int)) ∧ w.cell? ⟨b, 6, none⟩ = some (.int .u32 (p6.toNat : Int)) ∧ w.cell? ⟨b, 7, none⟩ = some (.int .u32 (p7.toNat : Int)) := by
  have key : ∀ j v, ([p0, p1, p2, p3, p4, p5, p6, p7].map u32v)[j]? = some v → w.cell? ⟨b, j, none⟩ = some v := fun j v hj => by
    obtain ⟨ad, e, hc⟩ := h j v hj
    injection e with e
    subst e
    rwa [add_plain] at hc
  exact ⟨key 0 _ rfl, key 1 _ rfl, key 2 _ rfl, key 3 _ rfl, key 4 _ rfl, key 5 _ rfl, key 6 _ rfl, key 7 _ rfl⟩
theorem one_u32 (l : List W32) : ∀ u ∈ l.map u32v, u.oneCell' = true := by
  intro u hu
  obtain ⟨x, _, rfl⟩ := List.mem_map.1 hu
  rfl
theorem wpList_store_own {w0 w : World} {S : Nat → Prop} {L : List Res} {ops : Array Oper} {rest : List Oper} {o : Oper} {a : Act} {Q : Exit → Act → World → Prop} (hO : Own w0 S w L) (k : Nat) {g : Nat} {t : TypeId} {old cells : Array Value} (hk : L[k]? = some (blk g (.cells old t (0, 0))))
    (hgd : o.guard = none) (ty : TypeId) (x y : Operand) (ho : o.op = .store ty x y) (hx : a.eval x = .pointer (some ⟨g, 0, none⟩)) (hy : a.eval y = .agg cells) (hi : (Try.prog.info? ty).map (·.size) = some cells.size) (hold : old.size = cells.size) (h1 : cells.all (·.oneCell') = true)
    (h : ∀ w', Own w0 S w' (L.set k (blk g (.cells cells t (0, 0)))) → wpList Try.prog ops Q rest (a.put o.dst undef) w') : wpList Try.prog ops Q (o :: rest) a w :=
  wpList_store_row hgd ty x y ho g cells hx hy t old (hO.get k hk) hi hold h1 (h _ (hO.step k hk (blk g (.cells cells t (0, 0))) (Kept.setRow _ _ _) (setRow_heap _ g _ _ t _ (hO.get k hk)) fun _ h => .inl h))
/-- A block of a code, by its number. -/
def findBlk (n : Nat) : Code → Option Code
  | .block k c => if k = n then some (.block k c) else findBlk n c
  | .seq a b => match findBlk n a with
    | some c => some c
    | none => findBlk n b
  | .loop c => findBlk n c
  | .scope c => findBlk n c
  | .cond _ a b => match findBlk n a with
    | some c => some c
    | none => findBlk n b
  | _ => none
/-- The end of a part: the frame, its written slots under one name. -/
theorem end_frame {Q : Exit → Act → World → Prop} {X : Array Value} {M : (Nat → Value) → Array Value} {w : World} (h1 : X = M (fun k => X.getD k undef)) (h2 : ∀ f, Q .normal ⟨M f, []⟩ w) : Q .normal ⟨X, []⟩ w :=
  (congrArg (fun t => Q .normal ⟨t, []⟩ w) h1).mpr (h2 _)
end Go.Proofs.Ytjbhcmkloamcmaa
