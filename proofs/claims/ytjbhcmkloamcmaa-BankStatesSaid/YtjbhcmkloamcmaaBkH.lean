/- Two digests: equal or not. -/
import Derived.Test.YtjbhcmkloamcmaaDgG0
namespace Go.Proofs.Ytjbhcmkloamcmaa
open Go.RowKit

theorem eqIntB (k : Nat) (a b : Int) (w : World) : (Op.equalIn (k + 1) 5 (.int .u8 a) (.int .u8 b)).run Try.prog w = .ok (a == b) w := by
  simp [Op.equalIn, run_underlying Try.underlying5]
theorem run_forIn_gen {P : Program} {β : Type} (s s' : β) (w : World) (f : Nat → β → Sem (ForInStep β)) (g : Nat → Bool) : ∀ (l : List Nat), (∀ i ∈ l, (f i s).run P w = if g i = true then .ok (.yield s) w else .ok (.done s') w) → (forIn l s f : Sem β).run P w = .ok (if l.all g = true then s else s') w
  | [], _ => by simp
  | i :: l, h => by
    rw [List.forIn_cons, Sem.run_bind, h i (by simp)]
    cases hg : g i with
    | true =>
      rw [if_pos rfl, Result.andThen_ok]
      rw [run_forIn_gen s s' w f g l fun j hj => h j (by simp [hj])]
      simp [hg]
    | false =>
      rw [if_neg (by decide), Result.andThen_ok]
      simp [hg]
theorem all_eq {d e : List Int} (hd : d.length = 32) (he : e.length = 32) : (List.range' 0 32 1).all (fun i => d.getD i 0 == e.getD i 0) = decide (d = e) := by
  by_cases h : d = e
  · subst h
    simp
  · rw [decide_eq_false h]
    rw [Bool.eq_false_iff]
    intro hall
    refine h (List.ext_getElem (by rw [hd, he]) fun i h1 h2 => ?_)
    rw [List.all_eq_true] at hall
    have := hall i (by rw [List.mem_range'_1]; omega)
    rw [beq_iff_eq, List.getD_eq_getElem?_getD, List.getD_eq_getElem?_getD, List.getElem?_eq_getElem h1, List.getElem?_eq_getElem h2] at this
    exact this
theorem eqAggB (t : TypeId) (ht : Try.prog.underlying t = some (.array 32 5)) (d e : List Int) (hd : d.length = 32) (he : e.length = 32) (w : World) : (Op.equalIn 10000 t (.agg (nums .u8 d).toArray) (.agg (nums .u8 e).toArray)).run Try.prog w = .ok (decide (d = e)) w := by
  have u3 := Try.underlying5
  have a3 := Try.isAgg5
  have z3 := Try.sizeOf5
  rw [show (10000 : Nat) = 9999 + 1 from rfl, Op.equalIn]
  simp only [Sem.run_bind, run_underlying ht, Result.andThen_ok]
  simp only [Std.Legacy.Range.forIn_eq_forIn_range', Std.Legacy.Range.size, Nat.sub_zero, Nat.add_sub_cancel, Nat.div_one, z3, Result.andThen_ok]
  rw [run_forIn_gen (s' := ⟨some false, ()⟩) (g := fun i => d.getD i 0 == e.getD i 0)]
  · rw [all_eq hd he]
    by_cases h : d = e
    · simp [h]
    · simp [h]
  · intro i hi
    have hi2 : i < 32 := by simpa using List.mem_range'_1.1 hi
    have hx : d[i]? = some (d.getD i 0) := getD_someG 0 (by omega)
    have hy : e[i]? = some (e.getD i 0) := getD_someG 0 (by omega)
    generalize d.getD i 0 = x at hx
    generalize e.getD i 0 = y at hy
    have hp : (part 5 (nums .u8 d).toArray (i * 1)).run Try.prog w = .ok (.int .u8 x) w := by
      rw [Nat.mul_one]
      unfold part
      simp only [Sem.run_bind, a3, Result.andThen_ok]
      simp [nums, hx]
    have hq : (part 5 (nums .u8 e).toArray (i * 1)).run Try.prog w = .ok (.int .u8 y) w := by
      rw [Nat.mul_one]
      unfold part
      simp only [Sem.run_bind, a3, Result.andThen_ok]
      simp [nums, hy]
    simp only [Sem.run_bind, hp, hq, Result.andThen_ok, eqIntB 9998]
    by_cases hxy : x = y
    · simp [hxy]
    · simp [hxy]
theorem neq_sums (t : TypeId) (ht : Try.prog.underlying t = some (.array 32 5)) (d e : List Int) (hd : d.length = 32) (he : e.length = 32) (w : World) : (binOp .neq t (.agg (nums .u8 d).toArray) (.agg (nums .u8 e).toArray)).run Try.prog w = .ok (.bool (!decide (d = e))) w := by
  simp only [binOp]
  simp [Op.equal, Op.maxDepth, eqAggB t ht d e hd he w]
end Go.Proofs.Ytjbhcmkloamcmaa
