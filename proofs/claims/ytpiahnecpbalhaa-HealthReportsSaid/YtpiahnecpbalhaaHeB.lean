/- Has of an error, and what kind it is. -/
import Derived.Test.YtpiahnecpbalhaaHeA
namespace Go.Proofs.Ytpiahnecpbalhaa
open Go.RowKit Go.Extern.Stop Go.Stop Go.Extern Go.Extern.ReflectliteType Go.Extern.Rtype

set_option maxRecDepth 100000
theorem isFull_any (l0 : List (Int × Int)) (r0 : Option Int) (t : TypeId) (p : Value) (x : Int) (w : World) (he : IsErr w l0 r0 (.iface t p)) (h : Bool) (hh : hasC l0 r0 x = h) :
    Calls Try.prog 48 #[.iface t p, .iface 81 (.int .i64 x)] w fun e w' => e = .returned (.bool h) ∧ w = w' := by
  have h8 := @run_callFunc_extern Try.prog 52 _ Extern.ReflectliteType.typeOf Try.func52 (by kernel_rfl) (by kernel_rfl) (by kernel_rfl) (by kernel_rfl)
  have h32 := @run_callFunc_extern Try.prog 76 _ (Extern.ReflectliteType.method fun t => do noPackHeld "Comparable" t; pure (.bool (← typeInfo t).comparable)) Try.func76 (by kernel_rfl) (by kernel_rfl) (by kernel_rfl) (by kernel_rfl)
  have tT := is_typeOf
  have cT := is_comparable
  have mR := is_methodComparable
  replace he := Hidd.mk he
  replace hh := Hidd.mk hh
  go_enter Try.func48, Try.ntmps48
  go_wp2_with (go_at_call 53; refine (is_any l0 r0 t p x _ he.out h hh.out).mono ?_; rintro e w' ⟨rfl, rfl⟩)
  go_ret
  exact ⟨rfl, rfl⟩
theorem isErr_some {w : World} {c a : Int} {l : List (Int × Int)} {r : Option Int} {v : Value} (h : IsErr w ((c, a) :: l) r v) : ∃ t p, v = .iface t p := by
  obtain ⟨b, cv, e, _⟩ := h
  exact ⟨_, _, e⟩
theorem has_any (l0 : List (Int × Int)) (r0 : Option Int) (v : Value) (x : Int) (w : World) (he : IsErr w l0 r0 v) (h : Bool) (hh : hasC l0 r0 x = h) :
    Calls Try.prog 43 #[v, .int .i64 x] w fun e w' => e = .returned (.bool h) ∧ w = w' := by
  have key : (l0 = [] ∧ r0 = none) ∨ ∃ t p, v = .iface t p := by
    rcases l0 with _ | ⟨⟨c, a⟩, l⟩
    · rcases r0 with _ | c
      · exact .inl ⟨rfl, rfl⟩
      · exact .inr ⟨_, _, he⟩
    · exact .inr (isErr_some he)
  rcases key with ⟨rfl, rfl⟩ | ⟨t, p, rfl⟩
  · obtain rfl : v = .nilIface := he
    have h7 : hasC [] none x = false := rfl
    rw [h7] at hh
    subst hh
    go_enter Try.func43, Try.ntmps43
    go_wp2
    go_ret
    exact ⟨rfl, rfl⟩
  · replace he := Hidd.mk he
    replace hh := Hidd.mk hh
    go_enter Try.func43, Try.ntmps43
    go_wp2_with (go_at_call 48; refine (isFull_any l0 r0 t p x _ he.out h hh.out).mono ?_; rintro e w' ⟨rfl, rfl⟩)
    go_ret
    exact ⟨rfl, rfl⟩
/-- What kind: the number, and whether it is one. -/
def kindC (l : List (Int × Int)) (r : Option Int) : Int × Bool :=
  if l = [] ∧ r = none then (0, false) else if hasC l r 151 then (0, true) else if hasC l r 150 then (1, true) else if hasC l r 17 || hasC l r 13 || hasC l r 12 then (3, true)
  else if hasC l r 10 || hasC l r 11 || hasC l r 14 then (0, false) else (2, true)
theorem kind_any (l0 : List (Int × Int)) (r0 : Option Int) (v : Value) (w : World) (he : IsErr w l0 r0 v) (k : Int) (ok : Bool) (hk : kindC l0 r0 = (k, ok)) :
    Calls Try.prog 34 #[v] w fun e w' => e = .returned (.tuple #[.int .u8 k, .bool ok]) ∧ w = w' := by
  have key : (l0 = [] ∧ r0 = none) ∨ ¬ (l0 = [] ∧ r0 = none) ∧ ∃ t p, v = .iface t p := by
    rcases l0 with _ | ⟨⟨c, a⟩, l⟩
    · rcases r0 with _ | c
      · exact .inl ⟨rfl, rfl⟩
      · exact .inr ⟨by simp, _, _, he⟩
    · exact .inr ⟨by simp, isErr_some he⟩
  rcases key with ⟨rfl, rfl⟩ | ⟨hne, t, p, rfl⟩
  · obtain rfl : v = .nilIface := he
    have h7 : kindC [] none = (0, false) := rfl
    rw [h7] at hk
    injection hk with h1 h2
    subst h1 h2
    go_enter Try.func34, Try.ntmps34
    go_wp2
    go_ret2
    exact ⟨rfl, rfl⟩
  · replace he := Hidd.mk he
    unfold kindC at hk
    rw [if_neg hne] at hk
    replace hne := Hidd.mk hne
    rcases h1 : hasC l0 r0 151 with _ | _
    rcases h2 : hasC l0 r0 150 with _ | _
    rcases h3 : hasC l0 r0 17 with _ | _
    rcases h4 : hasC l0 r0 13 with _ | _
    rcases h5 : hasC l0 r0 12 with _ | _
    rcases h6 : hasC l0 r0 10 with _ | _
    rcases h7 : hasC l0 r0 11 with _ | _
    rcases h8 : hasC l0 r0 14 with _ | _
    all_goals simp [*] at hk
    all_goals obtain ⟨rfl, rfl⟩ := hk
    all_goals (try replace h1 := Hidd.mk h1)
    all_goals (try replace h2 := Hidd.mk h2)
    all_goals (try replace h3 := Hidd.mk h3)
    all_goals (try replace h4 := Hidd.mk h4)
    all_goals (try replace h5 := Hidd.mk h5)
    all_goals (try replace h6 := Hidd.mk h6)
    all_goals (try replace h7 := Hidd.mk h7)
    all_goals (try replace h8 := Hidd.mk h8)
    all_goals go_enter Try.func34, Try.ntmps34
    all_goals go_wp2_with (first
      | (go_at_call 43; with_reducible refine (has_any l0 r0 _ 151 _ he.out _ h1.out).mono ?_; rintro e w' ⟨rfl, rfl⟩)
      | (go_at_call 43; with_reducible refine (has_any l0 r0 _ 150 _ he.out _ h2.out).mono ?_; rintro e w' ⟨rfl, rfl⟩)
      | (go_at_call 43; with_reducible refine (has_any l0 r0 _ 17 _ he.out _ h3.out).mono ?_; rintro e w' ⟨rfl, rfl⟩)
      | (go_at_call 43; with_reducible refine (has_any l0 r0 _ 13 _ he.out _ h4.out).mono ?_; rintro e w' ⟨rfl, rfl⟩)
      | (go_at_call 43; with_reducible refine (has_any l0 r0 _ 12 _ he.out _ h5.out).mono ?_; rintro e w' ⟨rfl, rfl⟩)
      | (go_at_call 43; with_reducible refine (has_any l0 r0 _ 10 _ he.out _ h6.out).mono ?_; rintro e w' ⟨rfl, rfl⟩)
      | (go_at_call 43; with_reducible refine (has_any l0 r0 _ 11 _ he.out _ h7.out).mono ?_; rintro e w' ⟨rfl, rfl⟩)
      | (go_at_call 43; with_reducible refine (has_any l0 r0 _ 14 _ he.out _ h8.out).mono ?_; rintro e w' ⟨rfl, rfl⟩))
    all_goals go_ret2
    all_goals exact ⟨rfl, rfl⟩
end Go.Proofs.Ytpiahnecpbalhaa
