/- The reader: fault.New, Read, more, Take, Text, At, Err, End. -/
import Derived.Test.YtjbhcmkloamcmaaBaB
namespace Go.Proofs.Ytjbhcmkloamcmaa
open Go.RowKit

theorem set_self {α : Type} {l : List α} {k : Nat} {x : α} (h : l[k]? = some x) : l.set k x = l := by
  obtain ⟨h1, rfl⟩ := List.getElem?_eq_some_iff.1 h
  exact List.set_getElem_self h1
/-- Where an error lies. -/
def evBlock : Value → Option Nat
  | .iface _ (.pointer (some a)) => some a.block
  | _ => none
/-- No error, or one fault. -/
def IsE (w : World) (er : Option (Int × Int)) (v : Value) : Prop :=
  match er with
  | none => v = .nilIface
  | some (c, a) => ∃ b, v = .iface 86 (.pointer (some ⟨b, 0, none⟩)) ∧ w.heap[b]? = some (.cells #[.int .i64 c, .int .i64 a, .nilIface] 88 (0, 0))
def erL (er : Option (Int × Int)) : List (Int × Int) := match er with
  | none => []
  | some p => [p]
theorem IsE.isErr {w : World} {er : Option (Int × Int)} {v : Value} (h : IsE w er v) : IsErr w (erL er) none v := by
  rcases er with _ | ⟨c, a⟩
  · exact h
  · obtain ⟨b, e, hb⟩ := h
    exact ⟨b, .nilIface, e, hb, rfl⟩
def eres (er : Option (Int × Int)) (v : Value) : Res :=
  ⟨fun i => evBlock v = some i, fun w => IsE w er v, fun w h i hi => by
    rcases er with _ | ⟨c, a⟩
    · rw [show v = .nilIface from h] at hi; cases hi
    · obtain ⟨b, rfl, hb⟩ := h
      have hi' : some b = some i := hi
      injection hi' with hi'
      subst hi'
      exact (Array.getElem?_eq_some_iff.1 hb).1,
   fun w w' h k => by
    rcases er with _ | ⟨c, a⟩
    · exact h
    · obtain ⟨b, rfl, hb⟩ := h
      exact ⟨b, rfl, (k b rfl).trans hb⟩⟩
theorem newFault_any (c a : Int) (w : World) (hc : c ≠ 0) (ha : -1 ≤ a) : Calls Try.prog 32 #[.int .i64 c, .int .i64 a] w fun e w' => ∃ v, e = .returned v ∧ Own w (fun _ => False) w' [eres (some (c, a)) v] ∧ ∃ b, v = .iface 86 (.pointer (some ⟨b, 0, none⟩)) := by
  have hcd : (c == 0) = false := by rw [beq_eq_false_iff_ne]; exact hc
  have hob := Hidd.mk ((Own.nil w (fun _ => False)).alloc (.cells #[.int .i64 c, .int .i64 a, .nilIface] 88))
  go_enter Try.func32, Try.ntmps32
  go_wp2
  go_ret
  refine ⟨_, rfl, ⟨hob.out.kept, fun r hr => ?_, by simp, fun r hr i hi => ?_⟩, _, rfl⟩
  · obtain rfl := List.mem_singleton.1 hr
    exact ⟨_, rfl, hob.out.get 0 rfl⟩
  · obtain rfl := List.mem_singleton.1 hr
    have hi' : some w.heap.size = some i := hi
    injection hi' with hi'
    exact .inr (Nat.le_of_eq hi')

/-- A reader at block b: of which bytes, how many are taken, its error. -/
structure RdIn (w : World) (b : Nat) (A : Option Addr) (n cap : Nat) (xs : List Int) (p : Nat) (er : Option (Int × Int)) (ev : Value) : Prop where
  hb : w.heap[b]? = some (.cells #[.slice A n cap, .int .i64 p, ev] 96 (0, 0))
  hr : WIn w 5 1 A n cap (nums .u8 xs)
  he : IsE w er ev
  ne : ∀ k, (Value.slice A n cap).ownBlock = some k → k ≠ b
  nf : ∀ k, evBlock ev = some k → k ≠ b
def rdr (b : Nat) (A : Option Addr) (n cap : Nat) (xs : List Int) (p : Nat) (er : Option (Int × Int)) (ev : Value) : Res :=
  ⟨fun i => i = b ∨ (Value.slice A n cap).ownBlock = some i ∨ evBlock ev = some i, fun w => RdIn w b A n cap xs p er ev,
   fun w h i hi => by
    rcases hi with rfl | hi | hi
    · exact (Array.getElem?_eq_some_iff.1 h.hb).1
    · exact h.hr.lt i hi
    · exact (eres er ev).lt w h.he i hi,
   fun w w' h k => ⟨(k b (.inl rfl)).trans h.hb, (wres 5 1 A n cap (nums .u8 xs)).loc w w' h.hr fun i hi => k i (.inr (.inl hi)), (eres er ev).loc w w' h.he fun i hi => k i (.inr (.inr hi)), h.ne, h.nf⟩⟩
section
variable {w w0 w1 : World} {S : Nat → Prop} {L : List Res} {b : Nat} {A : Option Addr} {n cap p : Nat} {xs : List Int} {er : Option (Int × Int)} {ev : Value}
theorem RdIn.cells (h : RdIn w b A n cap xs p er ev) : w.cell? ⟨b, 0, none⟩ = some (.slice A n cap) ∧ w.cell? ⟨b, 1, none⟩ = some (.int .i64 p) ∧ w.cell? ⟨b, 2, none⟩ = some ev := ⟨cell_of_row w b 0 _ _ _ h.hb, cell_of_row w b 1 _ _ _ h.hb, cell_of_row w b 2 _ _ _ h.hb⟩
theorem RdIn.fr (h : RdIn w b A n cap xs p er ev) (j : Nat) : w.frozen? ⟨b, j, none⟩ = false := frozen_of_row w b j _ _ h.hb
theorem RdIn.lt (h : RdIn w b A n cap xs p er ev) : b < w.heap.size := (Array.getElem?_eq_some_iff.1 h.hb).1
theorem RdIn.ll (h : RdIn w b A n cap xs p er ev) : xs.length = n := by have := h.hr.ll; rw [nums_length] at this; omega
theorem rdr_at (k : Nat) (hO : Own w0 S w L) (hk : L[k]? = some (rdr b A n cap xs p er ev)) (p' : Nat) : Own w0 S (w.setCell ⟨b, 1, none⟩ (.int .i64 p')) (L.set k (rdr b A n cap xs p' er ev)) := by
  have h : RdIn w b A n cap xs p er ev := hO.get k hk
  refine hO.step k hk _ (Kept.setCell w _ _ (.inl rfl)) ⟨heap_setCell_same w b 1 _ _ _ h.hb, ?_, ?_, h.ne, h.nf⟩ fun i hi => .inl hi
  · exact (wres 5 1 A n cap (nums .u8 xs)).loc w _ h.hr fun i hi => Below.heap_setCell _ _ _ _ (h.ne i hi)
  · exact (eres er ev).loc w _ h.he fun i hi => Below.heap_setCell _ _ _ _ (h.nf i hi)
theorem rdr_err (k : Nat) (hO : Own w0 S w L) (hk : L[k]? = some (rdr b A n cap xs p none ev)) {q : Int × Int} {v : Value} (hn : Own w (fun _ => False) w1 [eres (some q) v]) :
    Own w0 S (w1.setCell ⟨b, 2, none⟩ v) (L.set k (rdr b A n cap xs p (some q) v)) := by
  have h : RdIn w b A n cap xs p none ev := hO.get k hk
  have hB := hn.below fun _ => id
  have he : IsE w1 (some q) v := hn.get 0 rfl
  have hvb : ∀ i, evBlock v = some i → w.heap.size ≤ i := fun i hi => (hn.own _ (List.mem_cons_self ..) i hi).resolve_left id
  have hb1 := hB.block b h.lt
  refine hO.step k hk _ ((Kept.below hB).trans (Kept.setCell w1 _ _ (.inl rfl))) ⟨heap_setCell_same w1 b 2 _ _ _ (hb1.trans h.hb), ?_, ?_, h.ne, fun i hi => by have := hvb i hi; have := h.lt; omega⟩ fun i hi => ?_
  · exact (wres 5 1 A n cap (nums .u8 xs)).loc w _ h.hr fun i hi => (Below.heap_setCell _ _ _ _ (h.ne i hi)).trans (hB.block i (h.hr.lt i hi))
  · exact (eres (some q) v).loc w1 _ he fun i hi => Below.heap_setCell _ _ _ _ (by have := hvb i hi; have := h.lt; show i ≠ b; omega)
  · rcases hi with hi | hi | hi
    · exact .inl (.inl hi)
    · exact .inl (.inr (.inl hi))
    · exact .inr (hvb i hi)
end

def moreB (n p : Nat) (er : Option (Int × Int)) (m : Int) : Bool := er.isNone && decide ((p : Int) + m ≤ n)
def moreE (n p : Nat) (er : Option (Int × Int)) (m : Int) : Option (Int × Int) := if er.isSome = true then er else if (n : Int) < p + m then some (4, (p : Int)) else none

set_option maxRecDepth 100000 in
set_option maxHeartbeats 4000000 in
theorem more_own {w w0 : World} {S : Nat → Prop} {L : List Res} {b : Nat} {A : Option Addr} {n cap p : Nat} {xs : List Int} {er : Option (Int × Int)} {ev : Value} (k : Nat) (hO : Own w0 S w L) (hk : L[k]? = some (rdr b A n cap xs p er ev)) (hpn : p ≤ n) (hn : n ≤ 1000000000)
    (m : Int) (_ : 0 ≤ m) (_ : m ≤ 1000000000) (c : Bool) (hc : moreB n p er m = c) (er' : Option (Int × Int)) (her : moreE n p er m = er') :
    Calls Try.prog 45 #[.pointer (some ⟨b, 0, none⟩), .int .i64 m] w fun e w' => e = .returned (.bool c) ∧ ∃ ev', Own w0 S w' (L.set k (rdr b A n cap xs p er' ev')) := by
  have hR : RdIn w b A n cap xs p er ev := hO.get k hk
  obtain ⟨c0, c1, c2⟩ := hR.cells
  have hbl := hR.lt
  have f2 := hR.fr 2
  have he := hR.he
  rcases er with _ | ⟨q0, q1⟩
  · have he : ev = .nilIface := he
    subst he
    clear hR
    have hbig := Hidd.mk hO
    have hk1 := Hidd.mk hk
    clear hO hk
    have hw1 : IntKind.i64.wrap ((n : Int) - (p : Int)) = (n : Int) - (p : Int) := IntWalk.i64_in _ (by omega)
    have hw2 : wrap64 ((n : Int) - (p : Int)) = (n : Int) - (p : Int) := by unfold wrap64; omega
    by_cases hlt : (p : Int) + m ≤ n
    · have e1 : moreB n p none m = true := by unfold moreB; simp; omega
      have e2 : moreE n p none m = none := by unfold moreE; rw [if_neg (by decide), if_neg (by omega)]
      rw [e1] at hc
      rw [e2] at her
      subst hc her
      have hd : decide ((n : Int) - (p : Int) < m) = false := by rw [decide_eq_false_iff_not]; omega
      clear e1 e2 f2
      go_enter Try.func45, Try.ntmps45
      go_wp2
      obtain ⟨wy, hwy⟩ : ∃ zz, zz = World.drew w := ⟨_, rfl⟩
      refine wp_region_still_lit (by kernel_rfl) (by kernel_rfl) (StW.out ?_)
      rw [show ({ w with drawn := w.drawn + 1 } : World) = wy from hwy.symm]
      replace hwy := Hidd.mk hwy
      have d0 : wy.cell? ⟨b, 0, none⟩ = some (.slice A n cap) := by rw [hwy.out]; exact c0
      have d1 : wy.cell? ⟨b, 1, none⟩ = some (.int .i64 p) := by rw [hwy.out]; exact c1
      clear c0 c1 c2
      repeat (refine StW.go (by rfl) (fun K hK => ?_); go_simp; refine hK.out _ ?_; clear hK K)
      refine StW.nil ?_
      go_wp2
      go_ret
      exact ⟨rfl, .nilIface, by rw [set_self hk1.out, hwy.out]; exact hbig.out.drew⟩
    · have e1 : moreB n p none m = false := by unfold moreB; simp; omega
      have e2 : moreE n p none m = some (4, (p : Int)) := by unfold moreE; rw [if_neg (by decide), if_pos (by omega)]
      rw [e1] at hc
      rw [e2] at her
      subst hc her
      have hd : decide ((n : Int) - (p : Int) < m) = true := by rw [decide_eq_true_eq]; omega
      clear e1 e2
      go_enter Try.func45, Try.ntmps45
      go_wp2
      obtain ⟨wy, hwy⟩ : ∃ zz, zz = World.drew w := ⟨_, rfl⟩
      refine wp_region_still_lit (by kernel_rfl) (by kernel_rfl) (StW.out ?_)
      rw [show ({ w with drawn := w.drawn + 1 } : World) = wy from hwy.symm]
      replace hwy := Hidd.mk hwy
      have d0 : wy.cell? ⟨b, 0, none⟩ = some (.slice A n cap) := by rw [hwy.out]; exact c0
      have d1 : wy.cell? ⟨b, 1, none⟩ = some (.int .i64 p) := by rw [hwy.out]; exact c1
      have hby : Hidd (Own w0 S wy L) := ⟨by rw [hwy.out]; exact hbig.out.drew⟩
      clear c0 c1 c2 f2 hbl
      repeat (refine StW.go (by rfl) (fun K hK => ?_); go_simp; refine hK.out _ ?_; clear hK K)
      refine StW.nil ?_
      go_wp2_with (go_at_call 32; refine (newFault_any 4 p _ (by decide) (by omega)).mono ?_; rintro e w7 ⟨v, rfl, hn7, fb, rfl⟩; have hB := hn7.below (fun _ => id); have hR7 := (show RdIn wy b A n cap xs p none .nilIface from hby.out.get k hk1.out); have g2 := hB.cell (p := ⟨b, 2, none⟩) hR7.lt; rw [hR7.cells.2.2] at g2; have g3 : w7.frozen? ⟨b, 2, none⟩ = false := (World.frozen?_of_block (hB.block b hR7.lt)).trans (hR7.fr 2); replace hn7 := Hidd.mk hn7; clear hB hR7)
      go_ret
      exact ⟨rfl, _, rdr_err k hby.out hk1.out hn7.out⟩
  · have e1 : moreB n p (some (q0, q1)) m = false := rfl
    have e2 : moreE n p (some (q0, q1)) m = some (q0, q1) := rfl
    rw [e1] at hc
    rw [e2] at her
    subst hc her
    obtain ⟨fb, rfl, _⟩ := he
    have hbig := Hidd.mk (show Own w0 S w (L.set k (rdr b A n cap xs p (some (q0, q1)) (.iface 86 (.pointer (some ⟨fb, 0, none⟩))))) by rw [set_self hk]; exact hO)
    clear hR hO hk e1 e2
    go_enter Try.func45, Try.ntmps45
    go_wp2
    go_ret
    exact ⟨rfl, _, hbig.out⟩
end Go.Proofs.Ytjbhcmkloamcmaa
