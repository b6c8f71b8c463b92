/- errors.Is of an error of this program against an Errno: is the number among its numbers? -/
import Derived.Test.YtpiahnecpbalhaaRead
import Derived.LaidEql
import Derived.Stop.Asserts
import Derived.RowKitTokens
import Derived.Deep.LoopGhost
import Derived.Test.YtpiahnecpbalhaaRes
namespace Go.Proofs.Ytpiahnecpbalhaa
open Go.RowKit Go.Extern.Stop Go.Stop Go.Extern Go.Extern.ReflectliteType Go.Extern.Rtype

theorem run_equalIn_iface_int' {P : Program} (w : World) (d : Nat) {ti tn : TypeId} {ms : Array (String × TypeId)} {i : TypeInfo} {k : IntKind} (a b : Int)
    (hi : P.underlying ti = some (.interface ms)) (hn : P.underlying tn = some (.int k)) (hinfo : P.info? tn = some i) (hcomp : i.comparable = true) :
    (Op.equalIn (d + 2) ti (.iface tn (.int k a)) (.iface tn (.int k b))).run P w = .ok (a == b) w := by
  simp [Op.equalIn, run_underlying hi, run_underlying hn, typeInfo, hinfo, hcomp]
/-- Two interface values of one integer type: as the numbers are. -/
theorem run_eql_iface_int' {P : Program} (w : World) {ti tn : TypeId} {ms : Array (String × TypeId)} {i : TypeInfo} {k : IntKind} (a b : Int)
    (hi : P.underlying ti = some (.interface ms)) (hn : P.underlying tn = some (.int k)) (hinfo : P.info? tn = some i) (hcomp : i.comparable = true) :
    (binOp .eql ti (.iface tn (.int k a)) (.iface tn (.int k b))).run P w = .ok (.bool (a == b)) w := by
  simp only [binOp]
  simp [Op.equal, Op.maxDepth, run_equalIn_iface_int' w 9998 a b hi hn hinfo hcomp]

theorem is_typeOf (v : Value) (w : World) : (Extern.ReflectliteType.typeOf #[.iface 81 v]).run Try.prog w = .ok (.iface 121 (.agg #[.pointer (some ⟨0, 81, none⟩)])) w := by kernel_rfl
theorem is_comparable (w : World) : ((Extern.ReflectliteType.method fun t => do noPackHeld "Comparable" t; (fun a => Value.bool a.comparable) <$> typeInfo t) #[.agg #[.pointer (some ⟨0, 81, none⟩)]]).run Try.prog w = .ok (.bool true) w := by kernel_rfl
theorem is_methodComparable (v : Value) (w : World) : (Go.method 264 121 v "Comparable").run Try.prog w = .ok (76, v) w := by kernel_rfl
theorem is_info : (Try.prog.info? 81).map (·.comparable) = some true := by kernel_rfl
set_option maxRecDepth 100000
theorem no_is (v : Value) (xT : TypeId) (w : World) : (Instr.typeAssert (.iface 81 v) xT 123 true).run Try.prog w = .ok (.tuple #[.nilIface, .bool false]) w := run_typeAssert_lacksB Try.underlying123 (by kernel_rfl) (by kernel_rfl) v xT w
theorem no_unwrap (v : Value) (xT : TypeId) (w : World) : (Instr.typeAssert (.iface 81 v) xT 126 true).run Try.prog w = .ok (.tuple #[.nilIface, .bool false]) w := run_typeAssert_lacksB Try.underlying126 (by kernel_rfl) (by kernel_rfl) v xT w
theorem no_unwraps (v : Value) (xT : TypeId) (w : World) : (Instr.typeAssert (.iface 81 v) xT 128 true).run Try.prog w = .ok (.tuple #[.nilIface, .bool false]) w := run_typeAssert_lacksB Try.underlying128 (by kernel_rfl) (by kernel_rfl) v xT w
theorem has_is (v : Value) (xT : TypeId) (w : World) : (Instr.typeAssert (.iface 94 v) xT 123 true).run Try.prog w = .ok (.tuple #[.iface 94 v, .bool true]) w := run_typeAssert_hasB Try.underlying123 (by kernel_rfl) v xT w
theorem has_unwrap (v : Value) (xT : TypeId) (w : World) : (Instr.typeAssert (.iface 94 v) xT 126 true).run Try.prog w = .ok (.tuple #[.iface 94 v, .bool true]) w := run_typeAssert_hasB Try.underlying126 (by kernel_rfl) v xT w
theorem method_is (v : Value) (w : World) : (Go.method 264 94 v "Is").run Try.prog w = .ok (71, v) w := by kernel_rfl
theorem method_unwrap (v : Value) (w : World) : (Go.method 264 94 v "Unwrap").run Try.prog w = .ok (72, v) w := by kernel_rfl

/-- The numbers of an error. -/
def codes (l : List (Int × Int)) (r : Option Int) : List Int := l.map (·.1) ++ r.toList
def hasC (l : List (Int × Int)) (r : Option Int) (c : Int) : Bool := (codes l r).any (· == c)

theorem faultIs_any (b : Nat) (c a : Int) (cv : Value) (x : Int) (w : World) (hb : w.heap[b]? = some (.cells #[.int .i64 c, .int .i64 a, cv] 96 (0, 0))) :
    Calls Try.prog 71 #[.pointer (some ⟨b, 0, none⟩), .iface 81 (.int .i64 x)] w fun e w' => e = .returned (.bool (c == x)) ∧ w = w' := by
  have hta1 : ∀ (v : Value) (W : World), (Instr.typeAssert (.iface 81 v) 43 81 true).run Try.prog W = .ok (.tuple #[v, .bool true]) W := fun v W => by rfl
  have hc0 : w.cell? ⟨b, 0, none⟩ = some (.int .i64 c) := cell_of_row w b 0 _ _ _ hb
  go_enter Try.func71, Try.ntmps71
  go_wp2
  go_ret
  exact ⟨rfl, rfl⟩
theorem faultUnwrap_any (b : Nat) (c a : Int) (cv : Value) (w : World) (hb : w.heap[b]? = some (.cells #[.int .i64 c, .int .i64 a, cv] 96 (0, 0))) :
    Calls Try.prog 72 #[.pointer (some ⟨b, 0, none⟩)] w fun e w' => e = .returned cv ∧ w = w' := by
  have hc2 : w.cell? ⟨b, 2, none⟩ = some cv := cell_of_row w b 2 _ _ _ hb
  go_enter Try.func72, Try.ntmps72
  go_wp2
  go_ret
  exact ⟨rfl, rfl⟩

theorem hasC_cons (c a : Int) (l : List (Int × Int)) (r : Option Int) (x : Int) : hasC ((c, a) :: l) r x = ((c == x) || hasC l r x) := by simp [hasC, codes]
set_option maxHeartbeats 4000000 in
theorem is_any (l0 : List (Int × Int)) (r0 : Option Int) (t : TypeId) (p : Value) (x : Int) (w : World) (he : IsErr w l0 r0 (.iface t p)) (h : Bool) (hh : hasC l0 r0 x = h) :
    Calls Try.prog 53 #[.iface t p, .iface 81 (.int .i64 x), .bool true] w fun e w' => e = .returned (.bool h) ∧ w = w' := by
  obtain ⟨i, hi, hcmp⟩ := Option.map_eq_some_iff.1 is_info
  have he0 := Hidd.mk he
  have hh0 := Hidd.mk hh
  clear he hh
  have hty := fun (vx vy : Value) (W : World) => run_eql_iface_types (P := Try.prog) 94 81 vx vy Try.underlying43 (by decide) W
  have hin := fun (a b : Int) (W : World) => run_eql_iface_int' (P := Try.prog) W a b Try.underlying43 Try.underlying81 hi hcmp
  have a1 := no_is
  have a2 := no_unwrap
  have a3 := no_unwraps
  have a4 := has_is
  have a5 := has_unwrap
  have a6 := method_is
  have a7 := method_unwrap
  go_enter Try.func53, Try.ntmps53
  go_wp2
  go_loopg [0] l0.length (fun k v0 wr => ∃ (l : List (Int × Int)) (t : TypeId) (p : Value), wr = w ∧ v0 = .iface t p ∧ Hidd (l.length = k) ∧ Hidd (IsErr w l r0 (.iface t p)) ∧ Hidd (hasC l r0 x = h))
  case atStart => exact ⟨l0, t, p, rfl, rfl, ⟨rfl⟩, he0, hh0⟩
  case round =>
    clear he0 hh0
    obtain ⟨l, t, p, rfl, rfl, hk, he, hh⟩ := hrel
    rcases l with _ | ⟨⟨c, a⟩, l⟩
    · rcases r0 with _ | c
      · have h1 : Value.iface t p = .nilIface := he.out
        cases h1
      · have h1 : Value.iface t p = .iface 81 (.int .i64 c) := he.out
        injection h1 with h1 h2
        subst h1 h2
        have h3 := hh.out
        have h4 : hasC [] (some c) x = (c == x) := by simp [hasC, codes]
        rw [h4] at h3
        rcases hcx : (c == x) with _ | _
        all_goals rw [hcx] at h3
        all_goals subst h3
        all_goals go_wp2
        all_goals go_ret
        all_goals exact ⟨rfl, rfl⟩
    · obtain ⟨b, cv, h1, hc, he2⟩ := he.out
      injection h1 with h1 h2
      subst h1 h2
      have h3 := hh.out
      rw [hasC_cons] at h3
      replace he2 := Hidd.mk he2
      rcases hcx : (c == x) with _ | _
      · rw [hcx, Bool.false_or] at h3
        replace h3 := Hidd.mk h3
        rcases l with _ | ⟨⟨c2, a2'⟩, l⟩
        · rcases r0 with _ | c3
          · have h5 : cv = .nilIface := he2.out
            subst h5
            have h6 := h3.out
            have h7 : hasC [] none x = false := rfl
            rw [h7] at h6
            subst h6
            go_wp2_with (first
              | (go_at_call 71; refine (faultIs_any b c a _ x _ hc).mono ?_; rintro e w' ⟨rfl, rfl⟩; rw [hcx])
              | (go_at_call 72; refine (faultUnwrap_any b c a _ _ hc).mono ?_; rintro e w' ⟨rfl, rfl⟩))
            go_ret
            exact ⟨rfl, rfl⟩
          · have h5 : cv = .iface 81 (.int .i64 c3) := he2.out
            subst h5
            go_wp2_with (first
              | (go_at_call 71; refine (faultIs_any b c a _ x _ hc).mono ?_; rintro e w' ⟨rfl, rfl⟩; rw [hcx])
              | (go_at_call 72; refine (faultUnwrap_any b c a _ _ hc).mono ?_; rintro e w' ⟨rfl, rfl⟩))
            go_roundg 0
            case rel => exact ⟨[], _, _, rfl, rfl, ⟨rfl⟩, he2, h3⟩
            case measure => have := hk.out; simp at this; omega
        · obtain ⟨b2, cv2, h5, hc2, he3⟩ := he2.out
          subst h5
          clear he3 hc2
          go_wp2_with (first
            | (go_at_call 71; refine (faultIs_any b c a _ x _ hc).mono ?_; rintro e w' ⟨rfl, rfl⟩; rw [hcx])
            | (go_at_call 72; refine (faultUnwrap_any b c a _ _ hc).mono ?_; rintro e w' ⟨rfl, rfl⟩))
          go_roundg (l.length + 1)
          case rel => exact ⟨(c2, a2') :: l, _, _, rfl, rfl, ⟨rfl⟩, he2, h3⟩
          case measure => have := hk.out; simp at this; omega
      · rw [hcx, Bool.true_or] at h3
        subst h3
        go_wp2_with (go_at_call 71; refine (faultIs_any b c a _ x _ hc).mono ?_; rintro e w' ⟨rfl, rfl⟩; rw [hcx])
        go_ret
        exact ⟨rfl, rfl⟩
end Go.Proofs.Ytpiahnecpbalhaa
