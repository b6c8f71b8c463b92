/- The fixed facts of the members' laws; nothing heard; MemberNil, MemberParts walked. -/
import Derived.Test.YtjejkmnlkmcckaaMemD
import Derived.Test.YtjejkmnlkmcckaaShp
namespace Go.Proofs.Ytjejkmnlkmcckaa
open Go.RowKit

def fr0 (s r : Nat) : Fr := ⟨s, r, 0, none, 0, 0, 0, 0, 0, 0, none, 0, 0⟩
theorem fr0_ok (s r : Nat) (h : s < 256) (k : r < 4294967296) : (fr0 s r).Ok := ⟨h, k, by show 0 < 256; decide⟩
theorem aw_hear0 : hearOk [] 0 (fr0 0 3) = true ∧ heardL [] 0 (fr0 0 3) = [fr0 0 3] := by
  have : hearOk [] 0 (fr0 0 3) = true := by simp [hearOk, fr0]
  exact ⟨this, by unfold heardL; rw [if_pos this]; rfl⟩
theorem aw_hear1 : hearOk [fr0 0 3] 1 (fr0 1 3) = true ∧ heardL [fr0 0 3] 1 (fr0 1 3) = [fr0 0 3, fr0 1 3] := by
  have : hearOk [fr0 0 3] 1 (fr0 1 3) = true := by simp [hearOk, fr0]
  exact ⟨this, by unfold heardL; rw [if_pos this]; rfl⟩
theorem aw_hear2 : hearOk [fr0 0 3, fr0 1 3] 2 (fr0 2 9) = true ∧ heardL [fr0 0 3, fr0 1 3] 2 (fr0 2 9) = [fr0 0 3, fr0 1 3, fr0 2 9] := by
  have : hearOk [fr0 0 3, fr0 1 3] 2 (fr0 2 9) = true := by simp [hearOk, fr0]
  exact ⟨this, by unfold heardL; rw [if_pos this]; rfl⟩
theorem aw_right : rightN 0 0 false [fr0 0 3, fr0 1 3, fr0 2 9] = ((3, 0), true) := by decide +kernel
theorem aw_members : (if true = true then membersN [fr0 0 3, fr0 1 3, fr0 2 9] 3 0 else 0) = 3 := by decide +kernel
theorem aw_of : ofN [0, 2, 9] = 5 := by decide +kernel

theorem hear_own {w0 w : World} {S : Nat → Prop} {L : List Res} {b r m : Nat} {kn : Bool} {A : Option Addr} {len cap : Nat} {l : List Fr} (k : Nat) (hO : Own w0 S w L) (hk : L[k]? = some (hres b r m kn A len cap l)) (line : Int) (f : Fr) (hf : f.Ok) (hl : len ≤ 1000)
    (c : Bool) (hc : hearOk l line f = c) (l' : List Fr) (hl' : heardL l line f = l') :
    Calls Try.prog 22 #[.pointer (some ⟨b, 0, none⟩), .int .i64 line, .agg #[.int .u8 f.s, .int .u32 f.r, .int .u8 f.m, .slice f.ma f.mn f.mc, .int .u8 f.k0, .int .u8 f.k1, .int .u16 f.k2, .int .u16 f.k3, .slice f.ra f.rn f.rc]] w fun e w' => e = .returned (.bool c) ∧
      ∃ A' cap', Own w0 S w' (L.set k (hres b r m kn A' l'.length cap' l')) := by
  refine (hear_at k hO hk line f hf hl c hc l' hl').mono ?_
  rintro e w' ⟨he, A', n', cap', ho⟩
  have h : HIn w' b r m kn A' n' cap' l' := ho.get k (by rw [List.getElem?_set_self (List.getElem?_eq_some_iff.1 hk).1])
  obtain rfl := h.ll
  exact ⟨he, A', cap', ho⟩
theorem awake_any (w : World) : Calls Try.prog 20 #[] w fun e w' => e = .returned (.bool true) ∧ Below w.heap.size w w' := by
  have hof := aw_of
  go_enter Try.func20, Try.ntmps20
  go_wp2_with (first
    | (go_at_call 21; refine (listen_own 0 0 false _).mono ?_; rintro e w1 ⟨b, rfl, ho1⟩; replace ho1 := Hidd.mk ho1)
    | (go_at_call 22; refine (hear_own 0 ho1.out rfl 0 (fr0 0 3) (fr0_ok _ _ (by decide) (by decide)) (by decide) true aw_hear0.1 _ aw_hear0.2).mono ?_; rintro e w2 ⟨rfl, A2, c2, ho2⟩; replace ho2 := Hidd.mk ho2; clear ho1)
    | (go_at_call 22; refine (hear_own 0 ho2.out rfl 1 (fr0 1 3) (fr0_ok _ _ (by decide) (by decide)) (by decide) true aw_hear1.1 _ aw_hear1.2).mono ?_; rintro e w3 ⟨rfl, A3, c3, ho3⟩; replace ho3 := Hidd.mk ho3; clear ho2)
    | (go_at_call 22; refine (hear_own 0 ho3.out rfl 2 (fr0 2 9) (fr0_ok _ _ (by decide) (by decide)) (by decide) true aw_hear2.1 _ aw_hear2.2).mono ?_; rintro e w4 ⟨rfl, A4, c4, ho4⟩; replace ho4 := Hidd.mk ho4; clear ho3)
    | (go_at_call 23; refine (right_at 0 ho4.out rfl (by decide) 3 0 true aw_right).mono ?_; rintro e w5 ⟨rfl, ho5⟩; replace ho5 := Hidd.mk (ho5.alloc (.cells #[.int .u32 3, .int .u8 0] 50)); clear ho4)
    | (go_at_call 26; refine (of_any _ 3 3 [0, 2, 9] _ (Cells.new1 _ _ _ _ _ rfl) rfl (by decide)).mono ?_; rintro e w6 ⟨rfl, rfl⟩; have ho6 := Hidd.mk (ho5.out.alloc (.cells #[.int .i64 0, .int .i64 2, .int .i64 9] 3)))
    | (go_at_call 24; refine (members_at 2 ho6.out rfl (by decide) 3 0 true aw_right 3 aw_members).mono ?_; rintro e w7 ⟨rfl, ho7⟩; replace ho7 := Hidd.mk ho7))
  go_ret
  exact ⟨rfl, ho7.out.below fun _ => id⟩

theorem right_nil (w : World) : Calls Try.prog 23 #[.pointer none] w fun e w' => e = .returned (.tuple #[.agg #[.int .u32 0, .int .u8 0], .bool false]) ∧ Below w.heap.size w w' := by
  go_enter Try.func23, Try.ntmps23
  go_wp2
  refine bodyPost_ret (v := .tuple #[.agg #[.int .u32 0, .int .u8 0], .bool false]) (by simp [results, Try.results23, go_sem]) rfl ⟨rfl, below_alloc (Below.refl _ _) _⟩
theorem hear_nil (line : Int) (f : Fr) (w : World) : Calls Try.prog 22 #[.pointer none, .int .i64 line, .agg #[.int .u8 f.s, .int .u32 f.r, .int .u8 f.m, .slice f.ma f.mn f.mc, .int .u8 f.k0, .int .u8 f.k1, .int .u16 f.k2, .int .u16 f.k3, .slice f.ra f.rn f.rc]] w fun e w' => e = .returned (.bool false) ∧ Below w.heap.size w w' := by
  go_enter Try.func22, Try.ntmps22
  go_wp2
  go_ret
  exact ⟨rfl, below_alloc (Below.refl _ _) _⟩
theorem members_nil (w : World) : Calls Try.prog 24 #[.pointer none] w fun e w' => e = .returned (.int .u8 0) ∧ Below w.heap.size w w' := by
  go_enter Try.func24, Try.ntmps24
  go_wp2_with (go_at_call 23; refine (right_nil _).mono ?_; rintro e w1 ⟨rfl, hb1⟩)
  go_ret
  exact ⟨rfl, below_alloc hb1 _⟩
theorem bits0 : bitsTo 0 7 = [] := by decide +kernel
theorem frames_nil (w : World) : Calls Try.prog 38 #[.pointer none] w fun e w' => e = .returned (.slice none 0 0) ∧ Below w.heap.size w w' := by
  have hb0 := bits0
  go_enter Try.func38, Try.ntmps38
  go_wp2_with (first
    | (go_at_call 24; refine (members_nil _).mono ?_; rintro e w1 ⟨rfl, hb1⟩)
    | (go_at_call 33; refine (list_any 0 (by decide) _).mono ?_; rintro e w2 ⟨A, cap, rfl, ho2⟩; rw [hb0]; have hb2 := below_then hb1 (ho2.below fun _ => id); clear ho2))
  go_loopw [3, 12] (fun v3 v12 wr => v12 = .int .i64 0 ∧ v3 = .slice none 0 0 ∧ w2 = wr) (fun _ _ _ => 0)
  case atStart => exact ⟨rfl, rfl, rfl⟩
  case round =>
    obtain ⟨rfl, rfl, rfl⟩ := hrel
    go_wp2
    go_ret
    exact ⟨rfl, hb2⟩

/-- A frame as an argument. -/
theorem wf_u8 {z : Int} (h : (Lit.int .u8 z).wf = true) : ∃ n : Nat, z = n ∧ n < 256 := by
  simp [Lit.wf, IntKind.min, IntKind.max, IntKind.signed, IntKind.bits] at h
  exact ⟨z.toNat, by omega, by omega⟩
theorem wf_u32 {z : Int} (h : (Lit.int .u32 z).wf = true) : ∃ n : Nat, z = n ∧ n < 4294967296 := by
  simp [Lit.wf, IntKind.min, IntKind.max, IntKind.signed, IntKind.bits] at h
  exact ⟨z.toNat, by omega, by omega⟩

set_option maxRecDepth 100000 in
theorem memberNil_walk (line : Int) (f0 f1 f2 : Int) (ma : Option Addr) (mn mc : Nat) (mz : List (List Value)) (k0 k1 k2 k3 : Int) (ra : Option Addr) (rn rc : Nat) (rz : List (List Value)) (w : World) (_ : (Lit.int .i64 line).wf = true)
    (h0 : (Lit.int .u8 f0).wf = true) (h1 : (Lit.int .u32 f1).wf = true) (h2 : (Lit.int .u8 f2).wf = true) (_ : Rows' w 32 [.int .i64, .sl 1 [.int .u8]] ma mn mc mz) (_ : (Lit.int .u8 k0).wf = true) (_ : (Lit.int .u8 k1).wf = true) (_ : (Lit.int .u16 k2).wf = true) (_ : (Lit.int .u16 k3).wf = true)
    (_ : Rows' w 8 [.int .u32, .int .u8, .int .u8, .int .u8, .int .u8] ra rn rc rz) :
    Calls Try.prog 11 #[.int .i64 line, .agg #[.int .u8 f0, .int .u32 f1, .int .u8 f2, .slice ma mn mc, .int .u8 k0, .int .u8 k1, .int .u16 k2, .int .u16 k3, .slice ra rn rc]] w fun e w' => e = .returned (.bool true) ∧ Below w.heap.size w w' := by
  obtain ⟨s, rfl, _⟩ := wf_u8 h0
  obtain ⟨r, rfl, _⟩ := wf_u32 h1
  obtain ⟨m, rfl, _⟩ := wf_u8 h2
  clear h0 h1 h2
  have hob := (Own.nil w (fun _ => False)).alloc (.cells #[.int .u8 s, .int .u32 r, .int .u8 m, .slice ma mn mc, .int .u8 k0, .int .u8 k1, .int .u16 k2, .int .u16 k3, .slice ra rn rc] 59)
  replace hob := Hidd.mk hob
  go_enter Try.func11, Try.ntmps11
  go_wp2_with (first
    | (go_at_call 20; refine (awake_any _).mono ?_; rintro e w1 ⟨rfl, hb1⟩; have ho1 := Hidd.mk (hob.out.ext hb1); clear hb1)
    | (go_at_call 23; refine (right_nil _).mono ?_; rintro e w2 ⟨rfl, hb2⟩; have ho2 := Hidd.mk ((ho1.out.ext hb2).alloc (.cells #[.int .u32 0, .int .u8 0] 50)); have hlt := ho1.out.lt 0 rfl; have hq := ho1.out.ext hb2; have x0 := hq.cell 0 rfl 0; have x1 := hq.cell 0 rfl 1; have x2 := hq.cell 0 rfl 2; have x3 := hq.cell 0 rfl 3; have x4 := hq.cell 0 rfl 4; have x5 := hq.cell 0 rfl 5; have x6 := hq.cell 0 rfl 6; have x7 := hq.cell 0 rfl 7; have x8 := hq.cell 0 rfl 8; have hlt2 := hq.lt 0 rfl; simp at x0 x1 x2 x3 x4 x5 x6 x7 x8; clear hq hb2)
    | (go_at_call 22; refine (hear_nil line ⟨s, r, m, ma, mn, mc, k0, k1, k2, k3, ra, rn, rc⟩ _).mono ?_; rintro e w3 ⟨rfl, hb3⟩; have ho3 := Hidd.mk (ho2.out.ext hb3); have y0 := ho3.out.cell 0 rfl 0; have y1 := ho3.out.cell 0 rfl 1; simp at y0 y1; clear hb3)
    | (go_at_call 24; refine (members_nil _).mono ?_; rintro e w4 ⟨rfl, hb4⟩; have ho4 := Hidd.mk (ho3.out.ext hb4))
    | (go_at_call 38; refine (frames_nil _).mono ?_; rintro e w5 ⟨rfl, hb5⟩; have ho5 := Hidd.mk (ho4.out.ext hb5)))
  go_ret
  exact ⟨rfl, ho5.out.below fun _ => id⟩
end Go.Proofs.Ytjejkmnlkmcckaa
