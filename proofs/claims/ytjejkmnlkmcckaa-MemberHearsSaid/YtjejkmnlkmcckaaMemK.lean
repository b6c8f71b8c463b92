/- MemberOther walked. -/
import Derived.Test.YtjejkmnlkmcckaaMemJ
import Derived.Test.YtjejkmnlkmcckaaFrC
import Derived.Test.YtjejkmnlkmcckaaFlow
namespace Go.Proofs.Ytjejkmnlkmcckaa
open Go.RowKit

theorem wf_u16 {z : Int} (h : (Lit.int .u16 z).wf = true) : 0 ≤ z ∧ z < 65536 := by
  simp [Lit.wf, IntKind.min, IntKind.max, IntKind.signed, IntKind.bits] at h
  omega
theorem other_line (a : Int) : ∃ n : Nat, n < 9 ∧ (IntKind.u64.wrap a).tmod 9 = n ∧ IntKind.u64.wrap a % 9 = n ∧ wrap64 (n : Int) = n ∧ IntKind.i64.wrap (n : Int) = n := by
  have hu0 : 0 ≤ IntKind.u64.wrap a := by rw [IntKind.wrap]; simp only [IntKind.signed, IntKind.bits]; exact Int.emod_nonneg _ (by decide)
  refine ⟨(IntKind.u64.wrap a % 9).toNat, by omega, ?_, by omega, IntWalk.wrap64_in _ (by omega), IntWalk.i64_in _ (by omega)⟩
  rw [Int.tmod_eq_emod_of_nonneg hu0]
  omega
theorem wrap_small (s : Nat) (h : s < 256) : IntKind.i64.wrap (s : Int) = s := IntWalk.i64_in _ (by omega)
theorem hear_one {f : Fr} {l : List Fr} {line : Int} (h : hearOk l line f = true) : heardL l line f = l ++ [f] := by unfold heardL; rw [if_pos h]
theorem hear_not {f : Fr} {l : List Fr} {line : Int} (h : hearOk l line f = false) : heardL l line f = l := by unfold heardL; rw [if_neg (by rw [h]; decide)]
theorem ok_new {f : Fr} (h7 : f.s < 7) : hearOk [] (f.s : Int) f = true := by unfold hearOk; rw [decide_eq_true_eq]; exact ⟨by omega, by omega, rfl, by simp⟩
theorem no_twice {f : Fr} (line : Int) : hearOk [f] line f = false := by unfold hearOk; rw [decide_eq_false_iff_not]; intro h; exact h.2.2.2 f (by simp) rfl
theorem no_line {f : Fr} {l : List Fr} {line : Int} (h : (f.s : Int) ≠ line) : hearOk l line f = false := by unfold hearOk; rw [decide_eq_false_iff_not]; intro h'; exact h h'.2.2.1
theorem other_members (f : Fr) (h7 : f.s < 7) (r m : Nat) : (if true = true then membersN [f] r m else 0) = if f.r = r ∧ f.m = m then ofN [(f.s : Int)] else 0 := by
  rw [if_pos rfl]
  unfold membersN
  rw [List.foldl_cons, List.foldl_nil]
  unfold memStep
  split
  · exact Nat.zero_or ..
  · rfl
theorem other_frames : ∀ s : Nat, s < 7 → bitsTo (ofN [((s : Nat) : Int)]) 7 = [s] ∧ lenN (ofN [(s : Int)]) = 1 := by decide +kernel
theorem other_fl (f : Fr) : frameL [f] [f.s] = [f] := by simp [frameL]
theorem other_f0 (l : List Fr) : frameL l (bitsTo 0 7) = [] := by rw [show bitsTo 0 7 = [] from by decide +kernel]; rfl
theorem len0 : lenN 0 = 0 := by decide +kernel
theorem right_known (r m : Nat) (l : List Fr) : rightN r m true l = ((r, m), true) := by unfold rightN; rw [if_pos rfl]

theorem kept9 {w0 w w' : World} {S : Nat → Prop} {L : List Res} {p : Nat} {T : TypeId} {fr : Nat × Nat} {a0 a1 a2 a3 a4 a5 a6 a7 a8 : Value} {r : Res} (h : Own w0 S w L) (k j : Nat) (hk : L[k]? = some (blk p (.cells #[a0, a1, a2, a3, a4, a5, a6, a7, a8] T fr))) (hj : L[j]? = some r) (hkj : k ≠ j) (hS : Kept r.foot w w') :
    w'.cell? ⟨p, 0, none⟩ = some a0 ∧ w'.cell? ⟨p, 1, none⟩ = some a1 ∧ w'.cell? ⟨p, 2, none⟩ = some a2 ∧ w'.cell? ⟨p, 3, none⟩ = some a3 ∧ w'.cell? ⟨p, 4, none⟩ = some a4 ∧ w'.cell? ⟨p, 5, none⟩ = some a5 ∧ w'.cell? ⟨p, 6, none⟩ = some a6 ∧ w'.cell? ⟨p, 7, none⟩ = some a7 ∧ w'.cell? ⟨p, 8, none⟩ = some a8 := by
  obtain ⟨x0, x1, x2, x3, x4, x5, x6, x7, x8⟩ := cells9 h k hk
  have hne : ¬ r.foot p := h.apart' k j hk hj hkj p rfl
  exact ⟨hS.cells hne x0, hS.cells hne x1, hS.cells hne x2, hS.cells hne x3, hS.cells hne x4, hS.cells hne x5, hS.cells hne x6, hS.cells hne x7, hS.cells hne x8⟩

set_option maxRecDepth 100000 in
set_option maxHeartbeats 8000000 in
theorem memberOther_walk (f0 f1 f2 : Int) (ma : Option Addr) (mn mc : Nat) (mz : List (List Value)) (k0 k1 k2 k3 : Int) (ra : Option Addr) (rn rc : Nat) (rz : List (List Value)) (line : Int) (g1 g2 : Int) (w : World)
    (h0 : (Lit.int .u8 f0).wf = true) (h1 : (Lit.int .u32 f1).wf = true) (h2 : (Lit.int .u8 f2).wf = true) (hM : Rows' w 32 [.int .i64, .sl 1 [.int .u8]] ma mn mc mz) (_ : (Lit.int .u8 k0).wf = true) (_ : (Lit.int .u8 k1).wf = true) (_ : (Lit.int .u16 k2).wf = true) (_ : (Lit.int .u16 k3).wf = true)
    (hR : Rows' w 8 [.int .u32, .int .u8, .int .u8, .int .u8, .int .u8] ra rn rc rz) (_ : (Lit.int .i64 line).wf = true) (h3 : (Lit.int .u32 g1).wf = true) (h4 : (Lit.int .u8 g2).wf = true) :
    Calls Try.prog 12 #[.agg #[.int .u8 f0, .int .u32 f1, .int .u8 f2, .slice ma mn mc, .int .u8 k0, .int .u8 k1, .int .u16 k2, .int .u16 k3, .slice ra rn rc], .int .i64 line, .agg #[.int .u32 g1, .int .u8 g2]] w fun e w' => e = .returned (.bool true) ∧ Below w.heap.size w w' := by
  obtain ⟨s0, rfl, hs0⟩ := wf_u8 h0
  obtain ⟨r, rfl, hr⟩ := wf_u32 h1
  obtain ⟨m, rfl, hm⟩ := wf_u8 h2
  obtain ⟨mr, rfl, hmr⟩ := wf_u32 h3
  obtain ⟨mm, rfl, hmm⟩ := wf_u8 h4
  obtain ⟨ms, hms, hmo⟩ := msgs_of hM
  obtain ⟨rs, hrs, _⟩ := recs_of hR
  have hmw := hM.wt
  have hrw := hR.wt
  unfold reachBytes at hmw hrw
  clear h0 h1 h2 h3 h4 hM hR
  obtain ⟨s, hs7, hst, hse⟩ : ∃ s : Nat, s < 7 ∧ (s0 : Int).tmod 7 = s ∧ (s0 : Int) % 7 = s := ⟨s0 % 7, by omega, by rw [Int.tmod_eq_emod_of_nonneg (by omega)]; omega, by omega⟩
  obtain ⟨ln, hl9, hlt, hle, hlw1, hlw2⟩ := other_line line
  have hwb := u8_int (show s < 256 by omega)
  have hwb2 := wrap_small s (Nat.lt_of_lt_of_le hs7 (by decide))
  have hms2 := Hidd.mk fun q hq => (hmo q hq).2.2
  replace hms := Hidd.mk hms
  replace hrs := Hidd.mk hrs
  clear hmo
  have ho := ((Own.nil w (fun _ => False)).alloc (.cells #[.int .u8 s0, .int .u32 r, .int .u8 m, .slice ma mn mc, .int .u8 k0, .int .u8 k1, .int .u16 k2, .int .u16 k3, .slice ra rn rc] 59)).alloc (.cells #[.int .u32 mr, .int .u8 mm] 50)
  rw [show (w.alloc (.cells #[.int .u8 s0, .int .u32 r, .int .u8 m, .slice ma mn mc, .int .u8 k0, .int .u8 k1, .int .u16 k2, .int .u16 k3, .slice ra rn rc] 59)).heap.size = w.heap.size + 1 by simp] at ho
  replace ho := Hidd.mk ho
  go_enter Try.func12, Try.ntmps12
  go_wp2_with (first
    | (go_at_call 20; refine (awake_any _).mono ?_; rintro e w1 ⟨rfl, hb1⟩; have ho1 := ho.out.ext hb1; obtain ⟨x0, x1, x2, x3, x4, x5, x6, x7, x8⟩ := cells9 ho1 1 rfl; replace ho1 := Hidd.mk ho1; clear hb1 ho)
    | (go_at_call 34; refine (copied_any s0 r m k0 k1 k2 k3 ma mn mc ra rn rc ms rs _ (hms.out.below (ho1.out.below fun _ => id)) (hrs.out.below (ho1.out.below fun _ => id)) hms2.out hmw hrw).mono ?_; rintro e w2 ⟨A, c, B, d, rfl, hb2, _, _⟩; clear x0 x1 x2 x3 x4 x5 x6 x7 x8; have ho2 := ho1.out.ext hb2; obtain ⟨x0, x1, x2, x3, x4, x5, x6, x7, x8⟩ := cells9 ho2 1 rfl; have y0 := ho2.cell 0 rfl 0; have y1 := ho2.cell 0 rfl 1; simp at y0 y1; have fz0 := ho2.frozen 1 rfl 0; have fz1 := ho2.frozen 1 rfl 1; have fz2 := ho2.frozen 1 rfl 2; have fz3 := ho2.frozen 1 rfl 3; have fz4 := ho2.frozen 1 rfl 4; have fz5 := ho2.frozen 1 rfl 5; have fz6 := ho2.frozen 1 rfl 6; have fz7 := ho2.frozen 1 rfl 7; have fz8 := ho2.frozen 1 rfl 8; replace ho2 := Hidd.mk (((((((((ho2.set 1 rfl 0 (.int .u8 (s0 : Int))).set 1 rfl 1 (.int .u32 (r : Int))).set 1 rfl 2 (.int .u8 (m : Int))).set 1 rfl 3 (.slice A mn c)).set 1 rfl 4 (.int .u8 k0)).set 1 rfl 5 (.int .u8 k1)).set 1 rfl 6 (.int .u16 k2)).set 1 rfl 7 (.int .u16 k3)).set 1 rfl 8 (.slice B rn d)); have hq2 := ho2.out.set 1 rfl 0 (.int .u8 (s : Int)); simp only [List.set_cons_zero, List.set_cons_succ, List.setIfInBounds_toArray] at hq2; replace ho2 := Hidd.mk hq2; clear hq2 hb2 ho1)
    | (go_at_call 21; refine (listen_own mr mm true _).mono ?_; rintro e w3 ⟨b, rfl, hn3⟩; have ho3 := ho2.out.made hn3; clear hn3 ho2 x0 x1 x2 x3 x4 x5 x6 x7 x8 y0 y1 fz0 fz1 fz2 fz3 fz4 fz5 fz6 fz7 fz8; replace ho3 := Hidd.mk ho3))
  have hfo : Hidd (Fr.Ok ⟨s, r, m, A, mn, c, k0, k1, k2, k3, B, rn, d⟩) := ⟨⟨Nat.lt_of_lt_of_le hs7 (by decide), hr, hm⟩⟩
  obtain ⟨hb1, hb2⟩ := other_frames s hs7
  have hmem : (if true = true then membersN [⟨s, r, m, A, mn, c, k0, k1, k2, k3, B, rn, d⟩] mr mm else 0) = if r = mr ∧ m = mm then ofN [(s : Int)] else 0 := other_members ⟨s, r, m, A, mn, c, k0, k1, k2, k3, B, rn, d⟩ hs7 mr mm
  have hfl := other_fl ⟨s, r, m, A, mn, c, k0, k1, k2, k3, B, rn, d⟩
  simp only at hfl
  replace hfl := Hidd.mk hfl
  clear hst hse hlt hle hlw1 hlw2 hmr hmm hmw hrw hs0 hr hm hms hrs hms2
  have hgo : ∀ G : Prop, (r = mr → m = mm → G) → (r = mr → ¬ m = mm → G) → (¬ r = mr → G) → G := fun G g1 g2 g3 => by
    by_cases h1 : r = mr
    · by_cases h2 : m = mm
      · exact g1 h1 h2
      · exact g2 h1 h2
    · exact g3 h1
  refine hgo _ (fun h1 h2 => ?ca) (fun h1 h2 => ?cb) (fun h1 => ?cc)
  case' ca =>
    subst h1 h2
    replace hmem := hmem.trans (if_pos ⟨rfl, rfl⟩)
    have hrt := Hidd.mk (right_known r m [⟨s, r, m, A, mn, c, k0, k1, k2, k3, B, rn, d⟩])
    have hM8 : ofN [(s : Int)] < 256 := Nat.lt_of_lt_of_le (ofN_lt _) (by decide)
    obtain ⟨M, hMo⟩ : ∃ M, ofN [(s : Int)] = M := ⟨_, rfl⟩
    rw [hMo] at hmem hb1 hb2 hM8
    have hfM : frameL [⟨s, r, m, A, mn, c, k0, k1, k2, k3, B, rn, d⟩] (bitsTo M 7) = [⟨s, r, m, A, mn, c, k0, k1, k2, k3, B, rn, d⟩] := by rw [hb1]; exact hfl.out
    replace hfM := Hidd.mk hfM
    replace hmem := Hidd.mk hmem
    have hlM := Hidd.mk hb2
    replace hMo := Hidd.mk hMo
    clear hb1 hb2
  case' cb =>
    subst h1
    replace hmem := hmem.trans (if_neg (fun h => h2 h.2))
    have hrt := Hidd.mk (right_known r mm [⟨s, r, m, A, mn, c, k0, k1, k2, k3, B, rn, d⟩])
    have hM8 : 0 < 256 := by decide
    have hMo : Hidd (ofN [] = 0) := ⟨rfl⟩
    have hfM := Hidd.mk (other_f0 [⟨s, r, m, A, mn, c, k0, k1, k2, k3, B, rn, d⟩])
    replace hmem := Hidd.mk hmem
    have hlM := Hidd.mk len0
    clear hb1 hb2
  case' cc =>
    replace hmem := hmem.trans (if_neg (fun h => h1 h.1))
    have hrt := Hidd.mk (right_known mr mm [⟨s, r, m, A, mn, c, k0, k1, k2, k3, B, rn, d⟩])
    have hM8 : 0 < 256 := by decide
    have hMo : Hidd (ofN [] = 0) := ⟨rfl⟩
    have hfM := Hidd.mk (other_f0 [⟨s, r, m, A, mn, c, k0, k1, k2, k3, B, rn, d⟩])
    replace hmem := Hidd.mk hmem
    have hlM := Hidd.mk len0
    clear hb1 hb2
  all_goals
    clear hgo
    have hno := Hidd.mk (no_twice (f := ⟨s, r, m, A, mn, c, k0, k1, k2, k3, B, rn, d⟩) s)
    have h9 := Hidd.mk (hear_not hno.out)
    have hok := Hidd.mk (ok_new (f := ⟨s, r, m, A, mn, c, k0, k1, k2, k3, B, rn, d⟩) hs7)
    have h8 := Hidd.mk (hear_one hok.out)
    have hs8 : s < 256 := Nat.lt_of_lt_of_le hs7 (by decide)
    by_cases hls : s = ln
    · obtain rfl := hls
      obtain ⟨W0, hW0⟩ : ∃ zz, zz = World.drew w3 := ⟨_, rfl⟩
      refine wp_region_flow [([0, 1, 2, 4, 5, 6, 7, 8], some (3, [true])), ([9], none)] (by kernel_rfl) (by kernel_rfl) ?_
      rw [show ({ w3 with drawn := w3.drawn + 1 } : World) = W0 from hW0.symm]
      replace hW0 := Hidd.mk hW0
      simp only [opsF, List.map_cons, List.map_nil, List.getD_cons_succ, List.getD_cons_zero, Option.map_some, Option.map_none]
      have ho4 := Hidd.mk (show Own w (fun _ => False) W0 [hres b _ _ true none 0 0 [], blk (w.heap.size + 1) (.cells #[.int .u32 _, .int .u8 _] 50), blk w.heap.size (.cells #[.int .u8 s, .int .u32 r, .int .u8 m, .slice A mn c, .int .u8 k0, .int .u8 k1, .int .u16 k2, .int .u16 k3, .slice B rn d] 59)] by rw [hW0.out]; exact ho3.out.drew)
      clear hW0 ho3
      refine FlW.stage (fun zz => Kept (hres b 0 0 true none 0 0 []).foot W0 zz) (Kept.refl _ _) ?_
      repeat (first | (refine StQ.skip (by rfl) ?_; simp only [Act.put, List.setIfInBounds_toArray, List.set_cons_zero, List.set_cons_succ]) | (refine StQ.go' (by rfl) (Exists.intro ?_ (And.intro (fun w' hS => ?_) ?_)); rotate_left; (focus (obtain ⟨x0, x1, x2, x3, x4, x5, x6, x7, x8⟩ := kept9 ho4.out 2 0 rfl rfl (by decide) hS; go_simp; try with_reducible rfl)); simp only [Act.put, List.setIfInBounds_toArray, List.set_cons_zero, List.set_cons_succ]))
      refine StQ.nil ?_
      refine FlO.go (by rfl) (fun K hK => ?_)
      go_simp
      (refine (hear_own 0 (Own.one (ho4.out.get 0 rfl)) rfl s ⟨s, r, m, A, mn, c, k0, k1, k2, k3, B, rn, d⟩ hfo.out (by decide) true hok.out _ h8.out).mono ?_; rintro e w5 ⟨rfl, A5, c5, hn5⟩; have ho5 := ho4.out.frame 0 rfl hn5)
      refine hK.out _ _ (.inr ⟨hn5.kept, trivial⟩) ?_
      clear hK K
      replace ho5 := Hidd.mk (show Own w (fun _ => False) w5 [hres b _ _ true A5 1 c5 [⟨s, r, m, A, mn, c, k0, k1, k2, k3, B, rn, d⟩], blk (w.heap.size + 1) (.cells #[.int .u32 _, .int .u8 _] 50), blk w.heap.size (.cells #[.int .u8 s, .int .u32 r, .int .u8 m, .slice A mn c, .int .u8 k0, .int .u8 k1, .int .u16 k2, .int .u16 k3, .slice B rn d] 59)] from ho5)
      refine FlW.heads (fun zz => zz = _) rfl ?_
      repeat (first | (refine StQ.skip (by rfl) ?_; simp only [Act.put, List.setIfInBounds_toArray, List.set_cons_zero, List.set_cons_succ]) | (refine StQ.go' (by rfl) (Exists.intro ?_ (And.intro (fun w' hS => ?_) ?_)); rotate_left; (focus (rw [hS]; go_simp; try with_reducible rfl)); simp only [Act.put, List.setIfInBounds_toArray, List.set_cons_zero, List.set_cons_succ]))
      refine StQ.nil ?_
      refine FlW.nil (Calm.normal ?_)
      clear hn5 ho4
      obtain ⟨x0, x1, x2, x3, x4, x5, x6, x7, x8⟩ := cells9 ho5.out 2 rfl
      go_wp2_with (first
        | (go_at_call 22; refine (hear_own 0 ho5.out rfl s ⟨s, r, m, A, mn, c, k0, k1, k2, k3, B, rn, d⟩ hfo.out (by decide) false hno.out _ h9.out).mono ?_; rintro e w6 ⟨rfl, A6, c6, ho6⟩; clear x0 x1 x2 x3 x4 x5 x6 x7 x8; replace ho6 := Hidd.mk ho6; obtain ⟨x0, x1, x2, x3, x4, x5, x6, x7, x8⟩ := cells9 ho6.out 2 rfl; have y0 := ho6.out.cell 1 rfl 0; have y1 := ho6.out.cell 1 rfl 1; simp at y0 y1; clear ho5)
        | (go_at_call 26; refine (of_any _ 1 1 [(s : Int)] _ (Cells.new _ _ _ _ rfl) rfl (by decide)).mono ?_; rintro e w7 ⟨rfl, rfl⟩; rw [hMo.out]; replace ho6 := Hidd.mk (ho6.out.alloc (.cells #[.int .i64 (s : Int)] 3)).tail)
        | (go_at_call 24; refine (members_at 0 ho6.out rfl (by simp) _ _ true hrt.out _ hmem.out).mono ?_; rintro e w9 ⟨rfl, ho9⟩; replace ho9 := Hidd.mk ho9)
        | (go_at_call 38; refine (frames_own 0 ho9.out rfl (by simp) _ _ true hrt.out _ hmem.out _ hfM.out).mono ?_; rintro e wa ⟨B7, c7, rfl, hoa⟩; replace hoa := Hidd.mk hoa)
        | (go_at_call 25; refine (len_any _ hM8 _).mono ?_; rintro e w1 ⟨rfl, rfl⟩; rw [hlM.out]))
      go_ret
      exact ⟨rfl, hoa.out.below fun _ => id⟩
    · have hln : Hidd (hearOk [] (ln : Int) ⟨s, r, m, A, mn, c, k0, k1, k2, k3, B, rn, d⟩ = false) := ⟨no_line (by show (s : Int) ≠ (ln : Int); omega)⟩
      have h7 := Hidd.mk (hear_not hln.out)
      have hq1 : ((ln : Int) == (s : Int)) = false := by rw [beq_eq_false_iff_ne]; omega
      have hq2 : ((ln : Int) != (s : Int)) = true := by rw [bne_iff_ne]; omega
      clear hls
      obtain ⟨W0, hW0⟩ : ∃ zz, zz = World.drew w3 := ⟨_, rfl⟩
      refine wp_region_flow [([0, 1, 2, 4, 5, 6, 7, 8], some (3, [true])), ([9], none)] (by kernel_rfl) (by kernel_rfl) ?_
      rw [show ({ w3 with drawn := w3.drawn + 1 } : World) = W0 from hW0.symm]
      replace hW0 := Hidd.mk hW0
      simp only [opsF, List.map_cons, List.map_nil, List.getD_cons_succ, List.getD_cons_zero, Option.map_some, Option.map_none]
      have ho4 := Hidd.mk (show Own w (fun _ => False) W0 [hres b _ _ true none 0 0 [], blk (w.heap.size + 1) (.cells #[.int .u32 _, .int .u8 _] 50), blk w.heap.size (.cells #[.int .u8 s, .int .u32 r, .int .u8 m, .slice A mn c, .int .u8 k0, .int .u8 k1, .int .u16 k2, .int .u16 k3, .slice B rn d] 59)] by rw [hW0.out]; exact ho3.out.drew)
      clear hW0 ho3
      refine FlW.stage (fun zz => Kept (hres b 0 0 true none 0 0 []).foot W0 zz) (Kept.refl _ _) ?_
      repeat (first | (refine StQ.skip (by rfl) ?_; simp only [Act.put, List.setIfInBounds_toArray, List.set_cons_zero, List.set_cons_succ]) | (refine StQ.go' (by rfl) (Exists.intro ?_ (And.intro (fun w' hS => ?_) ?_)); rotate_left; (focus (obtain ⟨x0, x1, x2, x3, x4, x5, x6, x7, x8⟩ := kept9 ho4.out 2 0 rfl rfl (by decide) hS; go_simp; try with_reducible rfl)); simp only [Act.put, List.setIfInBounds_toArray, List.set_cons_zero, List.set_cons_succ]))
      refine StQ.nil ?_
      refine FlO.go (by rfl) (fun K hK => ?_)
      go_simp
      (refine (hear_own 0 (Own.one (ho4.out.get 0 rfl)) rfl ln ⟨s, r, m, A, mn, c, k0, k1, k2, k3, B, rn, d⟩ hfo.out (by decide) false hln.out _ h7.out).mono ?_; rintro e w5 ⟨rfl, A5, c5, hn5⟩; have ho5 := ho4.out.frame 0 rfl hn5)
      refine hK.out _ _ (.inr ⟨hn5.kept, trivial⟩) ?_
      clear hK K
      replace ho5 := Hidd.mk (show Own w (fun _ => False) w5 [hres b _ _ true A5 0 c5 [], blk (w.heap.size + 1) (.cells #[.int .u32 _, .int .u8 _] 50), blk w.heap.size (.cells #[.int .u8 s, .int .u32 r, .int .u8 m, .slice A mn c, .int .u8 k0, .int .u8 k1, .int .u16 k2, .int .u16 k3, .slice B rn d] 59)] from ho5)
      refine FlW.heads (fun zz => zz = _) rfl ?_
      repeat (first | (refine StQ.skip (by rfl) ?_; simp only [Act.put, List.setIfInBounds_toArray, List.set_cons_zero, List.set_cons_succ]) | (refine StQ.go' (by rfl) (Exists.intro ?_ (And.intro (fun w' hS => ?_) ?_)); rotate_left; (focus (rw [hS]; go_simp; try with_reducible rfl)); simp only [Act.put, List.setIfInBounds_toArray, List.set_cons_zero, List.set_cons_succ]))
      refine StQ.nil ?_
      refine FlW.nil (Calm.normal ?_)
      clear hn5 ho4
      obtain ⟨x0, x1, x2, x3, x4, x5, x6, x7, x8⟩ := cells9 ho5.out 2 rfl
      go_wp2_with (first
        | (go_at_call 22; refine (hear_own 0 ho5.out rfl s ⟨s, r, m, A, mn, c, k0, k1, k2, k3, B, rn, d⟩ hfo.out (by decide) true hok.out _ h8.out).mono ?_; rintro e w6 ⟨rfl, A6, c6, ho6⟩; clear x0 x1 x2 x3 x4 x5 x6 x7 x8; replace ho6 := Hidd.mk ho6; obtain ⟨x0, x1, x2, x3, x4, x5, x6, x7, x8⟩ := cells9 ho6.out 2 rfl; clear ho5)
        | (go_at_call 22; refine (hear_own 0 ho6.out rfl s ⟨s, r, m, A, mn, c, k0, k1, k2, k3, B, rn, d⟩ hfo.out (by simp) false hno.out _ h9.out).mono ?_; rintro e w7 ⟨rfl, A7, c7, ho7⟩; clear x0 x1 x2 x3 x4 x5 x6 x7 x8; replace ho7 := Hidd.mk ho7; obtain ⟨x0, x1, x2, x3, x4, x5, x6, x7, x8⟩ := cells9 ho7.out 2 rfl; have y0 := ho7.out.cell 1 rfl 0; have y1 := ho7.out.cell 1 rfl 1; simp at y0 y1; clear ho6)
        | (go_at_call 26; refine (of_any _ 1 1 [(s : Int)] _ (Cells.new _ _ _ _ rfl) rfl (by decide)).mono ?_; rintro e w7 ⟨rfl, rfl⟩; rw [hMo.out]; replace ho7 := Hidd.mk (ho7.out.alloc (.cells #[.int .i64 (s : Int)] 3)).tail)
        | (go_at_call 24; refine (members_at 0 ho7.out rfl (by simp) _ _ true hrt.out _ hmem.out).mono ?_; rintro e w9 ⟨rfl, ho9⟩; replace ho9 := Hidd.mk ho9)
        | (go_at_call 38; refine (frames_own 0 ho9.out rfl (by simp) _ _ true hrt.out _ hmem.out _ hfM.out).mono ?_; rintro e wa ⟨B7, c8, rfl, hoa⟩; replace hoa := Hidd.mk hoa)
        | (go_at_call 25; refine (len_any _ hM8 _).mono ?_; rintro e w1 ⟨rfl, rfl⟩; rw [hlM.out]))
      go_ret
      exact ⟨rfl, hoa.out.below fun _ => id⟩
end Go.Proofs.Ytjejkmnlkmcckaa
