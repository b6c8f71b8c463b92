/- The law FrameSizes. -/
import Derived.Test.YtmbbfcpoiecfhaaFrI
namespace Go.Proofs.Ytmbbfcpoiecfhaa
open Go.RowKit

theorem convd_own {w : World} {B n : Nat} {v : Value} {xs : List Int} (h : w.ownsRow B 5 1 v n (nums .u8 xs)) : (convert 24 9 v).run Try.prog w = .ok (.string (strOfNums xs)) w := by
  obtain ⟨A, c, rfl, _, hl, hA⟩ := Cells.of_own h
  exact conv_at hA (by have h1 := h.1; rw [nums_length] at h1; omega)
theorem aw04_len : (crcSeal (encFr 0 0 0 [] 0 0 0 0 [])).length = 18 := by decide +kernel
theorem aw04_str : strOfNums (crcSeal (encFr 0 0 0 [] 0 0 0 0 [])) = { data := #[0, 0, 0, 0, 0, 0, 0, 0, 0, 0, 0, 0, 0, 0, 199, 121, 187, 209] } := by decide +kernel
set_option maxRecDepth 100000 in
set_option maxHeartbeats 8000000 in
theorem awake4_any (w : World) : Calls Try.prog 31 #[] w fun e w' => e = .returned (.bool true) ∧ Below w.heap.size w w' := by
  have hn := Hidd.mk aw04_len
  have hs := Hidd.mk aw04_str
  go_enter Try.func31, Try.ntmps31
  go_wp2_with (go_at_call 33; refine (encode_ok 0 0 0 0 0 0 0 none 0 0 none 0 0 [] [] _ (msgs_nil _) (recs_nil _) (by decide) (by decide) (by decide) (by decide) (by decide) (by decide) (by decide) (by intro q hq; cases hq) (by intro q hq; cases hq) (by decide) 18 hn.out).mono ?_; rintro e w1 ⟨A, c, rfl, ho, hb⟩; have hcv := convd_own ho; rw [hs.out] at hcv; replace hb := Hidd.mk hb; clear ho)
  go_ret
  exact ⟨rfl, hb.out⟩
def dsz (ms : List (Int × List Int)) (rs : List Rec5) (i : Nat) : Nat := 18 + 2 * ms.length + 8 * rs.length + ((ms.take i).map fun q => q.2.length).sum
theorem dsz_step {ms : List (Int × List Int)} {rs : List Rec5} {i : Nat} {q : Int × List Int} (h : ms[i]? = some q) : dsz ms rs (i + 1) = dsz ms rs i + q.2.length := by
  unfold dsz
  rw [List.take_add_one, h, List.map_append, List.sum_append]
  simp
  omega
theorem sum_le {l : List (Int × List Int)} (h : ∀ q ∈ l, q.2.length ≤ 16) : (l.map fun q => q.2.length).sum ≤ 16 * l.length := by
  induction l with
  | nil => simp
  | cons x l ih =>
    have := ih fun q hq => h q (List.mem_cons_of_mem _ hq)
    have := h x List.mem_cons_self
    simp only [List.map_cons, List.sum_cons, List.length_cons]
    omega
theorem dsz_le {ms : List (Int × List Int)} {rs : List Rec5} (h : ∀ q ∈ ms, q.2.length ≤ 16) (hm : ms.length ≤ 96) (hr : rs.length ≤ 4) (i : Nat) : dsz ms rs i ≤ 2000 := by
  have h1 := sum_le (l := ms.take i) fun q hq => h q (List.mem_of_mem_take hq)
  have h2 : (ms.take i).length ≤ ms.length := by rw [List.length_take]; omega
  unfold dsz
  omega
theorem flatM_len (ms : List (Int × List Int)) : (ms.flatMap encM).length = 2 * ms.length + (ms.map fun q => q.2.length).sum := by
  induction ms with
  | nil => rfl
  | cons x l ih =>
    rw [List.flatMap_cons, List.length_append, ih, List.map_cons, List.sum_cons, List.length_cons]
    unfold encM
    simp only [List.length_append, wputN_length, List.length_cons, List.length_nil]
    omega
theorem enc_len (s r m k0 k1 k2 k3 : Nat) (ms : List (Int × List Int)) (rs : List Rec5) : (crcSeal (encFr s r m ms k0 k1 k2 k3 rs)).length = dsz ms rs ms.length := by
  rw [crcSeal_length]
  unfold encFr dsz
  rw [List.length_append, List.length_append, List.length_append, hdrB_len, cmdB_len, flatM_len, encRs_len, List.take_length]
  omega
theorem nat_u8 {z : Int} (h : (Lit.int .u8 z).wf = true) : ∃ n : Nat, z = n ∧ n < 256 := by
  have h := bounds_u8 h
  exact ⟨z.toNat, by omega, by omega⟩
theorem nat_u16 {z : Int} (h : (Lit.int .u16 z).wf = true) : ∃ n : Nat, z = n ∧ n < 65536 := by
  simp [Lit.wf, IntKind.min, IntKind.max, IntKind.signed, IntKind.bits] at h
  exact ⟨z.toNat, by omega, by omega⟩
theorem nat_u32 {z : Int} (h : (Lit.int .u32 z).wf = true) : ∃ n : Nat, z = n ∧ n < 4294967296 := by
  simp [Lit.wf, IntKind.min, IntKind.max, IntKind.signed, IntKind.bits] at h
  exact ⟨z.toNat, by omega, by omega⟩

set_option maxRecDepth 100000 in
set_option maxHeartbeats 8000000 in
theorem frameSizes_walk (g0 g1 g2 : Int) (ma : Option Addr) (mn mc : Nat) (mz : List (List Value)) (g4 g5 g6 g7 : Int) (ra : Option Addr) (rn rc : Nat) (rz : List (List Value)) (w : World) (h0 : (Lit.int .u8 g0).wf = true) (h1 : (Lit.int .u32 g1).wf = true) (h2 : (Lit.int .u8 g2).wf = true)
    (h3 : Rows' w 32 [.int .i64, .sl 1 [.int .u8]] ma mn mc mz) (h4 : (Lit.int .u8 g4).wf = true) (h5 : (Lit.int .u8 g5).wf = true) (h6 : (Lit.int .u16 g6).wf = true) (h7 : (Lit.int .u16 g7).wf = true)
    (h8 : Rows' w 8 [.int .u32, .int .u8, .int .u8, .int .u8, .int .u8] ra rn rc rz) :
    Calls Try.prog 8 #[.agg #[.int .u8 g0, .int .u32 g1, .int .u8 g2, .slice ma mn mc, .int .u8 g4, .int .u8 g5, .int .u16 g6, .int .u16 g7, .slice ra rn rc]] w fun e w' => e = .returned (.bool true) ∧ Below w.heap.size w w' := by
  obtain ⟨s, rfl, hs⟩ := nat_u8 h0
  obtain ⟨r, rfl, hr⟩ := nat_u32 h1
  obtain ⟨m, rfl, hm⟩ := nat_u8 h2
  obtain ⟨k0, rfl, hk0⟩ := nat_u8 h4
  obtain ⟨k1, rfl, hk1⟩ := nat_u8 h5
  obtain ⟨k2, rfl, hk2⟩ := nat_u16 h6
  obtain ⟨k3, rfl, hk3⟩ := nat_u16 h7
  obtain ⟨ms, hM, hMo⟩ := msgs_of h3
  obtain ⟨rs, hR, hRo⟩ := recs_of h8
  clear h0 h1 h2 h3 h4 h5 h6 h7 h8
  have hmk : Hidd (∀ q ∈ ms, ∀ x ∈ q.2, 0 ≤ x ∧ x < 256) := ⟨fun q hq => (hMo q hq).2.1⟩
  replace hRo := Hidd.mk hRo
  clear hMo
  have ho := Hidd.mk ((Own.nil w (fun _ => False)).alloc (.cells #[.int .u8 s, .int .u32 r, .int .u8 m, .slice ma mn mc, .int .u8 k0, .int .u8 k1, .int .u16 k2, .int .u16 k3, .slice ra rn rc] 60))
  rcases hc : chkE s ms k0 k1 k2 k3 rs with _ | ⟨q0, q1⟩
  · obtain ⟨_, hml, hrl, hmq, _, _⟩ := chk_none hc
    have hmq2 : ∀ q ∈ ms, q.2.length ≤ 16 := fun q hq => (hmq q hq).2.2
    have hbd := Hidd.mk (dsz_le (rs := rs) hmq2 hml hrl)
    have hn := Hidd.mk ((enc_len s r m k0 k1 k2 k3 ms rs).trans (congrArg _ hM.1))
    have hd0 : Hidd (dsz ms rs 0 = 18 + 2 * mn + 8 * rn) := ⟨by unfold dsz; rw [hM.1, hR.1]; simp⟩
    have hmn := hM.1
    rw [hM.1] at hml
    rw [hR.1] at hrl
    have HM := Hidd.mk hM
    have HR := Hidd.mk hR
    replace hmn := Hidd.mk hmn
    replace hc := Hidd.mk hc
    clear hM hR hmq hmq2
    go_enter Try.func8, Try.ntmps8
    go_wp2_with (first
      | (go_at_call 31; refine (awake4_any _).mono ?_; rintro e w1 ⟨rfl, hb1⟩; have ho1 := ho.out.ext hb1; obtain ⟨x0, x1, x2, x3, x4, x5, x6, x7, x8⟩ := cells9 ho1 0 rfl; have hpl := ho1.lt 0 rfl; replace ho1 := Hidd.mk ho1; clear hb1 ho)
      | (go_at_call 33; refine (encode_ok s r m k0 k1 k2 k3 ma mn mc ra rn rc ms rs _ (HM.out.below (ho1.out.below fun _ => id)) (HR.out.below (ho1.out.below fun _ => id)) hs hr hm hk0 hk1 hk2 hk3 hmk.out hRo.out hc.out _ hn.out).mono ?_; rintro e w2 ⟨A2, c2, rfl, _, hb2⟩; have ho2 := ho1.out.ext hb2; clear x0 x1 x2 x3 x4 x5 x6 x7 x8 hpl; obtain ⟨x0, x1, x2, x3, x4, x5, x6, x7, x8⟩ := cells9 ho2 0 rfl; have hpl := ho2.lt 0 rfl; replace ho2 := Hidd.mk ho2; clear hb2 ho1))
    clear x0 x1 x2 x3 x4 x5 x6 x7 x8 hpl
    generalize w.heap.size = p1 at ho2 ⊢
    go_loopw [5, 30] (fun v5 v30 wr => ∃ (i t : Nat), v5 = .int .i64 t ∧ v30 = .int .i64 i ∧ i ≤ mn ∧ Hidd (dsz ms rs i = t) ∧ Hidd (Own w (fun _ => False) wr [blk p1 (.cells #[.int .u8 s, .int .u32 r, .int .u8 m, .slice ma mn mc, .int .u8 k0, .int .u8 k1, .int .u16 k2, .int .u16 k3, .slice ra rn rc] 60)])) (fun v5 v30 _ => mn - (intOf v30).toNat)
    case atStart => exact ⟨0, 18 + 2 * mn + 8 * rn, by go_num, rfl, Nat.zero_le _, hd0, ho2⟩
    case round =>
      clear ho2
      obtain ⟨i, t, rfl, rfl, hi, ht, ho⟩ := hrel
      have htb : t ≤ 2000 := by have := hbd.out i; rw [ht.out] at this; exact this
      by_cases hlt : i < mn
      · obtain ⟨⟨p, d⟩, hp⟩ : ∃ x, ms[i]? = some x := ⟨_, List.getElem?_eq_getElem (by rw [hmn.out]; exact hlt)⟩
        obtain ⟨a, D, dl, dc, rfl, y0, y1, y2, y3, y4, _⟩ := (HM.out.below (ho.out.below fun _ => id)).2 i p d hp
        have ht2 : Hidd (dsz ms rs (i + 1) = t + dl) := ⟨by rw [dsz_step hp, ht.out, y3]⟩
        have hdl : t + dl ≤ 2000 := by have := hbd.out (i + 1); rw [ht2.out] at this; exact this
        have bi0 : (0 : Int) ≤ (i : Int) := by omega
        have bi1 : (i : Int) < (mn : Int) := by omega
        clear hp y2 y3 ht
        go_wp2
        go_roundw
        case rel => exact ⟨i + 1, t + dl, by go_num, by go_num, by omega, ht2, ⟨(ho.out.alloc _).tail⟩⟩
        case measure => (simp [intOf]; try omega)
      · obtain rfl : i = mn := by omega
        have hte := ht.out
        subst hte
        go_wp2
        go_ret
        exact ⟨rfl, ho.out.below fun _ => id⟩
  · have HM := Hidd.mk hM
    have HR := Hidd.mk hR
    replace hc := Hidd.mk hc
    clear hM hR
    go_enter Try.func8, Try.ntmps8
    go_wp2_with (first
      | (go_at_call 31; refine (awake4_any _).mono ?_; rintro e w1 ⟨rfl, hb1⟩; have ho1 := ho.out.ext hb1; obtain ⟨x0, x1, x2, x3, x4, x5, x6, x7, x8⟩ := cells9 ho1 0 rfl; have hpl := ho1.lt 0 rfl; replace ho1 := Hidd.mk ho1; clear hb1 ho)
      | (go_at_call 33; refine (encode_bad s r m k0 k1 k2 k3 ma mn mc ra rn rc ms rs _ (HM.out.below (ho1.out.below fun _ => id)) (HR.out.below (ho1.out.below fun _ => id)) hs hk0 hk1 hk2 hk3 hRo.out q0 q1 hc.out).mono ?_; rintro e w2 ⟨fb, rfl, _, hb2⟩; have ho2 := Hidd.mk (ho1.out.ext hb2); clear hb2 ho1))
    go_ret
    exact ⟨rfl, ho2.out.below fun _ => id⟩
end Go.Proofs.Ytmbbfcpoiecfhaa
