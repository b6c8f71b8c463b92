/- Encode of a frame: what it answers. -/
import Derived.Test.YtmbbfcpoiecfhaaFrH
namespace Go.Proofs.Ytmbbfcpoiecfhaa
open Go.RowKit

theorem wtr_mk {w w0 : World} {S : Nat → Prop} {L : List Res} (h : Own w0 S w L) : Own w0 S (w.alloc (.cells #[.slice none 0 0] 26)) (wtr w.heap.size none 0 0 [] :: L) := by
  have h1 := h.alloc (.cells #[.slice none 0 0] 26)
  have h2 := (h1.new (wres 5 1 none 0 0 []) (Below.refl _ _) (wres_nil _ _ _) (fun i hi => by cases hi)).perm (List.Perm.swap _ _ _)
  exact h2.join (wtr w.heap.size none 0 0 []) (fun a b c => ⟨a, b, fun k hk e => c k e hk⟩) (fun i hi => hi)
theorem wrap_u32 (n : Nat) (h : n < 4294967296) : IntKind.u32.wrap (n : Int) = n ∧ (n : Int) % 4294967296 = n := by
  rw [IntKind.wrap_u32']
  omega
theorem own_lower {w : World} {base b2 : Nat} {e : TypeId} {size n : Nat} {v : Value} {xs : List Value} (h : w.ownsRow base e size v n xs) (hb : b2 ≤ base) : w.ownsRow b2 e size v n xs := by
  obtain ⟨h1, h2⟩ := h
  refine ⟨h1, ?_⟩
  rcases h2 with h2 | ⟨g, cap, cur, rfl, hg, r⟩
  · exact .inl h2
  · exact .inr ⟨g, cap, cur, rfl, Nat.le_trans hb hg, r⟩
theorem wput_rng (v : Nat) : ∀ k, ∀ x ∈ wputN v k, 0 ≤ x ∧ x < 256
  | 0, x, h => by cases h
  | k + 1, x, h => by
    rcases List.mem_cons.1 h with rfl | h
    · omega
    · exact wput_rng v k x h
theorem encFr_bytes (s r m k0 k1 k2 k3 : Nat) {ms : List (Int × List Int)} (hm : ∀ q ∈ ms, ∀ x ∈ q.2, 0 ≤ x ∧ x < 256) (hl : ∀ q ∈ ms, q.2.length ≤ 16) (rs : List Rec5) : Bytes (encFr s r m ms k0 k1 k2 k3 rs) := by
  intro x hx
  unfold encFr hdrB cmdB at hx
  simp only [List.mem_append, List.mem_flatMap] at hx
  rcases hx with (((((h | h) | h) | h) | ⟨q, hq, h⟩) | ((((h | h) | h) | h) | h)) | ⟨q, hq, h⟩
  all_goals first
    | (have := wput_rng _ _ _ h; constructor <;> omega)
    | skip
  all_goals skip
  · unfold encM at h
    simp only [List.mem_append, List.mem_singleton] at h
    rcases h with (h | h) | h
    · (have := wput_rng _ _ _ h; constructor <;> omega)
    · have := hl q hq
      subst h
      omega
    · (have := hm q hq x h; constructor <;> omega)
  · unfold encR at h
    simp only [List.mem_append] at h
    rcases h with (((h | h) | h) | h) | h
    all_goals (have := wput_rng _ _ _ h; constructor <;> omega)
theorem cells_low {w : World} {D : Option Addr} {d : List Int} {a : Addr} (h : Cells w D (nums .u8 d)) (ha : D = some a) (hl : 0 < d.length) : a.block < w.heap.size := by
  subst ha
  obtain ⟨x, hx⟩ : ∃ x, d[0]? = some x := ⟨_, List.getElem?_eq_getElem hl⟩
  obtain ⟨a', e', hc⟩ := h 0 (.int .u8 x) (by unfold nums; rw [List.getElem?_map, hx]; rfl)
  injection e' with e'
  subst e'
  exact World.block_lt_of_cell? w (a.add 0) hc

set_option maxRecDepth 100000 in
set_option maxHeartbeats 8000000 in
theorem encode_bad (s r m k0 k1 k2 k3 : Nat) (ma : Option Addr) (mn mc : Nat) (ra : Option Addr) (rn rc : Nat) (ms : List (Int × List Int)) (rs : List Rec5) (w : World) (hM : MsgsAt w ma mn ms) (hR : RecsAt w ra rn rs) (hs : s < 256) (h0 : k0 < 256) (h1 : k1 < 256) (h2 : k2 < 65536) (h3 : k3 < 65536)
    (hrk : ∀ x ∈ rs, x.Ok) (q0 q1 : Int) (her : chkE s ms k0 k1 k2 k3 rs = some (q0, q1)) :
    Calls Try.prog 33 #[.agg #[.int .u8 s, .int .u32 r, .int .u8 m, .slice ma mn mc, .int .u8 k0, .int .u8 k1, .int .u16 k2, .int .u16 k3, .slice ra rn rc]] w fun e w' => ∃ b, e = .returned (.tuple #[.slice none 0 0, .iface 86 (.pointer (some ⟨b, 0, none⟩))]) ∧ IsErr w' [(40, -1), (q0, q1)] none (.iface 86 (.pointer (some ⟨b, 0, none⟩))) ∧ Below w.heap.size w w' := by
  have ho := Hidd.mk ((Own.nil w (fun _ => False)).alloc (.cells #[.int .u8 s, .int .u32 r, .int .u8 m, .slice ma mn mc, .int .u8 k0, .int .u8 k1, .int .u16 k2, .int .u16 k3, .slice ra rn rc] 60))
  have HM := Hidd.mk hM
  have HR := Hidd.mk hR
  replace hrk := Hidd.mk hrk
  replace her := Hidd.mk her
  clear hM hR
  go_enter Try.func33, Try.ntmps33
  go_wp2_with (first
    | (go_at_call 35; refine (check_any s r m k0 k1 k2 k3 ma mn mc ra rn rc ms rs _ (HM.out.below (ho.out.below fun _ => id)) (HR.out.below (ho.out.below fun _ => id)) hs h0 h1 h2 h3 hrk.out _ her.out).mono ?_; rintro e w1 ⟨v, rfl, hv, hb1⟩; have hv2 := Hidd.mk hv.isErr; obtain ⟨fb, rfl, _⟩ := hv; replace ho := Hidd.mk (ho.out.ext hb1); clear hb1)
    | (go_at_call 45; refine (wrap_any 40 (-1) _ _ _ _ (by decide) (by decide) hv2.out).mono ?_; rintro e w2 ⟨b, rfl, he, hb2⟩; replace ho := Hidd.mk (ho.out.ext hb2); replace he := Hidd.mk he; clear hb2))
  go_ret2
  exact ⟨b, rfl, he.out, ho.out.below fun _ => id⟩

set_option maxRecDepth 100000 in
set_option maxHeartbeats 8000000 in
theorem encode_ok (s r m k0 k1 k2 k3 : Nat) (ma : Option Addr) (mn mc : Nat) (ra : Option Addr) (rn rc : Nat) (ms : List (Int × List Int)) (rs : List Rec5) (w : World) (hM : MsgsAt w ma mn ms) (hR : RecsAt w ra rn rs) (hs : s < 256) (hr : r < 4294967296) (hm : m < 256) (h0 : k0 < 256) (h1 : k1 < 256) (h2 : k2 < 65536) (h3 : k3 < 65536)
    (hmk : ∀ q ∈ ms, ∀ x ∈ q.2, 0 ≤ x ∧ x < 256) (hrk : ∀ x ∈ rs, x.Ok) (her : chkE s ms k0 k1 k2 k3 rs = none) (n : Nat) (hn : (crcSeal (encFr s r m ms k0 k1 k2 k3 rs)).length = n) :
    Calls Try.prog 33 #[.agg #[.int .u8 s, .int .u32 r, .int .u8 m, .slice ma mn mc, .int .u8 k0, .int .u8 k1, .int .u16 k2, .int .u16 k3, .slice ra rn rc]] w fun e w' => ∃ A c, e = .returned (.tuple #[.slice A n c, .nilIface]) ∧ w'.ownsRow w.heap.size 5 1 (.slice A n c) n (nums .u8 (crcSeal (encFr s r m ms k0 k1 k2 k3 rs))) ∧ Below w.heap.size w w' := by
  have ho := Hidd.mk ((Own.nil w (fun _ => False)).alloc (.cells #[.int .u8 s, .int .u32 r, .int .u8 m, .slice ma mn mc, .int .u8 k0, .int .u8 k1, .int .u16 k2, .int .u16 k3, .slice ra rn rc] 60))
  obtain ⟨_, hml, hrl, hmq, _, _⟩ := chk_none her
  have hmn := hM.1
  have hrn := hR.1
  rw [hmn] at hml
  rw [hrn] at hrl
  have HM := Hidd.mk hM
  have HR := Hidd.mk hR
  have hmq2 : ∀ q ∈ ms, q.2.length ≤ 16 := fun q hq => (hmq q hq).2.2
  replace hmq := Hidd.mk hmq
  replace hmq2 := Hidd.mk hmq2
  replace hrk := Hidd.mk hrk
  replace hmk := Hidd.mk hmk
  replace her := Hidd.mk her
  replace hmn := Hidd.mk hmn
  replace hrn := Hidd.mk hrn
  replace hn := Hidd.mk hn
  obtain ⟨u1, u2⟩ := wrap_u32 s (by omega)
  obtain ⟨u3, u4⟩ := wrap_u32 m (by omega)
  obtain ⟨u5, u6⟩ := wrap_u32 mn (by omega)
  obtain ⟨u7, u8⟩ := wrap_u32 rn (by omega)
  obtain ⟨u9, u10⟩ := wrap_u32 k0 (by omega)
  obtain ⟨u11, u12⟩ := wrap_u32 k1 (by omega)
  obtain ⟨u13, u14⟩ := wrap_u32 k2 (by omega)
  obtain ⟨u15, u16⟩ := wrap_u32 k3 (by omega)
  clear hM hR
  go_enter Try.func33, Try.ntmps33
  go_wp2_with (first
    | (go_at_call 35; refine (check_any s r m k0 k1 k2 k3 ma mn mc ra rn rc ms rs _ (HM.out.below (ho.out.below fun _ => id)) (HR.out.below (ho.out.below fun _ => id)) hs h0 h1 h2 h3 hrk.out _ her.out).mono ?_; rintro e w1 ⟨v, rfl, hv, hb1⟩; (obtain rfl : v = .nilIface := hv); have ho1 := ho.out.ext hb1; obtain ⟨x0, x1, x2, x3, x4, x5, x6, x7, x8⟩ := cells9 ho1 0 rfl; have hpl := ho1.lt 0 rfl; replace ho1 := Hidd.mk (wtr_mk ho1); clear hb1 ho)
    | (go_at_call 17; refine (put_own 0 ho1.out rfl s 1 (by decide) (by omega) 1 rfl).mono ?_; rintro e w2 ⟨rfl, A2, c2, ho2⟩; clear x0 x1 x2 x3 x4 x5 x6 x7 x8 hpl; obtain ⟨x0, x1, x2, x3, x4, x5, x6, x7, x8⟩ := cells9 ho2 1 rfl; replace ho2 := Hidd.mk ho2; clear ho1)
    | (go_at_call 17; refine (put_own 0 ho2.out rfl r 4 (by decide) hr 4 rfl).mono ?_; rintro e w3 ⟨rfl, A3, c3, ho3⟩; clear x0 x1 x2 x3 x4 x5 x6 x7 x8; obtain ⟨x0, x1, x2, x3, x4, x5, x6, x7, x8⟩ := cells9 ho3 1 rfl; replace ho3 := Hidd.mk ho3; clear ho2)
    | (go_at_call 17; refine (put_own 0 ho3.out rfl m 1 (by decide) (by omega) 1 rfl).mono ?_; rintro e w4 ⟨rfl, A4, c4, ho4⟩; clear x0 x1 x2 x3 x4 x5 x6 x7 x8; obtain ⟨x0, x1, x2, x3, x4, x5, x6, x7, x8⟩ := cells9 ho4 1 rfl; replace ho4 := Hidd.mk ho4; clear ho3)
    | (go_at_call 17; refine (put_own 0 ho4.out rfl mn 1 (by decide) (by omega) 1 rfl).mono ?_; rintro e w5 ⟨rfl, A5, c5, ho5⟩; clear x0 x1 x2 x3 x4 x5 x6 x7 x8; obtain ⟨x0, x1, x2, x3, x4, x5, x6, x7, x8⟩ := cells9 ho5 1 rfl; replace ho5 := Hidd.mk ho5; clear ho4))
  replace ho5 := Hidd.mk (show Own w (fun _ => False) w5 [wtr w1.heap.size A5 7 c5 (hdrB s r m mn), blk w.heap.size (.cells #[.int .u8 s, .int .u32 r, .int .u8 m, .slice ma mn mc, .int .u8 k0, .int .u8 k1, .int .u16 k2, .int .u16 k3, .slice ra rn rc] 60)] from ho5.out)
  clear x0 x1 x2 x3 x4 x5 x6 x7 x8
  generalize w1.heap.size = bw at ho5 ⊢
  generalize w.heap.size = p1 at ho5 ⊢
  go_loopw [37] (fun v37 wr => ∃ (i n : Nat) (A : Option Addr) (c : Nat), v37 = .int .i64 i ∧ i ≤ mn ∧ Hidd ((hdrB s r m mn ++ (ms.take i).flatMap encM).length = n) ∧ Hidd (Own w (fun _ => False) wr [wtr bw A n c (hdrB s r m mn ++ (ms.take i).flatMap encM), blk p1 (.cells #[.int .u8 s, .int .u32 r, .int .u8 m, .slice ma mn mc, .int .u8 k0, .int .u8 k1, .int .u16 k2, .int .u16 k3, .slice ra rn rc] 60)])) (fun v37 _ => mn - (intOf v37).toNat)
  case atStart => exact ⟨0, 7, A5, c5, rfl, Nat.zero_le _, ⟨by rw [List.take_zero, List.flatMap_nil, List.append_nil, hdrB_len]⟩, ⟨by rw [List.take_zero, List.flatMap_nil, List.append_nil]; exact ho5.out⟩⟩
  case round =>
    clear ho5
    obtain ⟨i, n1, A, c, rfl, hi, hn1, ho⟩ := hrel
    have hnb : n1 ≤ 2000 := by
      have h := hn1.out
      rw [← hmn.out] at h
      exact body_bound hmq2.out (by rw [hmn.out]; exact hml) i (by rw [hmn.out]; exact hi) h
    by_cases hlt : i < mn
    · obtain ⟨⟨p, d⟩, hp⟩ : ∃ x, ms[i]? = some x := ⟨_, List.getElem?_eq_getElem (by rw [hmn.out]; exact hlt)⟩
      obtain ⟨a, D, dl, dc, rfl, y0, y1, y2, y3, y4, _⟩ := HM.out.2 i p d hp
      have hwr := ho.out.below fun _ => id
      replace y0 := vkeep hwr y0
      replace y1 := vkeep hwr y1
      have hsep : Hidd (∀ W : World, ∀ (A : Option Addr) (n c : Nat) (xs : List Int) (L : List Res), Own w (fun _ => False) W L → L[1]? = some (wtr bw A n c xs) → ∀ ad, D = some ad → 0 < dl → ¬ (wtr bw A n c xs).foot ad.block) := ⟨fun W A n c xs L hO hk ad ha hl hf => by
        have hl2 := cells_low y2 ha (by rw [y3]; exact hl)
        rcases hO.own _ (List.mem_of_getElem? hk) _ hf with h | h
        · exact h
        · omega⟩
      have hD := Hidd.mk y2
      replace y3 := Hidd.mk y3
      obtain ⟨hp0, hp1, hp2⟩ := hmq.out _ (List.mem_of_getElem? hp)
      simp only at hp0 hp1 hp2
      obtain ⟨pn, rfl⟩ := Int.eq_ofNat_of_zero_le hp0
      obtain ⟨u17, u18⟩ := wrap_u32 pn (by omega)
      have hft := flat_take encM hp
      have hdl : dl ≤ 16 := by have := y3.out; omega
      have hen : Hidd ((hdrB s r m mn ++ (ms.take (i + 1)).flatMap encM) = hdrB s r m mn ++ (ms.take i).flatMap encM ++ wputN pn 1 ++ [(dl : Int)] ++ d.take dl) := ⟨by
        rw [hft]
        unfold encM
        rw [show d.take dl = d from List.take_of_length_le (by rw [y3.out]; exact Nat.le_refl _), y3.out]
        simp only [List.append_assoc, Int.toNat_natCast]⟩
      have hen2 : Hidd ((hdrB s r m mn ++ (ms.take (i + 1)).flatMap encM).length = n1 + 1 + 1 + dl) := ⟨by
        rw [hen.out]
        simp only [List.length_append, wputN_length, List.length_cons, List.length_nil, List.length_take, y3.out, Nat.min_self]
        have := hn1.out
        rw [List.length_append] at this
        omega⟩
      have bi0 : (0 : Int) ≤ (i : Int) := by omega
      have bi1 : (i : Int) < (mn : Int) := by omega
      clear hp hft hwr y2
      go_wp2_with (first
        | (go_at_call 17; refine (put_own 1 (ho.out.alloc (.cells #[.int .i64 (pn : Int), .slice D dl dc] 71)) rfl pn 1 (by omega) (by omega) 1 rfl).mono ?_; rintro e w6 ⟨rfl, A6, c6, ho6⟩; have z0 := ho6.cell 0 rfl 0; have z1 := ho6.cell 0 rfl 1; simp at z0 z1; replace ho6 := Hidd.mk ho6; clear ho)
        | (go_at_call 15; refine (text_own 1 ho6.out rfl (by omega) D dl dc d (hD.out.below (ho6.out.below fun _ => id)) y3.out y4 (hsep.out _ _ _ _ _ _ ho6.out rfl) dl (by omega)).mono ?_; rintro e w7 ⟨rfl, A7, c7, ho7⟩; replace ho7 := Hidd.mk ho7.tail; clear ho6))
      go_roundw
      case rel => exact ⟨i + 1, n1 + 1 + 1 + dl, A7, c7, by go_num, by omega, hen2, ⟨by rw [hen.out]; exact ho7.out⟩⟩
      case measure => (simp [intOf]; try omega)
    · obtain rfl : i = mn := by omega
      have htl : (ms.take i).flatMap encM = ms.flatMap encM := by rw [← hmn.out, List.take_length]
      rw [htl] at hn1 ho
      obtain ⟨x0, x1, x2, x3, x4, x5, x6, x7, x8⟩ := cells9 ho.out 1 rfl
      have hpl := ho.out.lt 1 rfl
      clear htl
      go_wp2_with (first
        | (go_at_call 17; refine (put_own 0 ho.out rfl k0 1 (by omega) (by omega) 1 rfl).mono ?_; rintro e wp0 ⟨rfl, Ap0, cp0, hp0⟩; clear x0 x1 x2 x3 x4 x5 x6 x7 x8; obtain ⟨x0, x1, x2, x3, x4, x5, x6, x7, x8⟩ := cells9 hp0 1 rfl; replace hp0 := Hidd.mk hp0; clear ho)
        | (go_at_call 17; refine (put_own 0 hp0.out rfl k1 1 (by omega) (by omega) 1 rfl).mono ?_; rintro e wp1 ⟨rfl, Ap1, cp1, hp1⟩; clear x0 x1 x2 x3 x4 x5 x6 x7 x8; obtain ⟨x0, x1, x2, x3, x4, x5, x6, x7, x8⟩ := cells9 hp1 1 rfl; replace hp1 := Hidd.mk hp1; clear hp0)
        | (go_at_call 17; refine (put_own 0 hp1.out rfl k2 2 (by omega) (by omega) 2 rfl).mono ?_; rintro e wp2 ⟨rfl, Ap2, cp2, hp2⟩; clear x0 x1 x2 x3 x4 x5 x6 x7 x8; obtain ⟨x0, x1, x2, x3, x4, x5, x6, x7, x8⟩ := cells9 hp2 1 rfl; replace hp2 := Hidd.mk hp2; clear hp1)
        | (go_at_call 17; refine (put_own 0 hp2.out rfl k3 2 (by omega) (by omega) 2 rfl).mono ?_; rintro e wp3 ⟨rfl, Ap3, cp3, hp3⟩; clear x0 x1 x2 x3 x4 x5 x6 x7 x8; obtain ⟨x0, x1, x2, x3, x4, x5, x6, x7, x8⟩ := cells9 hp3 1 rfl; replace hp3 := Hidd.mk hp3; clear hp2)
        | (go_at_call 17; refine (put_own 0 hp3.out rfl rn 1 (by omega) (by omega) 1 rfl).mono ?_; rintro e wp4 ⟨rfl, Ap4, cp4, hp4⟩; clear x0 x1 x2 x3 x4 x5 x6 x7 x8; obtain ⟨x0, x1, x2, x3, x4, x5, x6, x7, x8⟩ := cells9 hp4 1 rfl; replace hp4 := Hidd.mk hp4; clear hp3))
      replace hp4 := Hidd.mk (show Own w (fun _ => False) wp4 [wtr bw Ap4 (n1 + 7) cp4 (hdrB s r m i ++ ms.flatMap encM ++ cmdB k0 k1 k2 k3 rn), blk p1 (.cells #[.int .u8 s, .int .u32 r, .int .u8 m, .slice ma i mc, .int .u8 k0, .int .u8 k1, .int .u16 k2, .int .u16 k3, .slice ra rn rc] 60)] by
        have h := hp4.out
        unfold cmdB
        simp only [← List.append_assoc]
        exact h)
      clear x0 x1 x2 x3 x4 x5 x6 x7 x8
      have hl0 : Hidd ((hdrB s r m i ++ ms.flatMap encM ++ cmdB k0 k1 k2 k3 rn ++ (rs.take 0).flatMap encR).length = n1 + 7) := ⟨by
        have h := hn1.out
        rw [List.take_zero, List.flatMap_nil, List.append_nil, List.length_append, cmdB_len, h]⟩
      have hs0 : Hidd (Own w (fun _ => False) wp4 [wtr bw Ap4 (n1 + 7) cp4 (hdrB s r m i ++ ms.flatMap encM ++ cmdB k0 k1 k2 k3 rn ++ (rs.take 0).flatMap encR), blk p1 (.cells #[.int .u8 s, .int .u32 r, .int .u8 m, .slice ma i mc, .int .u8 k0, .int .u8 k1, .int .u16 k2, .int .u16 k3, .slice ra rn rc] 60)]) := ⟨by
        rw [List.take_zero, List.flatMap_nil, List.append_nil]
        exact hp4.out⟩
      have hlen : Hidd (∀ j, j ≤ rn → (hdrB s r m i ++ ms.flatMap encM ++ cmdB k0 k1 k2 k3 rn ++ (rs.take j).flatMap encR).length = n1 + 7 + j * 8) := ⟨fun j hj => by
        have h := hn1.out
        rw [List.length_append, List.length_append, cmdB_len, h, encRs_len, List.length_take, Nat.min_eq_left (by rw [hrn.out]; exact hj)]⟩
      clear hn1 hp4 hl0
      go_loopw [77] (fun v77 wr => ∃ (j : Nat) (A : Option Addr) (c : Nat), v77 = .int .i64 j ∧ j ≤ rn ∧ Hidd (Own w (fun _ => False) wr [wtr bw A (n1 + 7 + j * 8) c (hdrB s r m i ++ ms.flatMap encM ++ cmdB k0 k1 k2 k3 rn ++ (rs.take j).flatMap encR), blk p1 (.cells #[.int .u8 s, .int .u32 r, .int .u8 m, .slice ma i mc, .int .u8 k0, .int .u8 k1, .int .u16 k2, .int .u16 k3, .slice ra rn rc] 60)])) (fun v77 _ => rn - (intOf v77).toNat)
      case atStart => exact ⟨0, Ap4, cp4, rfl, Nat.zero_le _, hs0⟩
      case round =>
        clear hs0
        obtain ⟨j, A, c, rfl, hj, ho⟩ := hrel
        have hnb2 : n1 + 7 + j * 8 ≤ 3000 := by omega
        have hlj := Hidd.mk (hlen.out j hj)
        by_cases hlt : j < rn
        · obtain ⟨x, hx⟩ : ∃ x, rs[j]? = some x := ⟨_, List.getElem?_eq_getElem (by rw [hrn.out]; exact hlt)⟩
          obtain ⟨a, rfl, y0, y1, y2, y3, y4⟩ := (HR.out.below (ho.out.below fun _ => id)).2 j x hx
          obtain ⟨g0, g1, g2, g3, g4⟩ := hrk.out x (List.mem_of_getElem? hx)
          have hft := flat_take encR hx
          obtain ⟨xr, xn, xp, xk, xd⟩ := x
          simp only at y0 y1 y2 y3 y4 g0 g1 g2 g3 g4
          obtain ⟨t1, t2⟩ := wrap_u32 xn (by omega)
          obtain ⟨t3, t4⟩ := wrap_u32 xp (by omega)
          obtain ⟨t5, t6⟩ := wrap_u32 xk (by omega)
          obtain ⟨t7, t8⟩ := wrap_u32 xd (by omega)
          have hen : Hidd (hdrB s r m i ++ ms.flatMap encM ++ cmdB k0 k1 k2 k3 rn ++ (rs.take (j + 1)).flatMap encR = hdrB s r m i ++ ms.flatMap encM ++ cmdB k0 k1 k2 k3 rn ++ (rs.take j).flatMap encR ++ wputN xr 4 ++ wputN xn 1 ++ wputN xp 1 ++ wputN xk 1 ++ wputN xd 1) := ⟨by
            rw [hft]
            unfold encR
            simp only [List.append_assoc]⟩
          have hnj : n1 + 7 + (j + 1) * 8 = n1 + 7 + j * 8 + 4 + 1 + 1 + 1 + 1 := by omega
          replace hnj := Hidd.mk hnj
          have bi0 : (0 : Int) ≤ (j : Int) := by omega
          have bi1 : (j : Int) < (rn : Int) := by omega
          clear hx hft
          generalize n1 + 7 + j * 8 = nn at ho hnb2 hlj hnj ⊢
          go_wp2_with (first
          | (go_at_call 17; refine (put_own 1 (ho.out.alloc (.cells #[.int .u32 xr, .int .u8 xn, .int .u8 xp, .int .u8 xk, .int .u8 xd] 93)) rfl xr 4 (by omega) g0 4 rfl).mono ?_; rintro e wq0 ⟨rfl, Aq0, cq0, hq0⟩; clear ho; have z0 := hq0.cell 0 rfl 0; have z1 := hq0.cell 0 rfl 1; have z2 := hq0.cell 0 rfl 2; have z3 := hq0.cell 0 rfl 3; have z4 := hq0.cell 0 rfl 4; simp at z0 z1 z2 z3 z4; replace hq0 := Hidd.mk hq0)
          | (go_at_call 17; refine (put_own 1 hq0.out rfl xn 1 (by omega) (by omega) 1 rfl).mono ?_; rintro e wq1 ⟨rfl, Aq1, cq1, hq1⟩; clear hq0 z0 z1 z2 z3 z4; have z0 := hq1.cell 0 rfl 0; have z1 := hq1.cell 0 rfl 1; have z2 := hq1.cell 0 rfl 2; have z3 := hq1.cell 0 rfl 3; have z4 := hq1.cell 0 rfl 4; simp at z0 z1 z2 z3 z4; replace hq1 := Hidd.mk hq1)
          | (go_at_call 17; refine (put_own 1 hq1.out rfl xp 1 (by omega) (by omega) 1 rfl).mono ?_; rintro e wq2 ⟨rfl, Aq2, cq2, hq2⟩; clear hq1 z0 z1 z2 z3 z4; have z0 := hq2.cell 0 rfl 0; have z1 := hq2.cell 0 rfl 1; have z2 := hq2.cell 0 rfl 2; have z3 := hq2.cell 0 rfl 3; have z4 := hq2.cell 0 rfl 4; simp at z0 z1 z2 z3 z4; replace hq2 := Hidd.mk hq2)
          | (go_at_call 17; refine (put_own 1 hq2.out rfl xk 1 (by omega) (by omega) 1 rfl).mono ?_; rintro e wq3 ⟨rfl, Aq3, cq3, hq3⟩; clear hq2 z0 z1 z2 z3 z4; have z0 := hq3.cell 0 rfl 0; have z1 := hq3.cell 0 rfl 1; have z2 := hq3.cell 0 rfl 2; have z3 := hq3.cell 0 rfl 3; have z4 := hq3.cell 0 rfl 4; simp at z0 z1 z2 z3 z4; replace hq3 := Hidd.mk hq3)
          | (go_at_call 17; refine (put_own 1 hq3.out rfl xd 1 (by omega) (by omega) 1 rfl).mono ?_; rintro e wq4 ⟨rfl, Aq4, cq4, hq4⟩; clear hq3 z0 z1 z2 z3 z4; replace hq4 := Hidd.mk hq4.tail))
          go_roundw
          case rel => exact ⟨j + 1, Aq4, cq4, by go_num, by omega, ⟨by rw [hen.out, hnj.out]; exact hq4.out⟩⟩
          case measure => (simp [intOf]; try omega)
        · obtain rfl : j = rn := by omega
          have htl : (rs.take j).flatMap encR = rs.flatMap encR := by rw [← hrn.out, List.take_length]
          rw [htl] at ho hlj
          have hall : Hidd (hdrB s r m i ++ ms.flatMap encM ++ cmdB k0 k1 k2 k3 j ++ rs.flatMap encR = encFr s r m ms k0 k1 k2 k3 rs) := ⟨by unfold encFr; rw [hmn.out, hrn.out]⟩
          rw [hall.out] at ho hlj
          clear htl hall hlen
          generalize n1 + 7 + j * 8 = nn at ho hnb2 hlj ⊢
          obtain rfl : n = nn + 4 := by
            have := hn.out
            rw [crcSeal_length, hlj.out] at this
            omega
          have hby := Hidd.mk (encFr_bytes s r m k0 k1 k2 k3 hmk.out (fun q hq => (hmq.out q hq).2.2) rs)
          go_wp2_with (first
            | (go_at_call 19; refine (bytes_new (ho.out.get 0 rfl) (by omega)).mono ?_; rintro e wz ⟨Az, cz, rfl, hnz⟩; replace ho := Hidd.mk (ho.out.made hnz); have hcz := Hidd.mk (row_cells hnz 0 rfl); have hbz := Hidd.mk (ho.out.below fun _ => id).size; clear hnz)
            | (go_at_call 40; refine (seal_at Az nn cz _ _ hcz.out hby.out (by omega) hlj.out).mono ?_; rintro e wy ⟨Ay, cy, rfl, _, hoy, _, hby2⟩; replace hoy := Hidd.mk hoy; replace ho := Hidd.mk (ho.out.ext hby2)))
          go_ret2
          exact ⟨Ay, cy, rfl, own_lower hoy.out hbz.out, ho.out.below fun _ => id⟩
end Go.Proofs.Ytmbbfcpoiecfhaa
