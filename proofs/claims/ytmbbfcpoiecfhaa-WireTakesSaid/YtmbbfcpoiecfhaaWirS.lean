/- The acts of the wire's laws; WireStays walked. -/
import Derived.Test.YtmbbfcpoiecfhaaWirG
namespace Go.Proofs.Ytmbbfcpoiecfhaa
open Go.RowKit

/-- An act. -/
structure WAct where
  kind : Int
  size : Int
  n : Nat
  A : Option Addr
  len : Nat
  cap : Nat
  data : List Int
/-- The acts that came in. -/
def WActs (w : World) (A : Option Addr) (es : List WAct) : Prop :=
  ∀ (i : Nat) e, es[i]? = some e → (∃ a, A = some a ∧ w.cell? (a.add (i * 4)) = some (.int .i64 e.kind) ∧ w.cell? ⟨(a.add (i * 4)).block, (a.add (i * 4)).off + 1, none⟩ = some (.int .i64 e.size) ∧
    w.cell? ⟨(a.add (i * 4)).block, (a.add (i * 4)).off + 2, none⟩ = some (.int .u32 e.n) ∧ w.cell? ⟨(a.add (i * 4)).block, (a.add (i * 4)).off + 3, none⟩ = some (.slice e.A e.len e.cap)) ∧
    (Lit.int .i64 e.size).wf = true ∧ e.n < 4294967296 ∧ Cells w e.A (nums .u8 e.data) ∧ e.data.length = e.len ∧ (∀ x ∈ e.data, 0 ≤ x ∧ x < 256) ∧ e.len ≤ 140737488351232 ∧ e.len ≤ e.cap
theorem wacts_of {w : World} {b : Nat} {A : Option Addr} {len cap : Nat} {rows : List (List Value)} (h : Rows' w b [.int .i64, .int .i64, .int .u32, .sl 1 [.int .u8]] A len cap rows) : ∃ es, es.length = len ∧ WActs w A es := by
  classical
  have hr : ∀ r ∈ rows, ∃ e : WAct, r = [.int .i64 e.kind, .int .i64 e.size, .int .u32 e.n, .slice e.A e.len e.cap] ∧ ((Lit.int .i64 e.size).wf = true ∧ e.n < 4294967296 ∧ Cells w e.A (nums .u8 e.data) ∧ e.data.length = e.len ∧ (∀ x ∈ e.data, 0 ≤ x ∧ x < 256) ∧ e.len ≤ 140737488351232 ∧ e.len ≤ e.cap) := fun r hr => by
    have hl := h.each r hr
    have hf := h.fits r hr
    obtain ⟨x, r1, rfl, e1⟩ := arr_cons hl
    obtain ⟨y, r2, rfl, e2⟩ := arr_cons e1
    obtain ⟨z, r3, rfl, e3⟩ := arr_cons e2
    obtain ⟨u, r4, rfl, e4⟩ := arr_cons e3
    obtain rfl := List.length_eq_zero_iff.1 e4
    obtain ⟨x', rfl, _⟩ := (hf 0 _ _ rfl rfl).int_inv
    obtain ⟨y', rfl, hy⟩ := (hf 1 _ _ rfl rfl).int_inv
    obtain ⟨z', rfl, hz⟩ := (hf 2 _ _ rfl rfl).int_inv
    obtain ⟨D, dl, dc, dr, rfl, hd⟩ := (hf 3 _ _ rfl rfl).sl_inv
    obtain ⟨n, rfl, hn⟩ := wf32 hz
    obtain ⟨xs, hxl, hxc, hxw⟩ := ints_of hd
    have hw := hd.wt
    refine ⟨⟨x', y', n, D, dl, dc, xs⟩, rfl, hy, hn, hxc, hxl, wf8s hxw, ?_, hd.cap.1⟩
    unfold reachBytes at hw
    show dl ≤ _
    omega
  refine ⟨rows.map fun r => if h : r ∈ rows then (hr r h).choose else ⟨0, 0, 0, none, 0, 0, []⟩, by rw [List.length_map]; exact h.n, fun i e he => ?_⟩
  rw [List.getElem?_map, Option.map_eq_some_iff] at he
  obtain ⟨r, hri, rfl⟩ := he
  have hm := List.mem_of_getElem? hri
  rw [dif_pos hm]
  have e := (hr r hm).choose_spec
  generalize (hr r hm).choose = x at e ⊢
  obtain ⟨e, e'⟩ := e
  subst e
  obtain ⟨a, rfl, h0⟩ := h.cell i 0 _ _ hri rfl
  obtain ⟨a1, e1, h1⟩ := h.cell i 1 _ _ hri rfl
  obtain ⟨a2, e2, h2⟩ := h.cell i 2 _ _ hri rfl
  obtain ⟨a3, e3, h3⟩ := h.cell i 3 _ _ hri rfl
  injection e1 with e1
  injection e2 with e2
  injection e3 with e3
  subst e1 e2 e3
  rw [← add_add, addr_lit _ _ (by decide)] at h1 h2 h3
  exact ⟨⟨a, rfl, h0, h1, h2, h3⟩, e'⟩
theorem WActs.below {w w' : World} {A : Option Addr} {es : List WAct} (h : WActs w A es) (hB : Below w.heap.size w w') : WActs w' A es := fun i e he => by
  obtain ⟨⟨a, ha, h0, h1, h2, h3⟩, p1, p2, p3, p4⟩ := h i e he
  have k : ∀ {p : Addr} {v : Value}, w.cell? p = some v → w'.cell? p = some v := fun hc => by
    rw [hB.cell (World.block_lt_of_cell? w _ hc)]; exact hc
  exact ⟨⟨a, ha, k h0, k h1, k h2, k h3⟩, p1, p2, p3.below hB, p4⟩
theorem wkeep {w w1 : World} (h : Below w.heap.size w w1) {p : Addr} {v : Value} (hc : w.cell? p = some v) : w1.cell? p = some v := by
  rw [h.cell (World.block_lt_of_cell? w _ hc)]; exact hc
theorem take_err (xs : List Int) (n p : Nat) (q : Int × Int) (s : Int) : takeR xs n p (some q) s = (0, p, some q) := by
  unfold takeR moreB moreE
  split
  · rfl
  · simp
theorem text_err (xs : List Int) (n p : Nat) (q : Int × Int) : textR xs n p (some q) = ([], p, some q) := by
  unfold textR moreB moreE
  simp
theorem end_err (n p : Nat) (q : Int × Int) : endE n p (some q) = some q := by unfold endE; simp
theorem take4_ok (xs : List Int) (n p : Nat) (h : p + 4 ≤ n) : takeR xs n p none 4 = (valN ((xs.drop p).take 4), p + 4, none) := by
  unfold takeR moreB
  rw [if_neg (by omega), if_pos (by simp; omega)]
  rfl
theorem take4_no (xs : List Int) (n p : Nat) (h : n < p + 4) : takeR xs n p none 4 = (0, p, some (4, (p : Int))) := by
  unfold takeR moreB moreE
  rw [if_neg (by omega), if_neg (by simp; omega)]
  simp
  omega
theorem w64 {z : Int} (h0 : -9223372036854775808 ≤ z) (h1 : z ≤ 9223372036854775807) : wrap64 z = z := by unfold wrap64; omega
/-- What an error says. -/
theorem read_e (er : Option (Int × Int)) (v : Value) (w : World) (h : IsE w er v) (hq : ∀ q ∈ er, 0 < q.1 ∧ q.1 ≤ 1000 ∧ 0 ≤ q.2 ∧ q.2 ≤ 1000000000) :
    Calls Try.prog 27 #[v] w fun e w' => e = .returned (.string (errB (erL er) none)) ∧ Below w.heap.size w w' := by
  refine read_any (erL er) none v w h.isErr ⟨?_, ?_, by simp⟩
  · rcases er with _ | q <;> simp [erL]
  · rcases er with _ | q
    · simp [erL]
    · have := hq q rfl
      intro p hp
      simp [erL] at hp
      subst hp
      omega
theorem errB_one (c a : Int) : errB (erL (some (c, a))) none = atB c a := by
  show atB c a ++ errTail [] none = _
  exact ByteArray.append_empty ..

theorem ok4 (q : Nat) (h : q ≤ 1000000000) : ∀ p ∈ some ((4 : Int), (q : Int)), 0 < p.1 ∧ p.1 ≤ 1000 ∧ 0 ≤ p.2 ∧ p.2 ≤ 1000000000 := by
  intro p hp
  cases hp
  exact ⟨by show (0 : Int) < 4; omega, by show (4 : Int) ≤ 1000; omega, by show (0 : Int) ≤ q; omega, by show (q : Int) ≤ _; omega⟩
theorem quo4 (n q : Nat) (h : n ≤ 5000) (hq : q = n / 4 * 4) : (n : Int).tdiv 4 * 4 = q ∧ wrap64 ((n : Int).tdiv 4) = (n : Int).tdiv 4 ∧ IntKind.i64.wrap ((n : Int).tdiv 4) = (n : Int).tdiv 4 ∧ wrap64 (q : Int) = q ∧ IntKind.i64.wrap (q : Int) = q := by
  rw [Int.tdiv_eq_ediv_of_nonneg (by omega)]
  exact ⟨by omega, IntWalk.wrap64_in _ (by omega), IntWalk.i64_in _ (by omega), IntWalk.wrap64_in _ (by omega), IntWalk.i64_in _ (by omega)⟩

set_option maxRecDepth 100000 in
set_option maxHeartbeats 4000000 in
theorem wireStays_walk (a0 : Option Addr) (len0 cap0 : Nat) (z0 : List Int) (a1 : Option Addr) (len1 cap1 : Nat) (z1 : List (List Value)) (w : World) (h0 : IsRow .u8 w a0 len0 cap0 z0) (hlb : len0 * 1 ≤ 140737488351232)
    (h1 : Rows' w 48 [.int .i64, .int .i64, .int .u32, .sl 1 [.int .u8]] a1 len1 cap1 z1) :
    Calls Try.prog 6 #[.slice a0 len0 cap0, .slice a1 len1 cap1] w fun e w' => e = .returned (.bool true) ∧ Below w.heap.size w w' := by
  obtain ⟨xs, hl, _, _, hA, hwf⟩ := h0.open_
  obtain ⟨es, hel, hes⟩ := wacts_of h1
  have hx := Hidd.mk (wf8s hwf)
  have HA := Hidd.mk hA
  have HL := Hidd.mk hl
  replace hes := Hidd.mk hes
  replace hel := Hidd.mk hel
  have hlen1 : len1 ≤ 1000000000000000000 := by have := h1.wt; unfold reachBytes at this; omega
  clear h0 h1 hA hl hwf hlb
  by_cases hb : 5000 < len0
  · have hd : decide ((5000 : Int) < (len0 : Int)) = true := by rw [decide_eq_true_eq]; omega
    go_enter Try.func6, Try.ntmps6
    go_wp2_with (go_at_call 14; refine (awake_any _).mono ?_; rintro e w1 ⟨rfl, hb1⟩)
    go_ret
    exact ⟨rfl, hb1⟩
  · have hd : decide ((5000 : Int) < (len0 : Int)) = false := by rw [decide_eq_false_iff_not]; omega
    go_enter Try.func6, Try.ntmps6
    go_wp2_with (first
      | (go_at_call 14; refine (awake_any _).mono ?_; rintro e w1 ⟨rfl, hb1⟩; have ho1 := Hidd.mk ((Own.nil w (fun _ => False)).ext hb1); replace HA := Hidd.mk (HA.out.below hb1); clear hb1)
      | (go_at_call 20; refine (read_own _ _ _ _ _ HA.out HL.out (by omega)).mono ?_; rintro e w2 ⟨b, A, cap, rfl, hn2⟩; have ho2 := Hidd.mk (ho1.out.made hn2); clear hn2 ho1))
    clear hd
    go_loopw [6] (fun v6 wr => ∃ (i q : Nat) (er : Option (Int × Int)) (ev : Value), v6 = .int .i64 i ∧ i ≤ 1251 ∧ q ≤ len0 ∧ ((er = none ∧ q = 4 * i) ∨ (er = some (4, (q : Int)) ∧ q = len0 / 4 * 4)) ∧ Hidd (Own w (fun _ => False) wr [rdr b A len0 cap xs q er ev])) (fun v6 _ => 2000 - (intOf v6).toNat)
    case atStart => exact ⟨0, 0, none, _, rfl, by omega, by omega, .inl ⟨rfl, rfl⟩, ho2⟩
    case round =>
      clear ho2
      obtain ⟨i, q, er, ev, rfl, hi, hq, hc, ho⟩ := hrel
      rcases hc with ⟨rfl, rfl⟩ | ⟨rfl, hq2⟩
      · obtain rfl : ev = .nilIface := (show RdIn wr b A len0 cap xs (4 * i) none ev from ho.out.get 0 rfl).he
        by_cases hlt : 4 * i + 4 ≤ len0
        · go_wp2_with (first
            | (go_at_call 28; refine (err_own 0 ho.out rfl).mono ?_; rintro e w3 ⟨rfl, rfl⟩)
            | (go_at_call 22; refine (take_own 0 ho.out rfl (by omega) (by omega) hx.out 4 _ _ _ (take4_ok xs len0 (4 * i) hlt)).mono ?_; rintro e w4 ⟨rfl, ev4, ho4⟩; replace ho4 := Hidd.mk ho4; clear ho))
          go_roundw
          case rel => exact ⟨i + 1, 4 * i + 4, none, ev4, by go_num, by omega, by omega, .inl ⟨rfl, by omega⟩, ho4⟩
          case measure => simp [intOf]; omega
        · go_wp2_with (first
            | (go_at_call 28; refine (err_own 0 ho.out rfl).mono ?_; rintro e w3 ⟨rfl, rfl⟩)
            | (go_at_call 22; refine (take_own 0 ho.out rfl (by omega) (by omega) hx.out 4 _ _ _ (take4_no xs len0 (4 * i) (by omega))).mono ?_; rintro e w4 ⟨rfl, ev4, ho4⟩; replace ho4 := Hidd.mk ho4; clear ho))
          go_roundw
          case rel => exact ⟨i + 1, 4 * i, _, ev4, by go_num, by omega, by omega, .inr ⟨rfl, by omega⟩, ho4⟩
          case measure => simp [intOf]; omega
      · have hE : IsE wr (some (4, (q : Int))) ev := (show RdIn wr b A len0 cap xs q (some (4, (q : Int))) ev from ho.out.get 0 rfl).he
        obtain ⟨fb, rfl, _⟩ := id hE
        replace hE := Hidd.mk hE
        obtain ⟨ht, ht1, ht3, ht2, ht4⟩ := quo4 len0 q (by omega) hq2
        have htd : (len0 : Int) / 4 * 4 = q := by omega
        replace hq2 := Hidd.mk hq2
        have hs4 := errB_one 4 (q : Int)
        have hq4 := Hidd.mk (ok4 q (by omega))
        go_wp2_with (first
          | (go_at_call 28; refine (err_own 0 ho.out rfl).mono ?_; rintro e w3 ⟨rfl, rfl⟩)
          | (go_at_call 26; refine (at_own 0 ho.out rfl).mono ?_; rintro e w3 ⟨rfl, rfl⟩)
          | (go_at_call 27; refine (read_e (some (4, (q : Int))) _ _ hE.out hq4.out).mono ?_; rintro e w5 ⟨rfl, hb5⟩; rw [hs4]; replace ho := Hidd.mk (ho.out.ext hb5); clear hb5 hE)
          | (go_at_call 30; refine (at_any 4 q _ (by omega) (by omega) (by omega) (by omega)).mono ?_; rintro e w6 ⟨rfl, hb6⟩; replace ho := Hidd.mk (ho.out.ext hb6); clear hb6))
        go_loopw [9] (fun v9 wr => ∃ (j : Nat) (ev : Value), v9 = .int .i64 j ∧ j ≤ len1 ∧ j ≤ 50 ∧ Hidd (Own w (fun _ => False) wr [rdr b A len0 cap xs q (some (4, (q : Int))) ev])) (fun v9 _ => 50 - (intOf v9).toNat)
        case atStart => exact ⟨0, _, rfl, by omega, by omega, ho⟩
        case round =>
          clear ho
          obtain ⟨j, ev, rfl, hj, hj5, ho⟩ := hrel
          by_cases hlt : j < len1 ∧ j < 50
          · obtain ⟨h1, h2⟩ := hlt
            obtain ⟨e, he⟩ : ∃ e, es[j]? = some e := ⟨_, List.getElem?_eq_getElem (by rw [hel.out]; omega)⟩
            obtain ⟨⟨ad, rfl, x0, x1, _, _⟩, _⟩ := hes.out j e he
            obtain ⟨kd, sz, _, _, _, _, _⟩ := e
            simp only at x0 x1
            have hy1 := Hidd.mk x1
            have hwr := ho.out.below (fun _ => id)
            replace x0 := wkeep hwr x0
            replace x1 := wkeep hwr x1
            clear hwr he
            have bi0 : (0 : Int) ≤ (j : Int) := by omega
            have bi1 : (j : Int) < (len1 : Int) := by omega
            obtain ⟨ck, hck⟩ : ∃ c, (kd == 1) = c := ⟨_, rfl⟩
            have hte := Hidd.mk (take_err xs len0 q (4, (q : Int)) sz)
            have hxe := Hidd.mk (text_err xs len0 q (4, (q : Int)))
            have hee := Hidd.mk (end_err len0 q (4, (q : Int)))
            cases ck
            all_goals go_wp2_with (first
              | (go_at_call 21; refine (rtext_own 0 ho.out rfl (by omega) (by omega) hx.out _ _ _ hxe.out).mono ?_; rintro e w3 ⟨A3, c3, rfl, ev3, ho3⟩; replace ho := Hidd.mk ho3.tail; replace x1 := wkeep (ho.out.below fun _ => id) hy1.out; clear ho3 hxe)
              | (go_at_call 22; refine (take_own 0 ho.out rfl (by omega) (by omega) hx.out sz _ _ _ hte.out).mono ?_; rintro e w4 ⟨rfl, ev4, ho4⟩; replace ho := Hidd.mk ho4; clear ho4 hte; have hE := Hidd.mk (show IsE w4 (some (4, (q : Int))) ev4 from (show RdIn w4 b A len0 cap xs q (some (4, (q : Int))) ev4 from ho.out.get 0 rfl).he))
              | (go_at_call 28; refine (err_own 0 ho.out rfl).mono ?_; rintro e w3 ⟨rfl, rfl⟩)
              | (go_at_call 26; refine (at_own 0 ho.out rfl).mono ?_; rintro e w3 ⟨rfl, rfl⟩)
              | (go_at_call 23; refine (end_own 0 ho.out rfl _ hee.out).mono ?_; rintro e w8 ⟨v8, rfl, he8, ho8⟩; have hE := Hidd.mk he8; replace ho := Hidd.mk ho8; clear hee he8 ho8)
              | (go_at_call 27; refine (read_e (some (4, (q : Int))) _ _ hE.out hq4.out).mono ?_; rintro e w5 ⟨rfl, hb5⟩; rw [hs4]; replace ho := Hidd.mk (ho.out.ext hb5); clear hb5 hE))
            all_goals go_roundw
            all_goals first
              | (case rel => exact ⟨j + 1, _, by go_num, by omega, by omega, ho⟩)
              | (case measure => simp [intOf]; omega)
              | skip
          · by_cases hl1 : j < len1
            · obtain rfl : j = 50 := by omega
              go_wp2
              go_ret
              exact ⟨rfl, ho.out.below fun _ => id⟩
            · go_wp2
              go_ret
              exact ⟨rfl, ho.out.below fun _ => id⟩
end Go.Proofs.Ytmbbfcpoiecfhaa
