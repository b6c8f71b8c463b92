/- MemberSame walked. -/
import Derived.Test.YtjejkmnlkmcckaaMemH
import Derived.RowKit
namespace Go.Proofs.Ytjejkmnlkmcckaa
open Go.RowKit

def Stm (w : World) (A : Option Addr) (st : List (Nat × Nat)) : Prop :=
  ∀ (i : Nat) p, st[i]? = some p → ∃ a, A = some a ∧ w.cell? (a.add (i * 2)) = some (.int .u32 p.1) ∧ w.cell? ⟨(a.add (i * 2)).block, (a.add (i * 2)).off + 1, none⟩ = some (.int .u8 p.2)
theorem stm_of {w : World} {A : Option Addr} {len cap : Nat} {rows : List (List Value)} (h : Rows' w [.int .u32, .int .u8] A len cap rows) : ∃ st : List (Nat × Nat), st.length = len ∧ Stm w A st ∧ ∀ p ∈ st, p.1 < 4294967296 ∧ p.2 < 256 := by
  classical
  have hr : ∀ r ∈ rows, ∃ e : Nat × Nat, r = [.int .u32 e.1, .int .u8 e.2] ∧ e.1 < 4294967296 ∧ e.2 < 256 := fun r hr => by
    obtain ⟨x, r1, rfl, e1⟩ := arr_cons (h.each r hr)
    obtain ⟨y, r2, rfl, e2⟩ := arr_cons e1
    obtain rfl := List.length_eq_zero_iff.1 e2
    obtain ⟨x', rfl, hx⟩ := (h.fits _ hr 0 _ _ rfl rfl).int_inv
    obtain ⟨y', rfl, hy⟩ := (h.fits _ hr 1 _ _ rfl rfl).int_inv
    obtain ⟨a, rfl, ha⟩ := wf_u32 hx
    obtain ⟨b, rfl, hb⟩ := wf_u8 hy
    exact ⟨(a, b), rfl, ha, hb⟩
  refine ⟨rows.map fun r => if h : r ∈ rows then (hr r h).choose else (0, 0), by rw [List.length_map]; exact h.n, fun i e he => ?_, fun p hp => ?_⟩
  · rw [List.getElem?_map, Option.map_eq_some_iff] at he
    obtain ⟨r, hri, rfl⟩ := he
    have hm := List.mem_of_getElem? hri
    rw [dif_pos hm]
    have e := (hr r hm).choose_spec.1
    generalize (hr r hm).choose = x at e ⊢
    subst e
    obtain ⟨a, rfl, h0⟩ := h.cell i 0 _ _ hri rfl
    obtain ⟨a1, e1, h1⟩ := h.cell i 1 _ _ hri rfl
    injection e1 with e1
    subst e1
    rw [← add_add, addr_lit _ _ (by decide)] at h1
    exact ⟨a, rfl, h0, h1⟩
  · obtain ⟨r, hri, rfl⟩ := List.mem_map.1 hp
    rw [dif_pos hri]
    exact (hr r hri).choose_spec.2
theorem bkeep {w w1 : World} (h : Below w.heap.size w w1) {p : Addr} {v : Value} (hc : w.cell? p = some v) : w1.cell? p = some v := by
  have hlt : p.block < w.heap.size := by
    rcases Nat.lt_or_ge p.block w.heap.size with h | h
    · exact h
    · simp [World.cell?, Array.getElem?_eq_none h] at hc
  rw [h.cell hlt]; exact hc

set_option maxRecDepth 100000 in
set_option maxHeartbeats 4000000 in
theorem memberSame_walk (A0 : Option Addr) (len0 cap0 : Nat) (z0 : List (List Value)) (a1 : Int) (w : World) (hr : Rows' w [.int .u32, .int .u8] A0 len0 cap0 z0) (_ : (Lit.int .i64 a1).wf = true) :
    Calls Try.prog 7 #[.slice A0 len0 cap0, .int .i64 a1] w fun e w' => e = .returned (.bool true) ∧ Below w.heap.size w w' := by
  obtain ⟨st, hsl, hst, hsr⟩ := stm_of hr
  have hcap := hr.cap
  clear hr
  by_cases h1 : len0 < 1
  · obtain rfl : len0 = 0 := by omega
    go_enter Try.func7, Try.ntmps7
    go_wp2_with (go_at_call 20; refine (awake_any _).mono ?_; rintro e w1 ⟨rfl, hb1⟩)
    go_ret
    exact ⟨rfl, hb1⟩
  · obtain ⟨n, hn⟩ : ∃ n, min len0 7 = n := ⟨_, rfl⟩
    have hn1 : 0 < n := by omega
    have hn7 : n ≤ 7 := by omega
    have hnl : n ≤ len0 := by omega
    have hmin : (if (7 : Int) < (len0 : Int) then (7 : Int) else (len0 : Int)) = n := by
      rcases Nat.lt_or_ge 7 len0 with h | h
      · rw [if_pos (by omega)]; omega
      · rw [if_neg (by omega)]; omega
    have hn0 : ((n : Int) == 0) = false := by rw [beq_eq_false_iff_ne]; omega
    have hd1 : decide ((n : Int) < 1) = false := by rw [decide_eq_false_iff_not]; omega
    have hwn : IntKind.u64.wrap (n : Int) = n := by rw [IntKind.wrap_u64]; exact Int.emod_eq_of_lt (by omega) (by omega)
    have hu0 : 0 ≤ IntKind.u64.wrap a1 := by rw [IntKind.wrap]; simp only [IntKind.signed, IntKind.bits]; exact Int.emod_nonneg _ (by decide)
    obtain ⟨f, hf, hfn⟩ : ∃ f : Nat, (IntKind.u64.wrap a1).tmod (n : Int) = f ∧ f < n := by
      rw [Int.tmod_eq_emod_of_nonneg hu0]
      have g1 := Int.emod_nonneg (IntKind.u64.wrap a1) (show (n : Int) ≠ 0 by omega)
      have g2 := Int.emod_lt_of_pos (IntKind.u64.wrap a1) (show (0 : Int) < n by omega)
      exact ⟨(IntKind.u64.wrap a1 % (n : Int)).toNat, by omega, by omega⟩
    have hwf : wrap64 (f : Int) = f := by unfold wrap64; omega
    obtain ⟨rr, mm, M, ok, p1, p2, p3, p4, p5, p6, p7, p8, p9, p10⟩ := same_plain st hsr hfn hn7
    clear hu0 h1 hn
    replace hsr := Hidd.mk hsr
    replace p1 := Hidd.mk p1
    replace p2 := Hidd.mk p2
    replace p5 := Hidd.mk p5
    replace p6 := Hidd.mk p6
    replace p8 := Hidd.mk p8
    replace p9 := Hidd.mk p9
    replace hst := Hidd.mk hst
    replace hsl := Hidd.mk hsl
    go_enter Try.func7, Try.ntmps7
    go_wp2_with (first
      | (go_at_call 20; refine (awake_any _).mono ?_; rintro e w1 ⟨rfl, hb1⟩; have ho1 := Hidd.mk ((Own.nil w (fun _ => False)).ext hb1); clear hb1)
      | (go_at_call 21; refine (listen_own 0 0 false _).mono ?_; rintro e w2 ⟨ba, rfl, hn2⟩; have ho2 := Hidd.mk (ho1.out.made hn2); clear hn2 ho1)
      | (go_at_call 21; refine (listen_own 0 0 false _).mono ?_; rintro e w3 ⟨bb, rfl, hn3⟩; have ho3 := Hidd.mk (ho2.out.made hn3); clear hn3 ho2))
    clear hmin hf
    go_loopw [8] (fun v8 wr => ∃ (i : Nat) (A : Option Addr) (capA : Nat) (B : Option Addr) (capB : Nat), v8 = .int .i64 i ∧ i ≤ n ∧ Hidd (Own w (fun _ => False) wr [hres bb 0 0 false B (seen st (fun j => (j + f) % n) i).length capB (seen st (fun j => (j + f) % n) i), hres ba 0 0 false A (seen st (fun j => j) i).length capA (seen st (fun j => j) i)])) (fun v8 _ => n - (intOf v8).toNat)
    case atStart => exact ⟨0, none, 0, none, 0, rfl, Nat.zero_le _, ho3⟩
    case round =>
      clear ho3
      obtain ⟨i, A, capA, B, capB, rfl, hi, ho⟩ := hrel
      by_cases hlt : i < n
      · obtain ⟨k, hk⟩ : ∃ k, (i + f) % n = k := ⟨_, rfl⟩
        have hkn : k < n := by rw [← hk]; exact Nat.mod_lt _ hn1
        have hkt : ((i : Int) + (f : Int)).tmod (n : Int) = k := by rw [Int.tmod_eq_emod_of_nonneg (by omega), ← hk, Int.natCast_emod, Int.natCast_add]
        obtain ⟨⟨r0, m0⟩, hx0⟩ : ∃ x, st[i]? = some x := ⟨_, List.getElem?_eq_getElem (by rw [hsl.out]; omega)⟩
        obtain ⟨⟨r1, m1⟩, hx1⟩ : ∃ x, st[k]? = some x := ⟨_, List.getElem?_eq_getElem (by rw [hsl.out]; omega)⟩
        have hwr := ho.out.below (fun _ => id)
        obtain ⟨ad, rfl, x0, x1⟩ := hst.out i _ hx0
        obtain ⟨ad', e1, y0, y1⟩ := hst.out k _ hx1
        injection e1 with e1
        subst e1
        replace x0 := bkeep hwr x0
        replace x1 := bkeep hwr x1
        have hy0 := Hidd.mk y0
        have hy1 := Hidd.mk y1
        simp only at x0 x1
        clear y0 y1 hwr
        have ha := seen_hear (st := st) (g := fun j => j) (i := i) (by omega) (fun j hj => by omega)
        have hb := seen_hear (st := st) (g := fun j => (j + f) % n) (i := i) (by have := Nat.mod_lt (i + f) hn1; omega) (fun j hj e => by have := rot_inj (by omega) hlt e; omega)
        have hfa : frS st i = ⟨i, r0, m0, none, 0, 0, 0, 0, 0, 0, none, 0, 0⟩ := by unfold frS; rw [List.getD_eq_getElem?_getD, hx0]; rfl
        have hfb : frS st k = ⟨k, r1, m1, none, 0, 0, 0, 0, 0, 0, none, 0, 0⟩ := by unfold frS; rw [List.getD_eq_getElem?_getD, hx1]; rfl
        simp only [hk] at hb
        rw [hfa] at ha
        rw [hfb] at hb
        replace ha := Hidd.mk ha
        replace hb := Hidd.mk hb
        have g0 := Hidd.mk (hsr.out _ (List.mem_of_getElem? hx0))
        have g1 := Hidd.mk (hsr.out _ (List.mem_of_getElem? hx1))
        clear hfa hfb hx0 hx1
        replace hk := Hidd.mk hk
        have bi0 : (0 : Int) ≤ (i : Int) := by omega
        have bi1 : (i : Int) < (len0 : Int) := by omega
        have bk0 : (0 : Int) ≤ (k : Int) := by omega
        have bk1 : (k : Int) < (len0 : Int) := by omega
        have c0 : (i : Int) % 256 = i := by omega
        have c1 : (k : Int) % 256 = k := by omega
        go_wp2_with (first
          | (go_at_call 22; refine (hear_own 1 ho.out rfl i ⟨i, r0, m0, none, 0, 0, 0, 0, 0, 0, none, 0, 0⟩ ⟨by show i < 256; omega, g0.out.1, g0.out.2⟩ (by rw [seen_len]; omega) true ha.out.1 _ ha.out.2).mono ?_; rintro e w5 ⟨rfl, A', capA', ho5⟩; replace ho5 := Hidd.mk ho5; clear ho; have y0 := bkeep (ho5.out.below fun _ => id) hy0.out; have y1 := bkeep (ho5.out.below fun _ => id) hy1.out; simp only at y0 y1)
          | (go_at_call 22; refine (hear_own 0 ho5.out rfl k ⟨k, r1, m1, none, 0, 0, 0, 0, 0, 0, none, 0, 0⟩ ⟨by show k < 256; omega, g1.out.1, g1.out.2⟩ (by rw [seen_len]; omega) true hb.out.1 _ hb.out.2).mono ?_; rintro e w6 ⟨rfl, B', capB', ho6⟩; replace ho6 := Hidd.mk ho6; clear ho5))
        go_roundw
        case rel => exact ⟨i + 1, A', capA', B', capB', by go_num, by omega, ho6⟩
        case measure => simp [intOf]; omega
      · obtain rfl : i = n := by omega
        have hp9 : ok = false → M = 0 := p9.out
        have hp8 : ok = true → decide (2 * (lenN M : Int) ≤ (i : Int)) = false := fun h => by rw [decide_eq_false_iff_not]; have := p8.out h; omega
        obtain ⟨nm, hnm⟩ : ∃ nm, lenN M = nm := ⟨_, rfl⟩
        have hnm8 : nm ≤ 8 := by omega
        rw [hnm] at hp8
        replace hnm := Hidd.mk hnm
        clear p10
        replace p5 : Hidd (∀ b : Bool, ok = b → (if b = true then membersN (seen st (fun j => j) i) rr mm else 0) = M) := ⟨fun b h => by rw [← h]; exact p5.out⟩
        replace p6 : Hidd (∀ b : Bool, ok = b → (if b = true then membersN (seen st (fun j => (j + f) % i) i) rr mm else 0) = M) := ⟨fun b h => by rw [← h]; exact p6.out⟩
        cases ok
        · obtain rfl := hp9 rfl
          clear hp8 hp9
          go_wp2_with (first
            | (go_at_call 23; refine (right_at 1 ho.out rfl (by rw [seen_len]; omega) rr mm false p1.out).mono ?_; rintro e w7 ⟨rfl, ho7⟩; replace ho7 := Hidd.mk (ho7.alloc (.cells #[.int .u32 rr, .int .u8 mm] 50)); clear ho)
            | (go_at_call 23; refine (right_at 1 ho7.out rfl (by rw [seen_len]; omega) rr mm false p2.out).mono ?_; rintro e w8 ⟨rfl, ho8⟩; have x0 := ho8.cell 0 rfl 0; have x1 := ho8.cell 0 rfl 1; have hlx := ho8.lt 0 rfl; simp at x0 x1; replace ho8 := Hidd.mk (ho8.alloc (.cells #[.int .u32 rr, .int .u8 mm] 50)); clear ho7)
            | (go_at_call 24; with_reducible refine (members_at 3 ho8.out rfl (by rw [seen_len]; omega) rr mm false p1.out 0 (p5.out _ rfl)).mono ?_; rintro e w9 ⟨rfl, ho9⟩; replace ho9 := Hidd.mk ho9; clear ho8)
            | (go_at_call 24; with_reducible refine (members_at 2 ho9.out rfl (by rw [seen_len]; omega) rr mm false p2.out 0 (p6.out _ rfl)).mono ?_; rintro e w10 ⟨rfl, ho10⟩; replace ho10 := Hidd.mk ho10; clear ho9)
            | (go_at_call 24; with_reducible refine (members_at 3 ho10.out rfl (by rw [seen_len]; omega) rr mm false p1.out 0 (p5.out _ rfl)).mono ?_; rintro e w11 ⟨rfl, ho11⟩; have z0 := ho11.cell 1 rfl 0; have z1 := ho11.cell 1 rfl 1; simp at z0 z1; replace ho11 := Hidd.mk ho11; clear ho10)
            | (go_at_call 25; refine (len_any 0 (by omega) _).mono ?_; rintro e w1 ⟨rfl, rfl⟩; rw [hnm.out])
            | (go_at_call 21; refine (listen_own rr mm true _).mono ?_; rintro e w12 ⟨bc, rfl, hn12⟩; have ho12 := Hidd.mk (ho11.out.made hn12); clear hn12 ho11))
          clear x0 x1 z0 z1 hlx
          go_loopw [15] (fun v15 wr => ∃ (j : Nat) (C : Option Addr) (capC : Nat) (p q : Nat) (u v : Obj) (A' : Option Addr) (cA : Nat) (B' : Option Addr) (cB : Nat), v15 = .int .i64 j ∧ j ≤ i ∧ Hidd (Own w (fun _ => False) wr [hres bc rr mm true C (seen st (fun j => j) j).length capC (seen st (fun j => j) j), blk p u, blk q v, hres bb 0 0 false B' (seen st (fun j => (j + f) % i) i).length cB (seen st (fun j => (j + f) % i) i), hres ba 0 0 false A' (seen st (fun j => j) i).length cA (seen st (fun j => j) i)])) (fun v15 _ => i - (intOf v15).toNat)
          case atStart => exact ⟨0, none, 0, _, _, _, _, _, _, _, _, rfl, Nat.zero_le _, ho12⟩
          case round =>
            clear ho12
            obtain ⟨j, C, capC, p, q, u, v, A', cA, B', cB, rfl, hj, ho⟩ := hrel
            by_cases hji : j < i
            · obtain ⟨⟨r0, m0⟩, hx0⟩ : ∃ x, st[j]? = some x := ⟨_, List.getElem?_eq_getElem (by rw [hsl.out]; omega)⟩
              have g0 := Hidd.mk (hsr.out _ (List.mem_of_getElem? hx0))
              obtain ⟨ad, rfl, x0, x1⟩ := hst.out j _ hx0
              replace x0 := bkeep (ho.out.below (fun _ => id)) x0
              replace x1 := bkeep (ho.out.below (fun _ => id)) x1
              simp only at x0 x1
              have ha := seen_hear (st := st) (g := fun j => j) (i := j) (by omega) (fun j hj => by omega)
              have hfa : frS st j = ⟨j, r0, m0, none, 0, 0, 0, 0, 0, 0, none, 0, 0⟩ := by unfold frS; rw [List.getD_eq_getElem?_getD, hx0]; rfl
              rw [hfa] at ha
              replace ha := Hidd.mk ha
              clear hfa hx0
              have bi0 : (0 : Int) ≤ (j : Int) := by omega
              have bi1 : (j : Int) < (len0 : Int) := by omega
              have c0 : (j : Int) % 256 = j := by omega
              go_wp2_with (go_at_call 22; refine (hear_own 0 ho.out rfl j ⟨j, r0, m0, none, 0, 0, 0, 0, 0, 0, none, 0, 0⟩ ⟨by show j < 256; omega, g0.out.1, g0.out.2⟩ (by rw [seen_len]; omega) true ha.out.1 _ ha.out.2).mono ?_; rintro e w5 ⟨rfl, C', capC', ho5⟩; replace ho5 := Hidd.mk ho5; clear ho)
              go_roundw
              case rel => exact ⟨j + 1, C', capC', p, q, u, v, A', cA, B', cB, by go_num, by omega, ho5⟩
              case measure => simp [intOf]; omega
            · obtain rfl : j = i := by omega
              go_wp2
              go_ret
              exact ⟨rfl, ho.out.below fun _ => id⟩
        · replace hp8 := hp8 rfl
          clear hp9
          go_wp2_with (first
            | (go_at_call 23; refine (right_at 1 ho.out rfl (by rw [seen_len]; omega) rr mm true p1.out).mono ?_; rintro e w7 ⟨rfl, ho7⟩; replace ho7 := Hidd.mk (ho7.alloc (.cells #[.int .u32 rr, .int .u8 mm] 50)); clear ho)
            | (go_at_call 23; refine (right_at 1 ho7.out rfl (by rw [seen_len]; omega) rr mm true p2.out).mono ?_; rintro e w8 ⟨rfl, ho8⟩; have x0 := ho8.cell 0 rfl 0; have x1 := ho8.cell 0 rfl 1; have hlx := ho8.lt 0 rfl; simp at x0 x1; replace ho8 := Hidd.mk (ho8.alloc (.cells #[.int .u32 rr, .int .u8 mm] 50)); clear ho7)
            | (go_at_call 24; with_reducible refine (members_at 3 ho8.out rfl (by rw [seen_len]; omega) rr mm true p1.out M (p5.out _ rfl)).mono ?_; rintro e w9 ⟨rfl, ho9⟩; replace ho9 := Hidd.mk ho9; clear ho8)
            | (go_at_call 24; with_reducible refine (members_at 2 ho9.out rfl (by rw [seen_len]; omega) rr mm true p2.out M (p6.out _ rfl)).mono ?_; rintro e w10 ⟨rfl, ho10⟩; replace ho10 := Hidd.mk ho10; clear ho9)
            | (go_at_call 24; with_reducible refine (members_at 3 ho10.out rfl (by rw [seen_len]; omega) rr mm true p1.out M (p5.out _ rfl)).mono ?_; rintro e w11 ⟨rfl, ho11⟩; have z0 := ho11.cell 1 rfl 0; have z1 := ho11.cell 1 rfl 1; simp at z0 z1; replace ho11 := Hidd.mk ho11; clear ho10)
            | (go_at_call 25; refine (len_any M (by omega) _).mono ?_; rintro e w1 ⟨rfl, rfl⟩; rw [hnm.out])
            | (go_at_call 21; refine (listen_own rr mm true _).mono ?_; rintro e w12 ⟨bc, rfl, hn12⟩; have ho12 := Hidd.mk (ho11.out.made hn12); clear hn12 ho11))
          clear x0 x1 z0 z1 hlx
          go_loopw [15] (fun v15 wr => ∃ (j : Nat) (C : Option Addr) (capC : Nat) (p q : Nat) (u v : Obj) (A' : Option Addr) (cA : Nat) (B' : Option Addr) (cB : Nat), v15 = .int .i64 j ∧ j ≤ i ∧ Hidd (Own w (fun _ => False) wr [hres bc rr mm true C (seen st (fun j => j) j).length capC (seen st (fun j => j) j), blk p u, blk q v, hres bb 0 0 false B' (seen st (fun j => (j + f) % i) i).length cB (seen st (fun j => (j + f) % i) i), hres ba 0 0 false A' (seen st (fun j => j) i).length cA (seen st (fun j => j) i)])) (fun v15 _ => i - (intOf v15).toNat)
          case atStart => exact ⟨0, none, 0, _, _, _, _, _, _, _, _, rfl, Nat.zero_le _, ho12⟩
          case round =>
            clear ho12
            obtain ⟨j, C, capC, p, q, u, v, A', cA, B', cB, rfl, hj, ho⟩ := hrel
            by_cases hji : j < i
            · obtain ⟨⟨r0, m0⟩, hx0⟩ : ∃ x, st[j]? = some x := ⟨_, List.getElem?_eq_getElem (by rw [hsl.out]; omega)⟩
              have g0 := Hidd.mk (hsr.out _ (List.mem_of_getElem? hx0))
              obtain ⟨ad, rfl, x0, x1⟩ := hst.out j _ hx0
              replace x0 := bkeep (ho.out.below (fun _ => id)) x0
              replace x1 := bkeep (ho.out.below (fun _ => id)) x1
              simp only at x0 x1
              have ha := seen_hear (st := st) (g := fun j => j) (i := j) (by omega) (fun j hj => by omega)
              have hfa : frS st j = ⟨j, r0, m0, none, 0, 0, 0, 0, 0, 0, none, 0, 0⟩ := by unfold frS; rw [List.getD_eq_getElem?_getD, hx0]; rfl
              rw [hfa] at ha
              replace ha := Hidd.mk ha
              clear hfa hx0
              have bi0 : (0 : Int) ≤ (j : Int) := by omega
              have bi1 : (j : Int) < (len0 : Int) := by omega
              have c0 : (j : Int) % 256 = j := by omega
              go_wp2_with (go_at_call 22; refine (hear_own 0 ho.out rfl j ⟨j, r0, m0, none, 0, 0, 0, 0, 0, 0, none, 0, 0⟩ ⟨by show j < 256; omega, g0.out.1, g0.out.2⟩ (by rw [seen_len]; omega) true ha.out.1 _ ha.out.2).mono ?_; rintro e w5 ⟨rfl, C', capC', ho5⟩; replace ho5 := Hidd.mk ho5; clear ho)
              go_roundw
              case rel => exact ⟨j + 1, C', capC', p, q, u, v, A', cA, B', cB, by go_num, by omega, ho5⟩
              case measure => simp [intOf]; omega
            · obtain rfl : j = i := by omega
              have pr : Hidd (rightN rr mm true (seen st (fun j => j) j) = ((rr, mm), true)) := ⟨by unfold rightN; rw [if_pos rfl]⟩
              go_wp2_with (first
                | (go_at_call 24; with_reducible refine (members_at 0 ho.out rfl (by rw [seen_len]; omega) rr mm true pr.out M (p5.out _ rfl)).mono ?_; rintro e w9 ⟨rfl, ho9⟩; replace ho9 := Hidd.mk ho9; clear ho)
                | (go_at_call 24; with_reducible refine (members_at 4 ho9.out rfl (by rw [seen_len]; omega) rr mm true p1.out M (p5.out _ rfl)).mono ?_; rintro e w10 ⟨rfl, ho10⟩; replace ho10 := Hidd.mk ho10; clear ho9))
              go_ret
              exact ⟨rfl, ho10.out.below fun _ => id⟩
end Go.Proofs.Ytjejkmnlkmcckaa
