/- New flash, Arm, step; other, Left, read, Image. -/
import Derived.Test.YtjbhcmkloamcmaaBkA
import Derived.Deep.LoopGhost
import Derived.Deep.DeepCutAuto
namespace Go.Proofs.Ytjbhcmkloamcmaa
open Go.RowKit

set_option maxRecDepth 100000
set_option maxHeartbeats 4000000
theorem newFlash_own (w : World) : Calls Try.prog 12 #[] w fun e w' => ∃ f M, e = .returned (.pointer (some ⟨f, 0, none⟩)) ∧ Own w (fun _ => False) w' [Res.pack (flashL f M ⟨[], [], [], -1⟩)] := by
  have ho := Hidd.mk ((Own.nil w (fun _ => False)).alloc (.cells #[.slice none 0 0, .slice none 0 0, .slice none 0 0, .int .i64 (-1)] 71 (0, 0)))
  go_enter Try.func12, Try.ntmps12
  go_wp2
  go_ret
  have h1 := pgs_nil (pgs_nil (pgs_nil (row_nil (row_nil (row_nil ho.out 22 1) 22 1) 22 1)))
  exact ⟨_, ⟨none, 0, 0, [], none, 0, 0, [], none, 0, 0, []⟩, rfl, Own.fresh (h1.reorder (M := flashL _ ⟨none, 0, 0, [], none, 0, 0, [], none, 0, 0, []⟩ ⟨[], [], [], -1⟩) [6, 5, 4, 3, 2, 1, 0] rfl (by decide))⟩
theorem arm_nil (n : Int) (w : World) : Calls Try.prog 18 #[.pointer none, .int .i64 n] w fun e w' => e = .returned (.tuple #[]) ∧ w = w' := by
  go_enter Try.func18, Try.ntmps18
  go_wp2
  exact bodyPost_end (v := .tuple #[]) (by simp [results, Try.results18, go_sem]) rfl ⟨rfl, rfl⟩
def armS (n : Int) (s : Fs) : Fs := { s with left := if n < -1 then -1 else n }
theorem arm_own {w w0 : World} {S : Nat → Prop} {L : List Res} {f : Nat} {M : FA} {s : Fs} (k : Nat) (hO : Own w0 S w L) (hk : L[k]? = some (Res.pack (flashL f M s))) (n : Int) :
    Calls Try.prog 18 #[.pointer (some ⟨f, 0, none⟩), .int .i64 n] w fun e w' => e = .returned (.tuple #[]) ∧ Own w0 S w' (L.set k (Res.pack (flashL f M (armS n s)))) := by
  have ho := hO.open_ k hk
  obtain ⟨x0, x1, x2, x3⟩ := flash_cells ho 0 rfl
  have f3 := ho.frozen 0 rfl 3
  have h1 := ho.set 0 rfl 3 (.int .i64 (if n < -1 then -1 else n))
  have hend : Hidd (Own w0 S (w.setCell ⟨f, 3, none⟩ (.int .i64 (if n < -1 then -1 else n))) (L.set k (Res.pack (flashL f M (armS n s))))) := ⟨hO.shut k hk h1⟩
  clear ho h1 hO hk
  by_cases hn : n < -1
  · rw [if_pos hn] at hend
    have d1 : decide (n < -1) = true := decide_eq_true hn
    have d2 : max n (-1) = -1 := by omega
    have d3 : decide (-1 < n) = false := decide_eq_false (by omega)
    go_enter Try.func18, Try.ntmps18
    go_wp2
    exact bodyPost_end (v := .tuple #[]) (by simp [results, Try.results18, go_sem]) rfl ⟨rfl, hend.out⟩
  · rw [if_neg hn] at hend
    have d1 : decide (n < -1) = false := decide_eq_false hn
    have d2 : max n (-1) = n := by omega
    go_enter Try.func18, Try.ntmps18
    go_wp2
    exact bodyPost_end (v := .tuple #[]) (by simp [results, Try.results18, go_sem]) rfl ⟨rfl, hend.out⟩
theorem step_own {w w0 : World} {S : Nat → Prop} {L : List Res} {f : Nat} {M : FA} {s : Fs} (k : Nat) (hO : Own w0 S w L) (hk : L[k]? = some (Res.pack (flashL f M s))) (hl : -1 ≤ s.left ∧ s.left ≤ 1000000) :
    Calls Try.prog 33 #[.pointer (some ⟨f, 0, none⟩)] w fun e w' => ∃ v, e = .returned (.tuple #[.bool (s.left == 0), v]) ∧ Own w0 S w' (eres (stepE s) v :: L.set k (Res.pack (flashL f M (stepS s)))) := by
  have ho := hO.open_ k hk
  obtain ⟨x0, x1, x2, x3⟩ := flash_cells ho 0 rfl
  have f3 := ho.frozen 0 rfl 3
  have h1 := ho.set 0 rfl 3 (.int .i64 (s.left - 1))
  have hend : 0 < s.left → Own w0 S (w.setCell ⟨f, 3, none⟩ (.int .i64 (s.left - 1))) (L.set k (Res.pack (flashL f M (stepS s)))) := fun h => by
    have e : stepS s = { s with left := s.left - 1 } := by unfold stepS; rw [if_neg (by omega)]
    rw [e]
    exact hO.shut k hk h1
  have hsame : s.left ≤ 0 → Own w0 S w (L.set k (Res.pack (flashL f M (stepS s)))) := fun h => by
    have e : stepS s = s := by unfold stepS; rw [if_pos h]
    rw [e]
    have : L.set k (Res.pack (flashL f M s)) = L := set_self hk
    rw [this]
    exact hO
  replace hend := Hidd.mk hend
  replace hsame := Hidd.mk hsame
  have hno : ∀ W : World, (eres none .nilIface).holds W := fun W => rfl
  clear ho h1 hO hk
  by_cases h0 : s.left = 0
  · rw [h0] at x3
    rw [stepE, if_pos h0, h0]
    have hs := Hidd.mk (hsame.out (by omega))
    clear hsame hend
    go_enter Try.func33, Try.ntmps33
    go_wp2_with (go_at_call 32; refine (fault_any 16 (-1) _ (by decide)).mono ?_; rintro e w1 ⟨v, rfl, hv⟩; replace hv := Hidd.mk hv)
    go_ret2
    exact ⟨v, rfl, hs.out.made hv.out⟩
  · rw [stepE, if_neg h0]
    have e0 : (s.left == 0) = false := by rw [beq_eq_false_iff_ne]; exact h0
    rw [e0]
    by_cases hm : s.left = -1
    · rw [hm] at x3
      have hs := Hidd.mk (hsame.out (by omega))
      clear hsame hend
      go_enter Try.func33, Try.ntmps33
      go_wp2
      go_ret2
      exact ⟨.nilIface, rfl, hs.out.new _ (Below.refl _ _) rfl fun i hi => by cases hi⟩
    · have em : (s.left == -1) = false := by rw [beq_eq_false_iff_ne]; exact hm
      have hs := Hidd.mk (hend.out (by omega))
      clear hsame hend
      generalize s.left = l at *
      have hw : IntKind.i64.wrap (l - 1) = l - 1 := IntWalk.i64_in _ (by omega)
      go_enter Try.func33, Try.ntmps33
      go_wp2
      go_ret2
      exact ⟨.nilIface, rfl, hs.out.new _ (Below.refl _ _) rfl fun i hi => by cases hi⟩
theorem other_raw (p : Nat) (a : Int) (w : World) (o : Nat) (h1 : w.cell? ⟨p, 1, none⟩ = some (.int .i64 a)) (ho : (if a = 0 then 1 else 0) = o) :
    Calls Try.prog 34 #[.pointer (some ⟨p, 0, none⟩)] w fun e w' => e = .returned (.int .i64 o) ∧ w = w' := by
  by_cases h : a = 0
  · subst h
    rw [if_pos rfl] at ho
    subst ho
    go_enter Try.func34, Try.ntmps34
    go_wp2
    go_ret
    exact ⟨rfl, rfl⟩
  · rw [if_neg h] at ho
    subst ho
    have e0 : (a == 0) = false := by rw [beq_eq_false_iff_ne]; exact h
    go_enter Try.func34, Try.ntmps34
    go_wp2
    go_ret
    exact ⟨rfl, rfl⟩
theorem left_nil (w : World) : Calls Try.prog 21 #[.pointer none] w fun e w' => e = .returned (.int .i64 0) ∧ w = w' := by
  go_enter Try.func21, Try.ntmps21
  go_wp2
  go_ret
  exact ⟨rfl, rfl⟩
theorem left_own {w w0 : World} {S : Nat → Prop} {L : List Res} {p f : Nat} {M : FA} {t : St} {s : Fs} (k : Nat) (hO : Own w0 S w L) (hk : L[k]? = some (bankR p f M t s)) (ht : t.sum.length = 32) :
    Calls Try.prog 21 #[.pointer (some ⟨p, 0, none⟩)] w fun e w' => e = .returned (.int .i64 (if t.opn = true then t.left else 0)) ∧ w = w' := by
  have ho := (Own.one (hO.get k hk)).with_out
  obtain ⟨x0, x1, x2, x3, x4, x5⟩ := storeR_cells ho 0 rfl ht
  clear ho hO hk
  obtain ⟨b, hb⟩ : ∃ b, b = t.opn := ⟨_, rfl⟩
  rw [← hb] at x3 ⊢
  clear hb
  cases b with
  | true =>
    go_enter Try.func21, Try.ntmps21
    go_wp2
    go_ret
    exact ⟨rfl, rfl⟩
  | false =>
    go_enter Try.func21, Try.ntmps21
    go_wp2
    go_ret
    exact ⟨rfl, rfl⟩
theorem vkeepB {w w1 : World} (h : Below w.heap.size w w1) {p : Addr} {v : Value} (hc : w.cell? p = some v) : w1.cell? p = some v := by
  rw [h.cell (World.block_lt_of_cell? w _ hc)]; exact hc
theorem PgAt.below {w w' : World} {v : Value} {xs : List Int} (h : PgAt w v xs) (hB : Below w.heap.size w w') : PgAt w' v xs := by
  obtain ⟨A, n, c, h1, h2, h3, h4, h5⟩ := h
  exact ⟨A, n, c, h1, h2, h3, h4, h5.below hB⟩
theorem openP_len (p : List Int) : (openP p).length ≤ p.length := by unfold openP; split <;> simp
theorem pages_len {xss : List (List Int)} (hb : ∀ p ∈ xss, Bytes p ∧ p.length ≤ 100) : ∀ i, ((xss.take i).flatMap openP).length ≤ 100 * i := by
  induction xss with
  | nil => simp
  | cons p xss ih =>
    intro i
    rcases i with _ | i
    · simp
    · rw [List.take_succ_cons, List.flatMap_cons, List.length_append]
      have h1 := ih (fun q hq => hb q (List.mem_cons_of_mem _ hq)) i
      have h2 := openP_len p
      have h3 := (hb p List.mem_cons_self).2
      omega
theorem pages_succ {xss : List (List Int)} {i : Nat} {p : List Int} (h : xss[i]? = some p) : (xss.take (i + 1)).flatMap openP = (xss.take i).flatMap openP ++ openP p := by
  rw [List.take_add_one, h]
  simp
theorem row_short {w w0 : World} {S : Nat → Prop} {L : List Res} {e : TypeId} {size n c : Nat} {A : Option Addr} {xs : List Value} (h : Own w0 S w L) (k : Nat) (hk : L[k]? = some (row e size (.slice A n c) n xs)) (b : Nat) (hb : b ≤ n) :
    Own w0 S w (L.set k (row e size (.slice A b c) b (xs.take (b * size)))) := by
  refine h.step k hk _ (Kept.refl _ _) ?_ fun i hi => .inl (by
    have hi' : (Value.slice A b c).ownBlock = some i := hi
    show (Value.slice A n c).ownBlock = some i
    cases A <;> simp_all [Value.ownBlock])
  obtain ⟨h1, h2⟩ := show w.ownsRow 0 e size (.slice A n c) n xs from h.get k hk
  have hm : b * size ≤ n * size := Nat.mul_le_mul_right _ hb
  refine ⟨by rw [List.length_take, h1]; exact Nat.min_eq_left hm, ?_⟩
  rcases h2 with ⟨h2, h3⟩ | ⟨g', cap, cur, e2, h3, h4, h5, h6, h7, h8⟩
  · injection h2 with e1 _ e3
    subst e1 e3
    obtain rfl : b = 0 := by omega
    exact .inl ⟨rfl, rfl⟩
  · injection e2 with e1 _ e3
    subst e1 e3
    refine .inr ⟨g', c, cur, rfl, h3, h4, by omega, h6, h7, ?_⟩
    rw [← h8, List.take_take, Nat.min_eq_left hm]
theorem read_raw (p f o : Nat) (A : Option Addr) (n c : Nat) (vs : List Value) (xss : List (List Int)) (sz : Nat) (w : World) (h0 : w.cell? ⟨p, 0, none⟩ = some (.pointer (some ⟨f, 0, none⟩))) (h1 : w.cell? ⟨f, o, none⟩ = some (.slice A n c)) (ho : o < 2)
    (hc : Cells w A vs) (hv : vs.length = n) (hp : (pgs vs xss).holds w) (hb : ∀ p ∈ xss, Bytes p ∧ p.length ≤ 100) (hn : n ≤ 10000) (hsz : sz ≤ 100000) (m : Nat) (hm : (readB xss sz).length = m) :
    Calls Try.prog 38 #[.pointer (some ⟨p, 0, none⟩), .int .i64 o, .int .i64 sz] w fun e w' => ∃ A' c', e = .returned (.slice A' m c') ∧ Own w (fun _ => False) w' [row 5 1 (.slice A' m c') m (nums .u8 (readB xss sz))] := by
  have hxl : Hidd (xss.length = n) := ⟨by rw [← hp.1]; exact hv⟩
  have hpl := Hidd.mk (pages_len hb)
  have o0 : (0 : Int) ≤ (o : Int) := by omega
  have o1 : (o : Int) < 2 := by omega
  replace hc := Hidd.mk hc
  replace hv := Hidd.mk hv
  replace hp := Hidd.mk hp
  replace hb := Hidd.mk hb
  replace hm := Hidd.mk hm
  have hlt0 : p < w.heap.size := World.block_lt_of_cell? w _ h0
  have hlt1 : f < w.heap.size := World.block_lt_of_cell? w _ h1
  clear ho
  go_enter Try.func38, Try.ntmps38
  go_upto_region 3 with fail
  have ho0 := row_lit (Own.nil w (fun _ => False)) 5 1 0 #[] [] rfl rfl (by decide)
  generalize World.alloc w _ = wa at ho0 ⊢
  replace ho0 := Hidd.mk ho0
  go_loopg [7, 23] n (fun g v7 v23 wx => ∃ (i k c7 : Nat) (A7 : Option Addr), i + g = n ∧ v7 = .slice A7 k c7 ∧ v23 = .int .i64 i ∧ Hidd (((xss.take i).flatMap openP).length = k) ∧ Hidd (Own w (fun _ => False) wx [row 5 1 (.slice A7 k c7) k (nums .u8 ((xss.take i).flatMap openP))]))
  case atStart => exact ⟨0, 0, 0, _, by omega, rfl, rfl, ⟨by simp⟩, ho0⟩
  case round =>
    clear ho0 h0 h1 o0 o1 hlt0 hlt1
    obtain ⟨i, k, c7, A7, hg, rfl, rfl, hk, hO⟩ := hrel
    cases gk with
    | succ g =>
      have hi : i < n := by omega
      have di : decide (i < n) = true := decide_eq_true hi
      have bi0 : (0 : Int) ≤ (i : Int) := by omega
      have bi1 : (i : Int) < (n : Int) := by omega
      have hgi : i + 1 + g = n := by omega
      have hk1 : Hidd (k ≤ 1000000) := ⟨by have := hpl.out i; have := hk.out; omega⟩
      obtain ⟨v, hvi⟩ : ∃ v, vs[i]? = some v := ⟨_, List.getElem?_eq_getElem (by rw [hv.out]; exact hi)⟩
      obtain ⟨xs, hxs, Ap, np, cp, rfl, hnp, hcp, hcm, hCp⟩ := pgs_get hp.out hvi
      obtain ⟨hxb, hx100⟩ := hb.out xs (List.mem_of_getElem? hxs)
      have hsucc := Hidd.mk (pages_succ hxs)
      obtain ⟨a, rfl, y0⟩ := hc.out.below (hO.out.below fun _ => id) i _ hvi
      have hCp2 := Hidd.mk (hCp.below (hO.out.below fun _ => id))
      clear hg hi hvi hxs hCp
      cases hf : fits xs with
      | true =>
        have h4 : 4 ≤ xs.length := by
          unfold fits at hf
          rw [Bool.and_eq_true] at hf
          exact of_decide_eq_true hf.1
        obtain ⟨q, rfl⟩ : ∃ q, np = q + 4 := ⟨np - 4, by omega⟩
        have hop : Hidd (openP xs = xs.take q) := ⟨by unfold openP; rw [if_pos hf, hnp]; rfl⟩
        have hql : (xs.take q).length = q := by rw [List.length_take]; omega
        replace hf := Hidd.mk hf
        replace hxb := Hidd.mk hxb
        have hq : Hidd (q ≤ 100) := ⟨by omega⟩
        replace hnp := Hidd.mk hnp
        replace hcp := Hidd.mk hcp
        replace hql := Hidd.mk hql
        clear h4 hx100 hcm
        go_wp2_with (first
          | (go_at_call 29; refine (open_yes Ap cp q xs _ hCp2.out hxb.out (by have := hq.out; omega) hnp.out hcp.out hf.out).mono ?_; rintro e w1 ⟨A1, c1, rfl, hc1, hr1, hC1, hb1⟩; have hO1 := Hidd.mk (hO.out.ext hb1); replace hC1 := Hidd.mk hC1; clear hr1 hb1 hO hc1)
          | (at_builtin; refine appb rfl _ _ rfl hO1.out 0 A7 k c7 _ rfl rfl A1 q c1 (xs.take q) rfl hql.out hC1.out (by have := hk1.out; have := hq.out; omega) ?_; intro A4 c4 w4 hO4; replace hO4 := Hidd.mk hO4; clear hO1 hC1))
        go_roundg g
        case rel =>
          refine ⟨i + 1, k + q, c4, A4, hgi, rfl, by go_num, ⟨by rw [hsucc.out, List.length_append, hk.out, hop.out, hql.out]⟩, ⟨?_⟩⟩
          rw [hsucc.out, hop.out]
          exact hO4.out
        case measure => omega
      | false =>
        have hop : Hidd (openP xs = []) := ⟨by unfold openP; rw [hf]; rfl⟩
        have hnp' : np ≤ 100 := by omega
        replace hf := Hidd.mk hf
        replace hxb := Hidd.mk hxb
        replace hnp := Hidd.mk hnp
        replace hcp := Hidd.mk hcp
        replace hnp' := Hidd.mk hnp'
        clear hx100 hcm
        go_wp2_with (go_at_call 29; refine (open_no Ap cp np xs _ hCp2.out hxb.out (by have := hnp'.out; omega) hnp.out hcp.out hf.out).mono ?_; rintro e w1 ⟨rfl, hb1⟩; have hO1 := Hidd.mk (hO.out.ext hb1); clear hb1 hO)
        go_roundg g
        case rel =>
          refine ⟨i + 1, k, c7, A7, hgi, rfl, by go_num, ⟨by rw [hsucc.out, hop.out, List.append_nil]; exact hk.out⟩, ⟨?_⟩⟩
          rw [hsucc.out, hop.out, List.append_nil]
          exact hO1.out
        case measure => omega
    | zero =>
      obtain rfl : i = n := by omega
      have di : decide (i < i) = false := by simp
      have hall : xss.take i = xss := List.take_of_length_le (by rw [hxl.out]; exact Nat.le_refl _)
      rw [hall] at hk hO
      have hmk : Hidd (m = min sz k) := ⟨by rw [← hm.out, readB, List.length_take, hk.out]⟩
      have hend := row_short hO.out 0 rfl m (by have := hmk.out; omega)
      have hrb : (nums .u8 (xss.flatMap openP)).take (m * 1) = nums .u8 (readB xss sz) := by
        rw [Nat.mul_one, ← nums_take, readB, hmk.out, ← hk.out, ← List.take_take, List.take_length]
      rw [hrb] at hend
      replace hend := Hidd.mk hend
      have hkc := row_le hO.out 0 rfl
      clear hrb hO
      have m1 : min (sz : Int) (k : Int) = (m : Int) := by have := hmk.out; omega
      have m2 : (if (k : Int) < (sz : Int) then (k : Int) else (sz : Int)) = (m : Int) := by have := hmk.out; split <;> omega
      have m3 : (0 : Int) ≤ (m : Int) := by omega
      have m4 : (m : Int) ≤ (c7 : Int) := by have := hmk.out; omega
      clear m1 m2 m3 m4
      go_wp2
      all_goals (try rw [Exit.noGoto_ret])
      all_goals go_ret
      all_goals first
        | (obtain rfl : m = sz := (by have := hmk.out; omega); exact ⟨A7, c7, rfl, hend.out⟩)
        | (obtain rfl : m = k := (by have := hmk.out; omega); exact ⟨A7, c7, rfl, hend.out⟩)
theorem image_nil (w : World) : Calls Try.prog 17 #[.pointer none] w fun e w' => e = .returned (.tuple #[.slice none 0 0, .bool false]) ∧ w = w' := by
  go_enter Try.func17, Try.ntmps17
  go_wp2
  go_ret2
  exact ⟨rfl, rfl⟩
/-- The image: none, or what the active bank says. -/
def imageL (t : St) (s : Fs) : List Int := if t.active = -1 then [] else readB (s.bank t.active.toNat) t.size.toNat
theorem image_own {w w0 : World} {S : Nat → Prop} {L : List Res} {p f : Nat} {M : FA} {t : St} {s : Fs} (k : Nat) (hO : Own w0 S w L) (hk : L[k]? = some (bankR p f M t s)) (ht : StOk t) (hs : FsOk s) (m : Nat) (hm : (imageL t s).length = m) :
    Calls Try.prog 17 #[.pointer (some ⟨p, 0, none⟩)] w fun e w' => ∃ A c, e = .returned (.tuple #[.slice A m c, .bool (decide (0 ≤ t.active))]) ∧ Own w0 S w' (row 5 1 (.slice A m c) m (nums .u8 (imageL t s)) :: L) := by
  have ho := (Own.one (hO.get k hk)).with_out
  obtain ⟨x0, x1, x2, x3, x4, x5⟩ := storeR_cells ho 0 rfl ht.sum
  have hf := ho.open_ 1 rfl
  obtain ⟨y0, y1, y2, y3⟩ := flash_cells hf 0 rfl
  have hO2 := Hidd.mk hO
  by_cases hneg : t.active = -1
  · have e0 : imageL t s = [] := by unfold imageL; rw [if_pos hneg]
    rw [e0] at hm ⊢
    obtain rfl : m = 0 := hm.symm
    rw [hneg] at x1
    have e1 : decide (0 ≤ t.active) = false := by rw [hneg]; decide
    rw [e1]
    clear ho hf hO hk y0 y1 y2 y3 x0 x2 x3 x4 x5 e0 e1 hneg hs ht hm
    go_enter Try.func17, Try.ntmps17
    go_wp2
    go_ret2
    exact ⟨none, 0, rfl, row_nil hO2.out 5 1⟩
  · have e0 : imageL t s = readB (s.bank t.active.toNat) t.size.toNat := by unfold imageL; rw [if_neg hneg]
    have hz := ht.size
    rw [e0] at hm ⊢
    have hlen1 : M.v0.length = M.n0 := by have := (show w.ownsRow 0 22 1 (.slice M.A0 M.n0 M.c0) M.n0 M.v0 from hf.get 1 rfl).1; simpa using this
    have hlen2 : M.v1.length = M.n1 := by have := (show w.ownsRow 0 22 1 (.slice M.A1 M.n1 M.c1) M.n1 M.v1 from hf.get 2 rfl).1; simpa using this
    have hl0 : M.v0.length = s.b0.length := (show (pgs M.v0 s.b0).holds w from hf.get 4 rfl).1
    have hl1 : M.v1.length = s.b1.length := (show (pgs M.v1 s.b1).holds w from hf.get 5 rfl).1
    have key : ∃ a : Nat, a < 2 ∧ t.active = a := by
      rcases ht.active with h | h | h
      · exact absurd h hneg
      · exact ⟨0, by decide, h⟩
      · exact ⟨1, by decide, h⟩
    obtain ⟨a, ha, hta⟩ := key
    obtain ⟨z, hzt⟩ : ∃ z : Nat, t.size = z := ⟨t.size.toNat, by omega⟩
    have e1 : decide (0 ≤ t.active) = true := by rw [hta]; exact decide_eq_true (by omega)
    rw [e1]
    rw [hta, hzt, Int.toNat_natCast, Int.toNat_natCast] at hm ⊢
    have hrd : Hidd (∀ W : World, Below w.heap.size w W → Calls Try.prog 38 #[.pointer (some ⟨p, 0, none⟩), .int .i64 a, .int .i64 z] W fun e w' => ∃ A' c', e = .returned (.slice A' m c') ∧ Own W (fun _ => False) w' [row 5 1 (.slice A' m c') m (nums .u8 (readB (s.bank a) z))]) := ⟨fun W hW => by
      have hx0 := vkeepB hW x0
      obtain rfl | rfl : a = 0 ∨ a = 1 := by omega
      · exact read_raw p f 0 M.A0 M.n0 M.c0 M.v0 s.b0 z W hx0 (vkeepB hW y0) (by decide) ((row_cells hf 1 rfl).below hW) hlen1 ((pgs M.v0 s.b0).loc w W (hf.get 4 rfl) fun i hi => hW.block i ((pgs M.v0 s.b0).lt w (hf.get 4 rfl) i hi)) hs.p0 (by have := hs.l0; omega) (by omega) m hm
      · exact read_raw p f 1 M.A1 M.n1 M.c1 M.v1 s.b1 z W hx0 (vkeepB hW y1) (by decide) ((row_cells hf 2 rfl).below hW) hlen2 ((pgs M.v1 s.b1).loc w W (hf.get 5 rfl) fun i hi => hW.block i ((pgs M.v1 s.b1).lt w (hf.get 5 rfl) i hi)) hs.p1 (by have := hs.l1; omega) (by omega) m hm⟩
    rw [hta] at x1
    rw [hzt] at x2
    have a0 : (0 : Int) ≤ (a : Int) := by omega
    have ad : decide ((a : Int) < 0) = false := decide_eq_false (by omega)
    clear ho hf hO hk y0 y1 y2 y3 x3 x4 x5 e0 e1 hneg hs ht hm hlen1 hlen2 hl0 hl1 hzt hz hta ha
    go_enter Try.func17, Try.ntmps17
    go_wp2
    obtain ⟨W0, hW0⟩ : ∃ zz, zz = World.drew w := ⟨_, rfl⟩
    refine wp_region_flow [([0, 1, 5, 2, 6, 3, 7, 4, 8], some (9, [false])), ([10, 11], none)] (by kernel_rfl) (by kernel_rfl) ?_
    rw [show ({ w with drawn := w.drawn + 1 } : World) = W0 from hW0.symm]
    replace hW0 := Hidd.mk hW0
    simp only [opsF, List.map_cons, List.map_nil, List.getD_cons_succ, List.getD_cons_zero, Option.map]
    have hO3 := Hidd.mk (show Own w0 S W0 L by rw [hW0.out]; exact hO2.out.drew)
    have hB0 := Hidd.mk (show Below w.heap.size w W0 by rw [hW0.out]; exact (Below.refl _ _).drew)
    have hcl0 : ∀ q, W0.cell? q = w.cell? q := by rw [hW0.out]; exact fun _ => rfl
    rw [← hcl0] at x0 x1 x2
    clear hW0 hcl0 hO2
    refine FlW.stage (fun zz => zz = _) rfl ?_
    repeat (first | (refine StQ.skip (by rfl) ?_; simp only [Act.put, List.setIfInBounds_toArray, List.set_cons_zero, List.set_cons_succ]) | (refine StQ.go' (by rfl) (Exists.intro ?_ (And.intro (fun w' hS => ?_) ?_)); rotate_left; (focus (rw [hS]; go_simp; try with_reducible rfl)); simp only [Act.put, List.setIfInBounds_toArray, List.set_cons_zero, List.set_cons_succ]))
    refine StQ.nil ?_
    refine FlO.go (by rfl) (fun K hK => ?_)
    go_simp
    (refine (hrd.out _ hB0.out).mono ?_; rintro e w2 ⟨A2, c2, rfl, ho2⟩)
    refine hK.out _ _ (.inr trivial) ?_
    clear hK K
    have hO4 := Hidd.mk (hO3.out.made ho2)
    clear ho2 hO3 hrd
    refine FlW.heads (fun zz => zz = _) rfl ?_
    repeat (first | (refine StQ.skip (by rfl) ?_; simp only [Act.put, List.setIfInBounds_toArray, List.set_cons_zero, List.set_cons_succ]) | (refine StQ.go' (by rfl) (Exists.intro ?_ (And.intro (fun w' hS => ?_) ?_)); rotate_left; (focus (rw [hS]; go_simp; try with_reducible rfl)); simp only [Act.put, List.setIfInBounds_toArray, List.set_cons_zero, List.set_cons_succ]))
    refine StQ.nil ?_
    refine FlW.nil (Calm.normal ?_)
    go_wp2
    go_ret2
    exact ⟨A2, c2, rfl, hO4.out⟩
end Go.Proofs.Ytjbhcmkloamcmaa
