/- Frames: what they say, and where it lies; Same of two that say the same. -/
import Derived.Test.YtmbbfcpoiecfhaaAppR
import Derived.Test.YtmbbfcpoiecfhaaShp
import Derived.Test.YtmbbfcpoiecfhaaFlow
namespace Go.Proofs.Ytmbbfcpoiecfhaa
open Go.RowKit

theorem vkeep {w w1 : World} (h : Below w.heap.size w w1) {p : Addr} {v : Value} (hc : w.cell? p = some v) : w1.cell? p = some v := by
  rw [h.cell (World.block_lt_of_cell? w _ hc)]; exact hc
theorem conv_b {w : World} {A : Option Addr} {n c : Nat} {xs : List Int} (h : Cells w A (nums .u8 xs)) (hl : xs.length = n) : (convert 24 9 (.slice A n c)).run Try.prog w = .ok (.string (strOfNums xs)) w := by
  subst hl
  exact conv_str Try.underlying24 Try.underlying5 Try.underlying9 h

/-- A record. -/
structure Rec5 where
  r : Nat
  n : Nat
  p : Nat
  k : Nat
  d : Nat
def Rec5.cells (x : Rec5) : List Value := [.int .u32 x.r, .int .u8 x.n, .int .u8 x.p, .int .u8 x.k, .int .u8 x.d]
structure Rec5.Ok (x : Rec5) : Prop where
  r : x.r < 4294967296
  n : x.n < 256
  p : x.p < 256
  k : x.k < 256
  d : x.d < 256
/-- A message: port and data. -/
def MsOk (ms : List (Int × List Int)) : Prop := ∀ m ∈ ms, (Lit.int .i64 m.1).wf = true ∧ (∀ x ∈ m.2, 0 ≤ x ∧ x < 256) ∧ m.2.length ≤ 140737488351232
def MsgsAt (w : World) (A : Option Addr) (n : Nat) (ms : List (Int × List Int)) : Prop :=
  ms.length = n ∧ ∀ (i : Nat) p d, ms[i]? = some (p, d) → ∃ a D len cap, A = some a ∧ w.cell? (a.add (i * 2)) = some (.int .i64 p) ∧ w.cell? ⟨(a.add (i * 2)).block, (a.add (i * 2)).off + 1, none⟩ = some (.slice D len cap) ∧
    Cells w D (nums .u8 d) ∧ d.length = len ∧ len ≤ cap ∧ cap ≤ maxLen
def RecsAt (w : World) (A : Option Addr) (n : Nat) (rs : List Rec5) : Prop :=
  rs.length = n ∧ ∀ (i : Nat) x, rs[i]? = some x → ∃ a, A = some a ∧ w.cell? (a.add (i * 5)) = some (.int .u32 x.r) ∧ w.cell? ⟨(a.add (i * 5)).block, (a.add (i * 5)).off + 1, none⟩ = some (.int .u8 x.n) ∧
    w.cell? ⟨(a.add (i * 5)).block, (a.add (i * 5)).off + 2, none⟩ = some (.int .u8 x.p) ∧ w.cell? ⟨(a.add (i * 5)).block, (a.add (i * 5)).off + 3, none⟩ = some (.int .u8 x.k) ∧ w.cell? ⟨(a.add (i * 5)).block, (a.add (i * 5)).off + 4, none⟩ = some (.int .u8 x.d)
theorem MsgsAt.below {w w' : World} {A : Option Addr} {n : Nat} {ms : List (Int × List Int)} (h : MsgsAt w A n ms) (hB : Below w.heap.size w w') : MsgsAt w' A n ms :=
  ⟨h.1, fun i p d hi => by
    obtain ⟨a, D, len, cap, e, h0, h1, h2, h3⟩ := h.2 i p d hi
    exact ⟨a, D, len, cap, e, vkeep hB h0, vkeep hB h1, h2.below hB, h3⟩⟩
theorem RecsAt.below {w w' : World} {A : Option Addr} {n : Nat} {rs : List Rec5} (h : RecsAt w A n rs) (hB : Below w.heap.size w w') : RecsAt w' A n rs :=
  ⟨h.1, fun i x hi => by
    obtain ⟨a, e, h0, h1, h2, h3, h4⟩ := h.2 i x hi
    exact ⟨a, e, vkeep hB h0, vkeep hB h1, vkeep hB h2, vkeep hB h3, vkeep hB h4⟩⟩
theorem msgs_nil (w : World) : MsgsAt w none 0 [] := ⟨rfl, fun i p d h => by simp at h⟩
theorem recs_nil (w : World) : RecsAt w none 0 [] := ⟨rfl, fun i x h => by simp at h⟩
theorem list_of {α β : Type} {P : α → β → Prop} : ∀ (l : List α), (∀ x ∈ l, ∃ y, P x y) → ∃ ys : List β, ys.length = l.length ∧ ∀ (i : Nat) x y, l[i]? = some x → ys[i]? = some y → P x y
  | [], _ => ⟨[], rfl, fun i x y h => by simp at h⟩
  | a :: l, h => by
    obtain ⟨y, hy⟩ := h a List.mem_cons_self
    obtain ⟨ys, h1, h2⟩ := list_of l fun x hx => h x (List.mem_cons_of_mem _ hx)
    refine ⟨y :: ys, by simp [h1], fun i x y' hx hy' => ?_⟩
    cases i with
    | zero => simp at hx hy'; subst hx hy'; exact hy
    | succ i => exact h2 i x y' (by simpa using hx) (by simpa using hy')
theorem msgs_of {w : World} {b : Nat} {A : Option Addr} {len cap : Nat} {rows : List (List Value)} (h : Rows' w b [.int .i64, .sl 1 [.int .u8]] A len cap rows) : ∃ ms, MsgsAt w A len ms ∧ MsOk ms := by
  have hr : ∀ r ∈ rows, ∃ q : (Int × List Int) × (Option Addr × Nat × Nat), r = [.int .i64 q.1.1, .slice q.2.1 q.2.2.1 q.2.2.2] ∧ (Lit.int .i64 q.1.1).wf = true ∧ (∀ x ∈ q.1.2, 0 ≤ x ∧ x < 256) ∧ q.1.2.length ≤ 140737488351232 ∧ Cells w q.2.1 (nums .u8 q.1.2) ∧ q.1.2.length = q.2.2.1 ∧ q.2.2.1 ≤ q.2.2.2 ∧ q.2.2.2 ≤ maxLen := fun r hr => by
    have hl := h.each r hr
    have hf := h.fits r hr
    obtain ⟨x, r1, rfl, e1⟩ := arr_cons hl
    obtain ⟨y, r2, rfl, e2⟩ := arr_cons e1
    obtain rfl := List.length_eq_zero_iff.1 e2
    obtain ⟨p, rfl, hp⟩ := (hf 0 _ _ rfl rfl).int_inv
    obtain ⟨D, dl, dc, dr, rfl, hd⟩ := (hf 1 _ _ rfl rfl).sl_inv
    obtain ⟨xs, hxl, hxc, hxw⟩ := ints_of hd
    have hw := hd.wt
    unfold reachBytes at hw
    exact ⟨((p, xs), (D, dl, dc)), rfl, hp, wf8s hxw, by show xs.length ≤ _; omega, hxc, hxl, hd.cap.1, hd.cap.2⟩
  obtain ⟨qs, hql, hq⟩ := list_of rows hr
  refine ⟨qs.map (·.1), ⟨by rw [List.length_map, hql]; exact h.n, fun i p d hi => ?_⟩, fun m hm => ?_⟩
  · rw [List.getElem?_map, Option.map_eq_some_iff] at hi
    obtain ⟨q, hqi, e⟩ := hi
    have hlt : i < rows.length := by rw [← hql]; exact (List.getElem?_eq_some_iff.1 hqi).1
    obtain ⟨e1, _, _, _, h2, h3, h4⟩ := hq i _ q (List.getElem?_eq_getElem hlt) hqi
    have hri : rows[i]? = some rows[i] := List.getElem?_eq_getElem hlt
    rw [e1] at hri
    obtain ⟨a, ha, h0⟩ := h.cell i 0 _ _ hri rfl
    obtain ⟨a1, e2, h1⟩ := h.cell i 1 _ _ hri rfl
    subst ha
    injection e2 with e2
    subst e2
    rw [← add_add, addr_lit _ _ (by decide)] at h1
    have e3 : q.1.1 = p := congrArg Prod.fst e
    have e4 : q.1.2 = d := congrArg Prod.snd e
    subst e3 e4
    exact ⟨a, _, _, _, rfl, h0, h1, h2, h3, h4⟩
  · obtain ⟨q, hqm, rfl⟩ := List.mem_map.1 hm
    obtain ⟨i, hqi⟩ := List.getElem?_of_mem hqm
    have hlt : i < rows.length := by rw [← hql]; exact (List.getElem?_eq_some_iff.1 hqi).1
    obtain ⟨_, h1, h2, h3, _⟩ := hq i _ q (List.getElem?_eq_getElem hlt) hqi
    exact ⟨h1, h2, h3⟩
theorem recs_of {w : World} {b : Nat} {A : Option Addr} {len cap : Nat} {rows : List (List Value)} (h : Rows' w b [.int .u32, .int .u8, .int .u8, .int .u8, .int .u8] A len cap rows) : ∃ rs, RecsAt w A len rs ∧ ∀ r ∈ rs, r.Ok := by
  have hr : ∀ r ∈ rows, ∃ q : Rec5, r = q.cells ∧ q.Ok := fun r hr => by
    have hl := h.each r hr
    have hf := h.fits r hr
    obtain ⟨x0, r0, rfl, e0⟩ := arr_cons hl
    obtain ⟨x1, r1, rfl, e1⟩ := arr_cons e0
    obtain ⟨x2, r2, rfl, e2⟩ := arr_cons e1
    obtain ⟨x3, r3, rfl, e3⟩ := arr_cons e2
    obtain ⟨x4, r4, rfl, e4⟩ := arr_cons e3
    obtain rfl := List.length_eq_zero_iff.1 e4
    obtain ⟨y0, rfl, h0⟩ := (hf 0 _ _ rfl rfl).int_inv
    obtain ⟨y1, rfl, h1⟩ := (hf 1 _ _ rfl rfl).int_inv
    obtain ⟨y2, rfl, h2⟩ := (hf 2 _ _ rfl rfl).int_inv
    obtain ⟨y3, rfl, h3⟩ := (hf 3 _ _ rfl rfl).int_inv
    obtain ⟨y4, rfl, h4⟩ := (hf 4 _ _ rfl rfl).int_inv
    obtain ⟨n0, rfl, g0⟩ := wf32 h0
    obtain ⟨n1, rfl, g1⟩ := wf8 h1
    obtain ⟨n2, rfl, g2⟩ := wf8 h2
    obtain ⟨n3, rfl, g3⟩ := wf8 h3
    obtain ⟨n4, rfl, g4⟩ := wf8 h4
    exact ⟨⟨n0, n1, n2, n3, n4⟩, rfl, g0, g1, g2, g3, g4⟩
  obtain ⟨qs, hql, hq⟩ := list_of rows hr
  refine ⟨qs, ⟨by rw [hql]; exact h.n, fun i x hi => ?_⟩, fun x hx => ?_⟩
  · have hlt : i < rows.length := by rw [← hql]; exact (List.getElem?_eq_some_iff.1 hi).1
    obtain ⟨e1, _⟩ := hq i _ x (List.getElem?_eq_getElem hlt) hi
    have hri : rows[i]? = some rows[i] := List.getElem?_eq_getElem hlt
    rw [e1] at hri
    obtain ⟨a, ha, h0⟩ := h.cell i 0 _ _ hri rfl
    obtain ⟨a1, e1, h1⟩ := h.cell i 1 _ _ hri rfl
    obtain ⟨a2, e2, h2⟩ := h.cell i 2 _ _ hri rfl
    obtain ⟨a3, e3, h3⟩ := h.cell i 3 _ _ hri rfl
    obtain ⟨a4, e4, h4⟩ := h.cell i 4 _ _ hri rfl
    subst ha
    injection e1 with e1
    injection e2 with e2
    injection e3 with e3
    injection e4 with e4
    subst e1 e2 e3 e4
    rw [← add_add, addr_lit _ _ (by decide)] at h1 h2 h3 h4
    exact ⟨a, rfl, h0, h1, h2, h3, h4⟩
  · obtain ⟨i, hi⟩ := List.getElem?_of_mem hx
    have hlt : i < rows.length := by rw [← hql]; exact (List.getElem?_eq_some_iff.1 hi).1
    exact (hq i _ x (List.getElem?_eq_getElem hlt) hi).2

set_option maxRecDepth 100000 in
set_option maxHeartbeats 4000000 in
theorem sameMsgs_any (A B : Option Addr) (n c d : Nat) (ms : List (Int × List Int)) (w : World) (hA : MsgsAt w A n ms) (hB : MsgsAt w B n ms) (hn : n ≤ 1000000000000000) :
    Calls Try.prog 49 #[.slice A n c, .slice B n d] w fun e w' => e = .returned (.bool true) ∧ Below w.heap.size w w' := by
  have HA := Hidd.mk hA
  have HB := Hidd.mk hB
  clear hA hB
  go_enter Try.func49, Try.ntmps49
  go_wp2
  go_loopw [5] (fun v5 wr => ∃ i : Nat, v5 = .int .i64 i ∧ i ≤ n ∧ Hidd (Below w.heap.size w wr)) (fun v5 _ => n - (intOf v5).toNat)
  case atStart => exact ⟨0, rfl, Nat.zero_le _, ⟨Below.refl _ _⟩⟩
  case round =>
    obtain ⟨i, rfl, hi, hb⟩ := hrel
    by_cases hlt : i < n
    · obtain ⟨⟨p, dt⟩, hm⟩ : ∃ x, ms[i]? = some x := ⟨_, List.getElem?_eq_getElem (by rw [HA.out.1]; exact hlt)⟩
      obtain ⟨a, D, dl, dc, rfl, x0, x1, x2, x3, _, _⟩ := (HA.out.below hb.out).2 i p dt hm
      obtain ⟨b, E, el, ec, rfl, y0, y1, y2, y3, _, _⟩ := (HB.out.below hb.out).2 i p dt hm
      have bi0 : (0 : Int) ≤ (i : Int) := by omega
      have bi1 : (i : Int) < (n : Int) := by omega
      have z1 := conv_b (c := dc) x2.drew x3
      have z2 := conv_b (c := ec) y2.drew y3
      clear hm x3 y3
      replace x2 := Hidd.mk x2
      replace y2 := Hidd.mk y2
      go_wp2
      obtain ⟨W0, hW0⟩ : ∃ zz, zz = World.drew wr := ⟨_, rfl⟩
      refine wp_region_flow [([0, 1, 5, 6, 2, 7, 3, 8, 4, 9, 10, 11, 12, 13, 18, 19, 14, 20, 15, 21, 16, 22, 17, 23, 24, 25], none)] (by kernel_rfl) (by kernel_rfl) ?_
      rw [show ({ wr with drawn := wr.drawn + 1 } : World) = W0 from hW0.symm]
      replace hW0 := Hidd.mk hW0
      simp only [opsF, List.map_cons, List.map_nil, List.getD_cons_succ, List.getD_cons_zero, Option.map_some, Option.map_none]
      replace x0 : W0.cell? (a.add (i * 2)) = some (.int .i64 p) := by rw [hW0.out]; exact x0
      replace y0 : W0.cell? (b.add (i * 2)) = some (.int .i64 p) := by rw [hW0.out]; exact y0
      replace x1 : W0.cell? ⟨(a.add (i * 2)).block, (a.add (i * 2)).off + 1, none⟩ = some (.slice D dl dc) := by rw [hW0.out]; exact x1
      replace y1 : W0.cell? ⟨(b.add (i * 2)).block, (b.add (i * 2)).off + 1, none⟩ = some (.slice E el ec) := by rw [hW0.out]; exact y1
      rw [← hW0.out] at z1 z2
      have hb2 : Hidd (Below w.heap.size w W0) := ⟨by rw [hW0.out]; exact hb.out.drew⟩
      clear hW0 hb
      refine FlW.heads (fun zz => zz = _) rfl ?_
      repeat (first | (refine StQ.skip (by rfl) ?_; simp only [Act.put, List.setIfInBounds_toArray, List.set_cons_zero, List.set_cons_succ]) | (refine StQ.go' (by rfl) (Exists.intro ?_ (And.intro (fun w' hS => ?_) ?_)); rotate_left; (focus (rw [hS]; go_simp; try with_reducible rfl)); simp only [Act.put, List.setIfInBounds_toArray, List.set_cons_zero, List.set_cons_succ]))
      refine StQ.nil ?_
      refine FlW.nil (Calm.normal ?_)
      go_wp2
      go_roundw
      case rel => exact ⟨i + 1, by go_num, by omega, hb2⟩
      case measure => (simp [intOf]; try omega)
    · obtain rfl : i = n := by omega
      go_wp2
      go_ret
      exact ⟨rfl, hb.out⟩
set_option maxRecDepth 100000 in
set_option maxHeartbeats 4000000 in
theorem sameRecs_any (A B : Option Addr) (n c d : Nat) (rs : List Rec5) (w : World) (hA : RecsAt w A n rs) (hB : RecsAt w B n rs) (hn : n ≤ 1000000000000000) :
    Calls Try.prog 50 #[.slice A n c, .slice B n d] w fun e w' => e = .returned (.bool true) ∧ Below w.heap.size w w' := by
  have HA := Hidd.mk hA
  have HB := Hidd.mk hB
  clear hA hB
  go_enter Try.func50, Try.ntmps50
  go_wp2
  go_loopw [5] (fun v5 wr => ∃ i : Nat, v5 = .int .i64 i ∧ i ≤ n ∧ Hidd (Below w.heap.size w wr)) (fun v5 _ => n - (intOf v5).toNat)
  case atStart => exact ⟨0, rfl, Nat.zero_le _, ⟨Below.refl _ _⟩⟩
  case round =>
    obtain ⟨i, rfl, hi, hb⟩ := hrel
    by_cases hlt : i < n
    · obtain ⟨x, hm⟩ : ∃ x, rs[i]? = some x := ⟨_, List.getElem?_eq_getElem (by rw [HA.out.1]; exact hlt)⟩
      obtain ⟨a, rfl, x0, x1, x2, x3, x4⟩ := (HA.out.below hb.out).2 i x hm
      obtain ⟨b, rfl, y0, y1, y2, y3, y4⟩ := (HB.out.below hb.out).2 i x hm
      have bi0 : (0 : Int) ≤ (i : Int) := by omega
      have bi1 : (i : Int) < (n : Int) := by omega
      clear hm
      go_wp2
      obtain ⟨W0, hW0⟩ : ∃ zz, zz = World.drew wr := ⟨_, rfl⟩
      refine wp_region_flow [([0, 1, 4, 5, 2, 6, 3, 7, 8], none)] (by kernel_rfl) (by kernel_rfl) ?_
      rw [show ({ wr with drawn := wr.drawn + 1 } : World) = W0 from hW0.symm]
      replace hW0 := Hidd.mk hW0
      simp only [opsF, List.map_cons, List.map_nil, List.getD_cons_succ, List.getD_cons_zero, Option.map_some, Option.map_none]
      have hc : ∀ p : Addr, W0.cell? p = wr.cell? p := fun p => by rw [hW0.out]; rfl
      have hb2 : Hidd (Below w.heap.size w W0) := ⟨by rw [hW0.out]; exact hb.out.drew⟩
      clear hW0 hb
      refine FlW.heads (fun zz => zz = _) rfl ?_
      repeat (first | (refine StQ.skip (by rfl) ?_; simp only [Act.put, List.setIfInBounds_toArray, List.set_cons_zero, List.set_cons_succ]) | (refine StQ.go' (by rfl) (Exists.intro ?_ (And.intro (fun w' hS => ?_) ?_)); rotate_left; (focus (rw [hS]; go_simp; try with_reducible rfl)); simp only [Act.put, List.setIfInBounds_toArray, List.set_cons_zero, List.set_cons_succ]))
      refine StQ.nil ?_
      refine FlW.nil (Calm.normal ?_)
      go_wp2
      go_roundw
      case rel => exact ⟨i + 1, by go_num, by omega, hb2⟩
      case measure => (simp [intOf]; try omega)
    · obtain rfl : i = n := by omega
      go_wp2
      go_ret
      exact ⟨rfl, hb.out⟩
end Go.Proofs.Ytmbbfcpoiecfhaa
