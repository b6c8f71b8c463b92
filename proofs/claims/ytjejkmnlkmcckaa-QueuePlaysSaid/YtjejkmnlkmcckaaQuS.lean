/- QueueSorts walked. -/
import Derived.Test.YtjejkmnlkmcckaaQuF
import Derived.Test.YtjejkmnlkmcckaaShp
import Derived.Deep.OwnRows
namespace Go.Proofs.Ytjejkmnlkmcckaa
open Go.RowKit

/-- A slice of events that came in. -/
def Evs (w : World) (A : Option Addr) (es : List (Int × Int × Int)) : Prop :=
  ∀ (i : Nat) e, es[i]? = some e → ∃ a, A = some a ∧ w.cell? (a.add (i * 3)) = some (.int .i64 e.1) ∧ w.cell? ⟨(a.add (i * 3)).block, (a.add (i * 3)).off + 1, none⟩ = some (.int .i64 e.2.1) ∧ w.cell? ⟨(a.add (i * 3)).block, (a.add (i * 3)).off + 2, none⟩ = some (.int .i64 e.2.2)
theorem three {w : World} {r : List Value} (hl : r.length = 3) (hf : ∀ (j : Nat) s v, [Sh.int .i64, .int .i64, .int .i64][j]? = some s → r[j]? = some v → Fits w s v) : ∃ e : Int × Int × Int, r = [.int .i64 e.1, .int .i64 e.2.1, .int .i64 e.2.2] := by
  obtain ⟨x, r1, rfl, e1⟩ := arr_cons hl
  obtain ⟨y, r2, rfl, e2⟩ := arr_cons e1
  obtain ⟨z, r3, rfl, e3⟩ := arr_cons e2
  obtain rfl := List.length_eq_zero_iff.1 e3
  obtain ⟨x', rfl, _⟩ := (hf 0 _ _ rfl rfl).int_inv
  obtain ⟨y', rfl, _⟩ := (hf 1 _ _ rfl rfl).int_inv
  obtain ⟨z', rfl, _⟩ := (hf 2 _ _ rfl rfl).int_inv
  exact ⟨(x', y', z'), rfl⟩
theorem evs_of {w : World} {A : Option Addr} {len cap : Nat} {rows : List (List Value)} (h : Rows' w [.int .i64, .int .i64, .int .i64] A len cap rows) : ∃ es, es.length = len ∧ Evs w A es := by
  classical
  have hr : ∀ r ∈ rows, ∃ e : Int × Int × Int, r = [.int .i64 e.1, .int .i64 e.2.1, .int .i64 e.2.2] := fun r hr => three (h.each r hr) (h.fits r hr)
  refine ⟨rows.map fun r => if h : r ∈ rows then (hr r h).choose else (0, 0, 0), by rw [List.length_map]; exact h.n, fun i e he => ?_⟩
  rw [List.getElem?_map, Option.map_eq_some_iff] at he
  obtain ⟨r, hri, rfl⟩ := he
  have hm := List.mem_of_getElem? hri
  rw [dif_pos hm]
  have e := (hr r hm).choose_spec
  generalize (hr r hm).choose = x at e ⊢
  subst e
  obtain ⟨a, rfl, h0⟩ := h.cell i 0 _ _ hri rfl
  obtain ⟨a1, e1, h1⟩ := h.cell i 1 _ _ hri rfl
  obtain ⟨a2, e2, h2⟩ := h.cell i 2 _ _ hri rfl
  injection e1 with e1
  injection e2 with e2
  subst e1 e2
  rw [← add_add, addr_lit _ _ (by decide)] at h1 h2
  exact ⟨a, rfl, h0, h1, h2⟩
theorem Evs.below {w w' : World} {A : Option Addr} {es : List (Int × Int × Int)} (h : Evs w A es) (hB : Below w.heap.size w w') : Evs w' A es := fun i e he => by
  obtain ⟨a, ha, h0, h1, h2⟩ := h i e he
  exact ⟨a, ha, bkeep hB h0, bkeep hB h1, bkeep hB h2⟩

/-- What is put of the event k. -/
def itm (es : List (Int × Int × Int)) (k : Nat) : It := ⟨(es.getD k (0, 0, 0)).1, (es.getD k (0, 0, 0)).2.1, k, ((k + 1 : Nat) : Int)⟩
def itms (es : List (Int × Int × Int)) (i : Nat) : List It := (List.range i).map (itm es)
theorem itms_succ {es : List (Int × Int × Int)} {i : Nat} {l m : List It} {x : It} (h : l.Perm (itms es i)) (hx : x = itm es i) (hm : m.Perm (x :: l)) : m.Perm (itms es (i + 1)) := by
  refine hm.trans ((List.Perm.cons x h).trans ?_)
  rw [itms, itms, List.range_succ, List.map_append, hx]
  exact (List.perm_append_comm (l₁ := [itm es i]) (l₂ := (List.range i).map (itm es)))
theorem itm_inj {es : List (Int × Int × Int)} {i j : Nat} (h : itm es i = itm es j) : i = j := by
  have := congrArg It.what h
  simp [itm] at this
  omega
theorem itms_nodup (es : List (Int × Int × Int)) (n : Nat) : (itms es n).Nodup := by
  unfold itms
  rw [List.nodup_iff_pairwise_ne, List.pairwise_map]
  exact (List.nodup_range (n := n)).imp fun {a b} hab h => hab (itm_inj h)

/-- In the second loop. -/
structure Sorts (es : List (Int × Int × Int)) (l : List It) (bs : List Bool) (n : Nat) (last : Int × Int × Int) : Prop where
  heap : IsHeap l
  nodup : l.Nodup
  len : bs.length = es.length
  all : ∀ x ∈ l, ∃ k, k < es.length ∧ x = itm es k ∧ bs[k]? = some false
  up : 0 < n → ∀ x ∈ l, last.1 < x.at_ ∨ (last.1 = x.at_ ∧ (last.2.1 < x.rank ∨ (last.2.1 = x.rank ∧ last.2.2 < x.what)))

theorem sorts_first {es : List (Int × Int × Int)} {l : List It} (h : IsHeap l) (hp : l.Perm (itms es es.length)) (last : Int × Int × Int) : Sorts es l (List.replicate es.length false) 0 last := by
  refine ⟨h, hp.nodup_iff.2 (itms_nodup _ _), by simp, fun x hx => ?_, fun h => absurd h (by omega)⟩
  obtain ⟨k, hk, rfl⟩ := List.mem_map.1 (hp.mem_iff.1 hx)
  have hk := List.mem_range.1 hk
  exact ⟨k, hk, rfl, by simp [hk]⟩
theorem sorts_step {es : List (Int × Int × Int)} {l : List It} {bs : List Bool} {n m : Nat} {last : Int × Int × Int} {z y : It} (h : Sorts es l bs n last) (hl : l.length = m + 1) (hz : l[0]? = some z) (hy : l[m]? = some y) :
    ∃ k, k < es.length ∧ z = itm es k ∧ bs[k]? = some false ∧ Sorts es (qtake l y) (bs.set k true) (n + 1) (z.at_, z.rank, z.what) := by
  obtain ⟨h1, h2, h3⟩ := qtake_heap h.heap hl hz hy
  obtain ⟨k, hk, rfl, hb⟩ := h.all z (List.mem_of_getElem? hz)
  have hnd := h2.nodup_iff.2 h.nodup
  obtain ⟨hn1, hn2⟩ := List.nodup_cons.1 hnd
  refine ⟨k, hk, rfl, hb, h1, hn2, by simpa using h.len, fun x hx => ?_, fun _ x hx => ?_⟩
  · obtain ⟨j, hj, rfl, hbj⟩ := h.all x (h2.mem_iff.1 (List.mem_cons_of_mem _ hx))
    have : k ≠ j := fun e => hn1 (by rw [e]; exact hx)
    exact ⟨j, hj, rfl, by rw [List.getElem?_set_ne this]; exact hbj⟩
  · have hle := h3 x (h2.mem_iff.1 (List.mem_cons_of_mem _ hx))
    obtain ⟨j, hj, rfl, hbj⟩ := h.all x (h2.mem_iff.1 (List.mem_cons_of_mem _ hx))
    have : k ≠ j := fun e => hn1 (by rw [e]; exact hx)
    rw [le_iff] at hle
    simp only [itm] at hle ⊢
    omega

theorem info_bool : (Try.prog.info? 4).map (fun i => (i.zero, i.size, i.bytes)) = some (some (.bool false), 1, 1) := by kernel_rfl
def bls (bs : List Bool) : List Value := bs.map .bool
theorem made_bools (n : Nat) : madeCells #[.bool false] n = (bls (List.replicate n false)).toArray := by
  simp only [madeCells, bls]
  apply Array.ext
  · simp
  · intro i h1 h2
    simp [Nat.mod_one]
theorem bls_set (bs : List Bool) (k : Nat) (b : Bool) : (bls bs).toArray.setIfInBounds k (.bool b) = (bls (bs.set k b)).toArray := by
  simp [bls, List.map_set]
theorem bls_get {bs : List Bool} {k : Nat} {b : Bool} (h : bs[k]? = some b) : (bls bs).toArray[k]? = some (.bool b) := by
  simp [bls, h]
set_option maxRecDepth 100000 in
set_option maxHeartbeats 4000000 in
theorem queueSorts_walk (A0 : Option Addr) (len0 cap0 : Nat) (z0 : List (List Value)) (w : World) (hr : Rows' w [.int .i64, .int .i64, .int .i64] A0 len0 cap0 z0) :
    Calls Try.prog 6 #[.slice A0 len0 cap0] w fun e w' => e = .returned (.bool true) ∧ Below w.heap.size w w' := by
  obtain ⟨es, hel, hev⟩ := evs_of hr
  clear hr
  replace hel := Hidd.mk hel
  replace hev := Hidd.mk hev
  by_cases hbig : 500 < len0
  · go_enter Try.func6, Try.ntmps6
    go_wp2_with (go_at_call 13; refine (awake_any _).mono ?_; rintro e w1 ⟨rfl, hb1⟩)
    go_ret
    exact ⟨rfl, hb1⟩
  · have hbig2 : decide (500 < (len0 : Int)) = false := by rw [decide_eq_false_iff_not]; omega
    have hmk : ∀ W : World, (Instr.makeSlice 42 (.int .i64 (len0 : Int)) (.int .i64 (len0 : Int))).run Try.prog W = _ := run_make_row' 42 4 (.bool false) 1 (by rfl) info_bool rfl .i64 .i64 len0 (by omega) (by omega)
    go_enter Try.func6, Try.ntmps6
    go_wp2_with (first
      | (go_at_call 13; refine (awake_any _).mono ?_; rintro e w1 ⟨rfl, hb1⟩; have ho1 := Hidd.mk ((Own.nil w (fun _ => False)).ext hb1); clear hb1)
      | (go_at_call 14; refine (new_own _).mono ?_; rintro e w2 ⟨b, rfl, hn2⟩; have ho2 := Hidd.mk (ho1.out.made hn2); clear hn2))
    go_loopw [19] (fun v19 wr => ∃ (i : Nat) (A : Option Addr) (cap : Nat) (l : List It), v19 = .int .i64 i ∧ i ≤ len0 ∧ Hidd (Own w (fun _ => False) wr [qres b A i cap l i]) ∧ Hidd (IsHeap l ∧ l.Perm (itms es i))) (fun v19 _ => len0 - (intOf v19).toNat)
    case atStart => exact ⟨0, none, 0, [], rfl, Nat.zero_le _, ho2, ⟨isHeap_nil, List.Perm.refl _⟩⟩
    case round =>
      clear ho2
      obtain ⟨i, A, cap, l, rfl, hi, ho, hh⟩ := hrel
      by_cases hlt : i < len0
      · obtain ⟨⟨e0, e1, e2⟩, hx⟩ : ∃ x, es[i]? = some x := ⟨_, List.getElem?_eq_getElem (by rw [hel.out]; exact hlt)⟩
        obtain ⟨ad, rfl, x0, x1, x2⟩ := hev.out i _ hx
        replace x0 := bkeep (ho.out.below fun _ => id) x0
        replace x1 := bkeep (ho.out.below fun _ => id) x1
        replace x2 := bkeep (ho.out.below fun _ => id) x2
        simp only at x0 x1 x2
        have hit : Hidd ((⟨e0, e1, (i : Int), ((i + 1 : Nat) : Int)⟩ : It) = itm es i) := ⟨by unfold itm; rw [List.getD_eq_getElem?_getD, hx]; rfl⟩
        clear hx
        go_wp2_with (go_at_call 15; refine (put_own 1 (ho.out.alloc _) rfl _ _ _ (by omega) (by omega)).mono ?_; rintro e w5 ⟨rfl, A', cap', ho5⟩; replace ho5 := Hidd.mk ho5.tail)
        go_roundw
        case rel => exact ⟨i + 1, A', cap', _, by go_num, by omega, ho5, ⟨(qput_heap hh.out.1 _ _ _ _).1, itms_succ hh.out.2 hit.out (qput_heap hh.out.1 _ _ _ _).2⟩⟩
        case measure => simp [intOf]; omega
      · obtain rfl : i = len0 := by omega
        go_wp2
        have hmb := made_bools i
        rw [hmb]
        have ho3 := Hidd.mk (ho.out.alloc (.cells (bls (List.replicate i false)).toArray 4))
        have hsz := World.size_alloc wr (.cells (bls (List.replicate i false)).toArray 4)
        generalize wr.heap.size = sd at ho3 hsz ⊢
        generalize wr.alloc _ = w3 at ho3 hsz ⊢
        have ho4 := ho3.out.alloc (.cells #[.int .i64 0, .int .i64 0, .int .i64 0] 28)
        rw [hsz] at ho4
        replace ho4 := Hidd.mk ho4
        have hso : Hidd (Sorts es l (List.replicate i false) 0 (0, 0, 0)) := ⟨by have h := sorts_first hh.out.1 (by rw [hel.out]; exact hh.out.2) (0, 0, 0); rw [hel.out] at h; exact h⟩
        generalize w3.alloc _ = w4 at ho4 ⊢
        clear ho ho3 hsz hh hmb
        go_loopw [39] (fun v39 wr => ∃ (n m : Nat) (A : Option Addr) (cap : Nat) (l' : List It) (bs : List Bool) (c0 c1 c2 : Int), v39 = .int .i64 n ∧ n + m = i ∧ Hidd (Own w (fun _ => False) wr [blk (sd + 1) (.cells #[.int .i64 c0, .int .i64 c1, .int .i64 c2] 28), blk sd (.cells (bls bs).toArray 4), qres b A m cap l' i]) ∧ Hidd (Sorts es l' bs n (c0, c1, c2))) (fun v39 _ => i - (intOf v39).toNat)
        case atStart => exact ⟨0, i, A, cap, l, List.replicate i false, 0, 0, 0, rfl, by omega, ho4, hso⟩
        case round =>
          clear ho4 hso
          obtain ⟨n, m, A, cap, l', bs, c0, c1, c2, rfl, hnm, ho, hso⟩ := hrel
          rcases m with _ | m
          · obtain rfl : n = i := by omega
            go_wp2_with (go_at_call 19; refine (len_own 2 ho.out rfl).mono ?_; rintro e w10 ⟨rfl, rfl⟩)
            go_ret
            exact ⟨rfl, ho.out.below (fun _ => id)⟩
          · have hll := Hidd.mk (ho.out.qlen 2 rfl)
            obtain ⟨z, hz⟩ : ∃ z, l'[0]? = some z := ⟨_, List.getElem?_eq_getElem (by rw [hll.out]; omega)⟩
            obtain ⟨y, hy⟩ : ∃ z, l'[m]? = some z := ⟨_, List.getElem?_eq_getElem (by rw [hll.out]; omega)⟩
            obtain ⟨k, hk, hze, hbk, hst⟩ := sorts_step hso.out hll.out hz hy
            obtain ⟨⟨k0, k1, k2⟩, hek⟩ : ∃ x, es[k]? = some x := ⟨_, List.getElem?_eq_getElem hk⟩
            have hze2 : z = ⟨k0, k1, k, ((k + 1 : Nat) : Int)⟩ := by rw [hze]; unfold itm; rw [List.getD_eq_getElem?_getD, hek]; rfl
            have hup := hso.out.up
            have hzm := List.mem_of_getElem? hz
            subst hze2
            simp only at hst
            rw [hel.out] at hk
            obtain ⟨ad, rfl, l0, l1, _⟩ := hev.out k _ hek
            simp only at l0 l1
            have bk0 : decide ((k : Int) < 0) = false := by rw [decide_eq_false_iff_not]; omega
            have bk1 : decide ((i : Int) ≤ (k : Int)) = false := by rw [decide_eq_false_iff_not]; omega
            have bk2 : (k : Int) < (i : Int) := by omega
            have bk4 : ¬ i ≤ k := by omega
            have bk3 : (0 : Int) ≤ (k : Int) := by omega
            have hup2 : Hidd (0 < n → c0 < k0 ∨ (c0 = k0 ∧ (c1 < k1 ∨ (c1 = k1 ∧ c2 < k)))) := ⟨fun h => by have := hup h _ hzm; simpa using this⟩
            clear hup hzm hze hso hll
            replace hz := Hidd.mk hz
            replace hy := Hidd.mk hy
            replace hst := Hidd.mk hst
            replace hek := Hidd.mk hek
            replace hbk := Hidd.mk (bls_get hbk)
            go_wp2_with (go_at_call 16; refine (take_own 2 ho.out rfl (last := m) (by omega) hz.out hy.out).mono ?_; rintro e w11 ⟨rfl, ho11⟩; replace ho11 := Hidd.mk (ho11.alloc (.cells #[.int .i64 k0, .int .i64 k1, .int .i64 k] 28)))
            generalize w11.heap.size = p9 at ho11 ⊢
            generalize w11.alloc _ = wv at ho11 ⊢
            clear ho
            obtain ⟨wy, hwy⟩ : ∃ zz, zz = World.drew wv := ⟨_, rfl⟩
            refine wp_region_still_lit (by kernel_rfl) (by kernel_rfl) (StW.out ?_)
            rw [show ({ wv with drawn := wv.drawn + 1 } : World) = wy from hwy.symm]
            replace hwy := Hidd.mk hwy
            have ho12 : Hidd (Own w (fun _ => False) wy [blk p9 (.cells #[.int .i64 k0, .int .i64 k1, .int .i64 k] 28), blk (sd + 1) (.cells #[.int .i64 c0, .int .i64 c1, .int .i64 c2] 28), blk sd (.cells (bls bs).toArray 4), qres b A m cap (qtake l' y) i]) := ⟨by rw [hwy.out]; exact ho11.out.drew⟩
            clear ho11 hwy
            replace l0 := bkeep (ho12.out.below fun _ => id) l0
            replace l1 := bkeep (ho12.out.below fun _ => id) l1
            have y0 := ho12.out.cell 0 rfl 0
            have y1 := ho12.out.cell 0 rfl 1
            have y2 := ho12.out.cell 0 rfl 2
            have u0 := ho12.out.cell 1 rfl 0
            have u1 := ho12.out.cell 1 rfl 1
            have u2 := ho12.out.cell 1 rfl 2
            simp at y0 y1 y2 u0 u1 u2
            have s0 := (ho12.out.cell 2 rfl k).trans hbk.out
            repeat (first | (refine StW.skip (by rfl) ?_; simp only [Act.put, List.setIfInBounds_toArray, List.set_cons_zero, List.set_cons_succ]) | (refine StW.go (by rfl) (fun K hK => ?_); go_simp; refine hK.out _ ?_; clear hK K))
            refine StW.nil ?_
            have hord : Hidd (n = 0 ∨ (0 < n ∧ (c0 < k0 ∨ (c0 = k0 ∧ (c1 < k1 ∨ (c1 = k1 ∧ c2 < k)))))) := ⟨by
              rcases Nat.eq_zero_or_pos n with h | h
              · exact .inl h
              · exact .inr ⟨h, hup2.out h⟩⟩
            clear hup2 l0 l1
            have hgo : ∀ Q : Prop, (n = 0 → Q) → (0 < n → c0 < k0 → Q) → (0 < n → c0 = k0 → c1 < k1 → Q) → (0 < n → c0 = k0 → c1 = k1 → c2 < k → Q) → Q := fun Q q1 q2 q3 q4 => by
              rcases hord.out with h | ⟨h, h1 | ⟨h1, h2 | ⟨h2, h3⟩⟩⟩
              · exact q1 h
              · exact q2 h h1
              · exact q3 h h1 h2
              · exact q4 h h1 h2 h3
            obtain ⟨T, hT⟩ : ∃ T : Nat → Prop, T = (· = sd) := ⟨_, rfl⟩
            have hp9 := ho12.out.lt 0 rfl
            have hp7 := ho12.out.lt 1 rfl
            have hpd := ho12.out.lt 2 rfl
            have hTn : ¬ T p9 := by rw [hT]; exact fun e => ho12.out.apart 0 2 rfl rfl (by decide) p9 rfl e
            have fs := ho12.out.frozen 2 rfl k
            have f0 := ho12.out.frozen 1 rfl 0
            have f1 := ho12.out.frozen 1 rfl 1
            have f2 := ho12.out.frozen 1 rfl 2
            replace hT := Hidd.mk hT
            clear hord
            have hend : ∀ W0 : World, Hidd (W0 = World.drew wy) → Hidd (Own w (fun _ => False) ((((W0.setCell ⟨sd, k, none⟩ (.bool true)).setCell ⟨sd + 1, 0, none⟩ (.int .i64 k0)).setCell ⟨sd + 1, 1, none⟩ (.int .i64 k1)).setCell ⟨sd + 1, 2, none⟩ (.int .i64 k)) [blk (sd + 1) (.cells #[.int .i64 k0, .int .i64 k1, .int .i64 k] 28), blk sd (.cells (bls (bs.set k true)).toArray 4), qres b A m cap (qtake l' y) i]) := fun W0 h0 => ⟨by
              have h := ((((ho12.out.drew).set 2 rfl k (.bool true)).set 1 rfl 0 (.int .i64 k0)).set 1 rfl 1 (.int .i64 k1)).set 1 rfl 2 (.int .i64 k)
              rw [bls_set, ← h0.out] at h
              exact h.tail⟩
            replace hend := Hidd.mk hend
            refine hgo _ (fun h => ?ca) (fun h h1 => ?cb) (fun h h1 h2 => ?cc) (fun h h1 h2 h3 => ?cd)
            all_goals clear hgo
            case' ca =>
              subst h
              go_wp2
            case' cb =>
              have d1 : decide (k0 < c0) = false := by rw [decide_eq_false_iff_not]; omega
              have d2 : (k0 == c0) = false := by rw [beq_eq_false_iff_ne]; omega
              clear h1
              go_wp2
            case' cc =>
              subst h1
              have d1 : decide (k1 < c1) = false := by rw [decide_eq_false_iff_not]; omega
              have d2 : (k1 == c1) = false := by rw [beq_eq_false_iff_ne]; omega
              clear h2
              go_wp2
            case' cd =>
              subst h1 h2
              have d1 : decide ((k : Int) < c2) = false := by rw [decide_eq_false_iff_not]; omega
              clear h3
              go_wp2
            all_goals
              obtain ⟨W0, hW0⟩ : ∃ zz, zz = World.drew wy := ⟨_, rfl⟩
              refine wp_region_mix (fun zz => Kept T wy zz) [0, 1, 2, 3, 4] [(5, true), (6, false)] (by kernel_rfl) (by kernel_rfl) (Kept.drew _ _) ?_
              rw [show ({ wy with drawn := wy.drawn + 1 } : World) = W0 from hW0.symm]
              replace hW0 := Hidd.mk hW0
              simp only [List.map_cons, List.map_nil, List.getD_cons_succ, List.getD_cons_zero]
              have hkW0 : Hidd (Kept T wy W0) := ⟨by rw [hW0.out]; exact Kept.drew _ _⟩
              replace fs : W0.frozen? ⟨sd, k, none⟩ = false := by rw [hW0.out]; exact fs
              replace f0 : W0.frozen? ⟨sd + 1, 0, none⟩ = false := by rw [hW0.out]; exact f0
              replace f1 : W0.frozen? ⟨sd + 1, 1, none⟩ = false := by rw [hW0.out]; exact f1
              replace f2 : W0.frozen? ⟨sd + 1, 2, none⟩ = false := by rw [hW0.out]; exact f2
              repeat (first | (refine StQ.skip (by rfl) ?_; simp only [Act.put, List.setIfInBounds_toArray, List.set_cons_zero, List.set_cons_succ]) | (refine StQ.go' (by rfl) (Exists.intro ?_ (And.intro (fun w' hS => ?_) ?_)); rotate_left; (focus (have hc := Kept.cellAt hS; go_simp; try with_reducible rfl)); simp only [Act.put, List.setIfInBounds_toArray, List.set_cons_zero, List.set_cons_succ]))
              refine StQ.nil ?_
              have s0' : W0.cell? ⟨sd, k, none⟩ = some (.bool false) := by rw [hW0.out]; exact s0
              have u0' : W0.cell? ⟨sd + 1, 0, none⟩ = some (.int .i64 c0) := by rw [hW0.out]; exact u0
              have u1' : W0.cell? ⟨sd + 1, 1, none⟩ = some (.int .i64 c1) := by rw [hW0.out]; exact u1
              have u2' : W0.cell? ⟨sd + 1, 2, none⟩ = some (.int .i64 c2) := by rw [hW0.out]; exact u2
              refine TlF.go (by rfl) (fun K hK => ?_); go_simp; refine hK.out _ _ (fun _ => hkW0.out.trans (Kept.setCell W0 ⟨sd, k, none⟩ (.bool true) (by rw [hT.out]))) ?_; clear hK K
              refine TlF.go (by rfl) (fun K hK => ?_); go_simp; refine hK.out _ _ (by intro h; cases h) ?_; clear hK K
              refine TlF.nil (Calm.normal ?_)
              have hend2 := hend.out W0 hW0
              clear hend y0 y1 y2 u0 u1 u2 s0 fs f0 f1 f2 hkW0 s0' u0' u1' u2'
              go_wp2
              go_roundw
              case rel => exact ⟨_, m, A, cap, qtake l' y, bs.set k true, _, _, _, by go_num, by omega, hend2, hst⟩
              case measure => simp [intOf]; omega
end Go.Proofs.Ytjejkmnlkmcckaa
