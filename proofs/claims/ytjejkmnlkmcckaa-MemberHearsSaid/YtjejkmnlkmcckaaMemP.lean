/- MemberHears walked. -/
import Derived.Test.YtjejkmnlkmcckaaMemO
import Derived.Test.YtjejkmnlkmcckaaMemK
import Derived.Test.YtjejkmnlkmcckaaFrD
namespace Go.Proofs.Ytjejkmnlkmcckaa
open Go.RowKit

/-- A frame over a line, as it came in. -/
structure CM where
  line : Int
  s : Nat
  r : Nat
  m : Nat
  A : Option Addr
  n : Nat
  c : Nat
  k0 : Int
  k1 : Int
  k2 : Int
  k3 : Int
  B : Option Addr
  q : Nat
  d : Nat
  ms : List (Int × List Int)
  rs : List Rec5
def CMat (w : World) (a : Addr) (x : CM) : Prop :=
  w.cell? a = some (.int .i64 x.line) ∧ w.cell? ⟨a.block, a.off + 1, none⟩ = some (.int .u8 x.s) ∧ w.cell? ⟨a.block, a.off + 2, none⟩ = some (.int .u32 x.r) ∧ w.cell? ⟨a.block, a.off + 3, none⟩ = some (.int .u8 x.m) ∧ w.cell? ⟨a.block, a.off + 4, none⟩ = some (.slice x.A x.n x.c) ∧
    w.cell? ⟨a.block, a.off + 5, none⟩ = some (.int .u8 x.k0) ∧ w.cell? ⟨a.block, a.off + 6, none⟩ = some (.int .u8 x.k1) ∧ w.cell? ⟨a.block, a.off + 7, none⟩ = some (.int .u16 x.k2) ∧ w.cell? ⟨a.block, a.off + 8, none⟩ = some (.int .u16 x.k3) ∧ w.cell? ⟨a.block, a.off + 9, none⟩ = some (.slice x.B x.q x.d)
def CMok (w : World) (x : CM) : Prop := x.s < 256 ∧ x.r < 4294967296 ∧ x.m < 256 ∧ MsgsAt w x.A x.n x.ms ∧ RecsAt w x.B x.q x.rs ∧ (∀ q ∈ x.ms, q.2.length ≤ 140737488351232) ∧ x.n * 32 ≤ 140737488351232 ∧ x.q * 8 ≤ 140737488351232
theorem cms_of {w : World} {b : Nat} {A : Option Addr} {len cap : Nat} {rows : List (List Value)} (h : Rows' w b [.int .i64, .int .u8, .int .u32, .int .u8, .sl 32 [.int .i64, .sl 1 [.int .u8]], .int .u8, .int .u8, .int .u16, .int .u16, .sl 8 [.int .u32, .int .u8, .int .u8, .int .u8, .int .u8]] A len cap rows) :
    ∃ cs : List CM, cs.length = len ∧ ∀ (i : Nat) x, cs[i]? = some x → (∃ a, A = some a ∧ CMat w (a.add (i * 10)) x) ∧ CMok w x := by
  have hr : ∀ r ∈ rows, ∃ x : CM, r = [.int .i64 x.line, .int .u8 x.s, .int .u32 x.r, .int .u8 x.m, .slice x.A x.n x.c, .int .u8 x.k0, .int .u8 x.k1, .int .u16 x.k2, .int .u16 x.k3, .slice x.B x.q x.d] ∧ CMok w x := fun r hr => by
    have hl := h.each r hr
    have hf := h.fits r hr
    obtain ⟨x0, r0, rfl, e0⟩ := arr_cons hl
    obtain ⟨x1, r1, rfl, e1⟩ := arr_cons e0
    obtain ⟨x2, r2, rfl, e2⟩ := arr_cons e1
    obtain ⟨x3, r3, rfl, e3⟩ := arr_cons e2
    obtain ⟨x4, r4, rfl, e4⟩ := arr_cons e3
    obtain ⟨x5, r5, rfl, e5⟩ := arr_cons e4
    obtain ⟨x6, r6, rfl, e6⟩ := arr_cons e5
    obtain ⟨x7, r7, rfl, e7⟩ := arr_cons e6
    obtain ⟨x8, r8, rfl, e8⟩ := arr_cons e7
    obtain ⟨x9, r9, rfl, e9⟩ := arr_cons e8
    obtain rfl := List.length_eq_zero_iff.1 e9
    obtain ⟨y0, rfl, h0⟩ := (hf 0 _ _ rfl rfl).int_inv
    obtain ⟨y1, rfl, h1⟩ := (hf 1 _ _ rfl rfl).int_inv
    obtain ⟨y2, rfl, h2⟩ := (hf 2 _ _ rfl rfl).int_inv
    obtain ⟨y3, rfl, h3⟩ := (hf 3 _ _ rfl rfl).int_inv
    obtain ⟨A4, n4, c4, z4, rfl, h4⟩ := (hf 4 _ _ rfl rfl).sl_inv
    obtain ⟨y5, rfl, _⟩ := (hf 5 _ _ rfl rfl).int_inv
    obtain ⟨y6, rfl, _⟩ := (hf 6 _ _ rfl rfl).int_inv
    obtain ⟨y7, rfl, _⟩ := (hf 7 _ _ rfl rfl).int_inv
    obtain ⟨y8, rfl, _⟩ := (hf 8 _ _ rfl rfl).int_inv
    obtain ⟨A9, n9, c9, z9, rfl, h9⟩ := (hf 9 _ _ rfl rfl).sl_inv
    obtain ⟨n1, rfl, g1⟩ := wf8 h1
    obtain ⟨n2, rfl, g2⟩ := wf32 h2
    obtain ⟨n3, rfl, g3⟩ := wf8 h3
    obtain ⟨ms, hms, hmo⟩ := msgs_of h4
    obtain ⟨rs, hrs, _⟩ := recs_of h9
    have hw4 := h4.wt
    have hw9 := h9.wt
    unfold reachBytes at hw4 hw9
    exact ⟨⟨y0, n1, n2, n3, A4, n4, c4, y5, y6, y7, y8, A9, n9, c9, ms, rs⟩, rfl, g1, g2, g3, hms, hrs, fun q hq => (hmo q hq).2.2, hw4, hw9⟩
  obtain ⟨cs, hcl, hc⟩ := list_of rows hr
  refine ⟨cs, by rw [hcl]; exact h.n, fun i x hi => ?_⟩
  have hlt : i < rows.length := by rw [← hcl]; exact (List.getElem?_eq_some_iff.1 hi).1
  obtain ⟨e1, hok⟩ := hc i _ x (List.getElem?_eq_getElem hlt) hi
  have hri : rows[i]? = some rows[i] := List.getElem?_eq_getElem hlt
  rw [e1] at hri
  refine ⟨?_, hok⟩
  obtain ⟨a, rfl, h0⟩ := h.cell i 0 _ _ hri rfl
  refine ⟨a, rfl, h0, ?_⟩
  have key : ∀ j v, j ≠ 0 → [Value.int .i64 x.line, .int .u8 x.s, .int .u32 x.r, .int .u8 x.m, .slice x.A x.n x.c, .int .u8 x.k0, .int .u8 x.k1, .int .u16 x.k2, .int .u16 x.k3, .slice x.B x.q x.d][j]? = some v → w.cell? ⟨(a.add (i * 10)).block, (a.add (i * 10)).off + j, none⟩ = some v := fun j v hj hv => by
    obtain ⟨a1, e, h1⟩ := h.cell i j _ _ hri hv
    injection e with e
    subst e
    rwa [← add_add, addr_lit _ _ hj] at h1
  exact ⟨key 1 _ (by decide) rfl, key 2 _ (by decide) rfl, key 3 _ (by decide) rfl, key 4 _ (by decide) rfl, key 5 _ (by decide) rfl, key 6 _ (by decide) rfl, key 7 _ (by decide) rfl, key 8 _ (by decide) rfl, key 9 _ (by decide) rfl⟩
theorem CMat.keep {w w' : World} {a : Addr} {x : CM} (h : CMat w a x) (hk : ∀ p v, w.cell? p = some v → w'.cell? p = some v) : CMat w' a x :=
  ⟨hk _ _ h.1, hk _ _ h.2.1, hk _ _ h.2.2.1, hk _ _ h.2.2.2.1, hk _ _ h.2.2.2.2.1, hk _ _ h.2.2.2.2.2.1, hk _ _ h.2.2.2.2.2.2.1, hk _ _ h.2.2.2.2.2.2.2.1, hk _ _ h.2.2.2.2.2.2.2.2.1, hk _ _ h.2.2.2.2.2.2.2.2.2⟩
theorem href_new {w w0 : World} {S : Nat → Prop} {L : List Res} (h : Own w0 S w L) (r m : Nat) (kn : Bool) : Own w0 S (w.alloc (.cells #[.int .u32 r, .int .u8 m, .bool kn, .slice none 0 0] 78)) (hrefs w.heap.size r m kn none 0 0 [] :: L) :=
  h.new _ (below_alloc (Below.refl _ _) _) ⟨heap_alloc_new w _, ⟨rfl, .inl ⟨rfl, rfl⟩⟩, rfl, fun k hk => by (cases hk), by simp⟩ fun i hi => by
    rcases hi with rfl | hi
    · exact Nat.le_refl _
    · cases hi

theorem row9 {w : World} {g : Nat} {l : List Fr} (hc : Cells w (some ⟨g, 0, none⟩) (frCells l)) {i : Nat} {x : Fr} (hx : l[i]? = some x) :
    w.cell? ⟨g, i * 9, none⟩ = some (.int .u8 x.s) ∧ w.cell? ⟨g, i * 9 + 1, none⟩ = some (.int .u32 x.r) ∧ w.cell? ⟨g, i * 9 + 2, none⟩ = some (.int .u8 x.m) ∧ w.cell? ⟨g, i * 9 + 3, none⟩ = some (.slice x.ma x.mn x.mc) ∧ w.cell? ⟨g, i * 9 + 4, none⟩ = some (.int .u8 x.k0) ∧
      w.cell? ⟨g, i * 9 + 5, none⟩ = some (.int .u8 x.k1) ∧ w.cell? ⟨g, i * 9 + 6, none⟩ = some (.int .u16 x.k2) ∧ w.cell? ⟨g, i * 9 + 7, none⟩ = some (.int .u16 x.k3) ∧ w.cell? ⟨g, i * 9 + 8, none⟩ = some (.slice x.ra x.rn x.rc) := by
  have k := fun j (hj : j < 9) v (hv : x.cells[j]? = some v) => cells_at hc ((frCells_get l i j x hx hj).trans hv)
  exact ⟨k 0 (by decide) _ rfl, k 1 (by decide) _ rfl, k 2 (by decide) _ rfl, k 3 (by decide) _ rfl, k 4 (by decide) _ rfl, k 5 (by decide) _ rfl, k 6 (by decide) _ rfl, k 7 (by decide) _ rfl, k 8 (by decide) _ rfl⟩
theorem small_of {n : Nat} (h : n * 32 ≤ 140737488351232) : n ≤ 1000000000000000 := by omega
theorem small_of2 {n : Nat} (h : n * 8 ≤ 140737488351232) : n ≤ 1000000000000000 := by omega

set_option maxRecDepth 100000 in
set_option maxHeartbeats 8000000 in
theorem memberHears_walk (g1 g2 : Int) (kn : Bool) (A0 : Option Addr) (len0 cap0 : Nat) (z0 : List (List Value)) (w : World) (h3 : (Lit.int .u32 g1).wf = true) (h4 : (Lit.int .u8 g2).wf = true)
    (h0 : Rows' w 80 [.int .i64, .int .u8, .int .u32, .int .u8, .sl 32 [.int .i64, .sl 1 [.int .u8]], .int .u8, .int .u8, .int .u16, .int .u16, .sl 8 [.int .u32, .int .u8, .int .u8, .int .u8, .int .u8]] A0 len0 cap0 z0) :
    Calls Try.prog 10 #[.agg #[.int .u32 g1, .int .u8 g2], .bool kn, .slice A0 len0 cap0] w fun e w' => e = .returned (.bool true) ∧ Below w.heap.size w w' := by
  obtain ⟨mr, rfl, hmr⟩ := wf_u32 h3
  obtain ⟨mm, rfl, hmm⟩ := wf_u8 h4
  obtain ⟨cs, hcl, hcs⟩ := cms_of h0
  have hlen0 : len0 ≤ 1000000000000000000 := by have := h0.wt; unfold reachBytes at this; omega
  clear h0 h3 h4
  replace hcl := Hidd.mk hcl
  replace hcs := Hidd.mk hcs
  have ho := Hidd.mk ((Own.nil w (fun _ => False)).alloc (.cells #[.int .u32 mr, .int .u8 mm] 50))
  go_enter Try.func10, Try.ntmps10
  go_wp2_with (first
    | (go_at_call 20; refine (awake_any _).mono ?_; rintro e w1 ⟨rfl, hb1⟩; have ho1 := Hidd.mk (ho.out.ext hb1); clear hb1 ho))
  obtain ⟨W0, hW0⟩ : ∃ zz, zz = World.drew w1 := ⟨_, rfl⟩
  refine wp_region_fork [0, 1, 3, 4, 5] 2 [true] [([7], some (6, [true, true])), ([8], none)] 6 [true] [([], some (2, [false, true])), ([7, 8], none)] (by kernel_rfl) (by kernel_rfl) (fun zz => Kept (fun _ => False) w1 zz) (Kept.drew _ _) ?_
  rw [show ({ w1 with drawn := w1.drawn + 1 } : World) = W0 from hW0.symm]
  have ho2 := Hidd.mk (show Own w (fun _ => False) W0 [blk w.heap.size (.cells #[.int .u32 mr, .int .u8 mm] 50)] by rw [hW0]; exact ho1.out.drew)
  have x0 := ho1.out.cell 0 rfl 0
  have x1 := ho1.out.cell 0 rfl 1
  have hbl := ho1.out.lt 0 rfl
  simp at x0 x1
  have hkW0 : Hidd (Kept (fun _ => False) w1 W0) := ⟨by rw [hW0]; exact Kept.drew _ _⟩
  replace hW0 := Hidd.mk hW0
  simp only [opsF, List.map_cons, List.map_nil, List.getD_cons_succ, List.getD_cons_zero, Option.map_some, Option.map_none]
  repeat (first | (refine StQ.skip (by rfl) ?_; simp only [Act.put, List.setIfInBounds_toArray, List.set_cons_zero, List.set_cons_succ]) | (refine StQ.go' (by rfl) (Exists.intro ?_ (And.intro (fun w' hS => ?_) ?_)); rotate_left; (focus (have hc := Kept.cell0 hS; go_simp; try with_reducible rfl)); simp only [Act.put, List.setIfInBounds_toArray, List.set_cons_zero, List.set_cons_succ]))
  refine StQ.nil ?_
  clear x0 x1 hbl ho1
  constructor
  case' left =>
    refine FlO.go (by rfl) (fun K hK => ?_)
    go_simp
    (refine (listen_own mr mm kn _).mono ?_; rintro e w2 ⟨bh, rfl, hn2⟩; have ho3 := Hidd.mk (ho2.out.made hn2))
    refine hK.out _ _ (.inr ⟨hkW0.out.trans hn2.kept, trivial⟩) ?_
    clear hK K
    refine FlW.stage (fun _ => True) trivial ?_
    repeat (first | (refine StQ.skip (by rfl) ?_; simp only [Act.put, List.setIfInBounds_toArray, List.set_cons_zero, List.set_cons_succ]) | (refine StQ.go' (by rfl) (Exists.intro ?_ (And.intro (fun w' hS => ?_) ?_)); rotate_left; (focus (skip; go_simp; try with_reducible rfl)); simp only [Act.put, List.setIfInBounds_toArray, List.set_cons_zero, List.set_cons_succ]))
    refine StQ.nil ?_
    refine FlO.go (by rfl) (fun K hK => ?_); go_simp; refine hK.out _ _ (.inr ⟨trivial, (hkW0.out.trans hn2.kept).trans (Kept.alloc _ _ _), trivial⟩) ?_; clear hK K
    have ho5 : Own w (fun _ => False) (w2.alloc (.cells #[.int .u32 mr, .int .u8 mm, .bool kn, .slice none 0 0] 78)) [hrefs w2.heap.size mr mm kn none 0 0 [], hres bh mr mm kn none 0 0 []] := (href_new ho3.out mr mm kn).sub (.cons_cons _ (.cons_cons _ (List.nil_sublist _)))
    clear hn2 ho3 ho2 hkW0 hW0
    generalize w2.heap.size = bw at ho5 ⊢
    generalize w2.alloc _ = W5 at ho5 ⊢
    replace ho5 := Hidd.mk ho5
  case' right =>
    refine FlO.go (by rfl) (fun K hK => ?_); go_simp; refine hK.out _ _ (.inr ⟨hkW0.out.trans (Kept.alloc _ _ _), trivial⟩) ?_; clear hK K
    have ho3 : Own w (fun _ => False) (W0.alloc (.cells #[.int .u32 mr, .int .u8 mm, .bool kn, .slice none 0 0] 78)) [hrefs W0.heap.size mr mm kn none 0 0 []] := (href_new ho2.out mr mm kn).sub (.cons_cons _ (List.nil_sublist _))
    replace ho3 := Hidd.mk ho3
    refine FlW.stage (fun _ => True) trivial (StQ.nil ?_)
    refine FlO.go (by rfl) (fun K hK => ?_)
    go_simp
    (refine (listen_own mr mm kn _).mono ?_; rintro e W5 ⟨bh, rfl, hn2⟩; have ho5 := (ho3.out.made hn2).perm (List.Perm.swap _ _ _))
    refine hK.out _ _ (.inr ⟨(hkW0.out.trans (Kept.alloc _ _ _)).trans hn2.kept, trivial⟩) ?_
    clear hK K
    clear hn2 ho3 ho2 hkW0 hW0
    generalize W0.heap.size = bw at ho5 ⊢
    replace ho5 := Hidd.mk ho5
  all_goals
    refine FlW.heads (fun zz => zz = _) rfl ?_
    repeat (first | (refine StQ.skip (by rfl) ?_; simp only [Act.put, List.setIfInBounds_toArray, List.set_cons_zero, List.set_cons_succ]) | (refine StQ.go' (by rfl) (Exists.intro ?_ (And.intro (fun w' hS => ?_) ?_)); rotate_left; (focus (rw [hS]; go_simp; try with_reducible rfl)); simp only [Act.put, List.setIfInBounds_toArray, List.set_cons_zero, List.set_cons_succ]))
    refine StQ.nil ?_
    refine FlW.nil (Calm.normal ?_)
    go_wp2
  all_goals
    obtain ⟨mx, hmx⟩ : ∃ m, min len0 60 = m := ⟨_, rfl⟩
    have hm1 : mx ≤ len0 := by omega
    have hm2 : mx ≤ 60 := by omega
    have hm3 : mx = len0 ∨ mx = 60 := by omega
    clear hmx
    go_loopw [9] (fun v9 wr => ∃ (i : Nat) (ps : List HP) (A : Option Addr) (c : Nat) (A' : Option Addr) (c' : Nat) (R : Res), v9 = .int .i64 i ∧ i ≤ mx ∧ ps.length ≤ i ∧ Hidd ((∀ p ∈ ps, p.In w) ∧ (∀ p ∈ ps, p.s < 7) ∧ Uniq (ps.map HP.f)) ∧ Hidd (∀ W, R.holds W → ∀ p ∈ ps, p.Cp W) ∧ Hidd (Own w (fun _ => False) wr [R, hrefs bw mr mm kn A' (ps.map HP.g).length c' (ps.map HP.g), hres bh mr mm kn A (ps.map HP.f).length c (ps.map HP.f)])) (fun v9 _ => mx - (intOf v9).toNat)
    case atStart => exact ⟨0, [], none, 0, none, 0, dres [], rfl, Nat.zero_le _, Nat.zero_le _, ⟨by simp, by simp, by intro x hx; simp at hx⟩, ⟨by simp⟩, ⟨dres_nil ho5.out⟩⟩
    case round =>
      clear ho5
      obtain ⟨i, ps, A, c, A', c', R, rfl, hi, hpi, hv, hR, ho⟩ := hrel
      by_cases hlt : i < mx
      · obtain ⟨x, hx⟩ : ∃ x, cs[i]? = some x := ⟨_, List.getElem?_eq_getElem (by rw [hcl.out]; omega)⟩
        obtain ⟨⟨ad, rfl, hat⟩, hs8, hr32, hm8, hms, hrs, hmo, hmn, hrn⟩ := hcs.out i x hx
        have hwr := ho.out.below (fun _ => id)
        obtain ⟨line, s, r, m, B1, n1, c1, k0, k1, k2, k3, B2, n2, c2, ms, rs⟩ := x
        simp only at hs8 hr32 hm8 hms hrs hmo hmn hrn
        have hatw := Hidd.mk hat
        obtain ⟨x0, x1, x2, x3, x4, x5, x6, x7, x8, x9⟩ := hat.keep fun p v h => vkeep hwr h
        simp only at x0 x1 x2 x3 x4 x5 x6 x7 x8 x9
        have h1 : i < len0 := by omega
        have h2 : i < 60 := by omega
        have bi0 : (0 : Int) ≤ (i : Int) := by omega
        have bi1 : (i : Int) < (len0 : Int) := by omega
        replace hms := Hidd.mk hms
        replace hrs := Hidd.mk hrs
        replace hmo := Hidd.mk hmo
        replace hmn := Hidd.mk hmn
        replace hrn := Hidd.mk hrn
        clear hx hwr
        go_wp2_with (go_at_call 34; refine (copied_res s r m k0 k1 k2 k3 B1 n1 c1 B2 n2 c2 ms rs _ (hms.out.below (ho.out.below fun _ => id)) (hrs.out.below (ho.out.below fun _ => id)) hmo.out hmn.out hrn.out).mono ?_; rintro e w6 ⟨C1, e1, C2, e2, R6, rfl, hn6, hv6⟩; have ho6 := Hidd.mk (ho.out.made hn6); replace hv6 := Hidd.mk hv6)
        obtain ⟨p, hp⟩ : ∃ p : HP, p = ⟨s, r, m, k0, k1, k2, k3, n1, n2, C1, e1, C2, e2, B1, c1, B2, c2, ms, rs⟩ := ⟨_, rfl⟩
        have hpf : p.f = ⟨s, r, m, C1, n1, e1, k0, k1, k2, k3, C2, n2, e2⟩ := by rw [hp]; rfl
        have hpg : p.g = ⟨s, r, m, B1, n1, c1, k0, k1, k2, k3, B2, n2, c2⟩ := by rw [hp]; rfl
        obtain ⟨ps', q1, q2, q3, q4, q5, q6⟩ := hp_step ps line p hv.out.2.1 hv.out.2.2
        obtain ⟨okc, hok⟩ : ∃ c, hearOk (ps.map HP.f) line p.f = c := ⟨_, rfl⟩
        have hok2 := (hp_ok ps line p).trans hok
        rw [hpf] at q1 hok
        rw [hpg] at q2 hok2
        have hok3 : Hidd (Fr.Ok ⟨s, r, m, C1, n1, e1, k0, k1, k2, k3, C2, n2, e2⟩ ∧ Fr.Ok ⟨s, r, m, B1, n1, c1, k0, k1, k2, k3, B2, n2, c2⟩) := ⟨⟨hs8, hr32, hm8⟩, ⟨hs8, hr32, hm8⟩⟩
        have hpin : Hidd (p.In w) := ⟨by rw [hp]; exact ⟨hms.out, hrs.out, small_of hmn.out, small_of2 hrn.out⟩⟩
        have hpcp : Hidd (∀ W, R6.holds W → p.Cp W) := ⟨fun W h => by rw [hp]; exact hv6.out W h⟩
        replace q1 := Hidd.mk q1
        replace q2 := Hidd.mk q2
        replace q3 := Hidd.mk q3
        replace q4 := Hidd.mk q4
        replace q5 := Hidd.mk q5
        replace hok := Hidd.mk hok
        replace hok2 := Hidd.mk hok2
        replace hp := Hidd.mk hp
        clear hpf hpg hs8 hr32 hm8 x0 x1 x2 x3 x4 x5 x6 x7 x8 x9
        have ho7 := ho6.out.alloc (.cells #[.int .u8 s, .int .u32 r, .int .u8 m, .slice C1 n1 e1, .int .u8 k0, .int .u8 k1, .int .u16 k2, .int .u16 k3, .slice C2 n2 e2] 59)
        clear ho6 ho hn6
        generalize w6.heap.size = p10 at ho7 ⊢
        generalize w6.alloc _ = w7 at ho7 ⊢
        obtain ⟨W0, hW0⟩ : ∃ zz, zz = World.drew w7 := ⟨_, rfl⟩
        refine wp_region_flow [([0, 1, 2, 6, 8, 9, 10, 14, 15, 3, 11, 16, 4, 12, 17, 5, 13, 18], some (7, [true])), ([], some (19, [false, false])), ([20], none)] (by kernel_rfl) (by kernel_rfl) ?_
        rw [show ({ w7 with drawn := w7.drawn + 1 } : World) = W0 from hW0.symm]
        replace hW0 := Hidd.mk hW0
        simp only [opsF, List.map_cons, List.map_nil, List.getD_cons_succ, List.getD_cons_zero, Option.map_some, Option.map_none]
        have ho8 := Hidd.mk (show Own w (fun _ => False) W0 [blk p10 (.cells #[.int .u8 s, .int .u32 r, .int .u8 m, .slice C1 n1 e1, .int .u8 k0, .int .u8 k1, .int .u16 k2, .int .u16 k3, .slice C2 n2 e2] 59), R6, R, hrefs bw mr mm kn A' (ps.map HP.g).length c' (ps.map HP.g), hres bh mr mm kn A (ps.map HP.f).length c (ps.map HP.f)] by rw [hW0.out]; exact ho7.drew)
        clear hW0 ho7
        have hz : Hidd (∀ W', Kept (hres bh mr mm kn A (ps.map HP.f).length c (ps.map HP.f)).foot W0 W' → CMat W' (ad.add (i * 10)) ⟨line, s, r, m, B1, n1, c1, k0, k1, k2, k3, B2, n2, c2, ms, rs⟩) := ⟨fun W' hS => hatw.out.keep (fun q v h => by
          have hlt := World.block_lt_of_cell? w _ h
          refine hS.cells (fun hf => ?_) (vkeep (ho8.out.below fun _ => id) h)
          rcases ho8.out.own _ (List.mem_of_getElem? (show _[4]? = some _ from rfl)) _ hf with h1 | h1
          · exact h1
          · exact absurd hlt (Nat.not_lt.2 h1))⟩
        refine FlW.stage (fun zz => Kept (hres bh mr mm kn A (ps.map HP.f).length c (ps.map HP.f)).foot W0 zz) (Kept.refl _ _) ?_
        repeat (first | (refine StQ.skip (by rfl) ?_; simp only [Act.put, List.setIfInBounds_toArray, List.set_cons_zero, List.set_cons_succ]) | (refine StQ.go' (by rfl) (Exists.intro ?_ (And.intro (fun w' hS => ?_) ?_)); rotate_left; (focus ((obtain ⟨⟨z0, z1, z2, z3, z4, z5, z6, z7, z8, z9⟩, y0, y1, y2, y3, y4, y5, y6, y7, y8⟩ := And.intro (hz.out _ hS) (kept9 ho8.out 0 4 rfl rfl (by decide) hS); simp only at z0 z1 z2 z3 z4 z5 z6 z7 z8 z9); go_simp; try with_reducible rfl)); simp only [Act.put, List.setIfInBounds_toArray, List.set_cons_zero, List.set_cons_succ]))
        refine StQ.nil ?_
        refine FlO.go (by rfl) (fun K hK => ?_)
        go_simp
        (refine (hear_own 0 (Own.one (ho8.out.get 4 rfl)) rfl line ⟨s, r, m, C1, n1, e1, k0, k1, k2, k3, C2, n2, e2⟩ hok3.out.1 (by rw [List.length_map]; omega) okc hok.out _ q1.out).mono ?_; rintro e w9 ⟨rfl, A9, c9, hn9⟩; have ho9 := Hidd.mk (show Own w (fun _ => False) w9 [hres bh mr mm kn A9 (ps'.map HP.f).length c9 (ps'.map HP.f), blk p10 (.cells #[.int .u8 s, .int .u32 r, .int .u8 m, .slice C1 n1 e1, .int .u8 k0, .int .u8 k1, .int .u16 k2, .int .u16 k3, .slice C2 n2 e2] 59), R6, R, hrefs bw mr mm kn A' (ps.map HP.g).length c' (ps.map HP.g)] from ho8.out.frame 4 rfl hn9))
        refine hK.out _ _ (.inr ⟨hn9.kept, trivial⟩) ?_
        clear hK K
        refine FlW.stage (fun _ => True) trivial (StQ.nil ?_)
        refine FlO.go (by rfl) (fun K hK => ?_)
        go_simp
        (refine (refHear_at 4 ho9.out rfl line ⟨s, r, m, B1, n1, c1, k0, k1, k2, k3, B2, n2, c2⟩ hok3.out.2 (by rw [List.length_map]; omega) okc hok2.out _ q2.out).mono ?_; rintro e w10 ⟨rfl, A10, c10, ho10⟩; replace ho10 := Hidd.mk (show Own w (fun _ => False) w10 [hres bh mr mm kn A9 (ps'.map HP.f).length c9 (ps'.map HP.f), blk p10 (.cells #[.int .u8 s, .int .u32 r, .int .u8 m, .slice C1 n1 e1, .int .u8 k0, .int .u8 k1, .int .u16 k2, .int .u16 k3, .slice C2 n2 e2] 59), R6, R, hrefs bw mr mm kn A10 (ps'.map HP.g).length c10 (ps'.map HP.g)] from ho10))
        refine hK.out _ _ (.inr trivial) ?_
        clear hK K
        clear ho9 hn9 ho8 hz
        refine FlW.heads (fun zz => zz = _) rfl ?_
        repeat (first | (refine StQ.skip (by rfl) ?_; simp only [Act.put, List.setIfInBounds_toArray, List.set_cons_zero, List.set_cons_succ]) | (refine StQ.go' (by rfl) (Exists.intro ?_ (And.intro (fun w' hS => ?_) ?_)); rotate_left; (focus (rw [hS]; go_simp; try with_reducible rfl)); simp only [Act.put, List.setIfInBounds_toArray, List.set_cons_zero, List.set_cons_succ]))
        refine StQ.nil ?_
        refine FlW.nil (Calm.normal ?_)
        have hend : Own w (fun _ => False) w10 [R6.both R, hrefs bw mr mm kn A10 (ps'.map HP.g).length c10 (ps'.map HP.g), hres bh mr mm kn A9 (ps'.map HP.f).length c9 (ps'.map HP.f)] := by
          have h1 := (ho10.out.sub (.cons_cons _ (.cons _ (List.Sublist.refl _)))).perm (M := [R6, R, hrefs bw mr mm kn A10 (ps'.map HP.g).length c10 (ps'.map HP.g), hres bh mr mm kn A9 (ps'.map HP.f).length c9 (ps'.map HP.f)]) (List.perm_append_comm (l₁ := [R6, R, hrefs bw mr mm kn A10 (ps'.map HP.g).length c10 (ps'.map HP.g)]) (l₂ := [hres bh mr mm kn A9 (ps'.map HP.f).length c9 (ps'.map HP.f)]))
          exact h1.both
        replace hend := Hidd.mk hend
        clear ho10
        go_wp2
        go_roundw
        case rel =>
          refine ⟨i + 1, ps', A9, c9, A10, c10, R6.both R, by go_num, by omega, by omega, ⟨fun q hq => ?_, q3.out, q4.out⟩, ⟨fun W hW q hq => ?_⟩, hend⟩
          · rcases q5.out q hq with h | rfl
            · exact hv.out.1 q h
            · exact hpin.out
          · rcases q5.out q hq with h | rfl
            · exact hR.out W hW.2 q h
            · exact hpcp.out W hW.1
        case measure => (simp [intOf]; try omega)
      · obtain rfl : i = mx := by omega
        obtain ⟨rr, m2, ok, M, fl, e1, e2, e3, e4, e5, e6, e7, e8, e9⟩ := hp_end ps hv.out.2.1 hv.out.2.2 mr mm kn
        obtain ⟨nf, hnf⟩ : ∃ nf, fl.length = nf := ⟨_, rfl⟩
        have hnb : nf ≤ 420 := by omega
        replace e1 := Hidd.mk e1
        replace e2 := Hidd.mk e2
        replace e3 := Hidd.mk e3
        replace e4 := Hidd.mk e4
        replace e5 := Hidd.mk e5
        replace e6 := Hidd.mk e6
        replace e7 := Hidd.mk e7
        replace hnf := Hidd.mk hnf
        have hm4 : (¬ i < len0) ∨ (i < len0 ∧ decide ((i : Int) < 60) = false) := by
          by_cases h2 : i < len0
          · exact .inr ⟨h2, by rw [decide_eq_false_iff_not]; omega⟩
          · exact .inl h2
        clear hm3 hlt e9
        rcases hm4 with hd1 | ⟨hd1, hd2⟩
        all_goals go_wp2_with (first
          | (go_at_call 23; refine (right_at 2 ho.out rfl (by rw [List.length_map]; omega) rr m2 ok e1.out).mono ?_; rintro e w8 ⟨rfl, ho8⟩; replace ho8 := Hidd.mk (ho8.alloc (.cells #[.int .u32 rr, .int .u8 m2] 50)); clear ho)
          | (go_at_call 36; refine (refRight_at 2 ho8.out rfl (by rw [List.length_map]; omega) rr m2 ok e2.out).mono ?_; rintro e w9 ⟨rfl, ho9⟩; replace ho9 := Hidd.mk (ho9.alloc (.cells #[.int .u32 rr, .int .u8 m2] 50)); clear ho8)
          | (go_at_call 37; refine (refFrames_at 3 ho9.out rfl (by rw [List.length_map]; omega) rr m2 ok e2.out _ e5.out).mono ?_; rintro e w10 ⟨B10, c10, rfl, ho10⟩; rw [e6.out]; rw [List.length_map, hnf.out] at ho10 ⊢; replace ho10 := Hidd.mk ho10; clear ho9)
          | (go_at_call 38; refine (frames_own 5 ho10.out rfl (by rw [List.length_map]; omega) rr m2 ok e1.out M e3.out _ e4.out).mono ?_; rintro e w11 ⟨B11, c11, rfl, ho11⟩; rw [List.length_map, hnf.out] at ho11 ⊢; have x0 := ho11.cell 2 rfl 0; have x1 := ho11.cell 2 rfl 1; have y0 := ho11.cell 3 rfl 0; have y1 := ho11.cell 3 rfl 1; simp at x0 x1 y0 y1; replace ho11 := Hidd.mk ho11; clear ho10)
          | (go_at_call 24; refine (members_at 6 ho11.out rfl (by rw [List.length_map]; omega) rr m2 ok e1.out M e3.out).mono ?_; rintro e w12 ⟨rfl, ho12⟩; replace ho12 := Hidd.mk (show Own w (fun _ => False) w12 [row 59 9 (.slice B11 nf c11) nf (frCells (fl.map HP.f)), row 59 9 (.slice B10 nf c10) nf (frCells (fl.map HP.g)), R] from (ho12.sub (.cons_cons _ (.cons_cons _ (.cons _ (.cons _ (.cons_cons _ (List.nil_sublist _)))))))); clear ho11))
        all_goals clear x0 x1 y0 y1
        all_goals go_loopw [105] (fun v105 wr => ∃ j : Nat, v105 = .int .i64 j ∧ j ≤ nf ∧ Hidd (Own w (fun _ => False) wr [row 59 9 (.slice B11 nf c11) nf (frCells (fl.map HP.f)), row 59 9 (.slice B10 nf c10) nf (frCells (fl.map HP.g)), R])) (fun v105 _ => nf - (intOf v105).toNat)
        all_goals first
          | (case atStart => exact ⟨0, rfl, Nat.zero_le _, ho12⟩)
          | skip
        all_goals skip
        all_goals (case round =>
          clear ho12
          obtain ⟨j, rfl, hj, ho⟩ := hrel
          by_cases hjt : j < nf
          · obtain ⟨p, hp⟩ : ∃ p, fl[j]? = some p := ⟨_, List.getElem?_eq_getElem (by rw [hnf.out]; exact hjt)⟩
            have hpm := e7.out p (List.mem_of_getElem? hp)
            have hin := Hidd.mk (hv.out.1 p hpm)
            have hcp : Hidd (∀ W, R.holds W → p.Cp W) := ⟨fun W hW => hR.out W hW p hpm⟩
            have hf : (fl.map HP.f)[j]? = some p.f := by rw [List.getElem?_map, hp]; rfl
            have hg : (fl.map HP.g)[j]? = some p.g := by rw [List.getElem?_map, hp]; rfl
            obtain ⟨gF, rfl, _⟩ := head_any (show World.ownsRow _ 0 59 9 (.slice B11 nf c11) nf (frCells (fl.map HP.f)) from ho.out.get 0 rfl) (by omega)
            obtain ⟨gG, rfl, _⟩ := head_any (show World.ownsRow _ 0 59 9 (.slice B10 nf c10) nf (frCells (fl.map HP.g)) from ho.out.get 1 rfl) (by omega)
            have hf9 := Hidd.mk hf
            have hg9 := Hidd.mk hg
            clear hpm hp hf hg
            obtain ⟨s, r, m, k0, k1, k2, k3, n1, n2, C1, f1, C2, f2, D1, d1, D2, d2, ms, rs⟩ := p
            have bj0 : (0 : Int) ≤ (j : Int) := by omega
            have bj1 : (j : Int) < (nf : Int) := by omega
            go_wp2
            obtain ⟨W0, hW0⟩ : ∃ zz, zz = World.drew wr := ⟨_, rfl⟩
            refine wp_region_flow [([0, 1, 4, 5, 2, 6, 3, 7], some (8, [false])), ([9], none)] (by kernel_rfl) (by kernel_rfl) ?_
            rw [show ({ wr with drawn := wr.drawn + 1 } : World) = W0 from hW0.symm]
            replace hW0 := Hidd.mk hW0
            simp only [opsF, List.map_cons, List.map_nil, List.getD_cons_succ, List.getD_cons_zero, Option.map_some, Option.map_none]
            have ho2 := Hidd.mk (show Own w (fun _ => False) W0 [row 59 9 (.slice (some ⟨gF, 0, none⟩) nf c11) nf (frCells (fl.map HP.f)), row 59 9 (.slice (some ⟨gG, 0, none⟩) nf c10) nf (frCells (fl.map HP.g)), R] by rw [hW0.out]; exact ho.out.drew)
            clear hW0 ho
            obtain ⟨x0, x1, x2, x3, x4, x5, x6, x7, x8⟩ := row9 (row_cells ho2.out 0 rfl) hf9.out
            obtain ⟨y0, y1, y2, y3, y4, y5, y6, y7, y8⟩ := row9 (row_cells ho2.out 1 rfl) hg9.out
            simp only [HP.f] at x0 x1 x2 x3 x4 x5 x6 x7 x8
            simp only [HP.g] at y0 y1 y2 y3 y4 y5 y6 y7 y8
            refine FlW.stage (fun zz => zz = _) rfl ?_
            repeat (first | (refine StQ.skip (by rfl) ?_; simp only [Act.put, List.setIfInBounds_toArray, List.set_cons_zero, List.set_cons_succ]) | (refine StQ.go' (by rfl) (Exists.intro ?_ (And.intro (fun w' hS => ?_) ?_)); rotate_left; (focus (rw [hS]; go_simp; try with_reducible rfl)); simp only [Act.put, List.setIfInBounds_toArray, List.set_cons_zero, List.set_cons_succ]))
            refine StQ.nil ?_
            refine FlO.go (by rfl) (fun K hK => ?_)
            go_simp
            (refine (same_any s r m k0 k1 k2 k3 C1 D1 n1 f1 d1 C2 D2 n2 f2 d2 ms rs _ (hcp.out _ (ho2.out.get 2 rfl)).1 (hin.out.a.below (ho2.out.below fun _ => id)) (hcp.out _ (ho2.out.get 2 rfl)).2 (hin.out.b.below (ho2.out.below fun _ => id)) hin.out.n hin.out.q).mono ?_; rintro e w5 ⟨rfl, hb5⟩; have ho5 := Hidd.mk (ho2.out.ext hb5))
            refine hK.out _ _ (.inr trivial) ?_
            clear hK K
            clear x0 x1 x2 x3 x4 x5 x6 x7 x8 y0 y1 y2 y3 y4 y5 y6 y7 y8 ho2 hb5
            refine FlW.heads (fun zz => zz = _) rfl ?_
            repeat (first | (refine StQ.skip (by rfl) ?_; simp only [Act.put, List.setIfInBounds_toArray, List.set_cons_zero, List.set_cons_succ]) | (refine StQ.go' (by rfl) (Exists.intro ?_ (And.intro (fun w' hS => ?_) ?_)); rotate_left; (focus (rw [hS]; go_simp; try with_reducible rfl)); simp only [Act.put, List.setIfInBounds_toArray, List.set_cons_zero, List.set_cons_succ]))
            refine StQ.nil ?_
            refine FlW.nil (Calm.normal ?_)
            go_wp2
            go_roundw
            case rel => exact ⟨j + 1, by go_num, by omega, ho5⟩
            case measure => (simp [intOf]; try omega)
          · obtain rfl : j = nf := by omega
            go_wp2
            go_ret
            exact ⟨rfl, ho.out.below fun _ => id⟩)
end Go.Proofs.Ytjejkmnlkmcckaa
