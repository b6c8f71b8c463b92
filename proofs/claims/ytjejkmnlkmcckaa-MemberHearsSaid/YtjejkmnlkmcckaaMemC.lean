/- What a node has heard, as a thing in memory; Listen, Hear. -/
import Derived.Test.YtjejkmnlkmcckaaMemB
import Derived.Test.YtjejkmnlkmcckaaApp
namespace Go.Proofs.Ytjejkmnlkmcckaa
open Go.RowKit

/-- A frame's cells. -/
structure Fr where
  s : Nat
  r : Nat
  m : Nat
  ma : Option Addr
  mn : Nat
  mc : Nat
  k0 : Int
  k1 : Int
  k2 : Int
  k3 : Int
  ra : Option Addr
  rn : Nat
  rc : Nat
def Fr.cells (x : Fr) : List Value := [.int .u8 x.s, .int .u32 x.r, .int .u8 x.m, .slice x.ma x.mn x.mc, .int .u8 x.k0, .int .u8 x.k1, .int .u16 x.k2, .int .u16 x.k3, .slice x.ra x.rn x.rc]
structure Fr.Ok (x : Fr) : Prop where
  s : x.s < 256
  r : x.r < 4294967296
  m : x.m < 256
theorem Fr.one (x : Fr) : ∀ u ∈ x.cells, u.oneCell' = true := by
  intro u hu
  simp [Fr.cells] at hu
  rcases hu with rfl | rfl | rfl | rfl | rfl | rfl | rfl | rfl | rfl <;> rfl
def frCells (l : List Fr) : List Value := l.flatMap Fr.cells
theorem frCells_append (l m : List Fr) : frCells (l ++ m) = frCells l ++ frCells m := by simp [frCells]
theorem frCells_get : ∀ (l : List Fr) (i j : Nat) (x : Fr), l[i]? = some x → j < 9 → (frCells l)[i * 9 + j]? = x.cells[j]?
  | [], i, j, x, h, _ => by simp at h
  | y :: l, 0, j, x, h, hj => by
    injection h with h
    subst h
    rw [frCells, List.flatMap_cons, List.getElem?_append_left (by simp [Fr.cells]; omega), Nat.zero_mul, Nat.zero_add]
  | y :: l, i + 1, j, x, h, hj => by
    rw [frCells, List.flatMap_cons, List.getElem?_append_right (by simp [Fr.cells]; omega), show (i + 1) * 9 + j - y.cells.length = i * 9 + j by simp [Fr.cells]; omega]
    exact frCells_get l i j x (by simpa using h) hj

/-- What is heard, at block b. -/
structure HIn (w : World) (b : Nat) (r m : Nat) (kn : Bool) (A : Option Addr) (len cap : Nat) (l : List Fr) : Prop where
  blk : w.heap[b]? = some (.cells #[.int .u32 r, .int .u8 m, .bool kn, .slice A len cap] 101 (0, 0))
  own : w.ownsRow 0 59 9 (.slice A len cap) len (frCells l)
  ll : l.length = len
  ne : ∀ k, (Value.slice A len cap).ownBlock = some k → k ≠ b
  ok : ∀ x ∈ l, x.Ok
def hres (b r m : Nat) (kn : Bool) (A : Option Addr) (len cap : Nat) (l : List Fr) : Res :=
  ⟨fun i => i = b ∨ (Value.slice A len cap).ownBlock = some i, fun w => HIn w b r m kn A len cap l,
   fun w h i hi => by
    rcases hi with rfl | hi
    · exact (Array.getElem?_eq_some_iff.1 h.blk).1
    · exact own_lt h.own i hi,
   fun w w' h k => ⟨(k b (.inl rfl)).trans h.blk, ownsRow_loc h.own fun i hi => k i (.inr hi), h.ll, h.ne, h.ok⟩⟩
section
variable {w : World} {b r m : Nat} {kn : Bool} {A : Option Addr} {len cap : Nat} {l : List Fr}
theorem HIn.cell (h : HIn w b r m kn A len cap l) : w.cell? ⟨b, 0, none⟩ = some (.int .u32 r) ∧ w.cell? ⟨b, 1, none⟩ = some (.int .u8 m) ∧ w.cell? ⟨b, 2, none⟩ = some (.bool kn) ∧ w.cell? ⟨b, 3, none⟩ = some (.slice A len cap) :=
  ⟨cell_of_row w b 0 _ _ _ h.blk, cell_of_row w b 1 _ _ _ h.blk, cell_of_row w b 2 _ _ _ h.blk, cell_of_row w b 3 _ _ _ h.blk⟩
theorem HIn.fr (h : HIn w b r m kn A len cap l) (j : Nat) : w.frozen? ⟨b, j, none⟩ = false := frozen_of_row w b j _ _ h.blk
theorem HIn.lt (h : HIn w b r m kn A len cap l) : b < w.heap.size := (Array.getElem?_eq_some_iff.1 h.blk).1
theorem HIn.below {w' : World} (h : HIn w b r m kn A len cap l) (hB : Below w.heap.size w w') : HIn w' b r m kn A len cap l :=
  (hres b r m kn A len cap l).loc w w' h fun i hi => hB.block i ((hres b r m kn A len cap l).lt w h i hi)
theorem HIn.form (h : HIn w b r m kn A len cap l) (hl : 0 < len) : ∃ g, A = some ⟨g, 0, none⟩ := by
  rcases h.own.2 with ⟨_, h0⟩ | ⟨g, c, cur, e, _⟩
  · omega
  · injection e with e; exact ⟨g, e⟩
theorem HIn.at_ {g : Nat} (h : HIn w b r m kn (some ⟨g, 0, none⟩) len cap l) {i : Nat} {x : Fr} (hx : l[i]? = some x) :
    w.cell? ⟨g, i * 9, none⟩ = some (.int .u8 x.s) ∧ w.cell? ⟨g, i * 9 + 1, none⟩ = some (.int .u32 x.r) ∧ w.cell? ⟨g, i * 9 + 2, none⟩ = some (.int .u8 x.m) ∧ w.cell? ⟨g, i * 9 + 3, none⟩ = some (.slice x.ma x.mn x.mc) ∧ w.cell? ⟨g, i * 9 + 4, none⟩ = some (.int .u8 x.k0) ∧
      w.cell? ⟨g, i * 9 + 5, none⟩ = some (.int .u8 x.k1) ∧ w.cell? ⟨g, i * 9 + 6, none⟩ = some (.int .u16 x.k2) ∧ w.cell? ⟨g, i * 9 + 7, none⟩ = some (.int .u16 x.k3) ∧ w.cell? ⟨g, i * 9 + 8, none⟩ = some (.slice x.ra x.rn x.rc) := by
  have hi : i < len := by rw [← h.ll]; exact (List.getElem?_eq_some_iff.1 hx).1
  have hc := fun j (hj : j < 9) => (h.own.cellAt (i * 9 + j) (by omega)).trans (frCells_get l i j x hx hj)
  exact ⟨hc 0 (by decide), hc 1 (by decide), hc 2 (by decide), hc 3 (by decide), hc 4 (by decide), hc 5 (by decide), hc 6 (by decide), hc 7 (by decide), hc 8 (by decide)⟩
end

theorem listen_own (r m : Nat) (kn : Bool) (w : World) : Calls Try.prog 21 #[.agg #[.int .u32 r, .int .u8 m], .bool kn] w fun e w' => ∃ b, e = .returned (.pointer (some ⟨b, 0, none⟩)) ∧ Own w (fun _ => False) w' [hres b r m kn none 0 0 []] := by
  go_enter Try.func21, Try.ntmps21
  go_wp2
  go_ret
  refine ⟨_, rfl, Kept.below (below_alloc (below_alloc (Below.refl _ _) _) _), ?_, by simp, ?_⟩
  · intro x hx
    obtain rfl := List.mem_singleton.1 hx
    refine ⟨?_, ⟨by simp [frCells], .inl ⟨rfl, rfl⟩⟩, rfl, fun k h => (by cases h), by simp⟩
    have h := heap_alloc_new (w.alloc (.cells #[.int .u32 r, .int .u8 m] 50)) (.cells #[.int .u32 r, .int .u8 m, .bool kn, .slice none 0 0] 101)
    rwa [World.size_alloc] at h
  · intro x hx i hi
    obtain rfl := List.mem_singleton.1 hx
    rcases hi with rfl | hi
    · exact .inr (by omega)
    · cases hi

def hearOk (l : List Fr) (line : Int) (f : Fr) : Bool := decide (0 ≤ line ∧ line < 7 ∧ (f.s : Int) = line ∧ ∀ g ∈ l, g.s ≠ f.s)
theorem set_self {α : Type} {l : List α} {k : Nat} {x : α} (h : l[k]? = some x) : l.set k x = l := by
  obtain ⟨h1, rfl⟩ := List.getElem?_eq_some_iff.1 h
  exact List.set_getElem_self h1
theorem info_fr : (Try.prog.info? 59).map (fun i => (i.zero, i.size, i.bytes)) = some (some (.agg #[.int .u8 0, .int .u32 0, .int .u8 0, .slice none 0 0, .int .u8 0, .int .u8 0, .int .u16 0, .int .u16 0, .slice none 0 0]), 9, 72) := by kernel_rfl

def heardL (l : List Fr) (line : Int) (f : Fr) : List Fr := if hearOk l line f = true then l ++ [f] else l
theorem u8_int {n : Nat} (h : n < 256) : wrap64 (n : Int) = n := by unfold wrap64; omega
theorem hear_grow {W W3 : World} {b r m : Nat} {kn : Bool} {A : Option Addr} {len cap g cap' : Nat} {l : List Fr} {f : Fr} (h : HIn W b r m kn A len cap l) (hf : f.Ok)
    (hk : Kept (fun i => (Value.slice A len cap).ownBlock = some i) W W3) (ho : W3.ownsRow 0 59 9 (.slice (some ⟨g, 0, none⟩) (len + 1) cap') (len + 1) (frCells l ++ f.cells)) (hat : (Value.slice A len cap).ownBlock = some g ∨ W.heap.size ≤ g) :
    HIn (W3.setCell ⟨b, 3, none⟩ (.slice (some ⟨g, 0, none⟩) (len + 1) cap')) b r m kn (some ⟨g, 0, none⟩) (len + 1) cap' (l ++ [f]) ∧
    Kept (fun i => i = b ∨ (Value.slice A len cap).ownBlock = some i) W (W3.setCell ⟨b, 3, none⟩ (.slice (some ⟨g, 0, none⟩) (len + 1) cap')) := by
  have hgb : g ≠ b := by
    rcases hat with e | e
    · exact h.ne g e
    · have := h.lt; omega
  refine ⟨⟨?_, ?_, by rw [List.length_append, h.ll]; rfl, fun k e => ?_, fun x hx => ?_⟩, (hk.weak fun i h => .inr h).trans (Kept.setCell _ _ _ (.inl rfl))⟩
  · exact heap_setCell_same W3 b 3 _ _ _ (hk.row (fun e => h.ne b e rfl) h.blk)
  · rw [frCells_append, show frCells [f] = f.cells by simp [frCells]]
    exact own_far ho (fun e => hgb (by injection e with e; exact e.symm)) _
  · injection e with e
    rw [← e]
    exact hgb
  · rcases List.mem_append.1 hx with hx | hx
    · exact h.ok x hx
    · obtain rfl := List.mem_singleton.1 hx
      exact hf

set_option maxRecDepth 100000 in
set_option maxHeartbeats 4000000 in
theorem hear_at {w0 w : World} {S : Nat → Prop} {L : List Res} {b r m : Nat} {kn : Bool} {A : Option Addr} {len cap : Nat} {l : List Fr} (k : Nat) (hO : Own w0 S w L) (hk : L[k]? = some (hres b r m kn A len cap l)) (line : Int) (f : Fr) (hf : f.Ok) (hl : len ≤ 1000)
    (c : Bool) (hc : hearOk l line f = c) (l' : List Fr) (hl' : heardL l line f = l') :
    Calls Try.prog 22 #[.pointer (some ⟨b, 0, none⟩), .int .i64 line, .agg #[.int .u8 f.s, .int .u32 f.r, .int .u8 f.m, .slice f.ma f.mn f.mc, .int .u8 f.k0, .int .u8 f.k1, .int .u16 f.k2, .int .u16 f.k3, .slice f.ra f.rn f.rc]] w fun e w' => e = .returned (.bool c) ∧
      ∃ A' len' cap', Own w0 S w' (L.set k (hres b r m kn A' len' cap' l')) := by
  have hno : Hidd (hearOk l line f = false → c = false ∧ ∀ w', Below w.heap.size w w' → Own w0 S w' (L.set k (hres b r m kn A len cap l'))) := ⟨fun h => by
    refine ⟨by rw [← hc, h], fun w' hB => ?_⟩
    have : l' = l := by rw [← hl']; unfold heardL; rw [if_neg (by rw [h]; decide)]
    rw [this, set_self hk]
    exact hO.ext hB⟩
  have hfs := hf.s
  by_cases hbad : ¬ (0 ≤ line ∧ line < 7 ∧ (f.s : Int) = line)
  · obtain ⟨rfl, hs⟩ := hno.out (by unfold hearOk; rw [decide_eq_false_iff_not]; exact fun h => hbad ⟨h.1, h.2.1, h.2.2.1⟩)
    replace hs := Hidd.mk hs
    obtain ⟨fs, fr, fm, fma, fmn, fmc, fk0, fk1, fk2, fk3, fra, frn, frc⟩ := f
    simp only at hbad hfs
    have hgo : ∀ G : Prop, (line < 0 → G) → (¬ line < 0 → ¬ line < 7 → G) → (0 ≤ line → line < 7 → (fs : Int) ≠ line → G) → G := fun G g1 g2 g3 => by
      by_cases h0 : line < 0
      · exact g1 h0
      · by_cases h7 : line < 7
        · exact g3 (by omega) h7 (fun e => hbad ⟨by omega, h7, e⟩)
        · exact g2 h0 h7
    have hwf := u8_int hfs
    clear hbad hO hk hf hl hc hl' hno
    refine hgo _ (fun h => ?ca) (fun h h1 => ?cb) (fun h h1 h2 => ?cc)
    all_goals clear hgo
    case' ca =>
      have d1 : decide (line < 0) = true := by rw [decide_eq_true_eq]; exact h
      clear h
    case' cb =>
      have d1 : decide (line < 0) = false := by rw [decide_eq_false_iff_not]; exact h
      have d2 : decide (7 ≤ line) = true := by rw [decide_eq_true_eq]; omega
      clear h h1
    case' cc =>
      have d1 : decide (line < 0) = false := by rw [decide_eq_false_iff_not]; omega
      have d2 : decide (7 ≤ line) = false := by rw [decide_eq_false_iff_not]; omega
      have d3 : ((fs : Int) != line) = true := by rw [bne_iff_ne]; exact h2
      clear h h1 h2
    all_goals
      go_enter Try.func22, Try.ntmps22
      go_wp2
      go_ret
      exact ⟨rfl, A, len, cap, hs.out _ (below_alloc (Below.refl _ _) _)⟩
  · obtain ⟨h0, h7, hsl⟩ := Decidable.not_not.1 hbad
    clear hbad
    subst hsl
    have hyes : Hidd ((∀ (j : Nat) (g : Fr), l[j]? = some g → g.s ≠ f.s) → c = true ∧ l' = l ++ [f]) := ⟨fun h => by
      have ht : hearOk l f.s f = true := by
        unfold hearOk
        rw [decide_eq_true_eq]
        refine ⟨h0, h7, rfl, fun g hg => ?_⟩
        obtain ⟨j, hj⟩ := List.mem_iff_getElem?.1 hg
        exact h j g hj
      exact ⟨by rw [← hc, ht], by rw [← hl']; unfold heardL; rw [if_pos ht]⟩⟩
    replace hno : Hidd (∀ (j : Nat) (g : Fr), l[j]? = some g → g.s = f.s → c = false ∧ l' = l) := ⟨fun j g hg e => by
      have h : hearOk l f.s f = false := by
        unfold hearOk
        rw [decide_eq_false_iff_not]
        exact fun h => h.2.2.2 g (List.mem_of_getElem? hg) e
      exact ⟨(hno.out h).1, by rw [← hl']; unfold heardL; rw [if_neg (by rw [h]; decide)]⟩⟩
    have hok := Hidd.mk hf
    have hH : HIn w b r m kn A len cap l := hO.get k hk
    have hll := Hidd.mk hH.ll
    have hO1 := Hidd.mk (hO.alloc (.cells #[.int .u8 f.s, .int .u32 f.r, .int .u8 f.m, .slice f.ma f.mn f.mc, .int .u8 f.k0, .int .u8 f.k1, .int .u16 f.k2, .int .u16 f.k3, .slice f.ra f.rn f.rc] 59))
    have hk1 := Hidd.mk hk
    clear hc hl' hf hk hO
    have d1 : decide ((f.s : Int) < 0) = false := by rw [decide_eq_false_iff_not]; omega
    have d2 : decide (7 ≤ (f.s : Int)) = false := by rw [decide_eq_false_iff_not]; omega
    have hwf := u8_int hfs
    obtain ⟨fs, fr, fm, fma, fmn, fmc, fk0, fk1, fk2, fk3, fra, frn, frc⟩ := f
    simp only at hfs d1 d2 hwf hO1 hyes hno
    clear h0 h7
    obtain ⟨c0, c1, c2, c3⟩ := hH.cell
    have hsz := hH.lt
    clear hH c0 c1 c2
    go_enter Try.func22, Try.ntmps22
    go_wp2
    clear c3 hsz
    generalize w.heap.size = pf at hO1 ⊢
    generalize w.alloc _ = w1 at hO1 ⊢
    go_loopw [31] (fun v31 wr => ∃ i : Nat, v31 = .int .i64 i ∧ i ≤ len ∧ Hidd (∀ (j : Nat) (g : Fr), l[j]? = some g → j < i → g.s ≠ fs) ∧ Hidd (Own w0 S wr (blk pf (.cells #[.int .u8 fs, .int .u32 fr, .int .u8 fm, .slice fma fmn fmc, .int .u8 fk0, .int .u8 fk1, .int .u16 fk2, .int .u16 fk3, .slice fra frn frc] 59) :: L))) (fun v31 _ => len - (intOf v31).toNat)
    case atStart => exact ⟨0, rfl, Nat.zero_le _, ⟨fun j g _ h => by omega⟩, hO1⟩
    case round =>
      clear hO1
      obtain ⟨i, rfl, hi, hne, ho⟩ := hrel
      have hH : HIn wr b r m kn A len cap l := ho.out.get (k + 1) hk1.out
      by_cases hlt : i < len
      · obtain ⟨x, hx⟩ : ∃ x, l[i]? = some x := ⟨_, List.getElem?_eq_getElem (by rw [hll.out]; exact hlt)⟩
        obtain ⟨g, rfl⟩ := hH.form (by omega)
        obtain ⟨x0, x1, x2, x3, x4, x5, x6, x7, x8⟩ := hH.at_ hx
        have p0 := ho.out.cell 0 rfl 0
        have hpf := ho.out.lt 0 rfl
        simp at p0
        clear hH
        by_cases he : x.s = fs
        · obtain ⟨rfl, rfl⟩ := hno.out i x hx he
          have hee : ((x.s : Int) == (fs : Int)) = true := by rw [he]; exact beq_self_eq_true _
          clear hx he
          go_wp2
          go_ret
          exact ⟨rfl, some ⟨g, 0, none⟩, len, cap, by rw [set_self hk1.out]; exact (ho.out.alloc _).tail.tail⟩
        · have hee : ((x.s : Int) == (fs : Int)) = false := by rw [beq_eq_false_iff_ne]; omega
          have hxx := Hidd.mk hx
          have hen := Hidd.mk he
          clear hx he
          go_wp2
          go_roundw
          case rel => exact ⟨i + 1, by go_num, by omega, ⟨fun j y hj hji => by
            rcases Nat.lt_succ_iff_lt_or_eq.1 hji with h | rfl
            · exact hne.out j y hj h
            · have := hxx.out.symm.trans hj; injection this with this; rw [← this]; exact hen.out⟩, ⟨(ho.out.alloc _).tail⟩⟩
          case measure => simp [intOf]; omega
      · obtain rfl : i = len := by omega
        obtain ⟨rfl, rfl⟩ := hyes.out fun j y hj => hne.out j y hj (by rw [← hll.out]; exact (List.getElem?_eq_some_iff.1 hj).1)
        obtain ⟨T, hT⟩ : ∃ T : Nat → Prop, T = fun q => (Value.slice A i cap).ownBlock = some q := ⟨_, rfl⟩
        have hTb : ¬ T b := by rw [hT]; exact fun e => hH.ne b e rfl
        have hTp : ¬ T pf := by rw [hT]; exact fun e => ho.out.apart 0 (k + 1) rfl hk1.out (by omega) pf rfl (.inr e)
        have hbl := hH.lt
        have hpl := ho.out.lt 0 rfl
        obtain ⟨c0, c1, c2, c3⟩ := hH.cell
        have f3 := hH.fr 3
        have p0 := ho.out.cell 0 rfl 0
        have p1 := ho.out.cell 0 rfl 1
        have p2 := ho.out.cell 0 rfl 2
        have p3 := ho.out.cell 0 rfl 3
        have p4 := ho.out.cell 0 rfl 4
        have p5 := ho.out.cell 0 rfl 5
        have p6 := ho.out.cell 0 rfl 6
        have p7 := ho.out.cell 0 rfl 7
        have p8 := ho.out.cell 0 rfl 8
        simp at p0 p1 p2 p3 p4 p5 p6 p7 p8
        replace hH := Hidd.mk hH
        replace hT := Hidd.mk hT
        obtain ⟨i0, hi0⟩ := info_parts info_fr
        replace hi0 := Hidd.mk hi0
        clear c0 c1 c2 hyes hno hne
        go_wp2
        obtain ⟨W0, hW0⟩ : ∃ zz, zz = World.drew wr := ⟨_, rfl⟩
        refine wp_region_mix (fun zz => Kept T wr zz) [0, 1, 2, 3, 4, 5] [(6, true), (7, true), (8, false), (9, false), (10, false)] (by kernel_rfl) (by kernel_rfl) (Kept.drew _ _) ?_
        rw [show ({ wr with drawn := wr.drawn + 1 } : World) = W0 from hW0.symm]
        replace hW0 := Hidd.mk hW0
        simp only [List.map_cons, List.map_nil, List.getD_cons_succ, List.getD_cons_zero]
        have hkW0 : Hidd (Kept T wr W0) := ⟨by rw [hW0.out]; exact Kept.drew _ _⟩
        repeat (first | (refine StQ.skip (by rfl) ?_; simp only [Act.put, List.setIfInBounds_toArray, List.set_cons_zero, List.set_cons_succ]) | (refine StQ.go' (by rfl) (Exists.intro ?_ (And.intro (fun w' hS => ?_) ?_)); rotate_left; (focus (have hc := Kept.cellAt hS; go_simp; try with_reducible rfl)); simp only [Act.put, List.setIfInBounds_toArray, List.set_cons_zero, List.set_cons_succ]))
        refine StQ.nil ?_
        refine TlF.go (by rfl) (fun K hK => ?_); go_simp; refine hK.out _ _ (fun _ => hkW0.out.trans (Kept.alloc _ _ _)) ?_; clear hK K
        have hrow : (W0.alloc (.cells #[.int .u8 fs, .int .u32 fr, .int .u8 fm, .slice fma fmn fmc, .int .u8 fk0, .int .u8 fk1, .int .u16 fk2, .int .u16 fk3, .slice fra frn frc] 59)).ownsRow 0 59 9 (.slice A i cap) i (frCells l) := by rw [hW0.out]; exact own_below hH.out.own (below_alloc (Below.refl _ _).drew _)
        have hsz0 : W0.heap.size = wr.heap.size := by rw [hW0.out]; rfl
        refine TlF.go (by rfl) (fun K hK => ?_)
        refine wp_append_lies _ (.tmp 45) (.tmp 47) 76 (by rfl) 0 59 i0 _ 9 72 Try.underlying76 hi0.out.1 hi0.out.2.1 hi0.out.2.2.1 hi0.out.2.2.2 (by rfl) (by decide) (.slice A i cap) i (frCells l) (by rfl) hrow ⟨W0.heap.size, 0, none⟩ 1 1 [.int .u8 fs, .int .u32 fr, .int .u8 fm, .slice fma fmn fmc, .int .u8 fk0, .int .u8 fk1, .int .u16 fk2, .int .u16 fk3, .slice fra frn frc] (by rfl) rfl (World.news_of_block (heap_alloc_new W0 _)) (Fr.one ⟨fs, fr, fm, fma, fmn, fmc, fk0, fk1, fk2, fk3, fra, frn, frc⟩) (by decide) (by unfold maxLen; omega) (by omega) (Nat.zero_le _) (wr.heap.size + 1) (by simp [hsz0]) ?_
        intro g cap' w3 hown3 hgrow3 hat3 hlt3
        have hk3 : Kept T wr w3 := (hkW0.out.trans (Kept.alloc _ _ _)).trans (Kept.grown hgrow3 fun k h => by rw [hT.out]; exact h)
        refine hK.out _ _ (fun _ => hk3) ?_
        clear hK K hrow
        have k3 := hk3.cells hTb c3
        have hf3 : w3.frozen? ⟨b, 3, none⟩ = false := by rw [World.frozen?_of_block (hk3.block b hbl hTb)]; exact f3
        replace hown3 := Hidd.mk hown3
        replace hk3 := Hidd.mk hk3
        replace hat3 : Hidd ((Value.slice A i cap).ownBlock = some g ∨ wr.heap.size ≤ g) := ⟨by rcases hat3 with h | h; exact .inl h; exact .inr (by omega)⟩
        clear hgrow3 hW0 hkW0 hsz0 c3 f3 p0 p1 p2 p3 p4 p5 p6 p7 p8
        refine TlF.go (by rfl) (fun K hK => ?_); go_simp; refine hK.out _ _ (by intro h; cases h) ?_; clear hK K
        refine TlF.go (by rfl) (fun K hK => ?_); go_simp; refine hK.out _ _ (by intro h; cases h) ?_; clear hK K
        refine TlF.go (by rfl) (fun K hK => ?_); go_simp; refine hK.out _ _ (by intro h; cases h) ?_; clear hK K
        refine TlF.nil (Calm.normal ?_)
        obtain ⟨hq, hkq⟩ := hear_grow (f := (⟨fs, fr, fm, fma, fmn, fmc, fk0, fk1, fk2, fk3, fra, frn, frc⟩ : Fr)) hH.out hok.out (by rw [hT.out] at hk3; exact hk3.out) hown3.out hat3.out
        go_wp2
        go_ret
        refine ⟨rfl, some ⟨g, 0, none⟩, i + 1, cap', ?_⟩
        have h := ho.out.step (k + 1) hk1.out (hres b r m kn (some ⟨g, 0, none⟩) (i + 1) cap' (l ++ [(⟨fs, fr, fm, fma, fmn, fmc, fk0, fk1, fk2, fk3, fra, frn, frc⟩ : Fr)])) hkq hq (fun j hj => by
          rcases hj with rfl | hj
          · exact .inl (.inl rfl)
          · have hj' : some g = some j := hj
            injection hj' with hj'
            subst hj'
            rcases hat3.out with h | h
            · exact .inl (.inr h)
            · exact .inr h)
        exact h.tail
end Go.Proofs.Ytjejkmnlkmcckaa
