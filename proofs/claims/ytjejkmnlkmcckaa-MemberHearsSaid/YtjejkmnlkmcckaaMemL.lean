/- The reference's Heard: Hear, Right. -/
import Derived.Test.YtjejkmnlkmcckaaMemJ
import Derived.Test.YtjejkmnlkmcckaaFrC
import Derived.Test.YtjejkmnlkmcckaaFlow
namespace Go.Proofs.Ytjejkmnlkmcckaa
open Go.RowKit

/-- What the reference has heard, at block b. -/
structure RIn (w : World) (b : Nat) (r m : Nat) (kn : Bool) (A : Option Addr) (len cap : Nat) (l : List Fr) : Prop where
  blk : w.heap[b]? = some (.cells #[.int .u32 r, .int .u8 m, .bool kn, .slice A len cap] 78 (0, 0))
  own : w.ownsRow 0 59 9 (.slice A len cap) len (frCells l)
  ll : l.length = len
  ne : ∀ k, (Value.slice A len cap).ownBlock = some k → k ≠ b
  ok : ∀ x ∈ l, x.Ok
def hrefs (b r m : Nat) (kn : Bool) (A : Option Addr) (len cap : Nat) (l : List Fr) : Res :=
  ⟨fun i => i = b ∨ (Value.slice A len cap).ownBlock = some i, fun w => RIn w b r m kn A len cap l,
   fun w h i hi => by
    rcases hi with rfl | hi
    · exact (Array.getElem?_eq_some_iff.1 h.blk).1
    · exact own_lt h.own i hi,
   fun w w' h k => ⟨(k b (.inl rfl)).trans h.blk, ownsRow_loc h.own fun i hi => k i (.inr hi), h.ll, h.ne, h.ok⟩⟩
section
variable {w w' w0 : World} {S : Nat → Prop} {L : List Res} {b r m : Nat} {kn : Bool} {A A' : Option Addr} {len len' cap cap' : Nat} {l l' : List Fr}
theorem RIn.cell (h : RIn w b r m kn A len cap l) : w.cell? ⟨b, 0, none⟩ = some (.int .u32 r) ∧ w.cell? ⟨b, 1, none⟩ = some (.int .u8 m) ∧ w.cell? ⟨b, 2, none⟩ = some (.bool kn) ∧ w.cell? ⟨b, 3, none⟩ = some (.slice A len cap) :=
  ⟨cell_of_row w b 0 _ _ _ h.blk, cell_of_row w b 1 _ _ _ h.blk, cell_of_row w b 2 _ _ _ h.blk, cell_of_row w b 3 _ _ _ h.blk⟩
theorem RIn.fr (h : RIn w b r m kn A len cap l) (j : Nat) : w.frozen? ⟨b, j, none⟩ = false := frozen_of_row w b j _ _ h.blk
theorem RIn.lt (h : RIn w b r m kn A len cap l) : b < w.heap.size := (Array.getElem?_eq_some_iff.1 h.blk).1
theorem RIn.form (h : RIn w b r m kn A len cap l) (hl : 0 < len) : ∃ g, A = some ⟨g, 0, none⟩ := by
  obtain ⟨g, e, _⟩ := head_any h.own hl
  exact ⟨g, e⟩
theorem RIn.at_ {g : Nat} (h : RIn w b r m kn (some ⟨g, 0, none⟩) len cap l) {i : Nat} {x : Fr} (hx : l[i]? = some x) :
    w.cell? ⟨g, i * 9, none⟩ = some (.int .u8 x.s) ∧ w.cell? ⟨g, i * 9 + 1, none⟩ = some (.int .u32 x.r) ∧ w.cell? ⟨g, i * 9 + 2, none⟩ = some (.int .u8 x.m) ∧ w.cell? ⟨g, i * 9 + 3, none⟩ = some (.slice x.ma x.mn x.mc) ∧ w.cell? ⟨g, i * 9 + 4, none⟩ = some (.int .u8 x.k0) ∧
      w.cell? ⟨g, i * 9 + 5, none⟩ = some (.int .u8 x.k1) ∧ w.cell? ⟨g, i * 9 + 6, none⟩ = some (.int .u16 x.k2) ∧ w.cell? ⟨g, i * 9 + 7, none⟩ = some (.int .u16 x.k3) ∧ w.cell? ⟨g, i * 9 + 8, none⟩ = some (.slice x.ra x.rn x.rc) := by
  have hi : i < len := by rw [← h.ll]; exact (List.getElem?_eq_some_iff.1 hx).1
  have hc := fun j (hj : j < 9) => (h.own.cellAt (i * 9 + j) (by omega)).trans (frCells_get l i j x hx hj)
  exact ⟨hc 0 (by decide), hc 1 (by decide), hc 2 (by decide), hc 3 (by decide), hc 4 (by decide), hc 5 (by decide), hc 6 (by decide), hc 7 (by decide), hc 8 (by decide)⟩
/-- Taken apart: the block and the row; put together. -/
theorem RIn.open_ (h : RIn w b r m kn A len cap l) : Own w (hrefs b r m kn A len cap l).foot w [Go.Proofs.Ytjejkmnlkmcckaa.blk b (.cells #[.int .u32 r, .int .u8 m, .bool kn, .slice A len cap] 78), row 59 9 (.slice A len cap) len (frCells l)] := by
  refine ⟨Kept.refl _ _, fun s hs => ?_, ?_, fun s hs i hi => ?_⟩
  · simp at hs
    rcases hs with rfl | rfl
    · exact h.blk
    · exact h.own
  · refine List.pairwise_cons.2 ⟨fun s hs i hi hi' => ?_, List.pairwise_singleton ..⟩
    obtain rfl := List.mem_singleton.1 hs
    have hi : i = b := hi
    exact h.ne i hi' hi
  · simp at hs
    rcases hs with rfl | rfl
    · exact .inl (.inl hi)
    · exact .inl (.inr hi)
theorem href_close (k : Nat) (hO : Own w0 S w L) (hk : L[k]? = some (hrefs b r m kn A len cap l)) (h : Own w (hrefs b r m kn A len cap l).foot w' [Go.Proofs.Ytjejkmnlkmcckaa.blk b (.cells #[.int .u32 r, .int .u8 m, .bool kn, .slice A' len' cap'] 78), row 59 9 (.slice A' len' cap') len' (frCells l')]) (hl : l'.length = len') (hok : ∀ x ∈ l', x.Ok) :
    Own w0 S w' (L.set k (hrefs b r m kn A' len' cap' l')) := by
  refine hO.step k hk _ h.kept ⟨h.get 0 rfl, h.get 1 rfl, hl, fun i hi e => ?_, hok⟩ fun i hi => ?_
  · exact h.apart 0 1 rfl rfl (by decide) i e hi
  · rcases hi with hi | hi
    · exact h.own _ (List.mem_cons_self ..) i hi
    · exact h.own _ (List.mem_cons_of_mem _ (List.mem_cons_self ..)) i hi
end

set_option maxRecDepth 100000 in
set_option maxHeartbeats 4000000 in
theorem refHear_at {w0 w : World} {S : Nat → Prop} {L : List Res} {b r m : Nat} {kn : Bool} {A : Option Addr} {len cap : Nat} {l : List Fr} (k : Nat) (hO : Own w0 S w L) (hk : L[k]? = some (hrefs b r m kn A len cap l)) (line : Int) (f : Fr) (hf : f.Ok) (hl : len ≤ 1000)
    (c : Bool) (hc : hearOk l line f = c) (l' : List Fr) (hl' : heardL l line f = l') :
    Calls Try.prog 35 #[.pointer (some ⟨b, 0, none⟩), .int .i64 line, .agg #[.int .u8 f.s, .int .u32 f.r, .int .u8 f.m, .slice f.ma f.mn f.mc, .int .u8 f.k0, .int .u8 f.k1, .int .u16 f.k2, .int .u16 f.k3, .slice f.ra f.rn f.rc]] w fun e w' => e = .returned (.bool c) ∧
      ∃ A' cap', Own w0 S w' (L.set k (hrefs b r m kn A' l'.length cap' l')) := by
  have hH : RIn w b r m kn A len cap l := hO.get k hk
  have hlen := hH.ll
  have hno : Hidd (hearOk l line f = false → c = false ∧ ∀ w', Below w.heap.size w w' → ∃ A' cap', Own w0 S w' (L.set k (hrefs b r m kn A' l'.length cap' l'))) := ⟨fun h => by
    refine ⟨by rw [← hc, h], fun w' hB => ⟨A, cap, ?_⟩⟩
    have : l' = l := by rw [← hl']; unfold heardL; rw [if_neg (by rw [h]; decide)]
    rw [this, hlen, set_self hk]
    exact hO.ext hB⟩
  have hfs := hf.s
  have hok := Hidd.mk hf
  have hll := Hidd.mk hlen
  have hk1 := Hidd.mk hk
  obtain ⟨fs, fr, fm, fma, fmn, fmc, fk0, fk1, fk2, fk3, fra, frn, frc⟩ := f
  simp only at hfs
  have hw1 := u8_int hfs
  have hw2 : IntKind.i64.wrap (fs : Int) = fs := IntWalk.i64_in _ (by omega)
  have hO1 := Hidd.mk (hO.alloc (.cells #[.int .u8 fs, .int .u32 fr, .int .u8 fm, .slice fma fmn fmc, .int .u8 fk0, .int .u8 fk1, .int .u16 fk2, .int .u16 fk3, .slice fra frn frc] 59))
  clear hlen
  by_cases hbad : ¬ (0 ≤ line ∧ line < 7 ∧ (fs : Int) = line)
  · obtain ⟨rfl, hs⟩ := hno.out (by unfold hearOk; rw [decide_eq_false_iff_not]; exact fun h => hbad ⟨h.1, h.2.1, h.2.2.1⟩)
    replace hs := Hidd.mk hs
    have hgo : ∀ G : Prop, (line < 0 → G) → (¬ line < 0 → ¬ line < 7 → G) → (0 ≤ line → line < 7 → (fs : Int) ≠ line → G) → G := fun G g1 g2 g3 => by
      by_cases h0 : line < 0
      · exact g1 h0
      · by_cases h7 : line < 7
        · exact g3 (by omega) h7 (fun e => hbad ⟨by omega, h7, e⟩)
        · exact g2 h0 h7
    clear hbad hO hk hf hl hc hl' hno hH
    refine hgo _ (fun h => ?ca) (fun h h1 => ?cb) (fun h h1 h2 => ?cc)
    all_goals clear hgo
    case' ca =>
      have d1 : decide (line < 0) = true := by rw [decide_eq_true_eq]; exact h
      clear h
    case' cb =>
      have d1 : decide (line < 0) = false := by rw [decide_eq_false_iff_not]; exact h
      have d2 : decide (6 < line) = true := by rw [decide_eq_true_eq]; omega
      clear h h1
    case' cc =>
      have d1 : decide (line < 0) = false := by rw [decide_eq_false_iff_not]; omega
      have d2 : decide (6 < line) = false := by rw [decide_eq_false_iff_not]; omega
      have d3 : ((fs : Int) != line) = true := by rw [bne_iff_ne]; exact h2
      clear h h1 h2
    all_goals
      go_enter Try.func35, Try.ntmps35
      go_wp2
      go_ret
      exact ⟨rfl, hs.out _ (below_alloc (Below.refl _ _) _)⟩
  · obtain ⟨h0, h7, hsl⟩ := Decidable.not_not.1 hbad
    clear hbad
    subst hsl
    have hyes : Hidd ((∀ (j : Nat) (g : Fr), l[j]? = some g → g.s ≠ fs) → c = true ∧ l' = l ++ [⟨fs, fr, fm, fma, fmn, fmc, fk0, fk1, fk2, fk3, fra, frn, frc⟩]) := ⟨fun h => by
      have ht : hearOk l fs ⟨fs, fr, fm, fma, fmn, fmc, fk0, fk1, fk2, fk3, fra, frn, frc⟩ = true := by
        unfold hearOk
        rw [decide_eq_true_eq]
        refine ⟨h0, h7, rfl, fun g hg => ?_⟩
        obtain ⟨j, hj⟩ := List.mem_iff_getElem?.1 hg
        exact h j g hj
      exact ⟨by rw [← hc, ht], by rw [← hl']; unfold heardL; rw [if_pos ht]⟩⟩
    replace hno : Hidd (∀ (j : Nat) (g : Fr), l[j]? = some g → g.s = fs → c = false ∧ l' = l) := ⟨fun j g hg e => by
      have h : hearOk l fs ⟨fs, fr, fm, fma, fmn, fmc, fk0, fk1, fk2, fk3, fra, frn, frc⟩ = false := by
        unfold hearOk
        rw [decide_eq_false_iff_not]
        exact fun h => h.2.2.2 g (List.mem_of_getElem? hg) e
      exact ⟨(hno.out h).1, by rw [← hl']; unfold heardL; rw [if_neg (by rw [h]; decide)]⟩⟩
    clear hc hl' hf hk hO
    have d1 : decide ((fs : Int) < 0) = false := by rw [decide_eq_false_iff_not]; omega
    have d2 : decide (6 < (fs : Int)) = false := by rw [decide_eq_false_iff_not]; omega
    clear h0 h7
    obtain ⟨c0, c1, c2, c3⟩ := hH.cell
    have hsz := hH.lt
    clear hH c0 c1 c2
    go_enter Try.func35, Try.ntmps35
    go_wp2
    clear c3 hsz
    generalize w.heap.size = pf at hO1 ⊢
    generalize w.alloc _ = w1 at hO1 ⊢
    go_loopw [7] (fun v7 wr => ∃ i : Nat, v7 = .int .i64 i ∧ i ≤ len ∧ Hidd (∀ (j : Nat) (g : Fr), l[j]? = some g → j < i → g.s ≠ fs) ∧ Hidd (Own w0 S wr (blk pf (.cells #[.int .u8 fs, .int .u32 fr, .int .u8 fm, .slice fma fmn fmc, .int .u8 fk0, .int .u8 fk1, .int .u16 fk2, .int .u16 fk3, .slice fra frn frc] 59) :: L))) (fun v7 _ => len - (intOf v7).toNat)
    case atStart => exact ⟨0, rfl, Nat.zero_le _, ⟨fun j g _ h => by omega⟩, hO1⟩
    case round =>
      clear hO1
      obtain ⟨i, rfl, hi, hne, ho⟩ := hrel
      have hH : RIn wr b r m kn A len cap l := ho.out.get (k + 1) hk1.out
      obtain ⟨c0, c1, c2, c3⟩ := hH.cell
      by_cases hlt : i < len
      · obtain ⟨x, hx⟩ : ∃ x, l[i]? = some x := ⟨_, List.getElem?_eq_getElem (by rw [hll.out]; exact hlt)⟩
        obtain ⟨g, rfl⟩ := hH.form (by omega)
        have hi0 : (0 : Int) ≤ (i : Int) := by omega
        have hi1 : (i : Int) < (len : Int) := by omega
        have hxx := Hidd.mk hx
        by_cases he : x.s = fs
        case' pos =>
          obtain ⟨rfl, rfl⟩ := hno.out i x hx he
          have hee : ((x.s : Int) == (fs : Int)) = true := by rw [he]; exact beq_self_eq_true _
        case' neg =>
          have hee : ((x.s : Int) == (fs : Int)) = false := by rw [beq_eq_false_iff_ne]; omega
          have hen := Hidd.mk he
        all_goals
          clear hx he hH
          go_wp2
          obtain ⟨W0, hW0⟩ : ∃ zz, zz = World.drew wr := ⟨_, rfl⟩
          refine wp_region_flow [([0, 4, 8, 1, 9, 2, 3, 5, 6, 7, 10], none)] (by kernel_rfl) (by kernel_rfl) ?_
          rw [show ({ wr with drawn := wr.drawn + 1 } : World) = W0 from hW0.symm]
          replace hW0 := Hidd.mk hW0
          simp only [opsF, List.map_cons, List.map_nil, List.getD_cons_succ, List.getD_cons_zero, Option.map_some, Option.map_none]
          have ho2 := Hidd.mk (show Own w0 S W0 (blk pf (.cells #[.int .u8 fs, .int .u32 fr, .int .u8 fm, .slice fma fmn fmc, .int .u8 fk0, .int .u8 fk1, .int .u16 fk2, .int .u16 fk3, .slice fra frn frc] 59) :: L) by rw [hW0.out]; exact ho.out.drew)
          have hH : RIn W0 b r m kn (some ⟨g, 0, none⟩) len cap _ := ho2.out.get (k + 1) hk1.out
          obtain ⟨c0, c1, c2, c3⟩ := hH.cell
          have x0 := (hH.at_ hxx.out).1
          have p0 := ho2.out.cell 0 rfl 0
          simp at p0
          clear hW0 ho hH
          refine FlW.heads (fun zz => zz = _) rfl ?_
          repeat (first | (refine StQ.skip (by rfl) ?_; simp only [Act.put, List.setIfInBounds_toArray, List.set_cons_zero, List.set_cons_succ]) | (refine StQ.go' (by rfl) (Exists.intro ?_ (And.intro (fun w' hS => ?_) ?_)); rotate_left; (focus (rw [hS]; go_simp; try with_reducible rfl)); simp only [Act.put, List.setIfInBounds_toArray, List.set_cons_zero, List.set_cons_succ]))
          refine StQ.nil ?_
          refine FlW.nil (Calm.normal ?_)
          go_wp2
          first
            | (go_ret
               exact ⟨rfl, some ⟨g, 0, none⟩, cap, by rw [hll.out, set_self hk1.out]; exact ho2.out.tail⟩)
            | (go_roundw
               case rel => exact ⟨i + 1, by go_num, by omega, ⟨fun j y hj hji => by
                 rcases Nat.lt_succ_iff_lt_or_eq.1 hji with h | rfl
                 · exact hne.out j y hj h
                 · have := hxx.out.symm.trans hj; injection this with this; rw [← this]; exact hen.out⟩, ho2⟩
               case measure => (simp [intOf]; try omega))
      · obtain rfl : i = len := by omega
        obtain ⟨rfl, rfl⟩ := hyes.out fun j y hj => hne.out j y hj (by rw [← hll.out]; exact (List.getElem?_eq_some_iff.1 hj).1)
        obtain ⟨iF, hIF⟩ := info_parts info_fr
        replace hIF := Hidd.mk hIF
        have hcl : Hidd (∀ W w6 A' cap', Own w0 S W (blk pf (.cells #[.int .u8 fs, .int .u32 fr, .int .u8 fm, .slice fma fmn fmc, .int .u8 fk0, .int .u8 fk1, .int .u16 fk2, .int .u16 fk3, .slice fra frn frc] 59) :: L) →
            Own W (hrefs b r m kn A i cap l).foot w6 [blk b (.cells #[.int .u32 r, .int .u8 m, .bool kn, .slice A' (i + 1) cap'] 78), row 59 9 (.slice A' (i + 1) cap') (i + 1) (frCells l ++ Fr.cells ⟨fs, fr, fm, fma, fmn, fmc, fk0, fk1, fk2, fk3, fra, frn, frc⟩)] →
            Own w0 S w6 (L.set k (hrefs b r m kn A' (l ++ [(⟨fs, fr, fm, fma, fmn, fmc, fk0, fk1, fk2, fk3, fra, frn, frc⟩ : Fr)]).length cap' (l ++ [(⟨fs, fr, fm, fma, fmn, fmc, fk0, fk1, fk2, fk3, fra, frn, frc⟩ : Fr)])))) := ⟨fun W w6 A' cap' h1 h2 => by
          have e : frCells l ++ Fr.cells ⟨fs, fr, fm, fma, fmn, fmc, fk0, fk1, fk2, fk3, fra, frn, frc⟩ = frCells (l ++ [⟨fs, fr, fm, fma, fmn, fmc, fk0, fk1, fk2, fk3, fra, frn, frc⟩]) := by rw [frCells_append]; simp [frCells]
          rw [e] at h2
          have hln : (l ++ [(⟨fs, fr, fm, fma, fmn, fmc, fk0, fk1, fk2, fk3, fra, frn, frc⟩ : Fr)]).length = i + 1 := by rw [List.length_append, hll.out]; rfl
          rw [hln]
          have h3 := href_close (k + 1) h1 hk1.out h2 hln (fun x hx => by
            rcases List.mem_append.1 hx with hx | hx
            · exact (show RIn W b r m kn A i cap l from h1.get (k + 1) hk1.out).ok x hx
            · obtain rfl := List.mem_singleton.1 hx
              exact hok.out)
          exact h3.tail⟩
        have hbl := hH.lt
        obtain ⟨p0, p1, p2, p3, p4, p5, p6, p7, p8⟩ := cells9 ho.out 0 rfl
        have hpl := ho.out.lt 0 rfl
        clear hyes hno hne hH
        go_wp2
        obtain ⟨W0, hW0⟩ : ∃ zz, zz = World.drew wr := ⟨_, rfl⟩
        refine wp_region_flow [([0, 1, 5, 2, 3, 4], some (6, [true])), ([], some (7, [false, true])), ([8, 9], some (10, [false, false, false]))] (by kernel_rfl) (by kernel_rfl) ?_
        rw [show ({ wr with drawn := wr.drawn + 1 } : World) = W0 from hW0.symm]
        replace hW0 := Hidd.mk hW0
        simp only [opsF, List.map_cons, List.map_nil, List.getD_cons_succ, List.getD_cons_zero, Option.map_some, Option.map_none]
        have ho2 := Hidd.mk (show Own w0 S W0 (blk pf (.cells #[.int .u8 fs, .int .u32 fr, .int .u8 fm, .slice fma fmn fmc, .int .u8 fk0, .int .u8 fk1, .int .u16 fk2, .int .u16 fk3, .slice fra frn frc] 59) :: L) by rw [hW0.out]; exact ho.out.drew)
        clear c0 c1 c2 c3 p0 p1 p2 p3 p4 p5 p6 p7 p8
        have hH : RIn W0 b r m kn A i cap l := ho2.out.get (k + 1) hk1.out
        obtain ⟨c0, c1, c2, c3⟩ := hH.cell
        have hop := Hidd.mk hH.open_
        obtain ⟨p0, p1, p2, p3, p4, p5, p6, p7, p8⟩ := cells9 ho2.out 0 rfl
        replace hbl : b < W0.heap.size := hH.lt
        replace hpl : pf < W0.heap.size := ho2.out.lt 0 rfl
        have hTb : ¬ (Value.slice A i cap).ownBlock = some b := fun e => hH.ne b e rfl
        have hTp : ¬ (Value.slice A i cap).ownBlock = some pf := fun e => ho2.out.apart 0 (k + 1) rfl hk1.out (by omega) pf rfl (.inr e)
        obtain ⟨T, hT⟩ : ∃ T : Nat → Prop, T = fun q => (Value.slice A i cap).ownBlock = some q := ⟨_, rfl⟩
        replace hTb : ¬ T b := by rw [hT]; exact hTb
        replace hTp : ¬ T pf := by rw [hT]; exact hTp
        replace hT := Hidd.mk hT
        clear hW0 ho hH
        refine FlW.stage (fun zz => Kept T W0 zz) (Kept.refl _ _) ?_
        repeat (first | (refine StQ.skip (by rfl) ?_; simp only [Act.put, List.setIfInBounds_toArray, List.set_cons_zero, List.set_cons_succ]) | (refine StQ.go' (by rfl) (Exists.intro ?_ (And.intro (fun w' hS => ?_) ?_)); rotate_left; (focus (have hc := Kept.cellAt hS; go_simp; try with_reducible rfl)); simp only [Act.put, List.setIfInBounds_toArray, List.set_cons_zero, List.set_cons_succ]))
        refine StQ.nil ?_
        refine FlO.go (by rfl) (fun K hK => ?_); go_simp; refine hK.out _ _ (.inr ⟨Kept.alloc _ _ _, trivial⟩) ?_; clear hK K
        refine FlW.stage (fun _ => True) trivial (StQ.nil ?_)
        refine FlO.go (by rfl) (fun K hK => ?_)
        (refine wp_row _ _ 76 rfl 59 iF (.agg #[.int .u8 0, .int .u32 0, .int .u8 0, .slice none 0 0, .int .u8 0, .int .u8 0, .int .u16 0, .int .u16 0, .slice none 0 0]) 9 72 Try.underlying76 hIF.out.1 hIF.out.2.1 hIF.out.2.2.1 hIF.out.2.2.2 (by rfl) (by decide) (hop.out.alloc (.cells #[.int .u8 fs, .int .u32 fr, .int .u8 fm, .slice fma fmn fmc, .int .u8 fk0, .int .u8 fk1, .int .u16 fk2, .int .u16 fk3, .slice fra frn frc] 59)) 2 A i cap (frCells l) rfl rfl (some ⟨W0.heap.size, 0, none⟩) 1 1 (Fr.cells ⟨fs, fr, fm, fma, fmn, fmc, fk0, fk1, fk2, fk3, fra, frn, frc⟩) rfl rfl (Cells.new _ _ _ _ rfl) (by intro _ h; cases h) (Fr.one _) (by unfold maxLen; omega) (by omega) ?_; intro A6 c6 w6 ho6 hk6)
        refine hK.out _ _ (.inr ⟨by rw [hT.out]; exact (Kept.alloc _ _ _).trans hk6, trivial⟩) ?_
        clear hK K
        replace ho6 := ho6.tail
        have f3 := ho6.frozen 0 rfl 3
        have e3 := ho6.cell 0 rfl 3
        simp at e3
        have hend := Hidd.mk (ho6.set 0 rfl 3 (.slice A6 (i + 1) c6))
        clear c0 c1 c2 c3 p0 p1 p2 p3 p4 p5 p6 p7 p8 ho6 hop hk6
        refine FlW.stage (fun zz => zz = _) rfl ?_
        repeat (first | (refine StQ.skip (by rfl) ?_; simp only [Act.put, List.setIfInBounds_toArray, List.set_cons_zero, List.set_cons_succ]) | (refine StQ.go' (by rfl) (Exists.intro ?_ (And.intro (fun w' hS => ?_) ?_)); rotate_left; (focus (rw [hS]; go_simp; try with_reducible rfl)); simp only [Act.put, List.setIfInBounds_toArray, List.set_cons_zero, List.set_cons_succ]))
        refine StQ.nil ?_
        refine FlO.go (by rfl) (fun K hK => ?_); go_simp; refine hK.out _ _ (.inr trivial) ?_; clear hK K
        refine FlW.nil (Calm.normal ?_)
        go_wp2
        go_ret
        refine ⟨rfl, A6, c6, ?_⟩
        have h := hcl.out W0 _ A6 c6 ho2.out hend.out
        rw [List.length_append] at h
        first | exact h | (rw [List.length_append]; exact h)
end Go.Proofs.Ytjejkmnlkmcckaa
