/- The writer: Text, Bytes. -/
import Derived.Test.YtmbbfcpoiecfhaaWirA
import Derived.Test.YtmbbfcpoiecfhaaAppB
import Derived.Laws.BitsAllLaws
namespace Go.Proofs.Ytmbbfcpoiecfhaa
open Go.RowKit

theorem WIn.below {w w' : World} {e : TypeId} {size n cap : Nat} {A : Option Addr} {xs : List Value} (h : WIn w e size A n cap xs) (hB : Below w.heap.size w w') : WIn w' e size A n cap xs :=
  (wres e size A n cap xs).loc w w' h fun i hi => hB.block i (h.lt i hi)
theorem nil_cells {w : World} {xs : List Value} (h : Cells w none xs) : xs = [] := by
  rcases xs with _ | ⟨u, us⟩
  · rfl
  · obtain ⟨ad, h', _⟩ := h 0 _ rfl
    cases h'
theorem ne_nil {w : World} {A : Option Addr} {k : IntKind} {xs : List Int} {n : Nat} (h : Cells w A (nums k xs)) (hl : xs.length = n) : 0 < n → A ≠ none := fun hn e => by
  subst e
  have := nil_cells h
  have h2 := nums_length k xs
  rw [this] at h2
  simp at h2
  omega

set_option maxRecDepth 100000 in
set_option maxHeartbeats 4000000 in
theorem text_own {w w0 : World} {S : Nat → Prop} {L : List Res} {b : Nat} {A : Option Addr} {n cap : Nat} {xs : List Int} (k : Nat) (hO : Own w0 S w L) (hk : L[k]? = some (wtr b A n cap xs)) (hn : n ≤ 1000000)
    (D : Option Addr) (len dcap : Nat) (bs : List Int) (hD : Cells w D (nums .u8 bs)) (hbl : bs.length = len) (hlc : len ≤ dcap) (hsep : ∀ ad, D = some ad → 0 < len → ¬ (wtr b A n cap xs).foot ad.block) (t : Nat) (ht : min len 255 = t) :
    Calls Try.prog 15 #[.pointer (some ⟨b, 0, none⟩), .slice D len dcap] w fun e w' => e = .returned (.tuple #[]) ∧ ∃ A' cap', Own w0 S w' (L.set k (wtr b A' (n + 1 + t) cap' (xs ++ [(t : Int)] ++ bs.take t))) := by
  have hW : WrIn w b A n cap xs := hO.get k hk
  have ho := hW.open_
  have c0 := ho.cell 0 rfl 0
  have f0 := ho.frozen 0 rfl 0
  have hbs := ho.lt 0 rfl
  simp at c0
  have hcl : Hidd (∀ (A' : Option Addr) (cap' : Nat) (w' : World), Own w (wtr b A n cap xs).foot w' [blk b (.cells #[.slice A' (n + 1 + t) cap'] 26), wres 5 1 A' (n + 1 + t) cap' (nums .u8 (xs ++ [(t : Int)] ++ bs.take t))] →
      ∃ A' cap', Own w0 S w' (L.set k (wtr b A' (n + 1 + t) cap' (xs ++ [(t : Int)] ++ bs.take t)))) := ⟨fun A' cap' w' h => ⟨_, _, wtr_close k hO hk h⟩⟩
  have hne := Hidd.mk hW.ne
  have hrow := Hidd.mk hW.hr
  replace ho := Hidd.mk ho
  replace hsep := Hidd.mk hsep
  replace hD := Hidd.mk hD
  replace hbl := Hidd.mk hbl
  obtain ⟨i0, hi0⟩ := info_parts info_u8
  replace hi0 := Hidd.mk hi0
  clear hO hk hW
  have hmin : (if (255 : Int) < (len : Int) then (255 : Int) else (len : Int)) = t := by
    rcases Nat.lt_or_ge 255 len with h | h
    · rw [if_pos (by omega)]; omega
    · rw [if_neg (by omega)]; omega
  have ht255 : t ≤ 255 := by omega
  have htl : t ≤ len := by omega
  have htc : t ≤ dcap := by omega
  have htm : IntKind.u8.wrap (t : Int) = t := by rw [IntKind.wrap_u8']; omega
  go_enter Try.func15, Try.ntmps15
  go_wp2
  obtain ⟨T, hT⟩ : ∃ T : Nat → Prop, T = fun i => (Value.slice A n cap).ownBlock = some i := ⟨_, rfl⟩
  have hTb : ¬ T b := by rw [hT]; exact fun e => hne.out b e rfl
  replace hT := Hidd.mk hT
  clear hmin
  obtain ⟨W0, hW0⟩ : ∃ zz, zz = World.drew w := ⟨_, rfl⟩
  refine wp_region_mix (fun zz => Kept T w zz) [0, 1, 2, 3, 4, 5, 6, 9, 10, 11] [(7, true), (8, true), (12, true), (13, false), (14, false), (15, false)] (by kernel_rfl) (by kernel_rfl) (Kept.drew _ _) ?_
  rw [show ({ w with drawn := w.drawn + 1 } : World) = W0 from hW0.symm]
  replace hW0 := Hidd.mk hW0
  simp only [List.map_cons, List.map_nil, List.getD_cons_succ, List.getD_cons_zero]
  have hkW0 : Hidd (Kept T w W0) := ⟨by rw [hW0.out]; exact Kept.drew _ _⟩
  repeat (first | (refine StQ.skip (by rfl) ?_; simp only [Act.put, List.setIfInBounds_toArray, List.set_cons_zero, List.set_cons_succ]) | (refine StQ.go' (by rfl) (Exists.intro ?_ (And.intro (fun w' hS => ?_) ?_)); rotate_left; (focus (have hc := Kept.cellAt hS; go_simp; try with_reducible rfl)); simp only [Act.put, List.setIfInBounds_toArray, List.set_cons_zero, List.set_cons_succ]))
  refine StQ.nil ?_
  refine TlF.go (by rfl) (fun K hK => ?_); go_simp; refine hK.out _ _ (fun _ => hkW0.out.trans (Kept.alloc _ _ _)) ?_; clear hK K
  have hrow0 : WIn (W0.alloc (.cells #[.int .u8 (t : Int)] 5)) 5 1 A n cap (nums .u8 xs) := by
    rw [hW0.out]
    exact hrow.out.below (below_alloc (Below.refl _ _).drew _)
  have hsz0 : W0.heap.size = w.heap.size := by rw [hW0.out]; rfl
  refine TlF.go (by rfl) (fun K hK => ?_)
  refine wp_want (.tmp 14) (.tmp 17) 24 (by rfl) 5 i0 (.int .u8 0) 1 1 Try.underlying24 hi0.out.1 hi0.out.2.1 hi0.out.2.2.1 hi0.out.2.2.2 (by rfl) (by decide) A n cap (nums .u8 xs) hrow0 (by rfl) (some ⟨W0.heap.size, 0, none⟩) 1 1 (nums .u8 [(t : Int)]) (by rfl) rfl (Cells.new _ _ _ _ rfl) (by intro _ h; cases h) (nums_one _ _) (by unfold maxLen; omega) (by omega) ?_
  intro A1 cap1 w1 h1 k1 o1
  have hk1 : Kept T w w1 := (hkW0.out.trans (Kept.alloc _ _ _)).trans (k1.weak fun i h => by rw [hT.out]; exact h)
  refine hK.out _ _ (fun _ => hk1) ?_
  clear hK K hrow0
  have hD1 : Cells w1 D (nums .u8 bs) := by
    rcases Nat.eq_zero_or_pos len with h0 | h0
    · have hb0 := hbl.out
      rw [h0, List.length_eq_zero_iff] at hb0
      rw [hb0]
      exact Cells.nil _ _
    · exact hD.out.kept hk1 (fun ad e h => hsep.out ad e h0 (by rw [hT.out] at h; exact .inr h))
  refine TlF.go (by rfl) (fun K hK => ?_)
  refine wp_want (.tmp 18) (.tmp 21) 24 (by rfl) 5 i0 (.int .u8 0) 1 1 Try.underlying24 hi0.out.1 hi0.out.2.1 hi0.out.2.2.1 hi0.out.2.2.2 (by rfl) (by decide) A1 (n + 1) cap1 _ h1 (by rfl) D t dcap (nums .u8 (bs.take t)) (by rfl) (by rw [nums_length, List.length_take, hbl.out]; omega) (by rw [nums_take]; exact hD1.take t) (fun h => ne_nil hD.out hbl.out (by omega)) (nums_one _ _) (by unfold maxLen; omega) (by omega) ?_
  intro A2 cap2 w2 h2 k2 o2
  have hk2 : Kept (fun i => (Value.slice A n cap).ownBlock = some i) w w2 := by
    rw [hT.out] at hk1
    refine hk1.trans' k2 fun i hi h => ?_
    rcases o1 i h with h | h
    · exact h
    · simp [hsz0] at h
      omega
  have ho2 : ∀ i, (Value.slice A2 (n + 1 + t) cap2).ownBlock = some i → (Value.slice A n cap).ownBlock = some i ∨ w.heap.size ≤ i := fun i h => by
    rcases o2 i h with h | h
    · rcases o1 i h with h | h
      · exact .inl h
      · simp [hsz0] at h
        exact .inr (by omega)
    · exact .inr (Nat.le_trans hk1.size h)
  refine hK.out _ _ (fun _ => by rw [hT.out]; exact hk2) ?_
  clear hK K
  have hTb2 : ¬ (Value.slice A n cap).ownBlock = some b := fun e => hne.out b e rfl
  have c2 := hk2.cells hTb2 c0
  have f2 : w2.frozen? ⟨b, 0, none⟩ = false := by rw [World.frozen?_of_block (hk2.block b hbs hTb2)]; exact f0
  have hend := Hidd.mk ((ho.out.step 1 rfl (wres 5 1 A2 (n + 1 + t) cap2 _) hk2 h2 ho2).set 0 rfl 0 (.slice A2 (n + 1 + t) cap2))
  clear h1 h2 k1 k2 o1 o2 hk1 hk2 ho2 hW0 hkW0 hD1 hsz0 hTb2 hTb hT c0 f0
  refine TlF.go (by rfl) (fun K hK => ?_); go_simp; refine hK.out _ _ (by intro h; cases h) ?_; clear hK K
  refine TlF.go (by rfl) (fun K hK => ?_); go_simp; refine hK.out _ _ (by intro h; cases h) ?_; clear hK K
  refine TlF.go (by rfl) (fun K hK => ?_); go_simp; refine hK.out _ _ (by intro h; cases h) ?_; clear hK K
  refine TlF.nil (Calm.normal ?_)
  go_wp2
  exact bodyPost_end (v := .tuple #[]) (by simp [results, Try.results15, go_sem]) rfl ⟨rfl, hcl.out A2 cap2 _ (by have h := hend.out; rw [← nums_append, ← nums_append] at h; exact h)⟩

set_option maxRecDepth 100000 in
theorem bytes_own {w w0 : World} {S : Nat → Prop} {L : List Res} {b : Nat} {A : Option Addr} {n cap : Nat} {xs : List Int} (k : Nat) (hO : Own w0 S w L) (hk : L[k]? = some (wtr b A n cap xs)) (hn : n ≤ 1000000) :
    Calls Try.prog 19 #[.pointer (some ⟨b, 0, none⟩)] w fun e w' => ∃ A' cap', e = .returned (.slice A' n cap') ∧ Own w0 S w' (wres 5 1 A' n cap' (nums .u8 xs) :: L) := by
  have hW : WrIn w b A n cap xs := hO.get k hk
  have c0 := hW.open_.cell 0 rfl 0
  have hbs := hW.open_.lt 0 rfl
  simp at c0
  have hcs := Hidd.mk hW.hr.cells
  have hll : xs.length = n := by have := hW.hr.ll; rw [nums_length] at this; omega
  replace hll := Hidd.mk hll
  replace hO := Hidd.mk hO
  obtain ⟨i0, hi0⟩ := info_parts info_u8
  replace hi0 := Hidd.mk hi0
  clear hk hW
  go_enter Try.func19, Try.ntmps19
  go_wp2_with (at_builtin; refine wpList_any rfl _ _ 24 rfl 5 i0 (.int .u8 0) 1 1 Try.underlying24 hi0.out.1 hi0.out.2.1 hi0.out.2.2.1 hi0.out.2.2.2 (by rfl) (by decide) (own_empty hO.out 5 1 _) 0 _ 0 0 [] rfl rfl A n cap (nums .u8 xs) rfl (by rw [nums_length, hll.out, Nat.mul_one]) (hcs.out.below (below_alloc (Below.refl _ _) _)) (ne_nil hcs.out hll.out) (nums_one _ _) (by unfold maxLen; omega) (by omega) ?_; intro A' cap' w6 ho6; replace ho6 := Hidd.mk ho6)
  go_ret
  exact ⟨A', cap', by simp, by have h := ho6.out; rw [Nat.zero_add] at h; exact h⟩
end Go.Proofs.Ytmbbfcpoiecfhaa
