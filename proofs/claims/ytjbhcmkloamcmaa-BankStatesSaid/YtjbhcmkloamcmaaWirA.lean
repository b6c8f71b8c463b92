/- The writer: Put, Text, Bytes. -/
import Derived.Test.YtjbhcmkloamcmaaMixB
import Derived.Test.YtjbhcmkloamcmaaApp
import Derived.Test.YtjbhcmkloamcmaaBytes
import Derived.Test.YtjbhcmkloamcmaaRead
namespace Go.Proofs.Ytjbhcmkloamcmaa
open Go.RowKit

theorem Cells.newAt {fr : Nat × Nat} (w : World) (cs : Array Value) (t : TypeId) (xs : List Value) (g : Nat) (hg : w.heap.size = g) (h : cs.toList = xs) : Cells (w.alloc (.cells cs t fr)) (some ⟨g, 0, none⟩) xs := by
  subst hg; exact Cells.new w cs t xs h
/-- A writer at block b. -/
structure WrIn (w : World) (b : Nat) (A : Option Addr) (n cap : Nat) (xs : List Int) : Prop where
  hb : w.heap[b]? = some (.cells #[.slice A n cap] 91 (0, 0))
  hr : WIn w 5 1 A n cap (nums .u8 xs)
  ne : ∀ k, (Value.slice A n cap).ownBlock = some k → k ≠ b
def wtr (b : Nat) (A : Option Addr) (n cap : Nat) (xs : List Int) : Res :=
  ⟨fun i => i = b ∨ (Value.slice A n cap).ownBlock = some i, fun w => WrIn w b A n cap xs,
   fun w h i hi => by
    rcases hi with rfl | hi
    · exact (Array.getElem?_eq_some_iff.1 h.hb).1
    · exact h.hr.lt i hi,
   fun w w' h k => ⟨(k b (.inl rfl)).trans h.hb, (wres 5 1 A n cap (nums .u8 xs)).loc w w' h.hr fun i hi => k i (.inr hi), h.ne⟩⟩
section
variable {w w0 w' : World} {S : Nat → Prop} {L : List Res} {b : Nat} {A A' : Option Addr} {n n' cap cap' : Nat} {xs xs' : List Int}
theorem WrIn.open_ (h : WrIn w b A n cap xs) : Own w (wtr b A n cap xs).foot w [blk b (.cells #[.slice A n cap] 91), wres 5 1 A n cap (nums .u8 xs)] := by
  refine ⟨Kept.refl _ _, fun r hr => ?_, ?_, fun r hr i hi => ?_⟩
  · simp at hr
    rcases hr with rfl | rfl
    · exact h.hb
    · exact h.hr
  · refine List.pairwise_cons.2 ⟨fun s hs i hi hi' => ?_, List.pairwise_singleton ..⟩
    obtain rfl := List.mem_singleton.1 hs
    have hi : i = b := hi
    exact h.ne i hi' hi
  · simp at hr
    rcases hr with rfl | rfl
    · exact .inl (.inl hi)
    · exact .inl (.inr hi)
theorem wtr_close (k : Nat) (hO : Own w0 S w L) (hk : L[k]? = some (wtr b A n cap xs)) (h : Own w (wtr b A n cap xs).foot w' [blk b (.cells #[.slice A' n' cap'] 91), wres 5 1 A' n' cap' (nums .u8 xs')]) :
    Own w0 S w' (L.set k (wtr b A' n' cap' xs')) := by
  refine hO.step k hk _ h.kept ⟨h.get 0 rfl, h.get 1 rfl, fun i hi e => ?_⟩ fun i hi => ?_
  · exact h.apart 0 1 rfl rfl (by decide) i e hi
  · rcases hi with hi | hi
    · exact h.own _ (List.mem_cons_self ..) i hi
    · exact h.own _ (List.mem_cons_of_mem _ (List.mem_cons_self ..)) i hi
end
/-- A number in so many bytes. -/
def wputN (v : Nat) : Nat → List Int
  | 0 => []
  | k + 1 => ((v / 256 ^ k % 256 : Nat) : Int) :: wputN v k
theorem wputN_length (v : Nat) : ∀ k, (wputN v k).length = k
  | 0 => rfl
  | k + 1 => by rw [wputN, List.length_cons, wputN_length v k]

theorem wput1 (v : Nat) (xs : List Int) (hv : v < 4294967296) : nums .u8 (xs ++ wputN v 1) = nums .u8 xs ++ nums .u8 [(v : Int) % 256] := by
  have h : wputN v 1 = [(v : Int) % 256] := by simp [wputN]
  rw [h]
  simp [nums]
theorem wput2 (v : Nat) (xs : List Int) (hv : v < 4294967296) : nums .u8 (xs ++ wputN v 2) = nums .u8 xs ++ nums .u8 [(v : Int) / 256 % 256] ++ nums .u8 [(v : Int) % 256] := by
  have h : wputN v 2 = [(v : Int) / 256 % 256, (v : Int) % 256] := by simp [wputN]
  rw [h]
  simp [nums]
theorem wput3 (v : Nat) (xs : List Int) (hv : v < 4294967296) : nums .u8 (xs ++ wputN v 3) = nums .u8 xs ++ nums .u8 [(v : Int) / 65536 % 256] ++ nums .u8 [(v : Int) / 256 % 256] ++ nums .u8 [(v : Int) % 256] := by
  have h : wputN v 3 = [(v : Int) / 65536 % 256, (v : Int) / 256 % 256, (v : Int) % 256] := by simp [wputN]
  rw [h]
  simp [nums]
theorem wput4 (v : Nat) (xs : List Int) (hv : v < 4294967296) : nums .u8 (xs ++ wputN v 4) = nums .u8 xs ++ nums .u8 [(v : Int) / 16777216] ++ nums .u8 [(v : Int) / 65536 % 256] ++ nums .u8 [(v : Int) / 256 % 256] ++ nums .u8 [(v : Int) % 256] := by
  have h : wputN v 4 = [(v : Int) / 16777216, (v : Int) / 65536 % 256, (v : Int) / 256 % 256, (v : Int) % 256] := by simp [wputN]; omega
  rw [h]
  simp [nums]
/-- How many bytes Put puts. -/
def wsz (size : Int) : Nat := if 1 ≤ size ∧ size ≤ 4 then size.toNat else 0
set_option maxRecDepth 100000 in
set_option maxHeartbeats 4000000 in
theorem put_own {w w0 : World} {S : Nat → Prop} {L : List Res} {b : Nat} {A : Option Addr} {n cap : Nat} {xs : List Int} (k : Nat) (hO : Own w0 S w L) (hk : L[k]? = some (wtr b A n cap xs)) (v : Nat) (size : Int) (hn : n ≤ 1000000) (hv : v < 4294967296) (sz : Nat) (hsz : wsz size = sz) :
    Calls Try.prog 40 #[.pointer (some ⟨b, 0, none⟩), .int .u32 v, .int .i64 size] w fun e w' => e = .returned (.tuple #[]) ∧ ∃ A' cap', Own w0 S w' (L.set k (wtr b A' (n + sz) cap' (xs ++ wputN v sz))) := by
  have hW : WrIn w b A n cap xs := hO.get k hk
  have ho := hW.open_
  have c0 := ho.cell 0 rfl 0
  have f0 := ho.frozen 0 rfl 0
  simp at c0
  have hcl : Hidd (∀ (A' : Option Addr) (n' cap' : Nat) (w' : World) (ys : List Value), n' = n + sz → nums .u8 (xs ++ wputN v sz) = ys → Own w (wtr b A n cap xs).foot w' [blk b (.cells #[.slice A' n' cap'] 91), wres 5 1 A' n' cap' ys] →
      ∃ A' cap', Own w0 S w' (L.set k (wtr b A' (n + sz) cap' (xs ++ wputN v sz)))) := ⟨fun A' n' cap' w' ys h1 h2 h => by
    subst h1 h2
    exact ⟨_, _, wtr_close k hO hk h⟩⟩
  replace ho := Hidd.mk ho
  obtain ⟨i0, hi0⟩ := info_parts info_u8
  replace hi0 := Hidd.mk hi0
  clear hO hk hW
  have hgo : size = 1 ∨ size = 2 ∨ size = 3 ∨ size = 4 ∨ (size ≠ 1 ∧ size ≠ 2 ∧ size ≠ 3 ∧ size ≠ 4) := by omega
  rcases hgo with rfl | rfl | rfl | rfl | ⟨h1, h2, h3, h4⟩
  · obtain rfl : sz = 1 := by rw [← hsz]; rfl
    go_enter Try.func40, Try.ntmps40
    go_wp2_with (first
      | (at_builtin; refine wpList_want rfl _ _ 22 rfl 5 i0 (.int .u8 0) 1 1 Try.underlying22 hi0.out.1 hi0.out.2.1 hi0.out.2.2.1 hi0.out.2.2.2 (by rfl) (by decide) (ho.out.alloc _) 2 A _ cap _ rfl rfl _ 1 1 (nums .u8 [_]) rfl rfl (Cells.newAt _ _ _ _ _ (by simp) rfl) (nums_one _ _) (by decide) (by unfold maxLen; omega) (by omega) ?_; intro A1 cap1 w1 ho1; replace ho1 := ho1.tail; have c1 := ho1.cell 0 rfl 0; have f1 := ho1.frozen 0 rfl 0; simp at c1; replace ho1 := Hidd.mk (ho1.set 0 rfl 0 (.slice A1 (n + 1) cap1)); clear ho))
    exact bodyPost_end (v := .tuple #[]) (by simp [results, Try.results40, go_sem]) rfl ⟨rfl, hcl.out _ _ _ _ _ rfl (wput1 v xs hv) ho1.out⟩
  · obtain rfl : sz = 2 := by rw [← hsz]; rfl
    go_enter Try.func40, Try.ntmps40
    go_wp2_with (first
      | (at_builtin; refine wpList_want rfl _ _ 22 rfl 5 i0 (.int .u8 0) 1 1 Try.underlying22 hi0.out.1 hi0.out.2.1 hi0.out.2.2.1 hi0.out.2.2.2 (by rfl) (by decide) (ho.out.alloc _) 2 A _ cap _ rfl rfl _ 1 1 (nums .u8 [_]) rfl rfl (Cells.newAt _ _ _ _ _ (by simp) rfl) (nums_one _ _) (by decide) (by unfold maxLen; omega) (by omega) ?_; intro A1 cap1 w1 ho1; replace ho1 := ho1.tail; have c1 := ho1.cell 0 rfl 0; have f1 := ho1.frozen 0 rfl 0; simp at c1; replace ho1 := Hidd.mk (ho1.set 0 rfl 0 (.slice A1 (n + 1) cap1)); clear ho)
      | (at_builtin; refine wpList_want rfl _ _ 22 rfl 5 i0 (.int .u8 0) 1 1 Try.underlying22 hi0.out.1 hi0.out.2.1 hi0.out.2.2.1 hi0.out.2.2.2 (by rfl) (by decide) (ho1.out.alloc _) 2 A1 _ cap1 _ rfl rfl _ 1 1 (nums .u8 [_]) rfl rfl (Cells.newAt _ _ _ _ _ (by simp) rfl) (nums_one _ _) (by decide) (by unfold maxLen; omega) (by omega) ?_; intro A2 cap2 w2 ho2; replace ho2 := ho2.tail; have c2 := ho2.cell 0 rfl 0; have f2 := ho2.frozen 0 rfl 0; simp at c2; replace ho2 := Hidd.mk (ho2.set 0 rfl 0 (.slice A2 (n + 1 + 1) cap2)); clear ho1))
    exact bodyPost_end (v := .tuple #[]) (by simp [results, Try.results40, go_sem]) rfl ⟨rfl, hcl.out _ _ _ _ _ rfl (wput2 v xs hv) ho2.out⟩
  · obtain rfl : sz = 3 := by rw [← hsz]; rfl
    go_enter Try.func40, Try.ntmps40
    go_wp2_with (first
      | (at_builtin; refine wpList_want rfl _ _ 22 rfl 5 i0 (.int .u8 0) 1 1 Try.underlying22 hi0.out.1 hi0.out.2.1 hi0.out.2.2.1 hi0.out.2.2.2 (by rfl) (by decide) (ho.out.alloc _) 2 A _ cap _ rfl rfl _ 1 1 (nums .u8 [_]) rfl rfl (Cells.newAt _ _ _ _ _ (by simp) rfl) (nums_one _ _) (by decide) (by unfold maxLen; omega) (by omega) ?_; intro A1 cap1 w1 ho1; replace ho1 := ho1.tail; have c1 := ho1.cell 0 rfl 0; have f1 := ho1.frozen 0 rfl 0; simp at c1; replace ho1 := Hidd.mk (ho1.set 0 rfl 0 (.slice A1 (n + 1) cap1)); clear ho)
      | (at_builtin; refine wpList_want rfl _ _ 22 rfl 5 i0 (.int .u8 0) 1 1 Try.underlying22 hi0.out.1 hi0.out.2.1 hi0.out.2.2.1 hi0.out.2.2.2 (by rfl) (by decide) (ho1.out.alloc _) 2 A1 _ cap1 _ rfl rfl _ 1 1 (nums .u8 [_]) rfl rfl (Cells.newAt _ _ _ _ _ (by simp) rfl) (nums_one _ _) (by decide) (by unfold maxLen; omega) (by omega) ?_; intro A2 cap2 w2 ho2; replace ho2 := ho2.tail; have c2 := ho2.cell 0 rfl 0; have f2 := ho2.frozen 0 rfl 0; simp at c2; replace ho2 := Hidd.mk (ho2.set 0 rfl 0 (.slice A2 (n + 1 + 1) cap2)); clear ho1)
      | (at_builtin; refine wpList_want rfl _ _ 22 rfl 5 i0 (.int .u8 0) 1 1 Try.underlying22 hi0.out.1 hi0.out.2.1 hi0.out.2.2.1 hi0.out.2.2.2 (by rfl) (by decide) (ho2.out.alloc _) 2 A2 _ cap2 _ rfl rfl _ 1 1 (nums .u8 [_]) rfl rfl (Cells.newAt _ _ _ _ _ (by simp) rfl) (nums_one _ _) (by decide) (by unfold maxLen; omega) (by omega) ?_; intro A3 cap3 w3 ho3; replace ho3 := ho3.tail; have c3 := ho3.cell 0 rfl 0; have f3 := ho3.frozen 0 rfl 0; simp at c3; replace ho3 := Hidd.mk (ho3.set 0 rfl 0 (.slice A3 (n + 1 + 1 + 1) cap3)); clear ho2))
    exact bodyPost_end (v := .tuple #[]) (by simp [results, Try.results40, go_sem]) rfl ⟨rfl, hcl.out _ _ _ _ _ rfl (wput3 v xs hv) ho3.out⟩
  · obtain rfl : sz = 4 := by rw [← hsz]; rfl
    go_enter Try.func40, Try.ntmps40
    go_wp2_with (first
      | (at_builtin; refine wpList_want rfl _ _ 22 rfl 5 i0 (.int .u8 0) 1 1 Try.underlying22 hi0.out.1 hi0.out.2.1 hi0.out.2.2.1 hi0.out.2.2.2 (by rfl) (by decide) (ho.out.alloc _) 2 A _ cap _ rfl rfl _ 1 1 (nums .u8 [_]) rfl rfl (Cells.newAt _ _ _ _ _ (by simp) rfl) (nums_one _ _) (by decide) (by unfold maxLen; omega) (by omega) ?_; intro A1 cap1 w1 ho1; replace ho1 := ho1.tail; have c1 := ho1.cell 0 rfl 0; have f1 := ho1.frozen 0 rfl 0; simp at c1; replace ho1 := Hidd.mk (ho1.set 0 rfl 0 (.slice A1 (n + 1) cap1)); clear ho)
      | (at_builtin; refine wpList_want rfl _ _ 22 rfl 5 i0 (.int .u8 0) 1 1 Try.underlying22 hi0.out.1 hi0.out.2.1 hi0.out.2.2.1 hi0.out.2.2.2 (by rfl) (by decide) (ho1.out.alloc _) 2 A1 _ cap1 _ rfl rfl _ 1 1 (nums .u8 [_]) rfl rfl (Cells.newAt _ _ _ _ _ (by simp) rfl) (nums_one _ _) (by decide) (by unfold maxLen; omega) (by omega) ?_; intro A2 cap2 w2 ho2; replace ho2 := ho2.tail; have c2 := ho2.cell 0 rfl 0; have f2 := ho2.frozen 0 rfl 0; simp at c2; replace ho2 := Hidd.mk (ho2.set 0 rfl 0 (.slice A2 (n + 1 + 1) cap2)); clear ho1)
      | (at_builtin; refine wpList_want rfl _ _ 22 rfl 5 i0 (.int .u8 0) 1 1 Try.underlying22 hi0.out.1 hi0.out.2.1 hi0.out.2.2.1 hi0.out.2.2.2 (by rfl) (by decide) (ho2.out.alloc _) 2 A2 _ cap2 _ rfl rfl _ 1 1 (nums .u8 [_]) rfl rfl (Cells.newAt _ _ _ _ _ (by simp) rfl) (nums_one _ _) (by decide) (by unfold maxLen; omega) (by omega) ?_; intro A3 cap3 w3 ho3; replace ho3 := ho3.tail; have c3 := ho3.cell 0 rfl 0; have f3 := ho3.frozen 0 rfl 0; simp at c3; replace ho3 := Hidd.mk (ho3.set 0 rfl 0 (.slice A3 (n + 1 + 1 + 1) cap3)); clear ho2)
      | (at_builtin; refine wpList_want rfl _ _ 22 rfl 5 i0 (.int .u8 0) 1 1 Try.underlying22 hi0.out.1 hi0.out.2.1 hi0.out.2.2.1 hi0.out.2.2.2 (by rfl) (by decide) (ho3.out.alloc _) 2 A3 _ cap3 _ rfl rfl _ 1 1 (nums .u8 [_]) rfl rfl (Cells.newAt _ _ _ _ _ (by simp) rfl) (nums_one _ _) (by decide) (by unfold maxLen; omega) (by omega) ?_; intro A4 cap4 w4 ho4; replace ho4 := ho4.tail; have c4 := ho4.cell 0 rfl 0; have f4 := ho4.frozen 0 rfl 0; simp at c4; replace ho4 := Hidd.mk (ho4.set 0 rfl 0 (.slice A4 (n + 1 + 1 + 1 + 1) cap4)); clear ho3))
    exact bodyPost_end (v := .tuple #[]) (by simp [results, Try.results40, go_sem]) rfl ⟨rfl, hcl.out _ _ _ _ _ rfl (wput4 v xs hv) ho4.out⟩
  · obtain rfl : sz = 0 := by rw [← hsz]; unfold wsz; rw [if_neg (by omega)]
    have e1 : (size == 1) = false := by rw [beq_eq_false_iff_ne]; exact h1
    have e2 : (size == 2) = false := by rw [beq_eq_false_iff_ne]; exact h2
    have e3 : (size == 3) = false := by rw [beq_eq_false_iff_ne]; exact h3
    have e4 : (size == 4) = false := by rw [beq_eq_false_iff_ne]; exact h4
    go_enter Try.func40, Try.ntmps40
    go_wp2
    exact bodyPost_end (v := .tuple #[]) (by simp [results, Try.results40, go_sem]) rfl ⟨rfl, hcl.out _ _ _ _ _ rfl (by rw [wputN, List.append_nil]) ho.out⟩
end Go.Proofs.Ytjbhcmkloamcmaa
