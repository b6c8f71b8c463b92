/- The image of tables, as bytes; numbers that are put one behind the other. -/
import Derived.Test.YtcamoldjljfbeaaTaP
import Derived.Test.YtcamoldjljfbeaaCrcN
import Derived.Test.YtcamoldjljfbeaaSoC
namespace Go.Proofs.Ytcamoldjljfbeaa
open Go.RowKit

theorem set_id {α : Type} {l : List α} {k : Nat} {x : α} (h : l[k]? = some x) : l.set k x = l := by
  obtain ⟨h1, rfl⟩ := List.getElem?_eq_some_iff.1 h
  exact List.set_getElem_self h1
def putsL (k : Nat) (xs : List Int) : List Int := xs.flatMap fun x => wputN x.toNat k
theorem putsL_app (k : Nat) (xs ys : List Int) : putsL k (xs ++ ys) = putsL k xs ++ putsL k ys := by simp [putsL]
theorem putsL_len (k : Nat) : ∀ xs, (putsL k xs).length = xs.length * k
  | [] => by simp [putsL]
  | x :: xs => by
    have ih := putsL_len k xs
    unfold putsL at ih ⊢
    rw [List.flatMap_cons, List.length_append, ih, wputN_length, List.length_cons, Nat.add_mul, Nat.one_mul, Nat.add_comm]
theorem wput_rng (v : Nat) : ∀ k, ∀ x ∈ wputN v k, 0 ≤ x ∧ x ≤ 255
  | 0, x, h => by cases h
  | k + 1, x, h => by
    rcases List.mem_cons.1 h with rfl | h
    · omega
    · exact wput_rng v k x h
theorem putsL_rng (k : Nat) (xs : List Int) : Bytes (putsL k xs) := fun x hx => by
  obtain ⟨y, _, hy⟩ := List.mem_flatMap.1 hx
  exact wput_rng _ _ _ hy
theorem bytes_app {a b : List Int} (h : Bytes a) (k : Bytes b) : Bytes (a ++ b) := fun x hx => (List.mem_append.1 hx).elim (h x) (k x)
theorem bytes_flat {α : Type} {f : α → List Int} (h : ∀ x, Bytes (f x)) (l : List α) : Bytes (l.flatMap f) := fun x hx => by
  obtain ⟨y, _, hy⟩ := List.mem_flatMap.1 hx
  exact h y x hy
theorem len_flat {α : Type} {f : α → List Int} {k : Nat} (h : ∀ x, (f x).length = k) : ∀ l : List α, (l.flatMap f).length = l.length * k
  | [] => by simp
  | x :: l => by rw [List.flatMap_cons, List.length_append, len_flat h l, h, List.length_cons, Nat.add_mul, Nat.one_mul, Nat.add_comm]
def bI (b : Bool) : Int := if b then 1 else 0
def ptBy (p : Pt) : List Int := putsL 1 [p.node] ++ putsL 4 [p.start, p.len] ++ putsL 1 [p.budget, p.words, p.r0, p.r1, p.r2, p.r3]
def qtBy (q : Qt) : List Int := putsL 1 [q.part, q.kind, bI q.out, q.size, q.depth, q.fresh]
def rtBy (r : Rt) : List Int := putsL 1 [r.src, r.dst]
def hdBy (n f sl gp rh d0 d1 mg : Int) (pn on rn : Nat) : List Int := putsL 4 [1163084593] ++ putsL 1 [n, f] ++ putsL 4 [sl, gp, rh, d0, d1, mg] ++ putsL 1 [(pn : Int), (on : Int), (rn : Int)]
theorem ptBy_len (p : Pt) : (ptBy p).length = 15 := by simp [ptBy, putsL_len]
theorem qtBy_len (q : Qt) : (qtBy q).length = 6 := by simp [qtBy, putsL_len]
theorem rtBy_len (r : Rt) : (rtBy r).length = 2 := by simp [rtBy, putsL_len]
theorem hdBy_len (n f sl gp rh d0 d1 mg : Int) (pn on rn : Nat) : (hdBy n f sl gp rh d0 d1 mg pn on rn).length = 33 := by simp [hdBy, putsL_len]
def imgB (n f sl gp rh d0 d1 mg : Int) (ps : List Pt) (qs : List Qt) (rs : List Rt) : List Int := hdBy n f sl gp rh d0 d1 mg ps.length qs.length rs.length ++ ps.flatMap ptBy ++ qs.flatMap qtBy ++ rs.flatMap rtBy
theorem imgB_len (n f sl gp rh d0 d1 mg : Int) (ps : List Pt) (qs : List Qt) (rs : List Rt) : (imgB n f sl gp rh d0 d1 mg ps qs rs).length = 33 + 15 * ps.length + 6 * qs.length + 2 * rs.length := by
  unfold imgB
  rw [List.length_append, List.length_append, List.length_append, hdBy_len, len_flat ptBy_len, len_flat qtBy_len, len_flat rtBy_len]
  omega
theorem hdBy_rng (n f sl gp rh d0 d1 mg : Int) (pn on rn : Nat) : Bytes (hdBy n f sl gp rh d0 d1 mg pn on rn) := bytes_app (bytes_app (bytes_app (putsL_rng _ _) (putsL_rng _ _)) (putsL_rng _ _)) (putsL_rng _ _)
theorem ptBy_rng (p : Pt) : Bytes (ptBy p) := bytes_app (bytes_app (putsL_rng _ _) (putsL_rng _ _)) (putsL_rng _ _)
theorem imgB_rng (n f sl gp rh d0 d1 mg : Int) (ps : List Pt) (qs : List Qt) (rs : List Rt) : Bytes (imgB n f sl gp rh d0 d1 mg ps qs rs) :=
  bytes_app (bytes_app (bytes_app (hdBy_rng n f sl gp rh d0 d1 mg _ _ _) (bytes_flat ptBy_rng _)) (bytes_flat (fun _ => putsL_rng _ _) _)) (bytes_flat (fun _ => putsL_rng _ _) _)
theorem putsL_snoc {ys : List Int} {i : Nat} {v : Nat} (sz : Nat) (h : ys[i]? = some (v : Int)) : putsL sz (ys.take (i + 1)) = putsL sz (ys.take i) ++ wputN v sz := by
  rw [List.take_add_one, h, putsL_app]
  simp [putsL]
def InU (ys : List Int) : Prop := ∀ x ∈ ys, 0 ≤ x ∧ x < 4294967296
theorem InU.nil : InU [] := fun x h => by cases h
theorem InU.cons {x : Int} {l : List Int} (h0 : 0 ≤ x) (h1 : x < 4294967296) (h : InU l) : InU (x :: l) := fun y hy => by
  rcases List.mem_cons.1 hy with rfl | hy
  · exact ⟨h0, h1⟩
  · exact h y hy
theorem wrapU (v : Nat) (h : v < 4294967296) : IntKind.u32.wrap (v : Int) = v ∧ (v : Int) % 4294967296 = v := by
  rw [IntKind.wrap_u32']
  omega
set_option maxRecDepth 100000
set_option maxHeartbeats 8000000
theorem puts_own {w w0 : World} {S : Nat → Prop} {L : List Res} {b g : Nat} {A : Option Addr} {n cap : Nat} {xs : List Int} (k j : Nat) (hO : Own w0 S w L) (hk : L[k]? = some (wtr b A n cap xs)) (size : Int) (sz : Nat) (hsz : wsz size = sz) (m c : Nat) (ys : List Int)
    (hj : L[j]? = some (blk g (.cells (nums .i64 ys).toArray 3 (0, 0)))) (hjk : k ≠ j) (hl : ys.length = m) (hr : InU ys) (hn : n + 4 * m ≤ 1000000) (n' : Nat) (hn' : n + m * sz = n') :
    Calls Try.prog 59 #[.int .i64 size, .slice (some ⟨g, 0, none⟩) m c, .pointer (some ⟨b, 0, none⟩)] w fun e w' => e = .returned (.tuple #[]) ∧ ∃ A' cap', Own w0 S w' (L.set k (wtr b A' n' cap' (xs ++ putsL sz ys))) := by
  have hs4 : sz ≤ 4 := by rw [← hsz]; unfold wsz; split <;> omega
  have hml : m * sz ≤ 4 * m := by rw [Nat.mul_comm 4 m]; exact Nat.mul_le_mul_left m hs4
  have hkl : k < L.length := (List.getElem?_eq_some_iff.1 hk).1
  have h0 := Hidd.mk (show Own w0 S w (L.set k (wtr b A (n + 0 * sz) cap (xs ++ putsL sz (ys.take 0)))) by
    rw [Nat.zero_mul, Nat.add_zero, List.take_zero, show putsL sz [] = [] from rfl, List.append_nil, set_id hk]
    exact hO)
  have hset : Hidd (∀ r, (L.set k r)[k]? = some r ∧ (L.set k r)[j]? = some (blk g (.cells (nums .i64 ys).toArray 3 (0, 0)))) := ⟨fun r => ⟨by rw [List.getElem?_set, if_pos rfl, if_pos hkl], by rw [List.getElem?_set, if_neg hjk, hj]⟩⟩
  replace hr := Hidd.mk hr
  replace hl := Hidd.mk hl
  replace hn' := Hidd.mk hn'
  clear hO hk hj hkl
  go_enter Try.func59, Try.ntmps59
  go_wp2
  go_loopw [9] (fun v9 wr => ∃ (i : Nat) (A' : Option Addr) (cap' : Nat), v9 = .int .i64 i ∧ i ≤ m ∧ Hidd (Own w0 S wr (L.set k (wtr b A' (n + i * sz) cap' (xs ++ putsL sz (ys.take i)))))) (fun v9 _ => m - (intOf v9).toNat)
  case atStart => exact ⟨0, A, cap, rfl, Nat.zero_le _, h0⟩
  case round =>
    clear h0
    obtain ⟨i, A', cap', rfl, hil, ho⟩ := hrel
    by_cases hlt : i < m
    · obtain ⟨x, hx⟩ : ∃ x, ys[i]? = some x := ⟨_, List.getElem?_eq_getElem (by rw [hl.out]; exact hlt)⟩
      obtain ⟨x0, x1⟩ := hr.out x (List.mem_of_getElem? hx)
      obtain ⟨v, rfl⟩ : ∃ v : Nat, x = (v : Int) := ⟨x.toNat, by omega⟩
      have hps := Hidd.mk (putsL_snoc sz hx)
      have z0 := cells_at (v := .int .i64 (v : Int)) (j := i) (Cells.of_block (ho.out.get j (hset.out _).2)) (by simp [nums, hx])
      obtain ⟨u1, u2⟩ := wrapU v (by omega)
      have bi0 : (0 : Int) ≤ (i : Int) := by omega
      have bi1 : (i : Int) < (m : Int) := by omega
      have hni : n + i * sz ≤ 1000000 := by
        have : i * sz ≤ i * 4 := Nat.mul_le_mul_left i hs4
        omega
      have hv : v < 4294967296 := by omega
      clear hx x0 x1
      go_wp2_with (go_at_call 60; refine (put_own k ho.out (hset.out _).1 v size hni hv sz hsz).mono ?_; rintro e w1 ⟨rfl, A2, cap2, ho2⟩; rw [List.set_set] at ho2; have ho3 := Hidd.mk ho2; clear ho2)
      have hend := ho3.out
      rw [List.append_assoc, ← hps.out, Nat.add_assoc, ← Nat.succ_mul] at hend
      replace hend := Hidd.mk hend
      clear ho3 ho z0
      go_roundw
      case rel => exact ⟨i + 1, A2, cap2, by go_num, by omega, hend⟩
      case measure => (simp [intOf]; try omega)
    · obtain rfl : i = m := by omega
      have hend := ho.out
      rw [hn'.out, List.take_of_length_le (by rw [hl.out]; exact Nat.le_refl _)] at hend
      replace hend := Hidd.mk hend
      clear ho
      go_wp2
      exact bodyPost_end (v := .tuple #[]) (by simp [results, Try.results59, go_sem]) rfl ⟨rfl, _, _, hend.out⟩
theorem wrapE_any (c a : Int) (t : TypeId) (p : Value) (l : List (Int × Int)) (w : World) (hc : c ≠ 0) (ha : -1 ≤ a) (hl : IsErr w l none (.iface t p)) : Calls Try.prog 58 #[.int .i64 c, .int .i64 a, .iface t p] w fun e w' => ∃ b, e = .returned (.iface 77 (.pointer (some ⟨b, 0, none⟩))) ∧ IsErr w' ((c, a) :: l) none (.iface 77 (.pointer (some ⟨b, 0, none⟩))) ∧ Below w.heap.size w w' := by
  have hcd : (c == 0) = false := by rw [beq_eq_false_iff_ne]; exact hc
  have hob := Hidd.mk ((Own.nil w (fun _ => False)).alloc (.cells #[.int .i64 c, .int .i64 a, .iface t p] 79))
  replace hl := Hidd.mk hl
  go_enter Try.func58, Try.ntmps58
  go_wp2
  go_ret
  have hB := hob.out.below fun _ => id
  exact ⟨_, rfl, ⟨_, _, rfl, hob.out.get 0 rfl, hl.out.below hB⟩, hB⟩
end Go.Proofs.Ytcamoldjljfbeaa
