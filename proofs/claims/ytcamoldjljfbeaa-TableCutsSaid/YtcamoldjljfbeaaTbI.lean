/- The reference's reading of tables: one number, some numbers. -/
import Derived.Test.YtcamoldjljfbeaaTbG0
import Derived.Test.YtcamoldjljfbeaaTaQ
import Derived.Test.YtcamoldjljfbeaaAppR
import Derived.Deep.OwnRows
import Derived.Deep.DeepCutAuto
namespace Go.Proofs.Ytcamoldjljfbeaa
open Go.RowKit

def natsC (vs : List Nat) : List Value := vs.map fun (v : Nat) => Value.int .i64 (v : Int)
theorem natsC_len (vs : List Nat) : (natsC vs).length = vs.length := List.length_map ..
theorem natsC_set (vs : List Nat) (i v : Nat) : (natsC vs).set i (.int .i64 (v : Int)) = natsC (vs.set i v) := by unfold natsC; rw [List.map_set]
theorem natsC_get {vs : List Nat} {i v : Nat} (h : vs[i]? = some v) : (natsC vs)[i]? = some (.int .i64 (v : Int)) := by unfold natsC; rw [List.getElem?_map, h]; rfl
theorem made_nats (n : Nat) : (madeCells #[.int .i64 0] n).toList = natsC (List.replicate n 0) := by
  have h : madeCells #[.int .i64 0] n = (natsC (List.replicate n 0)).toArray := by
    simp only [madeCells, natsC]
    apply Array.ext
    · simp
    · intro i h1 h2
      simp [Nat.mod_one]
  rw [h]
theorem made_nsize (n : Nat) : (madeCells #[.int .i64 0] n).size = n * 1 := by
  have := congrArg List.length (made_nats n)
  rw [natsC_len, List.length_replicate] at this
  simpa using this
theorem fill_set (vs : List Nat) (i m v : Nat) (hl : vs.length = i) (hi : i < m) : (vs ++ List.replicate (m - i) 0).set i v = (vs ++ [v]) ++ List.replicate (m - (i + 1)) 0 := by
  obtain ⟨d, hd⟩ : ∃ d, m - i = d + 1 := ⟨m - i - 1, by omega⟩
  rw [List.set_append, if_neg (by omega), hd, show m - (i + 1) = d by omega, List.replicate_succ, hl, Nat.sub_self, List.set_cons_zero, List.append_assoc]
  rfl
theorem takes_glue {xs : List Int} {n : Nat} {a b : List Nat} {s s1 s2 : RS} {vs us : List Nat} (h : takes xs n a s = (vs, s1)) (k : takes xs n b s1 = (us, s2)) : takes xs n (a ++ b) s = (vs ++ us, s2) := by
  rw [takes_app, h]
  simp only [k]
theorem len2 {α : Type} {l : List α} (h : l.length = 2) : ∃ a b, l = [a, b] := by
  match l, h with
  | [a, b], _ => exact ⟨a, b, rfl⟩
theorem len3 {α : Type} {l : List α} (h : l.length = 3) : ∃ a b c, l = [a, b, c] := by
  match l, h with
  | [a, b, c], _ => exact ⟨a, b, c, rfl⟩
theorem len6 {α : Type} {l : List α} (h : l.length = 6) : ∃ a b c d e f, l = [a, b, c, d, e, f] := by
  match l, h with
  | [a, b, c, d, e, f], _ => exact ⟨a, b, c, d, e, f, rfl⟩
theorem info_int' : (Try.prog.info? 3).map (fun i => (i.zero, i.size, i.bytes)) = some (some (.int .i64 0), 1, 8) := by kernel_rfl
set_option maxRecDepth 100000
set_option maxHeartbeats 8000000
section
variable {w0 w : World} {F : Nat → Prop} {L : List Res} {b : Nat} {A : Option Addr} {n cap : Nat} {xs : List Int}
theorem rtk_any (hC : ∀ w', Kept F w0 w' → Cells w' A (nums .u8 xs)) (hl : xs.length = n) (hn : n ≤ 1000000) (hx : ∀ x ∈ xs, 0 ≤ x ∧ x < 256) (z : Nat) (hz : z ≤ 4) (k : Nat) (s : RS) (hO : Own w0 F w L) (hk : L[k]? = some (rref b A n cap s.p s.er)) (hp : s.p ≤ n) :
    Calls Try.prog 88 #[.pointer (some ⟨b, 0, none⟩), .int .i64 (z : Int)] w fun e w' => ∃ (v : Nat) (s' : RS), e = .returned (.int .u32 (v : Int)) ∧ tk xs n z s = (v, s') ∧ Own w0 F w' (L.set k (rref b A n cap s'.p s'.er)) := by
  obtain ⟨v, p', er', hr⟩ : ∃ v p' er', takeR xs n s.p s.er (z : Int) = (v, p', er') := ⟨_, _, _, rfl⟩
  refine (rtake_own k hO hk (hC _ hO.kept) hl hp (by omega) hx (z : Int) (by omega) (by omega) v p' er' hr).mono ?_
  rintro e w' ⟨rfl, hn'⟩
  exact ⟨v, ⟨p', er'⟩, rfl, by unfold tk; rw [hr], hn'⟩
theorem some_any (hC : ∀ w', Kept F w0 w' → Cells w' A (nums .u8 xs)) (hl : xs.length = n) (hn : n ≤ 1000000) (hx : ∀ x ∈ xs, 0 ≤ x ∧ x < 256) (z : Nat) (hz : z ≤ 4) (m : Nat) (hm : m ≤ 6) (k : Nat) (s : RS) (hO : Own w0 F w L) (hk : L[k]? = some (rref b A n cap s.p s.er)) (hp : s.p ≤ n) :
    Calls Try.prog 89 #[.pointer (some ⟨b, 0, none⟩), .int .i64 (z : Int), .int .i64 (m : Int)] w fun e w' => ∃ (g : Nat) (vs : List Nat) (s' : RS), e = .returned (.slice (some ⟨g, 0, none⟩) m m) ∧ takes xs n (List.replicate m z) s = (vs, s') ∧ vs.length = m ∧ (∀ v ∈ vs, v < 256 ^ z) ∧ s'.p ≤ n ∧
      Own w0 F w' (row 3 1 (.slice (some ⟨g, 0, none⟩) m m) m (natsC vs) :: L.set k (rref b A n cap s'.p s'.er)) := by
  have hm1 : ∀ W : World, (Instr.makeSlice 63 (.int .i64 (m : Int)) (.int .i64 (m : Int))).run Try.prog W = _ := run_make_row' 63 3 (.int .i64 0) 8 (by rfl) info_int' rfl .i64 .i64 m (by omega) (by omega)
  have hC2 := Hidd.mk hC
  have hx2 := Hidd.mk hx
  have hk2 := Hidd.mk hk
  have ho1 := Hidd.mk (row_lit hO 3 1 m (madeCells #[.int .i64 0] m) _ (made_nats m) (made_nsize m) (by unfold maxLen; omega))
  clear hO hC hx hk
  go_enter Try.func89, Try.ntmps89
  go_wp2
  generalize World.alloc w _ = W1 at ho1 ⊢
  generalize w.heap.size = g at ho1 ⊢
  go_loopw [8] (fun v8 wr => ∃ (i : Nat) (vs : List Nat) (s' : RS), v8 = .int .i64 i ∧ i ≤ m ∧ Hidd (s'.p ≤ n) ∧ Hidd (vs.length = i) ∧ Hidd (∀ v ∈ vs, v < 256 ^ z) ∧ Hidd (takes xs n (List.replicate i z) s = (vs, s')) ∧ Hidd (Own w0 F wr (row 3 1 (.slice (some ⟨g, 0, none⟩) m m) m (natsC (vs ++ List.replicate (m - i) 0)) :: L.set k (rref b A n cap s'.p s'.er)))) (fun v8 _ => m - (intOf v8).toNat)
  case atStart => exact ⟨0, [], s, rfl, Nat.zero_le _, ⟨hp⟩, ⟨rfl⟩, ⟨by simp⟩, ⟨rfl⟩, ⟨by rw [set_self hk2.out]; exact ho1.out⟩⟩
  case round =>
    clear ho1 hm1
    obtain ⟨i, vs, s', rfl, him, hpp, hvl, hvb, htks, ho⟩ := hrel
    by_cases hlt : i < m
    · have bi0 : (0 : Int) ≤ (i : Int) := by omega
      have bi1 : (i : Int) < (m : Int) := by omega
      go_wp2_with (go_at_call 88; refine (rtk_any hC2.out hl hn hx2.out z hz (k + 1) s' ho.out (show (_ :: L.set k _)[k + 1]? = some _ from set_get hk2.out) hpp.out).mono ?_; rintro e w1 ⟨v, s2, rfl, htk, hn1⟩; have hv := tk_lt hx2.out htk; have hv4 : v < 4294967296 := Nat.lt_of_lt_of_le hv (Nat.le_trans (Nat.pow_le_pow_right (by decide) hz) (by decide)); have hw := IntWalk.i64_in (v : Int) (by omega); simp only [List.set_cons_succ, List.set_set] at hn1; have y := cells_at (row_cells hn1 0 rfl) (natsC_get (show (vs ++ List.replicate (m - i) 0)[i]? = some 0 by rw [List.getElem?_append_right (by have := hvl.out; omega), List.getElem?_replicate, if_pos (by have := hvl.out; omega)])); have fy := (show w1.ownsRow 0 3 1 (.slice (some ⟨g, 0, none⟩) m m) m (natsC (vs ++ List.replicate (m - i) 0)) from hn1.get 0 rfl).frozenAt i; have hpq := Hidd.mk (tk_pos htk hpp.out); have hn2 := Hidd.mk hn1; have htk2 := Hidd.mk htk; replace hv := Hidd.mk hv; clear htk hn1 ho)
      have hs := row_set hn2.out 0 rfl i (.int .i64 (v : Int))
      simp only [List.set_cons_zero] at hs
      rw [natsC_set, fill_set vs i m v hvl.out hlt] at hs
      have hend := Hidd.mk hs
      clear hs hn2 y fy
      go_roundw
      case rel => exact ⟨i + 1, vs ++ [v], s2, by go_num, by omega, hpq, ⟨by have := hvl.out; rw [List.length_append, List.length_singleton]; omega⟩, ⟨fun u hu => (List.mem_append.1 hu).elim (hvb.out u) fun h => by rw [List.mem_singleton.1 h]; exact hv.out⟩, ⟨by rw [List.replicate_succ']; exact takes_snoc htks.out htk2.out⟩, hend⟩
      case measure => (simp [intOf]; try omega)
    · obtain rfl : i = m := by omega
      go_wp2
      go_ret
      refine ⟨g, vs, s', rfl, htks.out, hvl.out, hvb.out, hpp.out, ?_⟩
      have h := ho.out
      rw [Nat.sub_self, List.replicate_zero, List.append_nil] at h
      exact h
end
end Go.Proofs.Ytcamoldjljfbeaa
