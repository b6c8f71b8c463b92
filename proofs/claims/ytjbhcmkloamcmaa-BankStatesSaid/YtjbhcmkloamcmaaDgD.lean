/- The first 64 primes; the numbers of the digest out of their roots. -/
import Derived.Test.YtjbhcmkloamcmaaDgC
import Derived.WalkMore
import Derived.Deep.LoopGhost
namespace Go.Proofs.Ytjbhcmkloamcmaa
open Go.RowKit

def PL : List Nat := [2, 3, 5, 7, 11, 13, 17, 19, 23, 29, 31, 37, 41, 43, 47, 53, 59, 61, 67, 71, 73, 79, 83, 89, 97, 101, 103, 107, 109, 113, 127, 131, 137, 139, 149, 151, 157, 163, 167, 173, 179, 181, 191, 193, 197, 199, 211, 223, 227, 229, 233, 239, 241, 251, 257, 263, 269, 271, 277, 281, 283, 293, 307, 311]
def sqs : List Nat := [6074000999, 7439101573, 9603838834, 11363415354, 14244795007, 15485724812, 17708603819, 18721328409]
def cbs : List Nat := [5411319704, 6194414737, 7344290767, 8215976869, 9551921755, 10098905585, 11043570340, 11460697813, 12214315672, 13195500289, 13492127166, 14311783875, 14809980276, 15046980094, 15499789991, 16133124468, 16720292289, 16907126662, 17444216262, 17784676812, 17950125167, 18429019306, 18734950876, 19175934170, 19734090066, 20001703533, 20132865992, 20390182855, 20516441075, 20764397895, 21588763473, 21813078375, 22141143685, 22248366392, 22769593852, 22871018771, 23170020180, 23461497531, 23651862830, 23931792517, 24205322401, 24295138891, 24734567280, 24820601251, 24990902297, 25075189284, 25569408389, 26045227120, 26200031510, 26276752392, 26428864332, 26653801653, 26727943347, 27092625994, 27306805839, 27517677555, 27725365998, 27793908591, 27997534228, 28131656200, 28198240250, 28526537963, 28973835255, 29099129074]
def filt (p : Nat) : List Nat := PL.filter (· < p)
def chk (p : Nat) : Bool := (decide ((filt p).length < 64)) && (filt p).all (fun q => decide (0 < q)) && (decide (p < 2) || (if (filt p).all (fun q => p % q != 0) then filt (p + 1) == filt p ++ [p] else filt (p + 1) == filt p))
set_option maxRecDepth 100000
set_option maxHeartbeats 4000000
theorem chk_all : (List.range 312).all chk = true := by decide +kernel
theorem filt_end : filt 312 = PL := by decide +kernel
theorem chk_at {p : Nat} (h : p < 312) : chk p = true := List.all_eq_true.1 chk_all p (List.mem_range.2 h)
theorem filt_lt {p : Nat} (h : p < 312) : (filt p).length < 64 := by
  have := chk_at h
  simp only [chk, Bool.and_eq_true, decide_eq_true_eq] at this
  exact this.1.1
theorem filt_pos {p : Nat} (h : p < 312) {i q : Nat} (hq : (filt p)[i]? = some q) : 0 < q := by
  have := chk_at h
  simp only [chk, Bool.and_eq_true, List.all_eq_true, decide_eq_true_eq] at this
  exact this.1.2 q (List.mem_of_getElem? hq)
theorem filt_step {p : Nat} (h : p < 312) (h2 : 2 ≤ p) : filt (p + 1) = if (filt p).all (fun q => p % q != 0) then filt p ++ [p] else filt p := by
  have := chk_at h
  simp only [chk, Bool.and_eq_true, Bool.or_eq_true, decide_eq_true_eq] at this
  have := this.2.resolve_left (by omega)
  split at this <;> rename_i h3
  · rw [if_pos h3]; exact eq_of_beq this
  · rw [if_neg h3]; exact eq_of_beq this
theorem ov_sq {p c : Nat} (h1 : c * c ≤ p * 18446744073709551616) (h2 : p * 18446744073709551616 < (c + 1) * (c + 1)) (m : Nat) : ovB p false m = decide (c < m) := by
  unfold ovB
  rw [if_neg (by decide)]
  congr 1
  apply propext
  constructor
  · intro h
    rcases Nat.lt_or_ge c m with h' | h'
    · exact h'
    · have := Nat.mul_le_mul h' h'; omega
  · intro h
    have := Nat.mul_le_mul h h
    simp only [Nat.succ_eq_add_one] at this
    omega
theorem ov_cb {p c : Nat} (h1 : c * c * c ≤ p * 79228162514264337593543950336) (h2 : p * 79228162514264337593543950336 < (c + 1) * (c + 1) * (c + 1)) (m : Nat) : ovB p true m = decide (c < m) := by
  unfold ovB
  rw [if_pos rfl]
  congr 1
  apply propext
  constructor
  · intro h
    rcases Nat.lt_or_ge c m with h' | h'
    · exact h'
    · have := Nat.mul_le_mul (Nat.mul_le_mul h' h') h'; omega
  · intro h
    have := Nat.mul_le_mul (Nat.mul_le_mul h h) h
    simp only [Nat.succ_eq_add_one] at this
    omega
def chkS (i : Nat) : Bool := let p := PL.getD i 0; let c := sqs.getD i 0; decide (c < 274877906944) && decide (c * c ≤ p * 18446744073709551616) && decide (p * 18446744073709551616 < (c + 1) * (c + 1)) && decide (BitVec.ofNat 32 c = ivs.getD i 0)
def chkC (i : Nat) : Bool := let p := PL.getD i 0; let c := cbs.getD i 0; decide (p < 4096) && decide (c < 274877906944) && decide (c * c * c ≤ p * 79228162514264337593543950336) && decide (p * 79228162514264337593543950336 < (c + 1) * (c + 1) * (c + 1)) && decide (BitVec.ofNat 32 c = kays.getD i 0)
theorem chkS_all : (List.range 8).all chkS = true := by decide +kernel
theorem chkC_all : (List.range 64).all chkC = true := by decide +kernel
theorem rootC_any {i : Nat} (hi : i < 64) (w : World) : Calls Try.prog 47 #[.int .u64 ((PL.getD i 0 : Nat) : Int), .bool true] w fun e w' => e = .returned (.int .u32 ((kays.getD i 0).toNat : Int)) ∧ w = w' := by
  have h := List.all_eq_true.1 chkC_all i (List.mem_range.2 hi)
  simp only [chkC, Bool.and_eq_true, decide_eq_true_eq] at h
  obtain ⟨⟨⟨⟨h0, h1⟩, h2⟩, h3⟩, h4⟩ := h
  rw [← h4]
  exact root_any _ _ true h0 h1 (fun m _ => ov_cb h2 h3 m) w
theorem rootS_any {i : Nat} (hi : i < 8) (w : World) : Calls Try.prog 47 #[.int .u64 ((PL.getD i 0 : Nat) : Int), .bool false] w fun e w' => e = .returned (.int .u32 ((ivs.getD i 0).toNat : Int)) ∧ w = w' := by
  have h := List.all_eq_true.1 chkS_all i (List.mem_range.2 hi)
  simp only [chkS, Bool.and_eq_true, decide_eq_true_eq] at h
  obtain ⟨⟨⟨h1, h2⟩, h3⟩, h4⟩ := h
  have h0 := List.all_eq_true.1 chkC_all i (List.mem_range.2 (by omega))
  simp only [chkC, Bool.and_eq_true, decide_eq_true_eq] at h0
  rw [← h4]
  exact root_any _ _ false h0.1.1.1.1 h1 (fun m _ => ov_sq h2 h3 m) w
theorem info_u64 : (Try.prog.info? 83).map (fun i => (i.zero, i.size, i.bytes)) = some (some (.int .u64 0), 1, 8) := by kernel_rfl
def natI (l : List Nat) : List Int := l.map (fun x : Nat => (x : Int))
theorem natI_get {l : List Nat} {i q : Nat} (h : l[i]? = some q) : (nums .u64 (natI l))[i]? = some (.int .u64 (q : Int)) := by simp [nums, natI, h]
theorem natI_len (l : List Nat) : (natI l).length = l.length := by simp [natI]
theorem primes_any (w : World) : Calls Try.prog 46 #[.int .i64 64] w fun e w' => ∃ A c, e = .returned (.slice A 64 c) ∧ Own w (fun _ => False) w' [row 83 1 (.slice A 64 c) 64 (nums .u64 (natI PL))] := by
  obtain ⟨i0, hi0, hi1, hi2, hi3⟩ := info_parts info_u64
  go_enter Try.func46, Try.ntmps46
  go_wp2
  go_step3
  go_wp2
  go_step3
  go_wp2
  go_loopg [3, 4] 310 (fun g v3 v4 wr => ∃ (A : Option Addr) (c n p : Nat), p + g = 312 ∧ v3 = .slice A n c ∧ v4 = .int .u64 p ∧ 2 ≤ p ∧ Hidd ((filt p).length = n) ∧ Hidd (Own w (fun _ => False) wr [row 83 1 (.slice A n c) n (nums .u64 (natI (filt p)))]))
  case atStart => exact ⟨none, 0, 0, 2, rfl, rfl, rfl, by omega, ⟨by decide +kernel⟩, ⟨row_nil (Own.nil w _) _ _⟩⟩
  case round =>
    obtain ⟨A, c, n, p, hg, rfl, rfl, h2, hn, ho⟩ := hrel
    cases gk with
    | zero =>
      obtain rfl : p = 312 := by omega
      obtain rfl : n = 64 := by rw [← hn.out, filt_end]; rfl
      go_wp2
      (try rw [Exit.noGoto_ret])
      go_ret
      refine ⟨A, c, rfl, ?_⟩
      have h := ho.out
      rw [filt_end] at h
      exact h
    | succ g =>
      have hlt : p < 312 := by omega
      have hn64 : n < 64 := by rw [← hn.out]; exact filt_lt hlt
      have d1 : decide (n < 64) = true := by simpa using hn64
      have hs := Hidd.mk (filt_step hlt h2)
      have hgp : p + 1 + g = 312 := by omega
      clear hg
      go_wp2
      go_loopg [15] n (fun g' v15 wx => ∃ (j : Nat), j + g' = n ∧ v15 = .int .i64 j ∧ Hidd (((filt p).take j).all (fun q => p % q != 0) = true) ∧ Hidd (Own w (fun _ => False) wx [row 83 1 (.slice A n c) n (nums .u64 (natI (filt p)))]))
      case atStart => exact ⟨0, by omega, rfl, ⟨rfl⟩, ho⟩
      case round =>
        clear ho
        obtain ⟨j, hj, rfl, ha, ho⟩ := hrel
        cases gk with
        | zero =>
          obtain rfl : j = n := by omega
          have d2 : decide (j < j) = false := by simp
          have hs2 : Hidd (filt (p + 1) = filt p ++ [p]) := ⟨by
            have := ha.out
            rw [List.take_of_length_le (by rw [hn.out]; exact Nat.le_refl _)] at this
            rw [hs.out, if_pos this]⟩
          have hap : Hidd (∀ wz : World, True) := ⟨fun _ => trivial⟩
          go_wp2_with (at_builtin; have hl := row_lit ho.out 83 1 1 #[.int .u64 (p : Int)] (nums .u64 (natI [p])) rfl rfl (by decide); refine wpList_row rfl _ _ 100 rfl 83 i0 (.int .u64 0) 1 8 Try.underlying100 hi0 hi1 hi2 hi3 rfl (by decide) hl 1 A j c _ rfl rfl _ 1 1 (nums .u64 (natI [p])) rfl rfl (row_cells hl 0 rfl) (by intro _ h; cases h) (nums_one _ _) (by unfold maxLen; omega) (by omega) ?_; intro A4 c4 w4 ho4; replace ho4 := Hidd.mk ho4.tail; clear hl ho)
          go_roundg g
          case rel =>
            refine ⟨A4, c4, j + 1, p + 1, hgp, rfl, by go_num, by omega, ⟨by rw [hs2.out, List.length_append, hn.out]; rfl⟩, ⟨?_⟩⟩
            have h4 := ho4.out
            rw [hs2.out, show natI (filt p ++ [p]) = natI (filt p) ++ natI [p] by simp [natI], nums_append]
            exact h4
          case measure => omega
        | succ g' =>
          have hjn : j < n := by omega
          have d2 : decide (j < n) = true := by simpa using hjn
          have hx : (filt p)[j]? = some ((filt p).getD j 0) := by rw [List.getD_eq_getElem?_getD, List.getElem?_eq_getElem (by rw [hn.out]; exact hjn)]; rfl
          have hq0 := filt_pos hlt hx
          obtain ⟨ad, rfl, hc⟩ : ∃ ad, A = some ad ∧ wr.cell? (ad.add j) = some (.int .u64 ((filt p).getD j 0 : Nat)) := by
            obtain ⟨ad, e, h⟩ := row_cells ho.out 0 rfl j _ (natI_get hx)
            exact ⟨ad, e, h⟩
          have bi0 : (0 : Int) ≤ (j : Int) := by omega
          have bi1 : (j : Int) < (n : Int) := by omega
          have ht : (filt p).take (j + 1) = (filt p).take j ++ [(filt p).getD j 0] := by rw [List.take_add_one, hx]; rfl
          have hm : (filt p).getD j 0 ∈ filt p := List.mem_of_getElem? hx
          generalize (filt p).getD j 0 = q at hc hq0 ht hm
          have hq1 : ¬ q = 0 := by omega
          have hqi : ¬ (q : Int) = 0 := by omega
          clear hx
          by_cases hd : p % q = 0
          · have d3 : ((p : Int) % (q : Int) == 0) = true := by rw [beq_iff_eq]; omega
            have hs2 : Hidd (filt (p + 1) = filt p) := ⟨by
              rw [hs.out, if_neg]
              intro h
              have := List.all_eq_true.1 h q hm
              simp [hd] at this⟩
            clear hd hm ht
            go_wp2
            go_roundg g
            case rel => exact ⟨_, c, n, p + 1, hgp, rfl, by go_num, by omega, ⟨by rw [hs2.out]; exact hn.out⟩, ⟨by rw [hs2.out]; exact ho.out⟩⟩
            case measure => omega
          · have d3 : ((p : Int) % (q : Int) == 0) = false := by rw [beq_eq_false_iff_ne]; omega
            have ha2 : Hidd (((filt p).take (j + 1)).all (fun q => p % q != 0) = true) := ⟨by rw [ht, List.all_append, ha.out]; simp [hd]⟩
            clear hd hm ht
            go_wp2
            go_roundg g'
            case rel => exact ⟨j + 1, by omega, by go_num, ha2, ho⟩
            case measure => omega
end Go.Proofs.Ytjbhcmkloamcmaa
