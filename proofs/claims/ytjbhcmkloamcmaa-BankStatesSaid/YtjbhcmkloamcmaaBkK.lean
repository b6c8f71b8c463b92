/- The fixed facts of the bank. -/
import Derived.Test.YtjbhcmkloamcmaaBkJ
import Derived.Test.YtjbhcmkloamcmaaBkD
import Derived.Test.YtjbhcmkloamcmaaDgF
import Derived.Test.YtjbhcmkloamcmaaRead
namespace Go.Proofs.Ytjbhcmkloamcmaa
open Go.RowKit

/-- An image that lies in a block just made. -/
theorem off_fresh {w0 w : World} {S : Nat → Prop} {L : List Res} {r : Res} (h : Own w0 S w L) (k : Nat) (hk : L[k]? = some r) (bs : List Int) : Off r (some ⟨w.heap.size, 0, none⟩) bs := fun _ ad e hf => by
  injection e with e
  subst e
  exact Nat.lt_irrefl _ (r.lt w (h.get k hk) _ hf)
theorem ext_alloc {w0 w : World} {S : Nat → Prop} {L : List Res} (h : Own w0 S w L) (o : Obj) : Own w0 S (w.alloc o) L := h.ext (below_alloc (Below.refl _ _) o)
def vab : Vw := ⟨true, false, [97, 98], sha [97, 98], [97, 98], 2, -1⟩
theorem put_ab : putR 2 [97, 98] (sha [97, 98]) Vw.new = (none, vab) := by
  simp [putR, rbegin, feedR, rchunk, rcommit, Vw.new, vab, decL]
theorem sha_ne : ¬ sha [120, 121] = sha [97, 98] := by decide +kernel
theorem put_xy : ∃ v, putR 1 [120, 121] (sha [97, 98]) vab = (some (6, -1), v) ∧ v.image = [97, 98] ∧ v.has = true := by
  refine ⟨{ vab with opn := false, want := sha [97, 98], got := [120, 121], size := 2, left := -1 }, ?_, rfl, rfl⟩
  simp [putR, rbegin, feedR, rchunk, rcommit, vab, decL, sha_ne]
theorem err_six : errB [(6, -1)] none = ⟨#[54, 64, 45, 49]⟩ := by decide +kernel
theorem str_ab : strOfNums [97, 98] = ⟨#[97, 98]⟩ := by decide +kernel
theorem bytes_ab : Bytes [97, 98] := by intro x hx; simp at hx; omega
theorem bytes_xy : Bytes [120, 121] := by intro x hx; simp at hx; omega
theorem sum_info (sum : List Int) (h : sum.length = 32) : (Try.prog.info? 34).map (·.size) = some (nums .u8 sum).toArray.size := by rw [sum_cells, h]; exact info_sum
theorem zero_hold (sum : List Int) (h : sum.length = 32) : (#[.int .u8 0, .int .u8 0, .int .u8 0, .int .u8 0, .int .u8 0, .int .u8 0, .int .u8 0, .int .u8 0, .int .u8 0, .int .u8 0, .int .u8 0, .int .u8 0, .int .u8 0, .int .u8 0, .int .u8 0, .int .u8 0, .int .u8 0, .int .u8 0, .int .u8 0, .int .u8 0, .int .u8 0, .int .u8 0, .int .u8 0, .int .u8 0, .int .u8 0, .int .u8 0, .int .u8 0, .int .u8 0, .int .u8 0, .int .u8 0, .int .u8 0, .int .u8 0] : Array Value).size = (nums .u8 sum).toArray.size := by rw [sum_cells, h]; rfl
theorem conv_bytesB {w : World} {A : Option Addr} {n c : Nat} {xs : List Int} (h : Cells w A (nums .u8 xs)) (hl : xs.length = n) : (convert 22 9 (.slice A n c)).run Try.prog w = .ok (.string (strOfNums xs)) w := conv_at h hl
theorem read_six (x : Value) (w : World) (h : IsE w (some (6, -1)) x) : Calls Try.prog 19 #[x] w fun e w' => e = .returned (.string ⟨#[54, 64, 45, 49]⟩) ∧ Below w.heap.size w w' := by
  rw [← err_six]
  exact read_any [(6, -1)] none x w h.isErr ⟨by decide, by simp, by simp⟩
set_option maxRecDepth 100000
set_option maxHeartbeats 16000000
theorem awake19_any (w : World) : Calls Try.prog 10 #[] w fun e w' => e = .returned (.bool true) ∧ Below w.heap.size w w' := by
  have kc := fun (w : World) (C : Array Value) (n c : Nat) => Lib.run_convert_bytes_const (P := Try.prog) w 22 5 C n c Try.underlying22 Try.underlying5
  obtain ⟨v2, hxy, him, hhas⟩ := put_xy
  replace hxy := Hidd.mk hxy
  replace him := Hidd.mk him
  replace hhas := Hidd.mk hhas
  have hsl := Hidd.mk (sha_len [97, 98])
  generalize hS : sha [97, 98] = sum at hxy hsl
  have hab : Hidd (putR 2 [97, 98] sum Vw.new = (none, vab)) := ⟨by rw [← hS]; exact put_ab⟩
  replace hS := Hidd.mk hS
  have hnew := Hidd.mk new_ok
  go_enter Try.func10, Try.ntmps10
  go_wp2_with (first
    | (go_at_call 12; refine (newFlash_own _).mono ?_; rintro e w1 ⟨f, M, rfl, ho1⟩; replace ho1 := Hidd.mk ho1)
    | (go_at_call 11; have hq := ho1.out; clear hq; refine (open_own 0 ho1.out rfl hnew.out.fs (-1) 0 rfl).mono ?_; rintro e w2 ⟨p, rfl, ho2⟩; replace ho2 := Hidd.mk (show Own w _ w2 [bankR p f M (st0 (-1) 0) ⟨[], [], [], -1⟩] from ho2); clear ho1)
    | (go_at_call 16; have hq := ho2.out; clear hq; refine (refOf_any _ (some ⟨w2.heap.size, 0, none⟩) 2 2 [97, 98] rfl (by decide) (Cells.new _ _ _ _ rfl)).mono ?_; rintro e w3 ⟨rfl, hb3⟩; rw [hS.out]; have ho3 := Hidd.mk ((ext_alloc ho2.out _).ext hb3); clear hb3 ho2; have hoZ := Hidd.mk (ho3.out.alloc (.cells #[.int .u8 0, .int .u8 0, .int .u8 0, .int .u8 0, .int .u8 0, .int .u8 0, .int .u8 0, .int .u8 0, .int .u8 0, .int .u8 0, .int .u8 0, .int .u8 0, .int .u8 0, .int .u8 0, .int .u8 0, .int .u8 0, .int .u8 0, .int .u8 0, .int .u8 0, .int .u8 0, .int .u8 0, .int .u8 0, .int .u8 0, .int .u8 0, .int .u8 0, .int .u8 0, .int .u8 0, .int .u8 0, .int .u8 0, .int .u8 0, .int .u8 0, .int .u8 0] 34 (0, 0))); clear ho3)
    | (have hq := hoZ.out; clear hq; refine wpList_store_own hoZ.out 0 rfl rfl 34 _ _ rfl rfl (cells := (nums .u8 sum).toArray) rfl (sum_info _ hsl.out) (zero_hold _ hsl.out) (nums_all _) ?_; intro w4 ho4; replace ho4 := Hidd.mk ho4; clear hoZ)
    | (have hq := ho4.out; clear hq; refine wpList_load_row rfl 34 (.tmp 3) rfl _ rfl 34 _ (0, 0) _ ((ext_alloc ho4.out _).get 0 rfl) Try.underlying34 rfl (sum_info _ hsl.out) ?_)
    | (go_at_call 15; have hq := ho4.out; clear hq; refine (put_own' 1 (ext_alloc ho4.out _) rfl hnew.out (some ⟨w4.heap.size, 0, none⟩) 2 2 [97, 98] (Cells.new _ _ _ _ rfl) (off_fresh ho4.out 1 rfl _) bytes_ab rfl (by decide) (by decide) (by decide) (by decide) sum hsl.out 2 (by decide) (by decide) none vab hab.out).mono ?_; rintro e w5 ⟨x, rfl, M5, t5, s5, hok5, ho5⟩; obtain rfl : x = .nilIface := (show IsE w5 none x from ho5.get 0 rfl); replace hok5 := Hidd.mk hok5; replace ho5 := Hidd.mk ho5.tail; clear ho4)
    | (have hq := ho5.out; clear hq; refine wpList_load_row rfl 34 (.tmp 3) rfl _ rfl 34 _ (0, 0) _ ((ext_alloc ho5.out _).get 0 rfl) Try.underlying34 rfl (sum_info _ hsl.out) ?_)
    | (go_at_call 15; have hq := ho5.out; clear hq; refine (put_own' 1 (ext_alloc ho5.out _) rfl hok5.out (some ⟨w5.heap.size, 0, none⟩) 2 2 [120, 121] (Cells.new _ _ _ _ rfl) (off_fresh ho5.out 1 rfl _) bytes_xy rfl (by decide) (by decide) (by decide) (by decide) sum hsl.out 1 (by decide) (by decide) _ v2 hxy.out).mono ?_; rintro e w6 ⟨x, rfl, M6, t6, s6, hok6, ho6⟩; replace hok6 := Hidd.mk hok6; have he6 := Hidd.mk (show IsE w6 (some (6, -1)) x from ho6.get 0 rfl); replace ho6 := Hidd.mk ho6.tail; clear ho5 hok5)
    | (go_at_call 19; have hq := ho6.out; clear hq; refine (read_six _ _ he6.out).mono ?_; rintro e w7 ⟨rfl, hb7⟩; have ho7 := Hidd.mk (ho6.out.ext hb7); clear hb7 ho6 he6)
    | (go_at_call 17; have hq := ho7.out; clear hq; refine (image_own 1 ho7.out rfl hok6.out.st hok6.out.fs 2 (by rw [(image_ok hok6.out).1, him.out]; rfl)).mono ?_; rintro e w8 ⟨A8, c8, rfl, ho8⟩; rw [(image_ok hok6.out).1, him.out] at ho8; rw [(image_ok hok6.out).2, hhas.out]; have hcv : ∀ W, W = w8 → (convert 22 9 (.slice A8 2 c8)).run Try.prog W = .ok (.string ⟨#[97, 98]⟩) W := (fun W h => by subst h; rw [← str_ab]; exact conv_bytesB (row_cells ho8 0 rfl) rfl); have hcv2 := hcv w8 rfl; clear hcv; replace ho8 := Hidd.mk ho8; clear ho7))
  go_ret
  exact ⟨rfl, ho8.out.below fun _ => id⟩
end Go.Proofs.Ytjbhcmkloamcmaa
