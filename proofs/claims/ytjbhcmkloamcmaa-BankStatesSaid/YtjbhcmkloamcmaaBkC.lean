/- A page more; Open of a flash. -/
import Derived.Test.YtjbhcmkloamcmaaBkB
namespace Go.Proofs.Ytjbhcmkloamcmaa
open Go.RowKit

theorem info_bs : (Try.prog.info? 22).map (fun i => (i.zero, i.size, i.bytes)) = some (some (.slice none 0 0), 1, 24) := by kernel_rfl
theorem flash_fin0 {w0 w : World} {S : Nat → Prop} {f : Nat} {M : FA} {s : Fs} {A4 A6 : Option Addr} {n c4 c6 m : Nat} {xs : List Int} (h : Own w0 S w [blk f (.cells #[.slice M.A0 M.n0 M.c0, .slice M.A1 M.n1 M.c1, .slice M.AM M.nm M.cm, .int .i64 s.left] 71 (0, 0)), row 22 1 (.slice A6 (M.n0 + 1) c6) (M.n0 + 1) (M.v0 ++ [.slice A4 m c4]), row 22 1 (.slice M.A1 M.n1 M.c1) M.n1 M.v1, row 22 1 (.slice M.AM M.nm M.cm) M.nm M.vm, pgs M.v0 s.b0, pgs M.v1 s.b1, pgs M.vm s.mrk, row 5 1 (.slice A4 n c4) n (nums .u8 xs)]) (hm : m ≤ n) :
    (w.cell? ⟨f, 0, none⟩ = some (.slice M.A0 M.n0 M.c0) ∧ w.frozen? ⟨f, 0, none⟩ = false) ∧
      Own w0 S (w.setCell ⟨f, 0, none⟩ (.slice A6 (M.n0 + 1) c6)) (flashL f { M with A0 := A6, n0 := M.n0 + 1, c0 := c6, v0 := M.v0 ++ [.slice A4 m c4] } { s with b0 := s.b0 ++ [xs.take m] }) := by
  refine ⟨⟨h.cell 0 rfl 0, h.frozen 0 rfl 0⟩, ?_⟩
  have h1 := h.set 0 rfl 0 (.slice A6 (M.n0 + 1) c6)
  have h2 := pgs_snoc (h1.reorder (M := [pgs M.v0 s.b0, row 5 1 (.slice A4 n c4) n (nums .u8 xs), blk f (.cells #[.slice A6 (M.n0 + 1) c6, .slice M.A1 M.n1 M.c1, .slice M.AM M.nm M.cm, .int .i64 s.left] 71 (0, 0)), row 22 1 (.slice A6 (M.n0 + 1) c6) (M.n0 + 1) (M.v0 ++ [.slice A4 m c4]), row 22 1 (.slice M.A1 M.n1 M.c1) M.n1 M.v1, row 22 1 (.slice M.AM M.nm M.cm) M.nm M.vm, pgs M.v1 s.b1, pgs M.vm s.mrk]) [4, 7, 0, 1, 2, 3, 5, 6] rfl (by decide)) m hm
  exact h2.reorder [1, 2, 3, 4, 0, 5, 6] rfl (by decide)
theorem flash_fin1 {w0 w : World} {S : Nat → Prop} {f : Nat} {M : FA} {s : Fs} {A4 A6 : Option Addr} {n c4 c6 m : Nat} {xs : List Int} (h : Own w0 S w [blk f (.cells #[.slice M.A0 M.n0 M.c0, .slice M.A1 M.n1 M.c1, .slice M.AM M.nm M.cm, .int .i64 s.left] 71 (0, 0)), row 22 1 (.slice M.A0 M.n0 M.c0) M.n0 M.v0, row 22 1 (.slice A6 (M.n1 + 1) c6) (M.n1 + 1) (M.v1 ++ [.slice A4 m c4]), row 22 1 (.slice M.AM M.nm M.cm) M.nm M.vm, pgs M.v0 s.b0, pgs M.v1 s.b1, pgs M.vm s.mrk, row 5 1 (.slice A4 n c4) n (nums .u8 xs)]) (hm : m ≤ n) :
    (w.cell? ⟨f, 1, none⟩ = some (.slice M.A1 M.n1 M.c1) ∧ w.frozen? ⟨f, 1, none⟩ = false) ∧
      Own w0 S (w.setCell ⟨f, 1, none⟩ (.slice A6 (M.n1 + 1) c6)) (flashL f { M with A1 := A6, n1 := M.n1 + 1, c1 := c6, v1 := M.v1 ++ [.slice A4 m c4] } { s with b1 := s.b1 ++ [xs.take m] }) := by
  refine ⟨⟨h.cell 0 rfl 1, h.frozen 0 rfl 1⟩, ?_⟩
  have h1 := h.set 0 rfl 1 (.slice A6 (M.n1 + 1) c6)
  have h2 := pgs_snoc (h1.reorder (M := [pgs M.v1 s.b1, row 5 1 (.slice A4 n c4) n (nums .u8 xs), blk f (.cells #[.slice M.A0 M.n0 M.c0, .slice A6 (M.n1 + 1) c6, .slice M.AM M.nm M.cm, .int .i64 s.left] 71 (0, 0)), row 22 1 (.slice M.A0 M.n0 M.c0) M.n0 M.v0, row 22 1 (.slice A6 (M.n1 + 1) c6) (M.n1 + 1) (M.v1 ++ [.slice A4 m c4]), row 22 1 (.slice M.AM M.nm M.cm) M.nm M.vm, pgs M.v0 s.b0, pgs M.vm s.mrk]) [5, 7, 0, 1, 2, 3, 4, 6] rfl (by decide)) m hm
  exact h2.reorder [1, 2, 3, 4, 5, 0, 6] rfl (by decide)
theorem flash_fin2 {w0 w : World} {S : Nat → Prop} {f : Nat} {M : FA} {s : Fs} {A4 A6 : Option Addr} {n c4 c6 m : Nat} {xs : List Int} (h : Own w0 S w [blk f (.cells #[.slice M.A0 M.n0 M.c0, .slice M.A1 M.n1 M.c1, .slice M.AM M.nm M.cm, .int .i64 s.left] 71 (0, 0)), row 22 1 (.slice M.A0 M.n0 M.c0) M.n0 M.v0, row 22 1 (.slice M.A1 M.n1 M.c1) M.n1 M.v1, row 22 1 (.slice A6 (M.nm + 1) c6) (M.nm + 1) (M.vm ++ [.slice A4 m c4]), pgs M.v0 s.b0, pgs M.v1 s.b1, pgs M.vm s.mrk, row 5 1 (.slice A4 n c4) n (nums .u8 xs)]) (hm : m ≤ n) :
    (w.cell? ⟨f, 2, none⟩ = some (.slice M.AM M.nm M.cm) ∧ w.frozen? ⟨f, 2, none⟩ = false) ∧
      Own w0 S (w.setCell ⟨f, 2, none⟩ (.slice A6 (M.nm + 1) c6)) (flashL f { M with AM := A6, nm := M.nm + 1, cm := c6, vm := M.vm ++ [.slice A4 m c4] } { s with mrk := s.mrk ++ [xs.take m] }) := by
  refine ⟨⟨h.cell 0 rfl 2, h.frozen 0 rfl 2⟩, ?_⟩
  have h1 := h.set 0 rfl 2 (.slice A6 (M.nm + 1) c6)
  have h2 := pgs_snoc (h1.reorder (M := [pgs M.vm s.mrk, row 5 1 (.slice A4 n c4) n (nums .u8 xs), blk f (.cells #[.slice M.A0 M.n0 M.c0, .slice M.A1 M.n1 M.c1, .slice A6 (M.nm + 1) c6, .int .i64 s.left] 71 (0, 0)), row 22 1 (.slice M.A0 M.n0 M.c0) M.n0 M.v0, row 22 1 (.slice M.A1 M.n1 M.c1) M.n1 M.v1, row 22 1 (.slice A6 (M.nm + 1) c6) (M.nm + 1) (M.vm ++ [.slice A4 m c4]), pgs M.v0 s.b0, pgs M.v1 s.b1]) [6, 7, 0, 1, 2, 3, 4, 5] rfl (by decide)) m hm
  exact h2.reorder [1, 2, 3, 4, 5, 6, 0] rfl (by decide)

theorem markR_snoc (m : List Int) : ∀ (ms : List (List Int)) (r : Int × Int), markR (ms ++ [m]) r = (if fits m = true then (m.getD 0 0, m.getD 1 0 * 256 + m.getD 2 0) else markR ms r)
  | [], r => rfl
  | _ :: ms, r => by rw [List.cons_append, markR, markR_snoc m ms, markR]
theorem mark_bytes (o n : Nat) (ho : o < 2) (hn : n ≤ 512) : Bytes [(o : Int), (n : Int) / 256, (n : Int) % 256] := by
  intro x hx
  simp at hx
  omega
theorem mark_len (o : Nat) (n : Int) : (markP o n).length = 7 := by rw [markP, crcSeal_length]; rfl
theorem mark_fits (o n : Nat) (ho : o < 2) (hn : n ≤ 512) : fits (markP o n) = true := fits_seal (mark_bytes o n ho hn)
theorem mark_take (o : Nat) (n : Int) : (markP o n).take 3 = [(o : Int), n / 256, n % 256] := seal_take [(o : Int), n / 256, n % 256]
theorem mark_read (o n : Nat) : ((markP o n).getD 0 0, (markP o n).getD 1 0 * 256 + (markP o n).getD 2 0) = ((o : Int), (n : Int)) := by
  have h : ∀ i, i < 3 → (markP o n).getD i 0 = [(o : Int), (n : Int) / 256, (n : Int) % 256].getD i 0 := fun i hi => by
    rw [← mark_take, List.getD_eq_getElem?_getD, List.getD_eq_getElem?_getD, List.getElem?_take, if_pos hi]
  rw [h 0 (by decide), h 1 (by decide), h 2 (by decide)]
  show ((o : Int), (n : Int) / 256 * 256 + (n : Int) % 256) = _
  congr 1
  omega
theorem mark_all (o n : Nat) (ho : o < 2) (hn : n ≤ 512) : Bytes (markP o n) := crcSeal_bytes (mark_bytes o n ho hn)
theorem take_one (o n : Nat) : takeR [(o : Int), (n : Int) / 256, (n : Int) % 256] 3 0 none 1 = (o, 1, none) := by
  simp [takeR, moreB, valN]
theorem take_two (o n : Nat) : takeR [(o : Int), (n : Int) / 256, (n : Int) % 256] 3 1 none 2 = (n, 3, none) := by
  simp [takeR, moreB, valN]
  omega
set_option maxRecDepth 100000
set_option maxHeartbeats 8000000
theorem open_nil (w : World) : Calls Try.prog 11 #[.pointer none] w fun e w' => e = .returned (.tuple #[.pointer none, .iface 66 (.int .i64 1)]) ∧ w = w' := by
  go_enter Try.func11, Try.ntmps11
  go_wp2
  go_ret2
  exact ⟨rfl, rfl⟩
def st0 (a z : Int) : St := ⟨a, z, List.replicate 32 0, false, 0, 0⟩
theorem open_own {w w0 : World} {S : Nat → Prop} {L : List Res} {f : Nat} {M : FA} {s : Fs} (k : Nat) (hO : Own w0 S w L) (hk : L[k]? = some (Res.pack (flashL f M s))) (hs : FsOk s) (a z : Int) (hr : markR s.mrk (-1, 0) = (a, z)) :
    Calls Try.prog 11 #[.pointer (some ⟨f, 0, none⟩)] w fun e w' => ∃ p, e = .returned (.tuple #[.pointer (some ⟨p, 0, none⟩), .nilIface]) ∧ Own w0 S w' (L.set k (bankR p f M (st0 a z) s)) := by
  obtain ⟨A0, n0, c0, v0, A1, n1, c1, v1, AM, nm, cm, vm⟩ := M
  obtain ⟨F, hF⟩ : ∃ F, F = (Res.pack (flashL f ⟨A0, n0, c0, v0, A1, n1, c1, v1, AM, nm, cm, vm⟩ s)).foot := ⟨_, rfl⟩
  have ho : Hidd (Own w F w [Res.pack (flashL f ⟨A0, n0, c0, v0, A1, n1, c1, v1, AM, nm, cm, vm⟩ s)]) := ⟨by rw [hF]; exact Own.one (hO.get k hk)⟩
  have hf := hO.open_ k hk
  obtain ⟨y0, y1, y2, y3⟩ := flash_cells hf 0 rfl
  dsimp only at y2
  have hvl : Hidd (vm.length = nm) := ⟨by have := (show w.ownsRow 0 22 1 (.slice AM nm cm) nm vm from hf.get 3 rfl).1; simpa using this⟩
  have hml : Hidd (s.mrk.length = nm) := ⟨by rw [← (show (pgs vm s.mrk).holds w from hf.get 6 rfl).1]; exact hvl.out⟩
  have hnm : nm ≤ 10000 := by rw [← hml.out]; exact hs.lm
  have hfl : f < w.heap.size := World.block_lt_of_cell? w _ y0
  have hend : Hidd (∀ w' p, Own w F w' [storeR p f (st0 a z), Res.pack (flashL f ⟨A0, n0, c0, v0, A1, n1, c1, v1, AM, nm, cm, vm⟩ s)] → Own w0 S w' (L.set k (bankR p f ⟨A0, n0, c0, v0, A1, n1, c1, v1, AM, nm, cm, vm⟩ (st0 a z) s))) := ⟨fun w' p h => by
    rw [hF] at h
    exact hO.call k hk h.with_in⟩
  have hmk := Hidd.mk hs.mrk
  replace hr := Hidd.mk hr
  clear hf hO hk hs hF y0 y1 y3
  go_enter Try.func11, Try.ntmps11
  go_upto_region 5 with fail
  generalize hW : World.alloc w _ = wa
  have hO1 : Own w F wa [storeR w.heap.size f (st0 (-1) 0), Res.pack (flashL f ⟨A0, n0, c0, v0, A1, n1, c1, v1, AM, nm, cm, vm⟩ s)] := by
    rw [← hW]
    exact ho.out.alloc _
  clear hW ho hfl y2
  generalize w.heap.size = p at hO1 ⊢
  replace hO1 := Hidd.mk hO1
  go_loopg [21] nm (fun g v21 wx => ∃ (i : Nat) (a z : Int), i + g = nm ∧ v21 = .int .i64 i ∧ Hidd (markR (s.mrk.take i) (-1, 0) = (a, z)) ∧ Hidd (Own w F wx [storeR p f (st0 a z), Res.pack (flashL f ⟨A0, n0, c0, v0, A1, n1, c1, v1, AM, nm, cm, vm⟩ s)]))
  case atStart => exact ⟨0, -1, 0, by omega, rfl, ⟨rfl⟩, hO1⟩
  case round =>
    clear hO1
    obtain ⟨i, a1, z1, hg, rfl, hm1, ho⟩ := hrel
    cases gk with
    | succ g =>
      have hi : i < nm := by omega
      have di : decide (i < nm) = true := decide_eq_true hi
      have bi0 : (0 : Int) ≤ (i : Int) := by omega
      have bi1 : (i : Int) < (nm : Int) := by omega
      have hgi : i + 1 + g = nm := by omega
      obtain ⟨v, hvi⟩ : ∃ v, vm[i]? = some v := ⟨_, List.getElem?_eq_getElem (by rw [hvl.out]; exact hi)⟩
      have hf := ho.out.open_ 1 rfl
      obtain ⟨xs, hxs, Ap, np, cp, rfl, hnp, hcp, hcm, hCp⟩ := pgs_get (show (pgs vm s.mrk).holds wr from hf.get 6 rfl) hvi
      have hOk := hmk.out xs (List.mem_of_getElem? hxs)
      obtain ⟨a, ha, y0⟩ := row_cells hf 3 rfl i _ hvi
      have hsn := Hidd.mk (show markR (s.mrk.take (i + 1)) (-1, 0) = (if fits xs = true then (xs.getD 0 0, xs.getD 1 0 * 256 + xs.getD 2 0) else (a1, z1)) by
        rw [List.take_add_one, hxs]
        exact (markR_snoc xs (s.mrk.take i) (-1, 0)).trans (by rw [hm1.out]))
      dsimp only at ha
      subst ha
      replace hCp := Hidd.mk hCp
      clear hf hg hi hvi hxs hm1
      rcases hOk with ⟨o, n, hob, hnb, rfl⟩ | ⟨h4, hxb⟩
      · have hq : np = 7 := by rw [← hnp, mark_len]
        subst hq
        have hC7 := Hidd.mk hcp
        have hfit := Hidd.mk (mark_fits o n hob hnb)
        have hall := Hidd.mk (mark_all o n hob hnb)
        have hlen := Hidd.mk (mark_len o (n : Int))
        have hbs := Hidd.mk (mark_bytes o n hob hnb)
        have hx1 : Hidd (∀ x ∈ [(o : Int), (n : Int) / 256, (n : Int) % 256], 0 ≤ x ∧ x < 256) := ⟨fun x hx => by have := hbs.out x hx; omega⟩
        rw [if_pos hfit.out, mark_read] at hsn
        replace hcp := hC7
        replace hsn := Hidd.mk hsn.out
        replace hnp := Hidd.mk hnp
        have n0 : (0 : Int) ≤ (n : Int) := by omega
        have n1 : (n : Int) ≤ 512 := by omega
        have o1 : (o : Int) ≤ 1 := by omega
        clear hob hnb hC7 hcm
        go_wp2_with (first
          | (go_at_call 29; refine (open_yes Ap cp 3 _ _ hCp.out hall.out (by decide) hlen.out hcp.out hfit.out).mono ?_; rintro e w1 ⟨A1, c1, rfl, hc1, hr1, hC1, hb1⟩; have hO1 := Hidd.mk (ho.out.ext hb1); rw [mark_take] at hC1; replace hC1 := Hidd.mk hC1; clear hr1 hb1 ho hc1)
          | (go_at_call 30; have hq := hO1.out; clear hq; refine (read_own A1 3 _ _ _ hC1.out rfl (by decide)).mono ?_; rintro e w2 ⟨b2, A2, cap2, rfl, hr2⟩; have hO2 := Hidd.mk (hO1.out.made hr2); clear hr2 hO1 hC1)
          | (go_at_call 31; have hq := hO2.out; clear hq; refine (take_own 0 hO2.out rfl (by decide) (by decide) hx1.out 1 o 1 none (take_one o n)).mono ?_; rintro e w3 ⟨rfl, ev3, hO3⟩; replace hO3 := Hidd.mk hO3; clear hO2; obtain ⟨x0, x1, x2, x3, x4, x5⟩ := storeR_cells hO3.out 1 rfl (by rfl); have f1 := hO3.out.frozen 1 rfl 1; have hO4 := hO3.out.set 1 rfl 1 (.int .i64 (o : Int)); rw [stV_active] at hO4; replace hO4 := Hidd.mk hO4; clear hO3)
          | (go_at_call 31; have hq := hO4.out; clear hq; refine (take_own 0 hO4.out rfl (by decide) (by decide) hx1.out 2 n 3 none (take_two o n)).mono ?_; rintro e w5 ⟨rfl, ev5, hO5⟩; replace hO5 := Hidd.mk hO5; clear hO4 x0 x1 x2 x3 x4 x5 f1; obtain ⟨x0, x1, x2, x3, x4, x5⟩ := storeR_cells hO5.out 1 rfl (by rfl); have f2 := hO5.out.frozen 1 rfl 2; have hO6 := hO5.out.set 1 rfl 2 (.int .i64 (n : Int)); rw [stV_size] at hO6; replace hO6 := Hidd.mk hO6; clear hO5))
        go_roundg g
        case rel => exact ⟨i + 1, o, n, hgi, by go_num, hsn, ⟨hO6.out.tail⟩⟩
        case measure => omega
      · have hff : fits xs = false := by
          cases h : fits xs with
          | false => rfl
          | true =>
            unfold fits at h
            rw [Bool.and_eq_true] at h
            have := of_decide_eq_true h.1
            omega
        rw [hff] at hsn
        replace hff := Hidd.mk hff
        replace hxb := Hidd.mk hxb
        replace hnp := Hidd.mk hnp
        replace hcp := Hidd.mk hcp
        have hnp4 : Hidd (np < 4) := ⟨by rw [← hnp.out]; exact h4⟩
        clear h4 hcm
        go_wp2_with (go_at_call 29; refine (open_no Ap cp np xs _ hCp.out hxb.out (by have := hnp4.out; omega) hnp.out hcp.out hff.out).mono ?_; rintro e w1 ⟨rfl, hb1⟩; have hO1 := Hidd.mk (ho.out.ext hb1); clear hb1 ho)
        go_roundg g
        case rel => exact ⟨i + 1, a1, z1, hgi, by go_num, hsn, hO1⟩
        case measure => omega
    | zero =>
      obtain rfl : i = nm := by omega
      have di : decide (i < i) = false := by simp
      have hall : s.mrk.take i = s.mrk := List.take_of_length_le (by rw [hml.out]; exact Nat.le_refl _)
      have hfin : Hidd (a1 = a ∧ z1 = z) := ⟨by
        have := hm1.out
        rw [hall, hr.out] at this
        injection this with e1 e2
        exact ⟨e1.symm, e2.symm⟩⟩
      clear hall hm1
      go_wp2
      (try rw [Exit.noGoto_ret])
      go_ret2
      obtain ⟨rfl, rfl⟩ := hfin.out
      exact ⟨p, rfl, hend.out _ p ho.out⟩
end Go.Proofs.Ytjbhcmkloamcmaa
