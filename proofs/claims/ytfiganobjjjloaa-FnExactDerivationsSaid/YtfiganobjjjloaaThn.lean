/- A part of a table of rows: rows lo .. hi. No condition but what each theorem names. -/
import Derived.Test.YtfiganobjjjloaaL1SpW
import Derived.Test.YtfiganobjjjloaaSumW
import Derived.Test.YtfiganobjjjloaaCnd
import Derived.Deep.RegionHeld3
namespace Go.Proofs.Ytfiganobjjjloaa
set_option linter.unusedVariables false
set_option linter.unusedSimpArgs false
set_option maxRecDepth 20000
open Go.RowKit Go.Sort
set_option maxHeartbeats 4000000
theorem hdr_part {hs : List Hdr} {lo m j : Nat} (hj : j < m) : hdr ((hs.drop lo).take m) j = hdr hs (lo + j) := by
  unfold hdr
  simp [List.getElem?_take, hj]
theorem row_part {xss : List (List Int)} {lo m j : Nat} (hj : j < m) : row ((xss.drop lo).take m) j = row xss (lo + j) := by
  unfold row
  simp [List.getElem?_take, hj]
theorem RdT.part {w : World} {B n b o lo m : Nat} {hs : List Hdr} {xss : List (List Int)} (h : RdT w B (some ⟨b, o, none⟩) n hs xss) (hm : lo + m ≤ n) : RdT w B (some ⟨b, o + lo, none⟩) m ((hs.drop lo).take m) ((xss.drop lo).take m) := by
  refine ⟨?_, by have := h.max; omega, fun hp => ?_, fun j hj => ?_⟩
  · have := h.len
    simp; omega
  · obtain ⟨b', o', e, hb, hc⟩ := h.tbl (by omega)
    cases e
    refine ⟨b, o + lo, rfl, hb, fun j hj => ?_⟩
    rw [hdr_part hj, Nat.add_assoc]
    exact hc (lo + j) (by omega)
  · rw [hdr_part hj, row_part hj]
    exact h.rows (lo + j) (by omega)
theorem tpart2_run {b o n k lo m : Nat} (L H : Int) (hL : L = lo) (hH : H = ((lo + m : Nat) : Int)) (hd : Hd (some ⟨b, o, none⟩) n k) (hm : lo + m ≤ n) (hp : 0 < m) :
    ∀ w : World, Sem.run Try.prog (Instr.sliceAt 68 (.slice (some ⟨b, o, none⟩) n k) (some (.int .i64 L)) (some (.int .i64 H)) none) w = .ok (.slice (some ⟨b, o + lo, none⟩) m (k - lo)) w := by
  subst hL hH
  intro w
  have hk : n ≤ k := by rcases hd with ⟨_, h1, h2⟩ | ⟨b, o, _, h1, _⟩ <;> omega
  rw [run_sliceAt_slice _ _ _ _ _ _ Try.underlying68, run_slice_lh _ _ _ _ _ Try.underlying68 _ _ _ _ (by omega) (by omega) (by omega)]
  simp only [Int.toNat_natCast, sliced, if_neg (show ¬ k = lo by omega)]
  have : (sizeOf (Program.elem Try.prog 68)).run Try.prog w = .ok 1 w := by kernel_rfl
  rw [this]
  simp only [Result.andThen, Option.map_some, add_mk, Nat.mul_one]
  rw [show lo + m - lo = m by omega]
theorem belThn {w w' : World} (h : Below w.drew.heap.size w.drew w') : Below w.heap.size w w' := ⟨h.os, h.tape, h.output, h.size, h.block⟩
set_option maxRecDepth 100000 in
theorem l3Thin_any {B : Nat} (p : Int) (C m k : Nat) (A : Option Addr) (hs : List Hdr) (xss : List (List Int)) (w : World) (h : RdT w B A m hs xss) (hd : Hd A m k) (hB : B ≤ w.heap.size) (hm : m ≤ 1000) (hC : C ≤ 100) (hp : isP p = true) (hlc : ∀ r ∈ xss, r.length = C) (hrs : ∀ r ∈ xss, resB r p = true) :
    Calls Try.prog 151 #[.int .i64 p, .int .i64 C, .slice A m k] w (RetM p ((thin p C (chs xss) ((m + 199) / 200)).1 : Int) C (thin p C (chs xss) ((m + 199) / 200)).2 w) := by
  have HP := Lib.hid hp
  have HLC := Lib.hid hlc
  have HRS := Lib.hid hrs
  have HLN := Lib.hid h.len
  have HTH := Lib.hid (show ∀ T, (thin p C (chs xss) T).2.length = (thin p C (chs xss) T).1 * C ∧ resB (thin p C (chs xss) T).2 p = true ∧ (thin p C (chs xss) T).1 ≤ C from fun T => by
    have hb := isP_bd hp
    obtain ⟨n, rfl⟩ := Int.eq_ofNat_of_zero_le (show 0 ≤ p by omega)
    haveI : NeZero n := ⟨by omega⟩
    have := thin_nl (C := C) hp (chs xss) (fun t => flat_res fun r hr => hrs r (chs_sub hr)) T
    exact ⟨this.1, this.2.1, this.2.2.1⟩)
  obtain ⟨T, hT⟩ : ∃ T, T = (m + 199) / 200 := ⟨_, rfl⟩
  rw [← hT]
  have hT1 : 200 * T < m + 200 := by omega
  have hT2 : m ≤ 200 * T := by omega
  clear hp hlc hrs hT
  have hz0 := Box.new w #[.int .i64 0, .int .i64 0, .int .i64 0, .slice none 0 0] 26
  have hq0 : Below w.heap.size w (w.alloc (.cells #[.int .i64 0, .int .i64 0, .int .i64 0, .slice none 0 0] 26)) := (by repeat' (first | (with_reducible exact Below.refl _ _) | (with_reducible refine Below.setCell ?_ (by first | exact Nat.le_refl _ | omega | (simp only [World.size_alloc, World.size_setCell, World.heap_drewN]; omega) | (simp; omega)) _) | (with_reducible refine Below.alloc ?_ (by first | exact Nat.le_refl _ | omega | (simp only [World.size_alloc, World.size_setCell, World.heap_drewN]; omega) | (simp; omega)) _) | (with_reducible refine below_drewN ?_ _) | (with_reducible refine Below.drew ?_)))
  go_enter Try.func151, Try.ntmps151
  go_wp2_with (go_at_call 118; refine (l1Zero_any p 0 C _ (by omega) (by omega) (by omega) (by omega)).mono ?_; rintro e w1 ⟨A1, n1, k1, rfl, hd1, hb1, ho1⟩; have hs1 := hb1.size)
  rw [World.size_alloc] at hs1
  have hn1 : n1 = 0 := by rw [← ho1.1]; simp
  subst hn1
  have hz1 := (hz0.below hb1 (by simp)).alloc (.cells #[.int .i64 p, .int .i64 0, .int .i64 C, .slice A1 0 k1] 26)
  have hx1 := Box.new w1 #[.int .i64 p, .int .i64 0, .int .i64 C, .slice A1 0 k1] 26
  have hq1 : Below w.heap.size w (w1.alloc (.cells #[.int .i64 p, .int .i64 0, .int .i64 C, .slice A1 0 k1] 26)) := (by repeat' (first | (with_reducible exact Below.refl _ _) | (with_reducible refine Below.setCell ?_ (by first | exact Nat.le_refl _ | omega | (simp only [World.size_alloc, World.size_setCell, World.heap_drewN]; omega) | (simp; omega)) _) | (with_reducible refine Below.alloc ?_ (by first | exact Nat.le_refl _ | omega | (simp only [World.size_alloc, World.size_setCell, World.heap_drewN]; omega) | (simp; omega)) _) | (with_reducible refine below_drewN ?_ _) | (with_reducible refine Below.drew ?_) | (with_reducible refine Below.trans ?_ (hb1.mono (by first | exact Nat.le_refl _ | omega | (simp only [World.size_alloc, World.size_setCell, World.heap_drewN]; omega) | (simp; omega))))))
  have hsz1 : (w1.alloc (.cells #[.int .i64 p, .int .i64 0, .int .i64 C, .slice A1 0 k1] 26)).heap.size = w1.heap.size + 1 := by rw [World.size_alloc]
  generalize (w1.alloc (.cells #[.int .i64 p, .int .i64 0, .int .i64 C, .slice A1 0 k1] 26)) = W0 at *
  clear hz0 hq0 hb1 ho1
  go_loopw [8] (fun ii wr => ∃ (t f n' k' lo hi R : Nat) (A' : Option Addr) (dt : List Int), Hid (f = 200 * t) ∧ Hid (thin p C (chs xss) t = (R, dt)) ∧ t ≤ T ∧ ii = .int .i64 (f : Int) ∧ Below w.heap.size w wr ∧ Box wr w.heap.size #[.int .i64 0, .int .i64 0, .int .i64 0, .slice none 0 0] ∧ Box wr w1.heap.size #[.int .i64 p, .int .i64 R, .int .i64 C, .slice A' n' k'] ∧ Hd A' n' k' ∧ w1.heap.size < lo ∧ hi ≤ wr.heap.size ∧ OwI wr lo hi A' n' dt) (fun ii _ => m + 200 - (intOf ii).toNat)
  case atStart => exact ⟨0, 0, 0, k1, w1.heap.size + 1, W0.heap.size, 0, A1, [], Lib.hid rfl, Lib.hid rfl, by omega, rfl, hq1, hz1, hx1, hd1, by omega, by omega, OwI.emp _ _ _ _⟩
  case round =>
    clear hq1 hz1 hx1 hd1
    obtain ⟨t, f, n', k', lo, hi, R, A', dt, Hf, HR, ht, rfl, hbl, bz, bx, hd', hlo, hhi, ho⟩ := hrel
    by_cases hlt : f < m
    · have htT : t < T := by have := Hf.out; omega
      obtain ⟨b, o, rfl, hbB, hcc⟩ := h.tbl (by omega)
      by_cases hfull : f + 200 ≤ m
      · skip
        obtain ⟨mt, hm0⟩ : ∃ mt : Nat, mt = 200 := ⟨_, rfl⟩
        have hf := Hf.out
        have hmt : f + mt ≤ m := by omega
        have hmp : 0 < mt := by omega
        have hml : mt ≤ 200 := by omega
        have hch : (xss.drop f).take mt = chs xss t := by subst hm0; unfold chs; rw [hf]; try (rw [List.take_of_length_le (by rw [List.length_drop, HLN.out]; omega), List.take_of_length_le (by rw [List.length_drop, HLN.out]; omega)])
        have hpt := (h.below hbl hB).part hmt
        have hsl := tpart2_run (m := mt) (f : Int) ((f : Int) + 200) rfl (by omega) hd hmt hmp
        rw [hch] at hpt
        have HNX := Lib.hid (show f + 200 = 200 * (t + 1) by omega)
        clear hm0 hch hf
        have HCL := Lib.hid (show (chs xss t).length = mt from hpt.len)
        have HFL := Lib.hid (show (chs xss t).flatten.length = mt * C from by rw [← HCL.out]; exact flat_len fun r hr => HLC.out r (chs_sub hr))
        have HFR := Lib.hid (show resB (chs xss t).flatten p = true from flat_res fun r hr => HRS.out r (chs_sub hr))
        have HRn := Lib.hid (show thin p C (chs xss) (t + 1) = ((rr (R + mt) p (matF (dt ++ (chs xss t).flatten) C) C).rk, tab (rr (R + mt) p (matF (dt ++ (chs xss t).flatten) C) C).rk C (rr (R + mt) p (matF (dt ++ (chs xss t).flatten) C) C).f) from by rw [thin, HR.out, HCL.out])
        obtain ⟨J, hJ⟩ : ∃ J, J = rr (R + mt) p (matF (dt ++ (chs xss t).flatten) C) C := ⟨_, rfl⟩
        have HJ := Lib.hid hJ
        rw [← hJ] at HRn
        clear hJ
        obtain ⟨F, hF⟩ : ∃ F, F = (chs xss t).flatten := ⟨_, rfl⟩
        have HF := Lib.hid hF
        rw [← hF] at HFL HFR HJ
        clear hF
        have HN1 := Lib.hid (show dt.length = R * C by have := (HTH.out t).1; rw [HR.out] at this; exact this)
        have HN2 := Lib.hid (show resB dt p = true by have := (HTH.out t).2.1; rw [HR.out] at this; exact this)
        have hRC : R ≤ C := by have := (HTH.out t).2.2; rw [HR.out] at this; exact this
        have hbb := hbl.size
        have hlx := bx.lt
        obtain ⟨x0, x1, x2, x3⟩ := bx.four
        have hbm : mt * C ≤ 200 * 100 := Nat.mul_le_mul hml hC
        have hptd : RdT wr.drew B (some ⟨b, o + f, none⟩) mt _ _ := hpt.below (B' := B) (Below.drew (Below.refl _ _)) (Nat.le_refl _)
        have hBd : B ≤ wr.drew.heap.size := by rw [size_drew]; omega
        have hFl : (chs xss t).flatten.length ≤ 1000000000 := by rw [← HF.out, HFL.out]; omega
        go_wp2_with fail
        go_region_with (first | (go_at_call 80; refine (l1Rows_any (B := B) p (C : Int) (some ⟨b, o + f, none⟩) mt (k - f) _ _ wr.drew hptd hBd hFl).mono ?_; rw [← HF.out]; rintro e w5 ⟨A5, n5, k5, rfl, hd5, hb5, ho5⟩; have hb5 : Below wr.heap.size wr w5 := belThn hb5; have hs5 : wr.heap.size ≤ w5.heap.size := hb5.size; have bx : Box w5 w1.heap.size #[.int .i64 p, .int .i64 R, .int .i64 C, .slice A' n' k'] := bx.step hb5; have bz : Box w5 w.heap.size #[.int .i64 0, .int .i64 0, .int .i64 0, .slice none 0 0] := bz.step hb5; clear x0 x1 x2 x3; obtain ⟨x0, x1, x2, x3⟩ := bx.four; have hrN := (ho.below hb5 (by omega)).rd.up (Nat.le_trans hhi hs5); have hrF := ho5.rd; have hbl := hbl.trans (hb5.mono hbb); have HN5 := Lib.hid (show n5 = mt * C by rw [← HFL.out]; exact hrF.1.symm)) | (go_at_call 98; refine (l1Join_any (B := w5.heap.size) p R mt C n' k' n5 k5 p (C : Int) A' A5 dt F _ hrN hd' hrF hd5 (Nat.le_refl _) (by rw [← HN1.out]; exact hrN.1.symm) HN5.out (by omega) (by omega) (by omega) HP.out HN2.out HFR.out).mono ?_; rw [← HJ.out]; rintro e w6 ⟨A6, n6, k6, rfl, hd6, hb6, ho6⟩; have hs6 := hb6.size; have bx := bx.step hb6; have bz := bz.step hb6; obtain ⟨x0, x1, x2, x3⟩ := bx.four; have bf := bx.fz; have hbl := hbl.trans (hb6.mono (by omega))))
        all_goals
          go_wp2
          go_roundw
          case rel => exact ⟨t + 1, f + 200, n6, k6, w5.heap.size, w6.heap.size, J.rk, A6, _, HNX, HRn, by omega, by go_num, (((hbl.setCell (by show w.heap.size ≤ w1.heap.size; omega) _).setCell (by show w.heap.size ≤ w1.heap.size; omega) _).setCell (by show w.heap.size ≤ w1.heap.size; omega) _).setCell (by show w.heap.size ≤ w1.heap.size; omega) _, (((bz.other (by show w.heap.size ≠ w1.heap.size; omega) _).other (by show w.heap.size ≠ w1.heap.size; omega) _).other (by show w.heap.size ≠ w1.heap.size; omega) _).other (by show w.heap.size ≠ w1.heap.size; omega) _, bx.set4 _ _ _ _, hd6, by omega, by simp, (((ho6.setLow (by show w1.heap.size < _; omega) _).setLow (by show w1.heap.size < _; omega) _).setLow (by show w1.heap.size < _; omega) _).setLow (by show w1.heap.size < _; omega) _⟩
          case measure => simp [intOf]; omega
      · skip
        obtain ⟨mt, hm0⟩ : ∃ mt : Nat, mt = m - f := ⟨_, rfl⟩
        have hf := Hf.out
        have hmt : f + mt ≤ m := by omega
        have hmp : 0 < mt := by omega
        have hml : mt ≤ 200 := by omega
        have hch : (xss.drop f).take mt = chs xss t := by subst hm0; unfold chs; rw [hf]; try (rw [List.take_of_length_le (by rw [List.length_drop, HLN.out]; omega), List.take_of_length_le (by rw [List.length_drop, HLN.out]; omega)])
        have hpt := (h.below hbl hB).part hmt
        have hsl := tpart2_run (m := mt) (f : Int) (m : Int) rfl (by omega) hd hmt hmp
        rw [hch] at hpt
        have HNX := Lib.hid (show f + 200 = 200 * (t + 1) by omega)
        clear hm0 hch hf
        have HCL := Lib.hid (show (chs xss t).length = mt from hpt.len)
        have HFL := Lib.hid (show (chs xss t).flatten.length = mt * C from by rw [← HCL.out]; exact flat_len fun r hr => HLC.out r (chs_sub hr))
        have HFR := Lib.hid (show resB (chs xss t).flatten p = true from flat_res fun r hr => HRS.out r (chs_sub hr))
        have HRn := Lib.hid (show thin p C (chs xss) (t + 1) = ((rr (R + mt) p (matF (dt ++ (chs xss t).flatten) C) C).rk, tab (rr (R + mt) p (matF (dt ++ (chs xss t).flatten) C) C).rk C (rr (R + mt) p (matF (dt ++ (chs xss t).flatten) C) C).f) from by rw [thin, HR.out, HCL.out])
        obtain ⟨J, hJ⟩ : ∃ J, J = rr (R + mt) p (matF (dt ++ (chs xss t).flatten) C) C := ⟨_, rfl⟩
        have HJ := Lib.hid hJ
        rw [← hJ] at HRn
        clear hJ
        obtain ⟨F, hF⟩ : ∃ F, F = (chs xss t).flatten := ⟨_, rfl⟩
        have HF := Lib.hid hF
        rw [← hF] at HFL HFR HJ
        clear hF
        have HN1 := Lib.hid (show dt.length = R * C by have := (HTH.out t).1; rw [HR.out] at this; exact this)
        have HN2 := Lib.hid (show resB dt p = true by have := (HTH.out t).2.1; rw [HR.out] at this; exact this)
        have hRC : R ≤ C := by have := (HTH.out t).2.2; rw [HR.out] at this; exact this
        have hbb := hbl.size
        have hlx := bx.lt
        obtain ⟨x0, x1, x2, x3⟩ := bx.four
        have hbm : mt * C ≤ 200 * 100 := Nat.mul_le_mul hml hC
        have hptd : RdT wr.drew B (some ⟨b, o + f, none⟩) mt _ _ := hpt.below (B' := B) (Below.drew (Below.refl _ _)) (Nat.le_refl _)
        have hBd : B ≤ wr.drew.heap.size := by rw [size_drew]; omega
        have hFl : (chs xss t).flatten.length ≤ 1000000000 := by rw [← HF.out, HFL.out]; omega
        go_wp2_with fail
        go_region_with (first | (go_at_call 80; refine (l1Rows_any (B := B) p (C : Int) (some ⟨b, o + f, none⟩) mt (k - f) _ _ wr.drew hptd hBd hFl).mono ?_; rw [← HF.out]; rintro e w5 ⟨A5, n5, k5, rfl, hd5, hb5, ho5⟩; have hb5 : Below wr.heap.size wr w5 := belThn hb5; have hs5 : wr.heap.size ≤ w5.heap.size := hb5.size; have bx : Box w5 w1.heap.size #[.int .i64 p, .int .i64 R, .int .i64 C, .slice A' n' k'] := bx.step hb5; have bz : Box w5 w.heap.size #[.int .i64 0, .int .i64 0, .int .i64 0, .slice none 0 0] := bz.step hb5; clear x0 x1 x2 x3; obtain ⟨x0, x1, x2, x3⟩ := bx.four; have hrN := (ho.below hb5 (by omega)).rd.up (Nat.le_trans hhi hs5); have hrF := ho5.rd; have hbl := hbl.trans (hb5.mono hbb); have HN5 := Lib.hid (show n5 = mt * C by rw [← HFL.out]; exact hrF.1.symm)) | (go_at_call 98; refine (l1Join_any (B := w5.heap.size) p R mt C n' k' n5 k5 p (C : Int) A' A5 dt F _ hrN hd' hrF hd5 (Nat.le_refl _) (by rw [← HN1.out]; exact hrN.1.symm) HN5.out (by omega) (by omega) (by omega) HP.out HN2.out HFR.out).mono ?_; rw [← HJ.out]; rintro e w6 ⟨A6, n6, k6, rfl, hd6, hb6, ho6⟩; have hs6 := hb6.size; have bx := bx.step hb6; have bz := bz.step hb6; obtain ⟨x0, x1, x2, x3⟩ := bx.four; have bf := bx.fz; have hbl := hbl.trans (hb6.mono (by omega))))
        all_goals
          go_wp2
          go_roundw
          case rel => exact ⟨t + 1, f + 200, n6, k6, w5.heap.size, w6.heap.size, J.rk, A6, _, HNX, HRn, by omega, by go_num, (((hbl.setCell (by show w.heap.size ≤ w1.heap.size; omega) _).setCell (by show w.heap.size ≤ w1.heap.size; omega) _).setCell (by show w.heap.size ≤ w1.heap.size; omega) _).setCell (by show w.heap.size ≤ w1.heap.size; omega) _, (((bz.other (by show w.heap.size ≠ w1.heap.size; omega) _).other (by show w.heap.size ≠ w1.heap.size; omega) _).other (by show w.heap.size ≠ w1.heap.size; omega) _).other (by show w.heap.size ≠ w1.heap.size; omega) _, bx.set4 _ _ _ _, hd6, by omega, by simp, (((ho6.setLow (by show w1.heap.size < _; omega) _).setLow (by show w1.heap.size < _; omega) _).setLow (by show w1.heap.size < _; omega) _).setLow (by show w1.heap.size < _; omega) _⟩
          case measure => simp [intOf]; omega
    · obtain rfl : t = T := by have := Hf.out; omega
      have hs := hbl.size
      have hl1 := bx.lt
      obtain ⟨x0, x1, x2, x3⟩ := bx.four
      obtain ⟨z0, z1, z2, z3⟩ := bz.four
      have zf := bz.fz
      go_wp2
      rw [HR.out]
      exact bodyPost_ret (v := .agg #[.int .i64 p, .int .i64 R, .int .i64 C, .slice A' n' k']) (by simp [results, Try.results151, go_sem, z0, z1, z2, z3]) rfl (retM4 (R := w.heap.size) hbl ho (by omega) (by omega) hhi _ _ _ _)
end Go.Proofs.Ytfiganobjjjloaa
