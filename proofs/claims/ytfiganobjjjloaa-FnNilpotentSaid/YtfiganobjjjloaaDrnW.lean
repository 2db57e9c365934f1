/- Draws of nilpotent matrices. No condition but what each theorem names. -/
import Derived.Test.YtfiganobjjjloaaDrw
import Derived.Test.YtfiganobjjjloaaIvtW
import Derived.Test.YtfiganobjjjloaaMulW
import Derived.Deep.RegionHeld3
import Derived.Outline
namespace Go.Proofs.Ytfiganobjjjloaa
set_option linter.unusedVariables false
set_option linter.unusedSimpArgs false
set_option maxRecDepth 20000
open Go.RowKit Go.Sort
set_option maxHeartbeats 8000000
set_option maxRecDepth 100000 in
theorem l12Nilpotent_any {g : Nat} (p : Int) (N : Nat) (w : World) (h : Cur w g) (hp : isP p = true) (hN : N ≤ 10) : Calls Try.prog 86 #[.pointer (some ⟨g, 0, none⟩), .int .i64 p, .int .i64 N] w (DrM g p N N (fun _ => True) w) := by
  have hlt := h.lt
  obtain ⟨hp1, hp2⟩ := isP_bd hp
  have HP := Lib.hid hp
  have hz := Box.new w #[.int .i64 0, .int .i64 0, .int .i64 0, .slice none 0 0] 26
  have hC := h.alloc (.cells #[.int .i64 0, .int .i64 0, .int .i64 0, .slice none 0 0] 26)
  have hNN : N * N ≤ 10 * 10 := Nat.mul_le_mul hN hN
  clear hp
  go_enter Try.func86, Try.ntmps86
  go_wp2_with fail
  refine (l12Matrix_any p N N _ hC (by omega) hp2 hN hN).mono ?_
  rintro e w1 ⟨d1, A1, n1, k1, -, hl1, hr1, rfl, hd1, hC1, hG1, ho1⟩
  have hs1 := hG1.size
  rw [World.size_alloc] at hs1 ho1
  have hn1 : n1 = N * N := by rw [← ho1.1]; exact hl1
  have HN1 := Lib.hid hn1
  have HR1 := Lib.hid hr1
  have hG : Chg g (g + 1) w w1 := ((Chg.refl g (g + 1) w).alloc (.cells #[.int .i64 0, .int .i64 0, .int .i64 0, .slice none 0 0] 26)).trans hG1
  have hz1 := (hz.chg hG1 (.inr (by omega))).alloc (.cells #[.int .i64 p, .int .i64 N, .int .i64 N, .slice A1 n1 k1] 26)
  have hm1 := Box.new w1 #[.int .i64 p, .int .i64 N, .int .i64 N, .slice A1 n1 k1] 26
  have hC2 := hC1.alloc (.cells #[.int .i64 p, .int .i64 N, .int .i64 N, .slice A1 n1 k1] 26)
  have hG2 := hG.alloc (.cells #[.int .i64 p, .int .i64 N, .int .i64 N, .slice A1 n1 k1] 26)
  have ho2 := ho1.alloc (Nat.le_refl _) (.cells #[.int .i64 p, .int .i64 N, .int .i64 N, .slice A1 n1 k1] 26)
  have hsa : (w1.alloc (.cells #[.int .i64 p, .int .i64 N, .int .i64 N, .slice A1 n1 k1] 26)).heap.size = w1.heap.size + 1 := by simp
  clear hz hC hC1 hG hG1 ho1 hl1 hr1 hn1
  go_wp2_with fail
  generalize w1.alloc (.cells #[.int .i64 p, .int .i64 N, .int .i64 N, .slice A1 n1 k1] 26) = W1 at *
  go_loopw [8] (fun ii wr => ∃ (I : Nat) (d : List Int), I ≤ N ∧ ii = .int .i64 (I : Int) ∧ Box wr w.heap.size #[.int .i64 0, .int .i64 0, .int .i64 0, .slice none 0 0] ∧ Box wr w1.heap.size #[.int .i64 p, .int .i64 N, .int .i64 N, .slice A1 n1 k1] ∧ OwI wr (w.heap.size + 1) w1.heap.size A1 n1 d ∧ Hid (resB d p = true) ∧ Cur wr g ∧ Chg g (g + 1) w wr ∧ w1.heap.size < wr.heap.size) (fun ii _ => N - (intOf ii).toNat)
  case atStart => exact ⟨0, d1, by omega, rfl, hz1, hm1, ho2, HR1, hC2, hG2, by omega⟩
  case round =>
    clear hz1 hm1 ho2 hC2 hG2
    obtain ⟨I, d, hI, rfl, hz, hm, ho, HR, hC, hG, hsr⟩ := hrel
    by_cases hIl : I < N
    · go_wp2_with fail
      obtain ⟨wi, rfl⟩ : ∃ wi : World, wi = wr := ⟨_, rfl⟩
      go_loopw [9] (fun jj wr => ∃ (J : Nat) (d : List Int), J ≤ I + 1 ∧ jj = .int .i64 (J : Int) ∧ Box wr w.heap.size #[.int .i64 0, .int .i64 0, .int .i64 0, .slice none 0 0] ∧ Box wr w1.heap.size #[.int .i64 p, .int .i64 N, .int .i64 N, .slice A1 n1 k1] ∧ OwI wr (w.heap.size + 1) w1.heap.size A1 n1 d ∧ Hid (resB d p = true) ∧ Cur wr g ∧ Chg g (g + 1) w wr ∧ w1.heap.size < wr.heap.size) (fun jj _ => I + 1 - (intOf jj).toNat)
      case atStart => exact ⟨0, d, by omega, rfl, hz, hm, ho, HR, hC, hG, hsr⟩
      case round =>
        clear hz hm ho HR hC hG hsr
        obtain ⟨J, d, hJ, rfl, hz, hm, ho, HR, hC, hG, hsr⟩ := hrel
        by_cases hJl : J ≤ I
        · obtain ⟨q, hq⟩ : ∃ q : Nat, q = I * N + J := ⟨_, rfl⟩
          have hq0 : (I : Int) * (N : Int) + (J : Int) = (q : Int) := by rw [hq, Int.natCast_add, Int.natCast_mul]
          have hqp : 0 ≤ (I : Int) * (N : Int) := Int.mul_nonneg (by omega) (by omega)
          have hqn : q < n1 := by rw [hq, HN1.out]; exact idx_lt hIl (by omega)
          have hqx : n1 ≤ 100 := by rw [HN1.out]; exact hNN
          have hwr1 : IntKind.i64.wrap ((I : Int) * (N : Int)) = (I : Int) * (N : Int) := IntWalk.i64_in _ (by omega)
          have hwr2 : IntKind.i64.wrap ((I : Int) * (N : Int) + (J : Int)) = (q : Int) := by rw [hq0]; exact IntWalk.i64_in _ (by omega)
          have hip : (I : Int) * (N : Int) ≤ 1000 := by omega
          have hql : (q : Int) < (n1 : Int) := by omega
          obtain ⟨b1, o1, rfl⟩ := ho.addr (show 0 < n1 by omega)
          obtain ⟨hblo, hbhi⟩ := ho.blk (show 0 < n1 by omega)
          obtain ⟨hcl, hfz⟩ := ho.at_ hqn
          obtain ⟨m0, m1, m2, m3⟩ := hm.four
          have HO := Lib.hid (ho.store (v := 0) hqn)
          have HRS := Lib.hid (show resB (d.set q 0) p = true from resB_set HR.out ⟨by omega, by omega⟩)
          have hz' := hz.other (p := ⟨b1, o1 + q, none⟩) (by show w.heap.size ≠ b1; omega) (.int .i64 0)
          have hm' := hm.other (p := ⟨b1, o1 + q, none⟩) (by show w1.heap.size ≠ b1; omega) (.int .i64 0)
          have hC' := hC.setCell (p := ⟨b1, o1 + q, none⟩) (by show g < b1; omega) (.int .i64 0)
          have hG' := hG.setNew (p := ⟨b1, o1 + q, none⟩) (by show w.heap.size ≤ b1; omega) (.int .i64 0)
          clear hq ho hz hm hC hG
          go_wp2
          go_roundw
          case rel => exact ⟨J + 1, _, by omega, by go_num, hz', hm', HO.out, HRS, hC', hG', by simpa using hsr⟩
          case measure => simp [intOf]; omega
        · go_wp2
          go_roundw
          case rel => exact ⟨I + 1, d, by omega, by go_num, hz, hm, ho, HR, hC, hG, hsr⟩
          case measure => simp [intOf]; omega
    · obtain rfl : I = N := by omega
      go_wp2_with fail
      refine (l12Invertible_any p I wr hC HP.out hN).mono ?_
      rintro e w3 ⟨dt, At, nt, kt, hiv, hlt3, hrt, rfl, hdt, hC3, hG3, hot⟩
      have hs3 := hG3.size
      have HIV := Lib.hid hiv
      have HRT := Lib.hid hrt
      have HNT := Lib.hid (show nt = I * I by rw [← hot.1]; exact hlt3)
      have hz3 := (hz.chg hG3 (.inr (by omega))).alloc (.cells #[.int .i64 p, .int .i64 I, .int .i64 I, .slice At nt kt] 26)
      have hm3 := (hm.chg hG3 (.inr (by omega))).alloc (.cells #[.int .i64 p, .int .i64 I, .int .i64 I, .slice At nt kt] 26)
      have ho3 := (ho.chgHi hG3 (by omega) (by omega)).alloc (by omega) (.cells #[.int .i64 p, .int .i64 I, .int .i64 I, .slice At nt kt] 26)
      have ht3 := Box.new w3 #[.int .i64 p, .int .i64 I, .int .i64 I, .slice At nt kt] 26
      have hot3 := hot.alloc (Nat.le_refl _) (.cells #[.int .i64 p, .int .i64 I, .int .i64 I, .slice At nt kt] 26)
      have hCC := hC3.alloc (.cells #[.int .i64 p, .int .i64 I, .int .i64 I, .slice At nt kt] 26)
      have hGG := (hG.trans hG3).alloc (.cells #[.int .i64 p, .int .i64 I, .int .i64 I, .slice At nt kt] 26)
      have hs3a : (w3.alloc (.cells #[.int .i64 p, .int .i64 I, .int .i64 I, .slice At nt kt] 26)).heap.size = w3.heap.size + 1 := by simp
      obtain ⟨t0, t1, t2, t3⟩ := ht3.four
      clear hz hm ho hC hG hC3 hG3 hot hiv hrt hlt3
      go_wp2_with fail
      generalize w3.alloc (.cells #[.int .i64 p, .int .i64 I, .int .i64 I, .slice At nt kt] 26) = W3 at *
      refine (l1Invert_yes p I nt kt At dt W3 (B := w3.heap.size) hot3.rd (by omega) HNT.out (by omega) HP.out HRT.out HIV.out).mono ?_
      rintro e w4 ⟨A4, n4, k4, rfl, hd4, hb4, ho4⟩
      have hs4 := hb4.size
      have HN4 := Lib.hid (show n4 = I * I by have := ho4.1; rw [ivD, tab_len] at this; exact this.symm)
      have HR4 := Lib.hid (show resB (ivD I p dt) p = true from resB_tab fun i j _ _ => rr_res (by omega) (ivF_res (by omega) HRT.out) _ i _)
      clear t0 t1 t2 t3
      have hz5 := (hz3.below hb4 (by omega)).alloc (.cells #[.int .i64 p, .int .i64 I, .int .i64 I, .slice A4 n4 k4] 26)
      have hm5 := (hm3.below hb4 (by omega)).alloc (.cells #[.int .i64 p, .int .i64 I, .int .i64 I, .slice A4 n4 k4] 26)
      have ht5 := (ht3.below hb4 (by omega)).alloc (.cells #[.int .i64 p, .int .i64 I, .int .i64 I, .slice A4 n4 k4] 26)
      have hi5 := Box.new w4 #[.int .i64 p, .int .i64 I, .int .i64 I, .slice A4 n4 k4] 26
      have ho5 := (ho3.below hb4 (by omega)).alloc (by omega) (.cells #[.int .i64 p, .int .i64 I, .int .i64 I, .slice A4 n4 k4] 26)
      have hot5 := (hot3.below hb4 (by omega)).alloc (by omega) (.cells #[.int .i64 p, .int .i64 I, .int .i64 I, .slice A4 n4 k4] 26)
      have hoi5 := ho4.alloc (Nat.le_refl _) (.cells #[.int .i64 p, .int .i64 I, .int .i64 I, .slice A4 n4 k4] 26)
      have hC5 := (hCC.plus hb4).alloc (.cells #[.int .i64 p, .int .i64 I, .int .i64 I, .slice A4 n4 k4] 26)
      have hG5 := (hGG.plus hb4).alloc (.cells #[.int .i64 p, .int .i64 I, .int .i64 I, .slice A4 n4 k4] 26)
      have hs5a : (w4.alloc (.cells #[.int .i64 p, .int .i64 I, .int .i64 I, .slice A4 n4 k4] 26)).heap.size = w4.heap.size + 1 := by simp
      have hzf := hz5.fz
      clear hz3 hm3 ht3 ho3 hot3 hCC hGG hb4 ho4
      go_wp2_with fail
      generalize w4.alloc (.cells #[.int .i64 p, .int .i64 I, .int .i64 I, .slice A4 n4 k4] 26) = W5 at *
      have hr4 : RdI W5.drew W5.heap.size A4 n4 (ivD I p dt) := hoi5.rd.up (by omega)
      have hr1 : RdI W5.drew W5.heap.size A1 n1 d := ho5.rd.up (by omega)
      have hsd : W5.heap.size ≤ W5.drew.heap.size := Nat.le_refl _
      have hI40 : I ≤ 100 := by omega
      have hp1' : 1 ≤ p := by omega
      go_region_held3 (fun w' => ((w'.cell? ⟨w4.heap.size, 0, none⟩ = some (.int .i64 p) ∧ w'.cell? ⟨w4.heap.size, 1, none⟩ = some (.int .i64 I) ∧ w'.cell? ⟨w4.heap.size, 2, none⟩ = some (.int .i64 I) ∧ w'.cell? ⟨w4.heap.size, 3, none⟩ = some (.slice A4 n4 k4)) ∧ (w'.cell? ⟨w1.heap.size, 0, none⟩ = some (.int .i64 p) ∧ w'.cell? ⟨w1.heap.size, 1, none⟩ = some (.int .i64 I) ∧ w'.cell? ⟨w1.heap.size, 2, none⟩ = some (.int .i64 I) ∧ w'.cell? ⟨w1.heap.size, 3, none⟩ = some (.slice A1 n1 k1))) ∧ w'.cell? ⟨w3.heap.size, 0, none⟩ = some (.int .i64 p) ∧ w'.cell? ⟨w3.heap.size, 1, none⟩ = some (.int .i64 I) ∧ w'.cell? ⟨w3.heap.size, 2, none⟩ = some (.int .i64 I) ∧ w'.cell? ⟨w3.heap.size, 3, none⟩ = some (.slice At nt kt)) (first | exact ⟨⟨hi5.four, hm5.four⟩, ht5.four⟩ | exact ⟨⟨((((hi5.other (by show w4.heap.size ≠ w.heap.size; omega) _).other (by show w4.heap.size ≠ w.heap.size; omega) _).other (by show w4.heap.size ≠ w.heap.size; omega) _).other (by show w4.heap.size ≠ w.heap.size; omega) _).four, ((((hm5.other (by show w1.heap.size ≠ w.heap.size; omega) _).other (by show w1.heap.size ≠ w.heap.size; omega) _).other (by show w1.heap.size ≠ w.heap.size; omega) _).other (by show w1.heap.size ≠ w.heap.size; omega) _).four⟩, ((((ht5.other (by show w3.heap.size ≠ w.heap.size; omega) _).other (by show w3.heap.size ≠ w.heap.size; omega) _).other (by show w3.heap.size ≠ w.heap.size; omega) _).other (by show w3.heap.size ≠ w.heap.size; omega) _).four⟩)
        (first
          | (go_at_call 79; (with_reducible refine (l1Mul_any (B1 := W5.heap.size) (B2 := W5.heap.size) p p I I I n4 k4 n1 k1 A4 A1 (ivD I p dt) d W5.drew hr4 hsd hr1 hsd hI40 hI40 hI40 HN4.out HN1.out hp1' hp2 HR4.out HR.out).mono ?_); rintro e w6 ⟨A6, n6, k6, rfl, hd6, hb6, ho6⟩; have hb6 : Below W5.heap.size W5 w6 := ⟨hb6.os, hb6.tape, hb6.output, hb6.size, hb6.block⟩; have hs6 := hb6.size; have hi5 : Box w6 w4.heap.size _ := hi5.below hb6 (by omega); have hm5 : Box w6 w1.heap.size _ := hm5.below hb6 (by omega); have ht5 : Box w6 w3.heap.size _ := ht5.below hb6 (by omega); have hz5 : Box w6 w.heap.size _ := hz5.below hb6 (by omega); have HN6 := Lib.hid (show n6 = I * I by have := ho6.1; rw [mulD, tab_len] at this; exact this.symm); have HR6 := Lib.hid (show resB (mulD I I I (ivD I p dt) d p) p = true from resB_mulD hp1'); have hot6 := (hot5.rd.below hb6 (by omega)).up (show w3.heap.size ≤ w6.heap.size by omega); have ho6r := ho6.rd)
          | (go_at_call 79; (with_reducible refine (l1Mul_any (B1 := w6.heap.size) (B2 := w6.heap.size) p p I I I n6 k6 nt kt A6 At (mulD I I I (ivD I p dt) d p) dt w6 ho6r (Nat.le_refl _) hot6 (Nat.le_refl _) hI40 hI40 hI40 HN6.out HNT.out hp1' hp2 HR6.out HRT.out).mono ?_); rintro e w7 ⟨A7, n7, k7, rfl, hd7, hb7, ho7⟩; have hs7 := hb7.size; have hi5 : Box w7 w4.heap.size _ := hi5.below hb7 (by omega); have hm5 : Box w7 w1.heap.size _ := hm5.below hb7 (by omega); have ht5 : Box w7 w3.heap.size _ := ht5.below hb7 (by omega); have hz5 : Box w7 w.heap.size _ := hz5.below hb7 (by omega); obtain ⟨z0, z1, z2, z3⟩ := hz5.four; have zf := hz5.fz))
      have HN7 := Lib.hid (show (mulD I I I (mulD I I I (ivD I p dt) d p) dt p).length = I * I by rw [mulD, tab_len])
      have HR7 := Lib.hid (show resB (mulD I I I (mulD I I I (ivD I p dt) d p) dt p) p = true from resB_mulD hp1')
      have hC7 := (hC5.plus hb6).plus hb7
      have hG7 := (hG5.plus hb6).plus hb7
      go_wp2
      exact bodyPost_ret (v := .agg #[.int .i64 p, .int .i64 I, .int .i64 I, .slice A7 n7 k7]) (by simp [results, Try.results86, go_sem, z0, z1, z2, z3]) rfl (drM4 (R := w.heap.size) trivial HN7.out HR7.out hd7 hC7 hG7 ho7 hlt (Nat.le_refl _) (by omega) _ _ _ _)
end Go.Proofs.Ytfiganobjjjloaa
