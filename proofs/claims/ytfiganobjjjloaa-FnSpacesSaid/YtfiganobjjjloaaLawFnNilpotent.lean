/- The walk of the law on nilpotent matrices. No condition. -/
import Derived.Test.YtfiganobjjjloaaDrw
import Derived.Test.YtfiganobjjjloaaLwsW
import Derived.Deep.DeepCutAuto
namespace Go.Proofs.Ytfiganobjjjloaa
set_option linter.unusedVariables false
set_option linter.unusedSimpArgs false
set_option maxRecDepth 20000
open Go.RowKit Go.Sort
set_option maxHeartbeats 8000000
/-- a good square matrix that is drawn -/
def DrawnM (w : World) (e : Ending) (w' : World) : Prop :=
  ∃ (p : Int) (N : Nat) (d : List Int) (A : Option Addr) (n k : Nat), okM p N N d = true ∧ N ≤ 4 ∧ e = .returned (.agg #[.int .i64 p, .int .i64 N, .int .i64 N, .slice A n k]) ∧ Hd A n k ∧ Below w.heap.size w w' ∧ OwI w' w.heap.size w'.heap.size A n d
theorem okM_mk {p : Int} {N : Nat} {d : List Int} (hp : isP p = true) (hN : N ≤ 4) (hl : d.length = N * N) (hr : resB d p = true) : okM p N N d = true := by
  unfold okM
  rw [hp, hr]
  have e : (d.length : Int) = (N : Int) * (N : Int) := by rw [hl, Int.natCast_mul]
  simp [e]; omega
theorem big_any {A : Option Addr} {n k : Nat} (w : World) (hn : n ≤ 9223372036854775807) : Calls Try.prog 19 #[.slice A n k] w fun e w' => e = .returned (.bool (decide (1048576 < n))) ∧ w = w' := by
  go_enter Try.func19, Try.ntmps19
  go_wp2
  go_ret
  have e : decide ((1048576 : Int) < (n : Int)) = decide (1048576 < n) := decide_eq_decide.2 (by omega)
  exact ⟨congrArg (fun b => Ending.returned (.bool b)) e, rfl⟩
theorem drawNil_any {B : Nat} (A : Option Addr) (n k : Nat) (w : World) (h : RdB w B A n) (hB : B ≤ w.heap.size) : Calls Try.prog 28 #[.slice A n k] w (DrawnM w) := by
  have hz := Box.new w #[.int .i64 0, .int .i64 0, .int .i64 0, .slice none 0 0] 26
  have hr := h.below ((Below.refl _ w).alloc (Nat.le_refl _) (.cells #[.int .i64 0, .int .i64 0, .int .i64 0, .slice none 0 0] 26)) hB
  go_enter Try.func28, Try.ntmps28
  go_wp2_with fail
  refine (l1New_any A n k _ hr (by rw [World.size_alloc]; omega)).mono ?_
  rintro e w1 ⟨g, rfl, hg, hC1, hb1⟩
  rw [World.size_alloc] at hg
  have hs1 := hb1.size
  rw [World.size_alloc] at hs1
  have hz1 := hz.below hb1 (by simp)
  have hq1 : Below w.heap.size w w1 := (by repeat' (first | (with_reducible exact Below.refl _ _) | (with_reducible refine Below.setCell ?_ (by first | exact Nat.le_refl _ | omega | (simp only [World.size_alloc, World.size_setCell, World.heap_drewN]; omega) | (simp; omega)) _) | (with_reducible refine Below.alloc ?_ (by first | exact Nat.le_refl _ | omega | (simp only [World.size_alloc, World.size_setCell, World.heap_drewN]; omega) | (simp; omega)) _) | (with_reducible refine below_drewN ?_ _) | (with_reducible refine Below.drew ?_) | (with_reducible refine Below.trans ?_ (hb1.mono (by first | exact Nat.le_refl _ | omega | (simp only [World.size_alloc, World.size_setCell, World.heap_drewN]; omega) | (simp; omega))))))
  clear hz hb1 hr
  go_wp2_with fail
  refine (l12Prime_any w1 hC1).mono ?_
  rintro e w2 ⟨p, ⟨hp, hp101⟩, rfl, hC2, hG2⟩
  have HP := Lib.hid hp
  obtain ⟨hp1, hp2⟩ := isP_bd hp
  have hs2 := hG2.size
  have hz2 := hz1.chg hG2 (.inl (by omega))
  have hq2 := hq1.trans ((hG2.below (by have := hC1.lt; omega)).mono (by omega))
  clear hp hz1 hC1
  go_wp2_with fail
  refine (l1Below_any 5 w2 hC2 (by omega)).mono ?_
  rintro e w3 ⟨vN, ⟨hN0, hN1, -⟩, rfl, hC3, hG3⟩
  obtain ⟨N, rfl⟩ := Int.eq_ofNat_of_zero_le hN0
  have hN : N ≤ 4 := by have := hN1 (by omega); omega
  have hs3 := hG3.size
  have hz3 := hz2.chg hG3 (.inl (by omega))
  have hq3 := hq2.trans ((hG3.below (by have := hC2.lt; omega)).mono (by omega))
  clear hN0 hN1 hz2 hC2 hq1 hq2 hG2
  go_wp2_with fail
  refine (l1Once_any 5 w3 hC3 (by omega)).mono ?_
  rintro e w4 ⟨bb, rfl, hC4, hG4⟩
  have hs4 := hG4.size
  have hz4 := hz3.chg hG4 (.inl (by omega))
  have hq4 := hq3.trans ((hG4.below (by have := hC3.lt; omega)).mono (by omega))
  have hgl := hC4.lt
  clear hz3 hC3 hq3 hG3 hG4
  rcases bb with _ | _
  · go_wp2_with fail
    refine (l12Nilpotent_any p N w4 hC4 HP.out (by omega)).mono ?_
    rintro e w5 ⟨d, A5, n5, k5, -, hl5, hr5, rfl, hd5, hC5, hG5, ho5⟩
    have hs5 := hG5.size
    have hz5 := hz4.chg hG5 (.inl (by omega))
    have hq5 := hq4.trans ((hG5.below (by omega)).mono (by omega))
    have HOK := Lib.hid (okM_mk HP.out hN hl5 hr5)
    obtain ⟨z0, z1, z2, z3⟩ := hz5.four
    have zf := hz5.fz
    clear hl5 hr5 hG5
    go_wp2
    exact bodyPost_ret (v := .agg #[.int .i64 p, .int .i64 N, .int .i64 N, .slice A5 n5 k5]) (by simp [results, Try.results28, go_sem, z0, z1, z2, z3]) rfl (by
      obtain ⟨A', n', k', e, h1, h2, h3⟩ := retM4 (p := p) (r := N) (c := N) (R := w.heap.size) hq5 ho5 (Nat.le_refl _) (by omega) (Nat.le_refl _) (.int .i64 p) (.int .i64 N) (.int .i64 N) (.slice A5 n5 k5) hd5
      exact ⟨p, N, d, A', n', k', HOK.out, hN, e, h1, h2, h3⟩)
  · go_wp2_with fail
    refine (l12Matrix_any p N N w4 hC4 (by omega) hp2 (by omega) (by omega)).mono ?_
    rintro e w5 ⟨d, A5, n5, k5, -, hl5, hr5, rfl, hd5, hC5, hG5, ho5⟩
    have hs5 := hG5.size
    have hz5 := hz4.chg hG5 (.inl (by omega))
    have hq5 := hq4.trans ((hG5.below (by omega)).mono (by omega))
    have HOK := Lib.hid (okM_mk HP.out hN hl5 hr5)
    obtain ⟨z0, z1, z2, z3⟩ := hz5.four
    have zf := hz5.fz
    clear hl5 hr5 hG5
    go_wp2
    exact bodyPost_ret (v := .agg #[.int .i64 p, .int .i64 N, .int .i64 N, .slice A5 n5 k5]) (by simp [results, Try.results28, go_sem, z0, z1, z2, z3]) rfl (by
      obtain ⟨A', n', k', e, h1, h2, h3⟩ := retM4 (p := p) (r := N) (c := N) (R := w.heap.size) hq5 ho5 (Nat.le_refl _) (by omega) (Nat.le_refl _) (.int .i64 p) (.int .i64 N) (.int .i64 N) (.slice A5 n5 k5) hd5
      exact ⟨p, N, d, A', n', k', HOK.out, hN, e, h1, h2, h3⟩)
theorem walk_FnNilpotent {w : World} (A0 : Option Addr) (n0 k0 : Nat) (z0 : List Int) (y0 : IsRow .u8 w A0 n0 k0 z0) :
    Calls Try.prog 5 #[.slice A0 n0 k0] w fun e w' => e = .returned (.bool true) ∧ Below w.heap.size w w' := by
  have hr := RdB.ofRow y0
  have hnm := hr.1
  unfold maxLen at hnm
  by_cases hbig : 1048576 < n0
  · go_enter Try.func5, Try.ntmps5
    go_wp2_with (go_at_call 19; refine (big_any _ (by omega)).mono ?_; rintro e w' ⟨rfl, rfl⟩)
    go_ret
    exact ⟨rfl, Below.refl _ _⟩
  · go_enter Try.func5, Try.ntmps5
    go_wp2_with (go_at_call 19; refine (big_any _ (by omega)).mono ?_; rintro e w' ⟨rfl, rfl⟩)
    refine (drawNil_any A0 n0 k0 w hr (Nat.le_refl _)).mono ?_
    rintro e w1 ⟨p, N, d, A1, n1, k1, hok, hN, rfl, hd1, hb1, ho1⟩
    have HOK := Lib.hid hok
    obtain ⟨hp, -, -, hl, hres⟩ := okM_bd hok
    obtain ⟨hp1, hp2⟩ := isP_bd hp
    have HZ := Lib.hid (show okZ p N N from ⟨hp, ⟨by omega, by omega⟩, ⟨by omega, by omega⟩⟩)
    have HRES := Lib.hid hres
    have HP := Lib.hid hp
    have hs1 := hb1.size
    obtain ⟨K, hKe⟩ : ∃ K : Int, K = nilV N d p := ⟨_, rfl⟩
    obtain ⟨hK1, hK2, hK3⟩ := nil_iff (R := N) (d := d) (p := p) (by omega)
    rw [← hKe] at hK1 hK2 hK3
    have HK2 := Lib.hid hK2
    have HK3 := Lib.hid hK3
    have HKE := Lib.hid hKe
    have hm1 := Box.new w1 #[.int .i64 p, .int .i64 N, .int .i64 N, .slice A1 n1 k1] 26
    have ho2 := ho1.alloc (Nat.le_refl _) (.cells #[.int .i64 p, .int .i64 N, .int .i64 N, .slice A1 n1 k1] 26)
    have hq1 := hb1.alloc (by omega) (.cells #[.int .i64 p, .int .i64 N, .int .i64 N, .slice A1 n1 k1] 26)
    have hsa : (w1.alloc (.cells #[.int .i64 p, .int .i64 N, .int .i64 N, .slice A1 n1 k1] 26)).heap.size = w1.heap.size + 1 := by simp
    clear hok hl hres hp hb1 ho1 hK2 hK3 hKe hr y0
    obtain ⟨x0, x1, x2, x3⟩ := hm1.four
    go_wp2_with fail
    generalize w1.alloc (.cells #[.int .i64 p, .int .i64 N, .int .i64 N, .slice A1 n1 k1] 26) = W1 at *
    refine (iNil_ok (B := w1.heap.size) p N n1 k1 A1 d W1 ho2.rd hd1 (by omega) HOK.out).mono ?_
    rintro e w2 ⟨rfl, hb2⟩
    rw [← HKE.out]
    have hs2 := hb2.size
    have hm2 := hm1.below hb2 (by omega)
    have ho3 := ho2.below hb2 (by omega)
    have hq2 := hq1.trans (hb2.mono (by omega))
    clear x0 x1 x2 x3 hm1 ho2 hq1 hb2
    obtain ⟨x0, x1, x2, x3⟩ := hm2.four
    go_wp2_with fail
    refine (sUnit_ok p N w2 HZ.out).mono ?_
    rintro e w3 ⟨A3, n3, k3, rfl, hd3, hb3, hox⟩
    have hs3 := hb3.size
    have hm4 := (hm2.below hb3 (by omega)).alloc (.cells #[.int .i64 p, .int .i64 N, .int .i64 N, .slice A3 n3 k3] 26)
    have ho4 := (ho3.below hb3 (by omega)).alloc (by omega) (.cells #[.int .i64 p, .int .i64 N, .int .i64 N, .slice A3 n3 k3] 26)
    have hx4 := Box.new w3 #[.int .i64 p, .int .i64 N, .int .i64 N, .slice A3 n3 k3] 26
    have hox4 : OwI _ _ _ A3 n3 (pw N d p 0) := hox.alloc (Nat.le_refl _) (.cells #[.int .i64 p, .int .i64 N, .int .i64 N, .slice A3 n3 k3] 26)
    have hq4 := (hq2.trans (hb3.mono (by omega))).alloc (by omega) (.cells #[.int .i64 p, .int .i64 N, .int .i64 N, .slice A3 n3 k3] 26)
    have hsb : (w3.alloc (.cells #[.int .i64 p, .int .i64 N, .int .i64 N, .slice A3 n3 k3] 26)).heap.size = w3.heap.size + 1 := by simp
    clear x0 x1 x2 x3 hm2 ho3 hq2 hb3 hox
    obtain ⟨x0, x1, x2, x3⟩ := hm4.four
    go_wp2_with fail
    generalize w3.alloc (.cells #[.int .i64 p, .int .i64 N, .int .i64 N, .slice A3 n3 k3] 26) = W3 at *
    go_loopw [6] (fun kk wr => ∃ j : Nat, j ≤ N + 1 ∧ kk = .int .i64 j ∧ Below w.heap.size w wr ∧ w3.heap.size < wr.heap.size ∧ Box wr w1.heap.size #[.int .i64 p, .int .i64 N, .int .i64 N, .slice A1 n1 k1] ∧ OwI wr w.heap.size w1.heap.size A1 n1 d ∧ ∃ A5 n5 k5 lo hi, Hd A5 n5 k5 ∧ Box wr w3.heap.size #[.int .i64 p, .int .i64 N, .int .i64 N, .slice A5 n5 k5] ∧ OwI wr lo hi A5 n5 (pw N d p j) ∧ (w3.heap.size < lo ∨ hi ≤ w3.heap.size) ∧ hi ≤ wr.heap.size) (fun kk _ => N + 1 - (intOf kk).toNat)
    case atStart => exact ⟨0, by omega, rfl, hq4, by omega, hm4, ho4, A3, n3, k3, _, _, hd3, hx4, hox4, .inr (Nat.le_refl _), by omega⟩
    case round =>
      clear x0 x1 x2 x3 hm4 ho4 hx4 hox4 hq4 hd3
      obtain ⟨j, hj, rfl, hq, hsz, hm, ho, A5, n5, k5, lo, hi, hd5, hx, hox, hdis, hhi⟩ := hrel
      obtain ⟨x0, x1, x2, x3⟩ := hm.four
      obtain ⟨y0, y1, y2, y3⟩ := hx.four
      have hqs := hq.size
      by_cases hlt : j ≤ N
      · go_wp2_with fail
        refine ((lzeros_any A5 n5 k5 (pw N d p j) _ (B := hi) hox.rd).mono fun _ _ h => h.rv).mono ?_
        rintro e w5 ⟨rfl, hb5⟩
        have hs5 := hb5.size
        have hm5 := hm.below hb5 (by omega)
        have hx5 := hx.below hb5 (by omega)
        have ho5 := ho.below hb5 (by omega)
        have hox5 := hox.below hb5 (by omega)
        have hq5 := hq.trans (hb5.mono (by omega))
        have HOP := Lib.hid (okM_mk HP.out hN (pw_len N d p j) (resB_pw (by omega) j))
        clear x0 x1 x2 x3 y0 y1 y2 y3 hm hx ho hox hq hb5
        obtain ⟨x0, x1, x2, x3⟩ := hm5.four
        obtain ⟨y0, y1, y2, y3⟩ := hx5.four
        obtain ⟨zb, hzb, hc⟩ : ∃ b, zeroB (pw N d p j) = b ∧ ((b = true ∧ 0 ≤ K ∧ K ≤ (j : Int)) ∨ (b = false ∧ K < 0) ∨ (b = false ∧ 0 ≤ K ∧ (j : Int) < K)) := by
          refine ⟨_, rfl, ?_⟩
          rcases Int.lt_or_le K 0 with h | h
          · exact .inr (.inl ⟨HK2.out h j hlt, h⟩)
          · have e := HK3.out h j hlt
            rcases Int.lt_or_le (j : Int) K with h2 | h2
            · exact .inr (.inr ⟨by rw [e]; exact decide_eq_false (by omega), h, h2⟩)
            · exact .inl ⟨by rw [e]; exact decide_eq_true h2, h, h2⟩
        rw [hzb]
        clear hzb
        rcases hc with ⟨rfl, h1, h2⟩ | ⟨rfl, h1⟩ | ⟨rfl, h1, h2⟩
        all_goals
          go_wp2_with fail
          refine (ltimes_ok p N N N n5 k5 n1 k1 A5 A1 (pw N d p j) d _ (B := w5.heap.size) (hox5.rd.up (by omega)) (ho5.rd.up (by omega)) hd1 (Nat.le_refl _) HOP.out HOK.out).mono ?_
          rintro e w6 ⟨A6, n6, k6, rfl, hd6, hb6, ho6⟩
          have hs6 := hb6.size
          have hm6 := hm5.below hb6 (by omega)
          have hx6 := hx5.below hb6 (by omega)
          have hw6 := ho5.below hb6 (by omega)
          have hq6 := hq5.trans (hb6.mono (by omega))
          clear x0 x1 x2 x3 y0 y1 y2 y3 hm5 hx5 ho5 hox5 hq5 hb6
          obtain ⟨y0, y1, y2, y3⟩ := hx6.four
          have yf := hx6.fz
          go_wp2
          go_roundw
          case rel =>
            exact ⟨j + 1, by omega, by go_num, (((hq6.setCell (by show w.heap.size ≤ w3.heap.size; omega) _).setCell (by show w.heap.size ≤ w3.heap.size; omega) _).setCell (by show w.heap.size ≤ w3.heap.size; omega) _).setCell (by show w.heap.size ≤ w3.heap.size; omega) _, by simp only [World.size_setCell]; omega, (((hm6.other (by show _ ≠ w3.heap.size; omega) _).other (by show _ ≠ w3.heap.size; omega) _).other (by show _ ≠ w3.heap.size; omega) _).other (by show _ ≠ w3.heap.size; omega) _, (((hw6.setCell (by show w1.heap.size ≤ w3.heap.size; omega) _).setCell (by show w1.heap.size ≤ w3.heap.size; omega) _).setCell (by show w1.heap.size ≤ w3.heap.size; omega) _).setCell (by show w1.heap.size ≤ w3.heap.size; omega) _, A6, n6, k6, _, _, hd6, hx6.set4 _ _ _ _, (((ho6.setLow (by show w3.heap.size < _; omega) _).setLow (by show w3.heap.size < _; omega) _).setLow (by show w3.heap.size < _; omega) _).setLow (by show w3.heap.size < _; omega) _, .inl (by omega), by simp only [World.size_setCell]; omega⟩
          case measure => simp [intOf]; omega
      · go_wp2
        go_ret
        exact ⟨rfl, hq⟩
end Go.Proofs.Ytfiganobjjjloaa
