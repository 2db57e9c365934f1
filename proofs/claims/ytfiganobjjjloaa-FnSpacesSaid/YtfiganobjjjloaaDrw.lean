/- Draws of primes and matrices. No condition but what each theorem names. -/
import Derived.Test.YtfiganobjjjloaaCur
import Derived.Test.YtfiganobjjjloaaIvk
import Derived.Test.YtfiganobjjjloaaMulW
import Derived.Deep.RegionHeld3
import Derived.Test.YtfiganobjjjloaaUnitW
import Derived.Outline
import Derived.Test.YtfiganobjjjloaaIvtW
namespace Go.Proofs.Ytfiganobjjjloaa
set_option linter.unusedVariables false
set_option linter.unusedSimpArgs false
set_option maxRecDepth 20000
open Go.RowKit
set_option maxHeartbeats 16000000
theorem Chg.setNew {w w' : World} {B0 B : Nat} {p : Addr} (h : Chg B0 B w w') (hp : w.heap.size ≤ p.block) (u : Value) : Chg B0 B w (w'.setCell p u) :=
  ⟨h.os, h.tape, h.output, by rw [World.size_setCell]; exact h.size, fun k hk hh => (Below.heap_setCell _ _ _ _ (by omega)).trans (h.block k hk hh)⟩
theorem Chg.plus {w w1 w2 : World} {B0 B : Nat} (h : Chg B0 B w w1) (hb : Below w1.heap.size w1 w2) : Chg B0 B w w2 := h.trans (Chg.ofBelow hb (Nat.le_refl _))
theorem Cur.plus {w w' : World} {g : Nat} (h : Cur w g) (hb : Below w.heap.size w w') : Cur w' g := h.below hb h.lt
/-- a matrix that is drawn -/
def DrM (g : Nat) (p : Int) (r c : Nat) (P : List Int → Prop) (w : World) (e : Ending) (w' : World) : Prop :=
  ∃ (d : List Int) (A : Option Addr) (n k : Nat), P d ∧ d.length = r * c ∧ resB d p = true ∧ e = .returned (.agg #[.int .i64 p, .int .i64 r, .int .i64 c, .slice A n k]) ∧ Hd A n k ∧ Cur w' g ∧ Chg g (g + 1) w w' ∧ OwI w' w.heap.size w'.heap.size A n d
theorem drM4 {g R lo : Nat} {p : Int} {r c n k : Nat} {P : List Int → Prop} {d : List Int} {A : Option Addr} {w w' : World} (hP : P d) (hl : d.length = r * c) (hr : resB d p = true) (hd : Hd A n k) (hC : Cur w' g) (hG : Chg g (g + 1) w w') (ho : OwI w' lo w'.heap.size A n d) (hg : g < w.heap.size) (hR : w.heap.size ≤ R) (hR2 : R < lo) (v0 v1 v2 v3 : Value) :
    DrM g p r c P w (.returned (.agg #[.int .i64 p, .int .i64 r, .int .i64 c, .slice A n k])) ((((w'.setCell ⟨R, 0, none⟩ v0).setCell ⟨R, 1, none⟩ v1).setCell ⟨R, 2, none⟩ v2).setCell ⟨R, 3, none⟩ v3) := by
  refine ⟨d, A, n, k, hP, hl, hr, rfl, hd, ?_, ?_, ?_⟩
  · exact (((hC.setCell (by show g < R; omega) _).setCell (by show g < R; omega) _).setCell (by show g < R; omega) _).setCell (by show g < R; omega) _
  · exact (((hG.setNew (by exact hR) _).setNew (by exact hR) _).setNew (by exact hR) _).setNew (by exact hR) _
  · simp only [World.size_setCell]
    exact ((((ho.setLow (by exact hR2) _).setLow (by exact hR2) _).setLow (by exact hR2) _).setLow (by exact hR2) _).down (by omega)
theorem l12Prime_any {g : Nat} (w : World) (h : Cur w g) : Calls Try.prog 74 #[.pointer (some ⟨g, 0, none⟩)] w (DrN g (fun v => isP v = true ∧ v ≤ 101) w) := by
  have hlt := h.lt
  have hb0 := Box.new w #[.int .i64 2, .int .i64 3, .int .i64 5, .int .i64 7, .int .i64 11, .int .i64 101] 3
  have hC := h.alloc (.cells #[.int .i64 2, .int .i64 3, .int .i64 5, .int .i64 7, .int .i64 11, .int .i64 101] 3)
  have hR : RdI (w.alloc (.cells #[.int .i64 2, .int .i64 3, .int .i64 5, .int .i64 7, .int .i64 11, .int .i64 101] 3)) (w.heap.size + 1) (some ⟨w.heap.size, 0, none⟩) 6 [2, 3, 5, 7, 11, 101] := by
    refine ⟨rfl, by unfold maxLen; omega, fun _ => ⟨_, 0, rfl, by omega, fun j hj => ?_⟩⟩
    rw [Nat.zero_add]
    rcases j with _ | _ | _ | _ | _ | _ | j
    · exact hb0.cell rfl
    · exact hb0.cell rfl
    · exact hb0.cell rfl
    · exact hb0.cell rfl
    · exact hb0.cell rfl
    · exact hb0.cell rfl
    · omega
  go_enter Try.func74, Try.ntmps74
  go_wp2_with fail
  refine (l1PickInt_any _ 6 6 _ _ hC hR (.inr ⟨_, _, rfl, hlt⟩) (by omega) (by omega)).mono ?_
  rintro e w1 ⟨v, ⟨j, hj, rfl⟩, rfl, hC1, hG1⟩
  go_wp2
  go_ret
  refine ⟨_, ?_, rfl, hC1, ⟨hG1.os, hG1.tape, hG1.output, by have := hG1.size; rw [World.size_alloc] at this; omega, fun k hk hh => (hG1.block k (by rw [World.size_alloc]; omega) hh).trans (Below.heap_alloc _ _ _ hk)⟩⟩
  rcases j with _ | _ | _ | _ | _ | _ | j
  · exact ⟨by decide +kernel, by decide⟩
  · exact ⟨by decide +kernel, by decide⟩
  · exact ⟨by decide +kernel, by decide⟩
  · exact ⟨by decide +kernel, by decide⟩
  · exact ⟨by decide +kernel, by decide⟩
  · exact ⟨by decide +kernel, by decide⟩
  · omega
theorem l12Matrix_any {g : Nat} (p : Int) (r c : Nat) (w : World) (h : Cur w g) (hp1 : 1 ≤ p) (hp2 : p ≤ 10007) (hr : r ≤ 10) (hc : c ≤ 10) : Calls Try.prog 75 #[.pointer (some ⟨g, 0, none⟩), .int .i64 p, .int .i64 r, .int .i64 c] w (DrM g p r c (fun _ => True) w) := by
  have hlt := h.lt
  have hz := Box.new w #[.int .i64 0, .int .i64 0, .int .i64 0, .slice none 0 0] 26
  have hC := h.alloc (.cells #[.int .i64 0, .int .i64 0, .int .i64 0, .slice none 0 0] 26)
  obtain ⟨q, hq⟩ : ∃ q, q = r * c := ⟨_, rfl⟩
  have hqi : (r : Int) * (c : Int) = (q : Int) := by rw [hq, Int.natCast_mul]
  have hqw : IntKind.i64.wrap ((r : Int) * (c : Int)) = (q : Int) := by
    rw [hqi]; exact IntWalk.i64_in _ (by have : r * c ≤ 10 * 10 := Nat.mul_le_mul hr hc; omega)
  have hq100 : q ≤ 100 := by rw [hq]; exact Nat.mul_le_mul hr hc
  have HQ := Lib.hid hq
  clear hq hqi
  go_enter Try.func75, Try.ntmps75
  go_wp2_with fail
  refine (l12List_any p _ hC hp1 hp2 (n := q) (by omega)).mono ?_
  rintro e w1 ⟨xs, A, k, hxl, hxr, rfl, hd, hC1, hG1, ho⟩
  have hs1 := hG1.size
  rw [World.size_alloc] at hs1 ho
  have hz1 := hz.keep (hG1.block w.heap.size (by rw [World.size_alloc]; omega) (.inr (by omega)))
  have HX := Lib.hid hxl
  have HR := Lib.hid hxr
  obtain ⟨z0, z1, z2, z3⟩ := hz1.four
  have zf := hz1.fz
  clear hxl hxr
  go_wp2
  have hG : Chg g (g + 1) w w1 := ⟨hG1.os, hG1.tape, hG1.output, by omega, fun k hk hh => (hG1.block k (by rw [World.size_alloc]; omega) hh).trans (Below.heap_alloc _ _ _ hk)⟩
  exact bodyPost_ret (v := .agg #[.int .i64 p, .int .i64 r, .int .i64 c, .slice A q k]) (by simp [results, Try.results75, go_sem, z0, z1, z2, z3]) rfl (drM4 (R := w.heap.size) trivial (by rw [HX.out, HQ.out]) HR.out hd hC1 hG ho hlt (Nat.le_refl _) (by omega) _ _ _ _)
/-- the cursor's beginning -/
def RetCur (w : World) (e : Ending) (w' : World) : Prop := ∃ g, e = .returned (.pointer (some ⟨g, 0, none⟩)) ∧ w.heap.size ≤ g ∧ Cur w' g ∧ Below w.heap.size w w'
theorem l1New_any {B : Nat} (A : Option Addr) (n k : Nat) (w : World) (h : RdB w B A n) (hB : B ≤ w.heap.size) : Calls Try.prog 73 #[.slice A n k] w (RetCur w) := by
  have hm := h.1
  unfold maxLen at hm
  go_enter Try.func73, Try.ntmps73
  go_wp2_with fail
  go_loopw [3, 4] (fun hh ii wr => ∃ (j : Nat) (x : Int), j ≤ n ∧ ii = .int .i64 (j : Int) ∧ hh = .int .i64 x ∧ SameD w wr) (fun _ ii _ => n - (intOf ii).toNat)
  case atStart => exact ⟨0, _, by omega, rfl, rfl, SameD.refl _⟩
  case round =>
    obtain ⟨j, x, hj, rfl, rfl, dd, rfl⟩ := hrel
    by_cases hlt : j < n
    · obtain ⟨b, o, rfl, hbB, hc⟩ := h.2 (by omega)
      obtain ⟨y, hy0, hy1, hyc⟩ := hc j hlt
      clear hc
      by_cases h4 : j < 4000
      · go_wp2
        all_goals
          go_roundw
          case rel => exact ⟨j + 1, _, by omega, by go_num, rfl, ⟨_, rfl⟩⟩
          case measure => simp [intOf]; omega
      · go_wp2
        go_ret
        exact ⟨w.heap.size, rfl, Nat.le_refl _, ⟨some ⟨b, o, none⟩, n, k, 0, x, Box.new (w.drewN dd) _ _, (h.up hB).below ((below_drewN (Below.refl _ _) dd).alloc (Nat.le_refl _) _) (Nat.le_refl _), by omega⟩, (below_drewN (Below.refl _ _) dd).alloc (Nat.le_refl _) _⟩
    · go_wp2
      go_ret
      exact ⟨w.heap.size, rfl, Nat.le_refl _, ⟨A, n, k, 0, x, Box.new (w.drewN dd) _ _, (h.up hB).below ((below_drewN (Below.refl _ _) dd).alloc (Nat.le_refl _) _) (Nat.le_refl _), by omega⟩, (below_drewN (Below.refl _ _) dd).alloc (Nat.le_refl _) _⟩
set_option maxRecDepth 100000 in
theorem l12Invertible_any {g : Nat} (p : Int) (N : Nat) (w : World) (h : Cur w g) (hp : isP p = true) (hN : N ≤ 10) : Calls Try.prog 135 #[.pointer (some ⟨g, 0, none⟩), .int .i64 p, .int .i64 N] w (DrM g p N N (fun d => ivB N p d = true) w) := by
  have hlt := h.lt
  obtain ⟨hp1, hp2⟩ := isP_bd hp
  have HP := Lib.hid hp
  have hz := Box.new w #[.int .i64 0, .int .i64 0, .int .i64 0, .slice none 0 0] 26
  have hC := h.alloc (.cells #[.int .i64 0, .int .i64 0, .int .i64 0, .slice none 0 0] 26)
  have HU := Lib.hid (iv_unit (N := N) hp)
  have HUR := Lib.hid (resB_unitD (n := N) hp1 N)
  have HE1 := Lib.hid (fun (i j : Nat) (y : Int) (hi : i < N) (hj : j < N) (hij : i ≠ j) (hy : 0 ≤ y ∧ y < p) => iv_el1 (N := N) hp hi hj hij hy)
  have HE2 := Lib.hid (fun (i : Nat) (y : Int) (hi : i < N) (hy : 1 ≤ y ∧ y < p) => iv_el2 (N := N) hp hi hy)
  have HML := Lib.hid (fun (d1 d2 : List Int) (h1 : resB d1 p = true) (h2 : resB d2 p = true) (k1 : ivB N p d1 = true) (k2 : ivB N p d2 = true) => iv_mul (N := N) hp h1 h2 k1 k2)
  clear hp
  go_enter Try.func135, Try.ntmps135
  go_wp2_with fail
  refine (l1Unit_any p N _ (by omega)).mono ?_
  rintro e w1 ⟨A1, n1, k1, rfl, hd1, hb1, ho1⟩
  rw [World.size_alloc] at ho1
  have hs1 := hb1.size
  simp only [World.size_alloc] at hs1
  have hl1 : n1 = N * N := by rw [← ho1.1, unitD_len]
  have HL1 := Lib.hid hl1
  have hz1 := (hz.below hb1 (by simp)).alloc (.cells #[.int .i64 p, .int .i64 N, .int .i64 N, .slice A1 n1 k1] 26)
  have hC1 := (hC.plus hb1).alloc (.cells #[.int .i64 p, .int .i64 N, .int .i64 N, .slice A1 n1 k1] 26)
  have hm1 := Box.new w1 #[.int .i64 p, .int .i64 N, .int .i64 N, .slice A1 n1 k1] 26
  have ho1a := ho1.alloc (Nat.le_refl _) (.cells #[.int .i64 p, .int .i64 N, .int .i64 N, .slice A1 n1 k1] 26)
  have hG1 : Chg g (g + 1) w (w1.alloc (.cells #[.int .i64 p, .int .i64 N, .int .i64 N, .slice A1 n1 k1] 26)) := (((Chg.refl _ _ _).alloc _).plus hb1).alloc _
  have hsa : (w1.alloc (.cells #[.int .i64 p, .int .i64 N, .int .i64 N, .slice A1 n1 k1] 26)).heap.size = w1.heap.size + 1 := by simp
  clear hz hC hb1 ho1 hl1
  go_wp2_with fail
  refine (l1Below_any 6 _ hC1 (by omega)).mono ?_
  rintro e w2 ⟨st, ⟨hst0, hst1, -⟩, rfl, hC2, hG2⟩
  obtain ⟨S, rfl⟩ := Int.eq_ofNat_of_zero_le hst0
  have hs2 := hG2.size
  have hz2 := hz1.chg hG2 (.inr (by omega))
  have hm2 := hm1.chg hG2 (.inr (by omega))
  have ho2 := ho1a.chgHi hG2 (by omega) (by omega)
  have hGG := hG1.trans hG2
  have hS6 : S ≤ 6 := by have := hst1 (by omega); omega
  clear hz1 hm1 ho1a hC1 hG1 hG2 hst0 hst1
  go_wp2_with fail
  have HSX := Lib.hid hs2
  go_loopw [9] (fun kk wr => ∃ (K lo hi n k : Nat) (A : Option Addr) (dm : List Int), kk = .int .i64 (K : Int) ∧ K ≤ S ∧ Box wr w.heap.size #[.int .i64 0, .int .i64 0, .int .i64 0, .slice none 0 0] ∧ Box wr w1.heap.size #[.int .i64 p, .int .i64 N, .int .i64 N, .slice A n k] ∧ Hd A n k ∧ w.heap.size < lo ∧ (hi ≤ w1.heap.size ∨ w1.heap.size < lo) ∧ hi ≤ wr.heap.size ∧ OwI wr lo hi A n dm ∧ Hid (ivB N p dm = true) ∧ Hid (resB dm p = true) ∧ Hid (n = N * N) ∧ Cur wr g ∧ Chg g (g + 1) w wr) (fun kk _ => S - (intOf kk).toNat)
  case atStart => exact ⟨0, w.heap.size + 1, w1.heap.size, n1, k1, A1, _, rfl, by omega, hz2, hm2, hd1, by omega, .inl (Nat.le_refl _), by omega, ho2, HU, HUR, HL1, hC2, hGG⟩
  case round =>
    clear hz2 hm2 ho2 hC2 hGG
    obtain ⟨K, lo, hi, n, k, A, dm, rfl, hKS, hz, hm, hd, hlo, hdj, hhi, ho, HIV0, HDR, HLN, hC, hGG⟩ := hrel
    have hszr := hGG.size
    have hzl := hz.lt
    have hml := hm.lt
    by_cases hKl : K < S
    · by_cases hN1 : 1 < N
      · go_wp2_with fail
        refine (l1Below_any (N : Int) wr hC (by omega)).mono ?_
        rintro e w3 ⟨vI, ⟨hI0, hI1, -⟩, rfl, hC3, hG3⟩
        have hs3 := hG3.size
        go_wp2_with fail
        refine (l1Below_any (N : Int) w3 hC3 (by omega)).mono ?_
        rintro e w4 ⟨vJ, ⟨hJ0, hJ1, -⟩, rfl, hC4, hG4⟩
        have hs4 := hG4.size
        obtain ⟨I, rfl⟩ := Int.eq_ofNat_of_zero_le hI0
        obtain ⟨J, rfl⟩ := Int.eq_ofNat_of_zero_le hJ0
        have hIN : I < N := by have := hI1 (by omega); omega
        have hJN : J < N := by have := hJ1 (by omega); omega
        clear hI0 hI1 hJ0 hJ1
        have hG34 := hG3.trans hG4
        have hz4 := hz.chg hG34 (.inr (by omega))
        have hm4 := hm.chg hG34 (.inr (by omega))
        have ho4 := ho.chgHi hG34 (by omega) hhi
        have hGG4 := hGG.trans hG34
        clear hz hm ho hGG hG34 hG3 hG4 hC3
        go_wp2_with fail
        refine (l1Unit_any p N w4 (by omega)).mono ?_
        rintro e w5 ⟨A5, n5, k5, rfl, hd5, hb5, ho5⟩
        have hs5 := hb5.size
        have HL5 := Lib.hid (show n5 = N * N by rw [← ho5.1, unitD_len])
        have hz5 := (hz4.below hb5 (by omega)).alloc (.cells #[.int .i64 p, .int .i64 N, .int .i64 N, .slice A5 n5 k5] 26)
        have hm5 := (hm4.below hb5 (by omega)).alloc (.cells #[.int .i64 p, .int .i64 N, .int .i64 N, .slice A5 n5 k5] 26)
        have om5 := (ho4.below hb5 (by omega)).alloc (by omega) (.cells #[.int .i64 p, .int .i64 N, .int .i64 N, .slice A5 n5 k5] 26)
        have hC5 := (hC4.plus hb5).alloc (.cells #[.int .i64 p, .int .i64 N, .int .i64 N, .slice A5 n5 k5] 26)
        have hGG5 := (hGG4.plus hb5).alloc (.cells #[.int .i64 p, .int .i64 N, .int .i64 N, .slice A5 n5 k5] 26)
        have hbx5 := Box.new w5 #[.int .i64 p, .int .i64 N, .int .i64 N, .slice A5 n5 k5] 26
        have ho5 := ho5.alloc (Nat.le_refl _) (.cells #[.int .i64 p, .int .i64 N, .int .i64 N, .slice A5 n5 k5] 26)
        have hsA : (w5.alloc (.cells #[.int .i64 p, .int .i64 N, .int .i64 N, .slice A5 n5 k5] 26)).heap.size = w5.heap.size + 1 := by simp
        clear hz4 hm4 ho4 hGG4 hb5 hC4
        by_cases hij : I = J
        · subst hij
          have hne : ((I : Int) != (I : Int)) = false := by simp
          go_wp2_with fail
          generalize w5.alloc (.cells #[.int .i64 p, .int .i64 N, .int .i64 N, .slice A5 n5 k5] 26) = W5 at *
          obtain ⟨q, hq⟩ : ∃ q : Nat, q = I * N + I := ⟨_, rfl⟩
          have hq0 : (I : Int) * (N : Int) + (I : Int) = (q : Int) := by rw [hq, Int.natCast_add, Int.natCast_mul]
          have hqp : 0 ≤ (I : Int) * (N : Int) := Int.mul_nonneg (by omega) (by omega)
          have hqn : q < n5 := by rw [hq, HL5.out]; exact idx_lt (by omega) (by omega)
          have hqx : q < 1000 := by rw [HL5.out] at hqn; have := Nat.mul_le_mul hN hN; omega
          have hwr1 : IntKind.i64.wrap ((I : Int) * (N : Int)) = (I : Int) * (N : Int) := IntWalk.i64_in _ (by omega)
          have hwr2 : IntKind.i64.wrap ((I : Int) * (N : Int) + (I : Int)) = (q : Int) := by rw [hq0]; exact IntWalk.i64_in _ (by omega)
          have HQ := Lib.hid hq
          obtain ⟨b5, o5, rfl⟩ := ho5.addr (show 0 < n5 by omega)
          obtain ⟨hblo, hbhi⟩ := ho5.blk (show 0 < n5 by omega)
          clear hq hq0 hqp
          have hpw : IntKind.i64.wrap (p - 1) = p - 1 := IntWalk.i64_in _ (by omega)
          go_region_held3 (fun w' => w'.cell? ⟨w5.heap.size, 3, none⟩ = some (.slice (some ⟨b5, o5, none⟩) n5 k5)) (first | exact hbx5.cell rfl | exact hbx6.cell rfl | exact (hbx6.other (by show w5.heap.size ≠ b5; omega) _).cell rfl)
            (first | (go_at_call 76; refine (l1Below_any (p - 1) _ (by exact hC5) (by omega)).mono ?_; rintro e w6 ⟨y, ⟨hy0, hy1, -⟩, rfl, hC6, hG6⟩; have hG6 : Chg g (g + 1) W5 w6 := ⟨hG6.os, hG6.tape, hG6.output, hG6.size, hG6.block⟩; have hs6 := hG6.size; have hbx6 := hbx5.chg hG6 (.inr (by omega)); have ho6 := ho5.chgHi hG6 (by omega) (by omega); obtain ⟨hcl, hfz⟩ := ho6.at_ hqn; have hyw : IntKind.i64.wrap (1 + y) = 1 + y := (IntWalk.i64_in _ (by have := hy1 (by omega); omega))))
          have hy1 := hy1 (by omega)
          have hz6 := hz5.chg hG6 (.inr (by omega))
          have hm6 := hm5.chg hG6 (.inr (by omega))
          have om6 := om5.chgHi hG6 (by omega) (by omega)
          have hGG6 := hGG5.trans hG6
          clear hz5 hm5 om5 hC5 hGG5 hbx5 ho5 hG6 hne hwr1 hwr2
          skip
          have HO := Lib.hid (show OwI (w6.setCell ⟨b5, o5 + q, none⟩ (.int .i64 (1 + y))) w4.heap.size w5.heap.size (some ⟨b5, o5, none⟩) n5 ((unitD N N).set q (1 + y)) from ho6.store hqn)
          have hsS : (w6.setCell ⟨b5, o5 + q, none⟩ (.int .i64 (1 + y))).heap.size = w6.heap.size := by simp
          have hzS := hz6.other (p := ⟨b5, o5 + q, none⟩) (by show w.heap.size ≠ b5; omega) (.int .i64 (1 + y))
          have hmS := hm6.other (p := ⟨b5, o5 + q, none⟩) (by show w1.heap.size ≠ b5; omega) (.int .i64 (1 + y))
          have hbS := hbx6.other (p := ⟨b5, o5 + q, none⟩) (by show w5.heap.size ≠ b5; omega) (.int .i64 (1 + y))
          have hoS := om6.keepH (w' := w6.setCell ⟨b5, o5 + q, none⟩ (.int .i64 (1 + y))) fun b h1 h2 _ => Below.heap_setCell _ _ _ _ (by show b ≠ b5; omega)
          have hCS := hC6.setCell (p := ⟨b5, o5 + q, none⟩) (by show g < b5; omega) (.int .i64 (1 + y))
          have hGS := hGG6.setNew (p := ⟨b5, o5 + q, none⟩) (by show w.heap.size ≤ b5; omega) (.int .i64 (1 + y))
          have HIV := Lib.hid (show ivB N p ((unitD N N).set q (1 + y)) = true by rw [HQ.out]; exact HE2.out I (1 + y) hIN ⟨by omega, by omega⟩)
          have HIR := Lib.hid (show resB ((unitD N N).set q (1 + y)) p = true from resB_set HUR.out ⟨by omega, by omega⟩)
          obtain ⟨m0, m1, m2, m3⟩ := hmS.four
          obtain ⟨e0, e1, e2, e3⟩ := hbS.four
          clear ho6 hz6 hm6 hbx6 om6 hC6 hGG6
          go_wp2_with fail
          generalize (w6.setCell ⟨b5, o5 + q, none⟩ (.int .i64 (1 + y))) = wS at *
          refine (l1Mul_any (B1 := hi) (B2 := w5.heap.size) p p N N N n k n5 k5 A (some ⟨b5, o5, none⟩) dm _ wS hoS.rd (by omega) HO.out.rd (by omega) (by omega) (by omega) (by omega) HLN.out HL5.out (by omega) hp2 HDR.out HIR.out).mono ?_
          rintro e w7 ⟨A7, n7, k7, rfl, hd7, hb7, ho7⟩
          have hs7 := hb7.size
          have hz7 := hzS.below hb7 (by omega)
          have hm7 := hmS.below hb7 (by omega)
          have hC7 := hCS.plus hb7
          have hG7 := hGS.plus hb7
          have HI7 := Lib.hid (HML.out dm _ HDR.out HIR.out HIV0.out HIV.out)
          have HR7 := Lib.hid (show resB (mulD N N N dm ((unitD N N).set q (1 + y)) p) p = true from resB_mulD (by omega))
          have HL7 := Lib.hid (show n7 = N * N by have := ho7.1; rw [mulD, tab_len] at this; exact this.symm)
          clear m0 m1 m2 m3 e0 e1 e2 e3 hmS hzS hCS hGS hoS hbS
          obtain ⟨m0, m1, m2, m3⟩ := hm7.four
          have mf := hm7.fz
          go_wp2
          go_roundw
          case rel => exact ⟨K + 1, wS.heap.size, w7.heap.size, n7, k7, A7, _, by go_num, by omega, hz7 |>.other (by show w.heap.size ≠ w1.heap.size; omega) _ |>.other (by show w.heap.size ≠ w1.heap.size; omega) _ |>.other (by show w.heap.size ≠ w1.heap.size; omega) _ |>.other (by show w.heap.size ≠ w1.heap.size; omega) _, hm7.set4 _ _ _ _, hd7, by omega, .inr (by omega), by simp, (((ho7.setLow (by show w1.heap.size < wS.heap.size; omega) _).setLow (by show w1.heap.size < wS.heap.size; omega) _).setLow (by show w1.heap.size < wS.heap.size; omega) _).setLow (by show w1.heap.size < wS.heap.size; omega) _, HI7, HR7, HL7, (((hC7.setCell (by show g < w1.heap.size; omega) _).setCell (by show g < w1.heap.size; omega) _).setCell (by show g < w1.heap.size; omega) _).setCell (by show g < w1.heap.size; omega) _, (((hG7.setNew (by show w.heap.size ≤ w1.heap.size; omega) _).setNew (by show w.heap.size ≤ w1.heap.size; omega) _).setNew (by show w.heap.size ≤ w1.heap.size; omega) _).setNew (by show w.heap.size ≤ w1.heap.size; omega) _⟩
          case measure => simp [intOf]; omega
        · have hne : ((I : Int) != (J : Int)) = true := by simp; omega
          go_wp2_with fail
          generalize w5.alloc (.cells #[.int .i64 p, .int .i64 N, .int .i64 N, .slice A5 n5 k5] 26) = W5 at *
          obtain ⟨q, hq⟩ : ∃ q : Nat, q = I * N + J := ⟨_, rfl⟩
          have hq0 : (I : Int) * (N : Int) + (J : Int) = (q : Int) := by rw [hq, Int.natCast_add, Int.natCast_mul]
          have hqp : 0 ≤ (I : Int) * (N : Int) := Int.mul_nonneg (by omega) (by omega)
          have hqn : q < n5 := by rw [hq, HL5.out]; exact idx_lt (by omega) (by omega)
          have hqx : q < 1000 := by rw [HL5.out] at hqn; have := Nat.mul_le_mul hN hN; omega
          have hwr1 : IntKind.i64.wrap ((I : Int) * (N : Int)) = (I : Int) * (N : Int) := IntWalk.i64_in _ (by omega)
          have hwr2 : IntKind.i64.wrap ((I : Int) * (N : Int) + (J : Int)) = (q : Int) := by rw [hq0]; exact IntWalk.i64_in _ (by omega)
          have HQ := Lib.hid hq
          obtain ⟨b5, o5, rfl⟩ := ho5.addr (show 0 < n5 by omega)
          obtain ⟨hblo, hbhi⟩ := ho5.blk (show 0 < n5 by omega)
          clear hq hq0 hqp
          go_region_held3 (fun w' => w'.cell? ⟨w5.heap.size, 3, none⟩ = some (.slice (some ⟨b5, o5, none⟩) n5 k5)) (first | exact hbx5.cell rfl | exact hbx6.cell rfl | exact (hbx6.other (by show w5.heap.size ≠ b5; omega) _).cell rfl)
            (first | (go_at_call 76; refine (l1Below_any p _ (by exact hC5) (by omega)).mono ?_; rintro e w6 ⟨y, ⟨hy0, hy1, -⟩, rfl, hC6, hG6⟩; have hG6 : Chg g (g + 1) W5 w6 := ⟨hG6.os, hG6.tape, hG6.output, hG6.size, hG6.block⟩; have hs6 := hG6.size; have hbx6 := hbx5.chg hG6 (.inr (by omega)); have ho6 := ho5.chgHi hG6 (by omega) (by omega); obtain ⟨hcl, hfz⟩ := ho6.at_ hqn; have hyw : IntKind.i64.wrap (1 + y) = 1 + y := (IntWalk.i64_in _ (by have := hy1 (by omega); omega))))
          have hy1 := hy1 (by omega)
          have hz6 := hz5.chg hG6 (.inr (by omega))
          have hm6 := hm5.chg hG6 (.inr (by omega))
          have om6 := om5.chgHi hG6 (by omega) (by omega)
          have hGG6 := hGG5.trans hG6
          clear hz5 hm5 om5 hC5 hGG5 hbx5 ho5 hG6 hne hwr1 hwr2
          skip
          have HO := Lib.hid (show OwI (w6.setCell ⟨b5, o5 + q, none⟩ (.int .i64 y)) w4.heap.size w5.heap.size (some ⟨b5, o5, none⟩) n5 ((unitD N N).set q y) from ho6.store hqn)
          have hsS : (w6.setCell ⟨b5, o5 + q, none⟩ (.int .i64 y)).heap.size = w6.heap.size := by simp
          have hzS := hz6.other (p := ⟨b5, o5 + q, none⟩) (by show w.heap.size ≠ b5; omega) (.int .i64 y)
          have hmS := hm6.other (p := ⟨b5, o5 + q, none⟩) (by show w1.heap.size ≠ b5; omega) (.int .i64 y)
          have hbS := hbx6.other (p := ⟨b5, o5 + q, none⟩) (by show w5.heap.size ≠ b5; omega) (.int .i64 y)
          have hoS := om6.keepH (w' := w6.setCell ⟨b5, o5 + q, none⟩ (.int .i64 y)) fun b h1 h2 _ => Below.heap_setCell _ _ _ _ (by show b ≠ b5; omega)
          have hCS := hC6.setCell (p := ⟨b5, o5 + q, none⟩) (by show g < b5; omega) (.int .i64 y)
          have hGS := hGG6.setNew (p := ⟨b5, o5 + q, none⟩) (by show w.heap.size ≤ b5; omega) (.int .i64 y)
          have HIV := Lib.hid (show ivB N p ((unitD N N).set q y) = true by rw [HQ.out]; exact HE1.out I J y hIN hJN hij ⟨hy0, by omega⟩)
          have HIR := Lib.hid (show resB ((unitD N N).set q y) p = true from resB_set HUR.out ⟨hy0, by omega⟩)
          obtain ⟨m0, m1, m2, m3⟩ := hmS.four
          obtain ⟨e0, e1, e2, e3⟩ := hbS.four
          clear ho6 hz6 hm6 hbx6 om6 hC6 hGG6
          go_wp2_with fail
          generalize (w6.setCell ⟨b5, o5 + q, none⟩ (.int .i64 y)) = wS at *
          refine (l1Mul_any (B1 := hi) (B2 := w5.heap.size) p p N N N n k n5 k5 A (some ⟨b5, o5, none⟩) dm _ wS hoS.rd (by omega) HO.out.rd (by omega) (by omega) (by omega) (by omega) HLN.out HL5.out (by omega) hp2 HDR.out HIR.out).mono ?_
          rintro e w7 ⟨A7, n7, k7, rfl, hd7, hb7, ho7⟩
          have hs7 := hb7.size
          have hz7 := hzS.below hb7 (by omega)
          have hm7 := hmS.below hb7 (by omega)
          have hC7 := hCS.plus hb7
          have hG7 := hGS.plus hb7
          have HI7 := Lib.hid (HML.out dm _ HDR.out HIR.out HIV0.out HIV.out)
          have HR7 := Lib.hid (show resB (mulD N N N dm ((unitD N N).set q y) p) p = true from resB_mulD (by omega))
          have HL7 := Lib.hid (show n7 = N * N by have := ho7.1; rw [mulD, tab_len] at this; exact this.symm)
          clear m0 m1 m2 m3 e0 e1 e2 e3 hmS hzS hCS hGS hoS hbS
          obtain ⟨m0, m1, m2, m3⟩ := hm7.four
          have mf := hm7.fz
          go_wp2
          go_roundw
          case rel => exact ⟨K + 1, wS.heap.size, w7.heap.size, n7, k7, A7, _, by go_num, by omega, hz7 |>.other (by show w.heap.size ≠ w1.heap.size; omega) _ |>.other (by show w.heap.size ≠ w1.heap.size; omega) _ |>.other (by show w.heap.size ≠ w1.heap.size; omega) _ |>.other (by show w.heap.size ≠ w1.heap.size; omega) _, hm7.set4 _ _ _ _, hd7, by omega, .inr (by omega), by simp, (((ho7.setLow (by show w1.heap.size < wS.heap.size; omega) _).setLow (by show w1.heap.size < wS.heap.size; omega) _).setLow (by show w1.heap.size < wS.heap.size; omega) _).setLow (by show w1.heap.size < wS.heap.size; omega) _, HI7, HR7, HL7, (((hC7.setCell (by show g < w1.heap.size; omega) _).setCell (by show g < w1.heap.size; omega) _).setCell (by show g < w1.heap.size; omega) _).setCell (by show g < w1.heap.size; omega) _, (((hG7.setNew (by show w.heap.size ≤ w1.heap.size; omega) _).setNew (by show w.heap.size ≤ w1.heap.size; omega) _).setNew (by show w.heap.size ≤ w1.heap.size; omega) _).setNew (by show w.heap.size ≤ w1.heap.size; omega) _⟩
          case measure => simp [intOf]; omega
      · obtain ⟨m0, m1, m2, m3⟩ := hm.four
        obtain ⟨z0, z1, z2, z3⟩ := hz.four
        have zf := hz.fz
        go_wp2
        exact bodyPost_ret (v := .agg #[.int .i64 p, .int .i64 N, .int .i64 N, .slice A n k]) (by simp [results, Try.results135, go_sem, z0, z1, z2, z3]) rfl (drM4 (R := w.heap.size) HIV0.out (by rw [ho.1]; exact HLN.out) HDR.out hd hC hGG (ho.up hhi) hlt (Nat.le_refl _) (by omega) _ _ _ _)
    · obtain ⟨m0, m1, m2, m3⟩ := hm.four
      obtain ⟨z0, z1, z2, z3⟩ := hz.four
      have zf := hz.fz
      go_wp2
      exact bodyPost_ret (v := .agg #[.int .i64 p, .int .i64 N, .int .i64 N, .slice A n k]) (by simp [results, Try.results135, go_sem, z0, z1, z2, z3]) rfl (drM4 (R := w.heap.size) HIV0.out (by rw [ho.1]; exact HLN.out) HDR.out hd hC hGG (ho.up hhi) hlt (Nat.le_refl _) (by omega) _ _ _ _)
end Go.Proofs.Ytfiganobjjjloaa
namespace Go.Proofs.Ytfiganobjjjloaa
set_option linter.unusedVariables false
set_option linter.unusedSimpArgs false
set_option maxRecDepth 20000
open Go.RowKit Go.Sort
set_option maxHeartbeats 8000000
set_option maxRecDepth 100000 in
theorem l12Nilpotent_any {g : Nat} (p : Int) (N : Nat) (w : World) (h : Cur w g) (hp : isP p = true) (hN : N ≤ 10) : Calls Try.prog 86 #[.pointer (some ⟨g, 0, none⟩), .int .i64 p, .int .i64 N] w (DrM g p N N (fun _ => True) w) := by
  have hlt := h.lt
  obtain ⟨hp1, hp2⟩ := isP_bd hp
  have HP := Lib.hid hp
  have hz := Box.new w #[.int .i64 0, .int .i64 0, .int .i64 0, .slice none 0 0] 26
  have hC := h.alloc (.cells #[.int .i64 0, .int .i64 0, .int .i64 0, .slice none 0 0] 26)
  have hNN : N * N ≤ 10 * 10 := Nat.mul_le_mul hN hN
  clear hp
  go_enter Try.func86, Try.ntmps86
  go_wp2_with fail
  refine (l12Matrix_any p N N _ hC (by omega) hp2 hN hN).mono ?_
  rintro e w1 ⟨d1, A1, n1, k1, -, hl1, hr1, rfl, hd1, hC1, hG1, ho1⟩
  have hs1 := hG1.size
  rw [World.size_alloc] at hs1 ho1
  have hn1 : n1 = N * N := by rw [← ho1.1]; exact hl1
  have HN1 := Lib.hid hn1
  have HR1 := Lib.hid hr1
  have hG : Chg g (g + 1) w w1 := ((Chg.refl g (g + 1) w).alloc (.cells #[.int .i64 0, .int .i64 0, .int .i64 0, .slice none 0 0] 26)).trans hG1
  have hz1 := (hz.chg hG1 (.inr (by omega))).alloc (.cells #[.int .i64 p, .int .i64 N, .int .i64 N, .slice A1 n1 k1] 26)
  have hm1 := Box.new w1 #[.int .i64 p, .int .i64 N, .int .i64 N, .slice A1 n1 k1] 26
  have hC2 := hC1.alloc (.cells #[.int .i64 p, .int .i64 N, .int .i64 N, .slice A1 n1 k1] 26)
  have hG2 := hG.alloc (.cells #[.int .i64 p, .int .i64 N, .int .i64 N, .slice A1 n1 k1] 26)
  have ho2 := ho1.alloc (Nat.le_refl _) (.cells #[.int .i64 p, .int .i64 N, .int .i64 N, .slice A1 n1 k1] 26)
  have hsa : (w1.alloc (.cells #[.int .i64 p, .int .i64 N, .int .i64 N, .slice A1 n1 k1] 26)).heap.size = w1.heap.size + 1 := by simp
  clear hz hC hC1 hG hG1 ho1 hl1 hr1 hn1
  go_wp2_with fail
  generalize w1.alloc (.cells #[.int .i64 p, .int .i64 N, .int .i64 N, .slice A1 n1 k1] 26) = W1 at *
  go_loopw [8] (fun ii wr => ∃ (I : Nat) (d : List Int), I ≤ N ∧ ii = .int .i64 (I : Int) ∧ Box wr w.heap.size #[.int .i64 0, .int .i64 0, .int .i64 0, .slice none 0 0] ∧ Box wr w1.heap.size #[.int .i64 p, .int .i64 N, .int .i64 N, .slice A1 n1 k1] ∧ OwI wr (w.heap.size + 1) w1.heap.size A1 n1 d ∧ Hid (resB d p = true) ∧ Cur wr g ∧ Chg g (g + 1) w wr ∧ w1.heap.size < wr.heap.size) (fun ii _ => N - (intOf ii).toNat)
  case atStart => exact ⟨0, d1, by omega, rfl, hz1, hm1, ho2, HR1, hC2, hG2, by omega⟩
  case round =>
    clear hz1 hm1 ho2 hC2 hG2
    obtain ⟨I, d, hI, rfl, hz, hm, ho, HR, hC, hG, hsr⟩ := hrel
    by_cases hIl : I < N
    · go_wp2_with fail
      obtain ⟨wi, rfl⟩ : ∃ wi : World, wi = wr := ⟨_, rfl⟩
      go_loopw [9] (fun jj wr => ∃ (J : Nat) (d : List Int), J ≤ I + 1 ∧ jj = .int .i64 (J : Int) ∧ Box wr w.heap.size #[.int .i64 0, .int .i64 0, .int .i64 0, .slice none 0 0] ∧ Box wr w1.heap.size #[.int .i64 p, .int .i64 N, .int .i64 N, .slice A1 n1 k1] ∧ OwI wr (w.heap.size + 1) w1.heap.size A1 n1 d ∧ Hid (resB d p = true) ∧ Cur wr g ∧ Chg g (g + 1) w wr ∧ w1.heap.size < wr.heap.size) (fun jj _ => I + 1 - (intOf jj).toNat)
      case atStart => exact ⟨0, d, by omega, rfl, hz, hm, ho, HR, hC, hG, hsr⟩
      case round =>
        clear hz hm ho HR hC hG hsr
        obtain ⟨J, d, hJ, rfl, hz, hm, ho, HR, hC, hG, hsr⟩ := hrel
        by_cases hJl : J ≤ I
        · obtain ⟨q, hq⟩ : ∃ q : Nat, q = I * N + J := ⟨_, rfl⟩
          have hq0 : (I : Int) * (N : Int) + (J : Int) = (q : Int) := by rw [hq, Int.natCast_add, Int.natCast_mul]
          have hqp : 0 ≤ (I : Int) * (N : Int) := Int.mul_nonneg (by omega) (by omega)
          have hqn : q < n1 := by rw [hq, HN1.out]; exact idx_lt hIl (by omega)
          have hqx : n1 ≤ 100 := by rw [HN1.out]; exact hNN
          have hwr1 : IntKind.i64.wrap ((I : Int) * (N : Int)) = (I : Int) * (N : Int) := IntWalk.i64_in _ (by omega)
          have hwr2 : IntKind.i64.wrap ((I : Int) * (N : Int) + (J : Int)) = (q : Int) := by rw [hq0]; exact IntWalk.i64_in _ (by omega)
          have hip : (I : Int) * (N : Int) ≤ 1000 := by omega
          have hql : (q : Int) < (n1 : Int) := by omega
          obtain ⟨b1, o1, rfl⟩ := ho.addr (show 0 < n1 by omega)
          obtain ⟨hblo, hbhi⟩ := ho.blk (show 0 < n1 by omega)
          obtain ⟨hcl, hfz⟩ := ho.at_ hqn
          obtain ⟨m0, m1, m2, m3⟩ := hm.four
          have HO := Lib.hid (ho.store (v := 0) hqn)
          have HRS := Lib.hid (show resB (d.set q 0) p = true from resB_set HR.out ⟨by omega, by omega⟩)
          have hz' := hz.other (p := ⟨b1, o1 + q, none⟩) (by show w.heap.size ≠ b1; omega) (.int .i64 0)
          have hm' := hm.other (p := ⟨b1, o1 + q, none⟩) (by show w1.heap.size ≠ b1; omega) (.int .i64 0)
          have hC' := hC.setCell (p := ⟨b1, o1 + q, none⟩) (by show g < b1; omega) (.int .i64 0)
          have hG' := hG.setNew (p := ⟨b1, o1 + q, none⟩) (by show w.heap.size ≤ b1; omega) (.int .i64 0)
          clear hq ho hz hm hC hG
          go_wp2
          go_roundw
          case rel => exact ⟨J + 1, _, by omega, by go_num, hz', hm', HO.out, HRS, hC', hG', by simpa using hsr⟩
          case measure => simp [intOf]; omega
        · go_wp2
          go_roundw
          case rel => exact ⟨I + 1, d, by omega, by go_num, hz, hm, ho, HR, hC, hG, hsr⟩
          case measure => simp [intOf]; omega
    · obtain rfl : I = N := by omega
      go_wp2_with fail
      refine (l12Invertible_any p I wr hC HP.out hN).mono ?_
      rintro e w3 ⟨dt, At, nt, kt, hiv, hlt3, hrt, rfl, hdt, hC3, hG3, hot⟩
      have hs3 := hG3.size
      have HIV := Lib.hid hiv
      have HRT := Lib.hid hrt
      have HNT := Lib.hid (show nt = I * I by rw [← hot.1]; exact hlt3)
      have hz3 := (hz.chg hG3 (.inr (by omega))).alloc (.cells #[.int .i64 p, .int .i64 I, .int .i64 I, .slice At nt kt] 26)
      have hm3 := (hm.chg hG3 (.inr (by omega))).alloc (.cells #[.int .i64 p, .int .i64 I, .int .i64 I, .slice At nt kt] 26)
      have ho3 := (ho.chgHi hG3 (by omega) (by omega)).alloc (by omega) (.cells #[.int .i64 p, .int .i64 I, .int .i64 I, .slice At nt kt] 26)
      have ht3 := Box.new w3 #[.int .i64 p, .int .i64 I, .int .i64 I, .slice At nt kt] 26
      have hot3 := hot.alloc (Nat.le_refl _) (.cells #[.int .i64 p, .int .i64 I, .int .i64 I, .slice At nt kt] 26)
      have hCC := hC3.alloc (.cells #[.int .i64 p, .int .i64 I, .int .i64 I, .slice At nt kt] 26)
      have hGG := (hG.trans hG3).alloc (.cells #[.int .i64 p, .int .i64 I, .int .i64 I, .slice At nt kt] 26)
      have hs3a : (w3.alloc (.cells #[.int .i64 p, .int .i64 I, .int .i64 I, .slice At nt kt] 26)).heap.size = w3.heap.size + 1 := by simp
      obtain ⟨t0, t1, t2, t3⟩ := ht3.four
      clear hz hm ho hC hG hC3 hG3 hot hiv hrt hlt3
      go_wp2_with fail
      generalize w3.alloc (.cells #[.int .i64 p, .int .i64 I, .int .i64 I, .slice At nt kt] 26) = W3 at *
      refine (l1Invert_yes p I nt kt At dt W3 (B := w3.heap.size) hot3.rd (by omega) HNT.out (by omega) HP.out HRT.out HIV.out).mono ?_
      rintro e w4 ⟨A4, n4, k4, rfl, hd4, hb4, ho4⟩
      have hs4 := hb4.size
      have HN4 := Lib.hid (show n4 = I * I by have := ho4.1; rw [ivD, tab_len] at this; exact this.symm)
      have HR4 := Lib.hid (show resB (ivD I p dt) p = true from resB_tab fun i j _ _ => rr_res (by omega) (ivF_res (by omega) HRT.out) _ i _)
      clear t0 t1 t2 t3
      have hz5 := (hz3.below hb4 (by omega)).alloc (.cells #[.int .i64 p, .int .i64 I, .int .i64 I, .slice A4 n4 k4] 26)
      have hm5 := (hm3.below hb4 (by omega)).alloc (.cells #[.int .i64 p, .int .i64 I, .int .i64 I, .slice A4 n4 k4] 26)
      have ht5 := (ht3.below hb4 (by omega)).alloc (.cells #[.int .i64 p, .int .i64 I, .int .i64 I, .slice A4 n4 k4] 26)
      have hi5 := Box.new w4 #[.int .i64 p, .int .i64 I, .int .i64 I, .slice A4 n4 k4] 26
      have ho5 := (ho3.below hb4 (by omega)).alloc (by omega) (.cells #[.int .i64 p, .int .i64 I, .int .i64 I, .slice A4 n4 k4] 26)
      have hot5 := (hot3.below hb4 (by omega)).alloc (by omega) (.cells #[.int .i64 p, .int .i64 I, .int .i64 I, .slice A4 n4 k4] 26)
      have hoi5 := ho4.alloc (Nat.le_refl _) (.cells #[.int .i64 p, .int .i64 I, .int .i64 I, .slice A4 n4 k4] 26)
      have hC5 := (hCC.plus hb4).alloc (.cells #[.int .i64 p, .int .i64 I, .int .i64 I, .slice A4 n4 k4] 26)
      have hG5 := (hGG.plus hb4).alloc (.cells #[.int .i64 p, .int .i64 I, .int .i64 I, .slice A4 n4 k4] 26)
      have hs5a : (w4.alloc (.cells #[.int .i64 p, .int .i64 I, .int .i64 I, .slice A4 n4 k4] 26)).heap.size = w4.heap.size + 1 := by simp
      have hzf := hz5.fz
      clear hz3 hm3 ht3 ho3 hot3 hCC hGG hb4 ho4
      go_wp2_with fail
      generalize w4.alloc (.cells #[.int .i64 p, .int .i64 I, .int .i64 I, .slice A4 n4 k4] 26) = W5 at *
      have hr4 : RdI W5.drew W5.heap.size A4 n4 (ivD I p dt) := hoi5.rd.up (by omega)
      have hr1 : RdI W5.drew W5.heap.size A1 n1 d := ho5.rd.up (by omega)
      have hsd : W5.heap.size ≤ W5.drew.heap.size := Nat.le_refl _
      have hI40 : I ≤ 100 := by omega
      have hp1' : 1 ≤ p := by omega
      go_region_held3 (fun w' => ((w'.cell? ⟨w4.heap.size, 0, none⟩ = some (.int .i64 p) ∧ w'.cell? ⟨w4.heap.size, 1, none⟩ = some (.int .i64 I) ∧ w'.cell? ⟨w4.heap.size, 2, none⟩ = some (.int .i64 I) ∧ w'.cell? ⟨w4.heap.size, 3, none⟩ = some (.slice A4 n4 k4)) ∧ (w'.cell? ⟨w1.heap.size, 0, none⟩ = some (.int .i64 p) ∧ w'.cell? ⟨w1.heap.size, 1, none⟩ = some (.int .i64 I) ∧ w'.cell? ⟨w1.heap.size, 2, none⟩ = some (.int .i64 I) ∧ w'.cell? ⟨w1.heap.size, 3, none⟩ = some (.slice A1 n1 k1))) ∧ w'.cell? ⟨w3.heap.size, 0, none⟩ = some (.int .i64 p) ∧ w'.cell? ⟨w3.heap.size, 1, none⟩ = some (.int .i64 I) ∧ w'.cell? ⟨w3.heap.size, 2, none⟩ = some (.int .i64 I) ∧ w'.cell? ⟨w3.heap.size, 3, none⟩ = some (.slice At nt kt)) (first | exact ⟨⟨hi5.four, hm5.four⟩, ht5.four⟩ | exact ⟨⟨((((hi5.other (by show w4.heap.size ≠ w.heap.size; omega) _).other (by show w4.heap.size ≠ w.heap.size; omega) _).other (by show w4.heap.size ≠ w.heap.size; omega) _).other (by show w4.heap.size ≠ w.heap.size; omega) _).four, ((((hm5.other (by show w1.heap.size ≠ w.heap.size; omega) _).other (by show w1.heap.size ≠ w.heap.size; omega) _).other (by show w1.heap.size ≠ w.heap.size; omega) _).other (by show w1.heap.size ≠ w.heap.size; omega) _).four⟩, ((((ht5.other (by show w3.heap.size ≠ w.heap.size; omega) _).other (by show w3.heap.size ≠ w.heap.size; omega) _).other (by show w3.heap.size ≠ w.heap.size; omega) _).other (by show w3.heap.size ≠ w.heap.size; omega) _).four⟩)
        (first
          | (go_at_call 79; (with_reducible refine (l1Mul_any (B1 := W5.heap.size) (B2 := W5.heap.size) p p I I I n4 k4 n1 k1 A4 A1 (ivD I p dt) d W5.drew hr4 hsd hr1 hsd hI40 hI40 hI40 HN4.out HN1.out hp1' hp2 HR4.out HR.out).mono ?_); rintro e w6 ⟨A6, n6, k6, rfl, hd6, hb6, ho6⟩; have hb6 : Below W5.heap.size W5 w6 := ⟨hb6.os, hb6.tape, hb6.output, hb6.size, hb6.block⟩; have hs6 := hb6.size; have hi5 : Box w6 w4.heap.size _ := hi5.below hb6 (by omega); have hm5 : Box w6 w1.heap.size _ := hm5.below hb6 (by omega); have ht5 : Box w6 w3.heap.size _ := ht5.below hb6 (by omega); have hz5 : Box w6 w.heap.size _ := hz5.below hb6 (by omega); have HN6 := Lib.hid (show n6 = I * I by have := ho6.1; rw [mulD, tab_len] at this; exact this.symm); have HR6 := Lib.hid (show resB (mulD I I I (ivD I p dt) d p) p = true from resB_mulD hp1'); have hot6 := (hot5.rd.below hb6 (by omega)).up (show w3.heap.size ≤ w6.heap.size by omega); have ho6r := ho6.rd)
          | (go_at_call 79; (with_reducible refine (l1Mul_any (B1 := w6.heap.size) (B2 := w6.heap.size) p p I I I n6 k6 nt kt A6 At (mulD I I I (ivD I p dt) d p) dt w6 ho6r (Nat.le_refl _) hot6 (Nat.le_refl _) hI40 hI40 hI40 HN6.out HNT.out hp1' hp2 HR6.out HRT.out).mono ?_); rintro e w7 ⟨A7, n7, k7, rfl, hd7, hb7, ho7⟩; have hs7 := hb7.size; have hi5 : Box w7 w4.heap.size _ := hi5.below hb7 (by omega); have hm5 : Box w7 w1.heap.size _ := hm5.below hb7 (by omega); have ht5 : Box w7 w3.heap.size _ := ht5.below hb7 (by omega); have hz5 : Box w7 w.heap.size _ := hz5.below hb7 (by omega); obtain ⟨z0, z1, z2, z3⟩ := hz5.four; have zf := hz5.fz))
      have HN7 := Lib.hid (show (mulD I I I (mulD I I I (ivD I p dt) d p) dt p).length = I * I by rw [mulD, tab_len])
      have HR7 := Lib.hid (show resB (mulD I I I (mulD I I I (ivD I p dt) d p) dt p) p = true from resB_mulD hp1')
      have hC7 := (hC5.plus hb6).plus hb7
      have hG7 := (hG5.plus hb6).plus hb7
      go_wp2
      exact bodyPost_ret (v := .agg #[.int .i64 p, .int .i64 I, .int .i64 I, .slice A7 n7 k7]) (by simp [results, Try.results86, go_sem, z0, z1, z2, z3]) rfl (drM4 (R := w.heap.size) trivial HN7.out HR7.out hd7 hC7 hG7 ho7 hlt (Nat.le_refl _) (by omega) _ _ _ _)
end Go.Proofs.Ytfiganobjjjloaa
