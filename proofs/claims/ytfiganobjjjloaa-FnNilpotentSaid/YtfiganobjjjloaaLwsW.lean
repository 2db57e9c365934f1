/- The laws' own words zeros and times. No condition but what each theorem names. -/
import Derived.Test.YtfiganobjjjloaaNilW
import Derived.Outline
namespace Go.Proofs.Ytfiganobjjjloaa
set_option linter.unusedVariables false
set_option linter.unusedSimpArgs false
set_option maxRecDepth 20000
open Go.RowKit
set_option maxHeartbeats 4000000
theorem lzeros_any {B : Nat} (A : Option Addr) (n c : Nat) (xs : List Int) (w : World) (h : RdI w B A n xs) :
    Calls Try.prog 31 #[.slice A n c] w (Qt (.bool (zeroB xs)) w) := by
  obtain ⟨hl1, hm1, hc1⟩ := h
  unfold maxLen at hm1
  rcases Nat.eq_zero_or_pos n with h0 | hpos
  · subst h0
    have hx : xs = [] := List.eq_nil_of_length_eq_zero hl1
    subst hx
    have HT := Lib.hid (show zeroB [] = true from rfl)
    go_enter Try.func31, Try.ntmps31
    go_wp2
    go_loop [3] (fun i => i = .int .i64 0) (fun _ => 0)
    case atStart => rfl
    case round =>
      obtain rfl := hrel
      go_wp2
      go_ret
      exact ⟨by rw [HT.out]; rfl, SameD.refl _⟩
  · obtain ⟨b, o, rfl, _, hx⟩ := hc1 hpos
    have HL := Lib.hid hl1
    clear hc1 hl1
    go_enter Try.func31, Try.ntmps31
    go_wp2
    go_loop [3] (fun i => ∃ k : Nat, k ≤ n ∧ i = .int .i64 k ∧ Hid (∀ j, j < k → gI xs j = 0)) (fun i => n - (intOf i).toNat)
    case atStart => exact ⟨0, by omega, rfl, fun j hj => by omega⟩
    case round =>
      obtain ⟨k, hk, rfl, he⟩ := hrel
      by_cases hlt : k < n
      · have hxk := hx k hlt
        have hL : k < xs.length := by have := HL.out; omega
        clear hx
        by_cases h1 : gI xs k = 0
        · have h1' : (gI xs k != 0) = false := by simpa using h1
          have H1 := Lib.hid h1
          clear h1
          go_wp2
          go_round
          case rel => exact ⟨k + 1, by omega, by go_num, fun j hj => by
            by_cases hjk : j = k
            · subst hjk; exact H1.out
            · exact he.out j (by omega)⟩
          case measure => simp [intOf]; omega
        · have HF := Lib.hid (zeroB_false hL h1)
          have h1' : (gI xs k != 0) = true := by simpa using h1
          clear h1
          go_wp2
          go_ret
          exact ⟨by rw [HF.out]; rfl, (by first | exact SameD.refl _ | exact ⟨_, rfl⟩ | exact SameD.two _ _ _ | exact (SameD.two _ _ _).drewN _)⟩
      · have HT := Lib.hid (zeroB_true (xs := xs) (fun j hj => he.out j (by have := HL.out; omega)))
        clear hx
        go_wp2
        go_ret
        exact ⟨by rw [HT.out]; rfl, (by first | exact SameD.refl _ | exact ⟨_, rfl⟩ | exact SameD.two _ _ _ | exact (SameD.two _ _ _).drewN _)⟩
end Go.Proofs.Ytfiganobjjjloaa
namespace Go.Proofs.Ytfiganobjjjloaa
set_option linter.unusedVariables false
set_option linter.unusedSimpArgs false
set_option maxRecDepth 20000
open Go.RowKit
set_option maxHeartbeats 400000
theorem ltimes_ok {B : Nat} (p : Int) (R C C2 n1 k1 n2 k2 : Nat) (A1 A2 : Option Addr) (d1 d2 : List Int) (w : World) (h1 : RdI w B A1 n1 d1) (h2 : RdI w B A2 n2 d2) (hd2 : Hd A2 n2 k2) (hB : B ≤ w.heap.size) (hok1 : okM p R C d1 = true) (hok2 : okM p C C2 d2 = true) :
    Calls Try.prog 32 #[.agg #[.int .i64 p, .int .i64 R, .int .i64 C, .slice A1 n1 k1], .agg #[.int .i64 p, .int .i64 C, .int .i64 C2, .slice A2 n2 k2]] w (RetM p R C2 (mulD R C C2 d1 d2 p) w) := by
  have K1 := Lib.hid hok1
  have K2 := Lib.hid hok2
  have hx := ((Box.new w #[.int .i64 p, .int .i64 R, .int .i64 C, .slice A1 n1 k1] 26).alloc (.cells #[.int .i64 p, .int .i64 C, .int .i64 C2, .slice A2 n2 k2] 26)).alloc (.cells #[.int .i64 0, .int .i64 0, .int .i64 0, .slice none 0 0] 26)
  have hy := (Box.new (w.alloc (.cells #[.int .i64 p, .int .i64 R, .int .i64 C, .slice A1 n1 k1] 26)) #[.int .i64 p, .int .i64 C, .int .i64 C2, .slice A2 n2 k2] 26).alloc (.cells #[.int .i64 0, .int .i64 0, .int .i64 0, .slice none 0 0] 26)
  have hz := Box.new ((w.alloc (.cells #[.int .i64 p, .int .i64 R, .int .i64 C, .slice A1 n1 k1] 26)).alloc (.cells #[.int .i64 p, .int .i64 C, .int .i64 C2, .slice A2 n2 k2] 26)) #[.int .i64 0, .int .i64 0, .int .i64 0, .slice none 0 0] 26
  simp only [World.size_alloc] at hy hz
  obtain ⟨x0, x1, x2, x3⟩ := hx.four
  obtain ⟨y0, y1, y2, y3⟩ := hy.four
  clear hok1 hok2
  go_enter Try.func32, Try.ntmps32
  go_wp2_with fail
  refine (sMul_ok p R C C2 n1 k1 n2 k2 A1 A2 d1 d2 _ (B := B) (by exact h1.below ((by repeat' (first | (with_reducible exact Below.refl _ _) | (with_reducible refine Below.setCell ?_ (by first | exact Nat.le_refl _ | omega | (simp only [World.size_alloc, World.size_setCell, World.heap_drewN]; omega) | (simp; omega)) _) | (with_reducible refine Below.alloc ?_ (by first | exact Nat.le_refl _ | omega | (simp only [World.size_alloc, World.size_setCell, World.heap_drewN]; omega) | (simp; omega)) _) | (with_reducible refine below_drewN ?_ _) | (with_reducible refine Below.drew ?_))) : Below w.heap.size w _) hB) (by exact h2.below ((by repeat' (first | (with_reducible exact Below.refl _ _) | (with_reducible refine Below.setCell ?_ (by first | exact Nat.le_refl _ | omega | (simp only [World.size_alloc, World.size_setCell, World.heap_drewN]; omega) | (simp; omega)) _) | (with_reducible refine Below.alloc ?_ (by first | exact Nat.le_refl _ | omega | (simp only [World.size_alloc, World.size_setCell, World.heap_drewN]; omega) | (simp; omega)) _) | (with_reducible refine below_drewN ?_ _) | (with_reducible refine Below.drew ?_))) : Below w.heap.size w _) hB) hd2 (by first | exact Nat.le_refl _ | omega | (simp only [World.size_alloc, World.size_setCell, World.heap_drewN]; omega) | (simp; omega)) K1.out K2.out).mono ?_
  rintro e w1 ⟨A3, n3, k3, rfl, hd3, hb3, ho3⟩
  simp only [World.size_alloc] at ho3
  have hs3 := hb3.size
  simp only [World.size_alloc] at hs3
  have hq : Below w.heap.size w w1 := (by repeat' (first | (with_reducible exact Below.refl _ _) | (with_reducible refine Below.setCell ?_ (by first | exact Nat.le_refl _ | omega | (simp only [World.size_alloc, World.size_setCell, World.heap_drewN]; omega) | (simp; omega)) _) | (with_reducible refine Below.alloc ?_ (by first | exact Nat.le_refl _ | omega | (simp only [World.size_alloc, World.size_setCell, World.heap_drewN]; omega) | (simp; omega)) _) | (with_reducible refine below_drewN ?_ _) | (with_reducible refine Below.drew ?_) | (with_reducible refine Below.trans ?_ (hb3.mono (by first | exact Nat.le_refl _ | omega | (simp only [World.size_alloc, World.size_setCell, World.heap_drewN]; omega) | (simp; omega))))))
  have hz3 := (hz.below hb3 (by first | exact Nat.le_refl _ | omega | (simp only [World.size_alloc, World.size_setCell, World.heap_drewN]; omega) | (simp; omega))).alloc (.cells #[.int .i64 p, .int .i64 R, .int .i64 C2, .slice A3 n3 k3] 26)
  have hb := Box.new w1 #[.int .i64 p, .int .i64 R, .int .i64 C2, .slice A3 n3 k3] 26
  have ho := ho3.alloc (Nat.le_refl _) (.cells #[.int .i64 p, .int .i64 R, .int .i64 C2, .slice A3 n3 k3] 26)
  have hqa : Below w.heap.size w (w1.alloc (.cells #[.int .i64 p, .int .i64 R, .int .i64 C2, .slice A3 n3 k3] 26)) := (by repeat' (first | (with_reducible exact Below.refl _ _) | (with_reducible refine Below.setCell ?_ (by first | exact Nat.le_refl _ | omega | (simp only [World.size_alloc, World.size_setCell, World.heap_drewN]; omega) | (simp; omega)) _) | (with_reducible refine Below.alloc ?_ (by first | exact Nat.le_refl _ | omega | (simp only [World.size_alloc, World.size_setCell, World.heap_drewN]; omega) | (simp; omega)) _) | (with_reducible refine below_drewN ?_ _) | (with_reducible refine Below.drew ?_) | (with_reducible refine Below.trans ?_ (hq.mono (by first | exact Nat.le_refl _ | omega | (simp only [World.size_alloc, World.size_setCell, World.heap_drewN]; omega) | (simp; omega))))))
  clear x0 x1 x2 x3 y0 y1 y2 y3 ho3 hb3
  obtain ⟨x0, x1, x2, x3⟩ := hb.four
  obtain ⟨z0, z1, z2, z3⟩ := hz3.four
  have zf := hz3.fz
  go_wp2
  exact bodyPost_ret (v := .agg #[.int .i64 p, .int .i64 R, .int .i64 C2, .slice A3 n3 k3]) (by simp [results, Try.results32, go_sem, z0, z1, z2, z3]) rfl (retM4 (R := w.heap.size + 1 + 1) hqa ho (by omega) (by omega) (by rw [World.size_alloc]; omega) _ _ _ _ hd3)
/-- a power that is 0 stays 0 -/
theorem pw_stay {R : Nat} {d : List Int} {p : Int} {i : Nat} (hp : 1 ≤ p) (h : zeroB (pw R d p i) = true) : zeroB (pw R d p (i + 1)) = true := by
  have h0 : ∀ t, gI (pw R d p i) t = 0 := fun t => by
    rcases Nat.lt_or_ge t (pw R d p i).length with ht | ht
    · have := List.all_eq_true.1 (show ((pw R d p i).all fun x => x == 0) = true from by unfold zeroB at h; simpa using h) ((pw R d p i)[t]) (List.getElem_mem _)
      rw [gI_lt ht]; simpa using this
    · exact gI_ge ht
  have hz : ∀ x y m, mulS (pw R d p i) d R R p x y m = 0 := fun x y m => by
    induction m with
    | zero => rfl
    | succ m ih => simp only [mulS, ih, h0]; simp
  refine zeroB_true fun t ht => ?_
  have hl : (pw R d p (i + 1)).length = R * R := pw_len _ _ _ _
  rw [hl] at ht
  have hR : 0 < R := by rcases Nat.eq_zero_or_pos R with e | e; · subst e; simp at ht
                        · exact e
  rw [show t = t / R * R + t % R by rw [Nat.mul_comm]; exact (Nat.div_add_mod t R).symm]
  show gI (mulD R R R (pw R d p i) d p) _ = 0
  rw [mulD, tab_get _ (Nat.div_lt_of_lt_mul ht) (Nat.mod_lt _ hR)]
  exact hz _ _ _
theorem nil_iff {R : Nat} {d : List Int} {p : Int} (hp : 1 ≤ p) : nilV R d p ≤ R ∧ (nilV R d p < 0 → ∀ i, i ≤ R → zeroB (pw R d p i) = false) ∧ (0 ≤ nilV R d p → ∀ i, i ≤ R → zeroB (pw R d p i) = decide (nilV R d p ≤ i)) := by
  by_cases h : ∃ i, i ≤ R ∧ zeroB (pw R d p i) = true
  · obtain ⟨k, ⟨hk, hz⟩, hmin⟩ : ∃ k, (k ≤ R ∧ zeroB (pw R d p k) = true) ∧ ∀ j, j < k → ¬ (j ≤ R ∧ zeroB (pw R d p j) = true) := by
      obtain ⟨i, hi⟩ := h
      induction i using Nat.strongRecOn with
      | _ i ih =>
        by_cases hm : ∃ j, j < i ∧ (j ≤ R ∧ zeroB (pw R d p j) = true)
        · obtain ⟨j, hj, hjj⟩ := hm
          exact ih j hj hjj
        · exact ⟨i, hi, fun j hj hh => hm ⟨j, hj, hh⟩⟩
    have hb : ∀ j, j < k → zeroB (pw R d p j) = false := fun j hj => by
      rcases e : zeroB (pw R d p j) with _ | _
      · rfl
      · exact absurd ⟨by omega, e⟩ (hmin j hj)
    have e := nilV_hit hk hz hb
    rw [e]
    refine ⟨by omega, fun h => by omega, fun _ i hi => ?_⟩
    rcases Nat.lt_or_ge i k with hl | hl
    · rw [hb i hl]; symm; rw [decide_eq_false_iff_not]; omega
    · have : ∀ m, zeroB (pw R d p (k + m)) = true := fun m => by
        induction m with
        | zero => exact hz
        | succ m ih => exact pw_stay hp ih
      have := this (i - k)
      rw [show k + (i - k) = i by omega] at this
      rw [this]; symm; rw [decide_eq_true_eq]; omega
  · have hb : ∀ j, j ≤ R → zeroB (pw R d p j) = false := fun j hj => by
      rcases e : zeroB (pw R d p j) with _ | _
      · rfl
      · exact absurd ⟨j, hj, e⟩ h
    have e := nilV_miss hb
    rw [e]
    exact ⟨by omega, fun _ => hb, fun h => by omega⟩
end Go.Proofs.Ytfiganobjjjloaa
