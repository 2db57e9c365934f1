/- The laws' own words zeros and times. No condition but what each theorem names. -/
import Derived.Test.YtfiganobjjjloaaNilW
import Derived.Outline
import Derived.Test.YtfiganobjjjloaaLibW
import Derived.Test.YtfiganobjjjloaaSpcW
namespace Go.Proofs.Ytfiganobjjjloaa
set_option linter.unusedVariables false
set_option linter.unusedSimpArgs false
set_option maxRecDepth 20000
open Go.RowKit
set_option maxHeartbeats 4000000
theorem lzeros_any {B : Nat} (A : Option Addr) (n c : Nat) (xs : List Int) (w : World) (h : RdI w B A n xs) :
    Calls Try.prog 31 #[.slice A n c] w (Qt (.bool (zeroB xs)) w) := by
  obtain ⟨hl1, hm1, hc1⟩ := h
  unfold maxLen at hm1
  rcases Nat.eq_zero_or_pos n with h0 | hpos
  · subst h0
    have hx : xs = [] := List.eq_nil_of_length_eq_zero hl1
    subst hx
    have HT := Lib.hid (show zeroB [] = true from rfl)
    go_enter Try.func31, Try.ntmps31
    go_wp2
    go_loop [3] (fun i => i = .int .i64 0) (fun _ => 0)
    case atStart => rfl
    case round =>
      obtain rfl := hrel
      go_wp2
      go_ret
      exact ⟨by rw [HT.out]; rfl, SameD.refl _⟩
  · obtain ⟨b, o, rfl, _, hx⟩ := hc1 hpos
    have HL := Lib.hid hl1
    clear hc1 hl1
    go_enter Try.func31, Try.ntmps31
    go_wp2
    go_loop [3] (fun i => ∃ k : Nat, k ≤ n ∧ i = .int .i64 k ∧ Hid (∀ j, j < k → gI xs j = 0)) (fun i => n - (intOf i).toNat)
    case atStart => exact ⟨0, by omega, rfl, fun j hj => by omega⟩
    case round =>
      obtain ⟨k, hk, rfl, he⟩ := hrel
      by_cases hlt : k < n
      · have hxk := hx k hlt
        have hL : k < xs.length := by have := HL.out; omega
        clear hx
        by_cases h1 : gI xs k = 0
        · have h1' : (gI xs k != 0) = false := by simpa using h1
          have H1 := Lib.hid h1
          clear h1
          go_wp2
          go_round
          case rel => exact ⟨k + 1, by omega, by go_num, fun j hj => by
            by_cases hjk : j = k
            · subst hjk; exact H1.out
            · exact he.out j (by omega)⟩
          case measure => simp [intOf]; omega
        · have HF := Lib.hid (zeroB_false hL h1)
          have h1' : (gI xs k != 0) = true := by simpa using h1
          clear h1
          go_wp2
          go_ret
          exact ⟨by rw [HF.out]; rfl, (by first | exact SameD.refl _ | exact ⟨_, rfl⟩ | exact SameD.two _ _ _ | exact (SameD.two _ _ _).drewN _)⟩
      · have HT := Lib.hid (zeroB_true (xs := xs) (fun j hj => he.out j (by have := HL.out; omega)))
        clear hx
        go_wp2
        go_ret
        exact ⟨by rw [HT.out]; rfl, (by first | exact SameD.refl _ | exact ⟨_, rfl⟩ | exact SameD.two _ _ _ | exact (SameD.two _ _ _).drewN _)⟩
end Go.Proofs.Ytfiganobjjjloaa
namespace Go.Proofs.Ytfiganobjjjloaa
set_option linter.unusedVariables false
set_option linter.unusedSimpArgs false
set_option maxRecDepth 20000
open Go.RowKit
set_option maxHeartbeats 400000
theorem ltimes_ok {B : Nat} (p : Int) (R C C2 n1 k1 n2 k2 : Nat) (A1 A2 : Option Addr) (d1 d2 : List Int) (w : World) (h1 : RdI w B A1 n1 d1) (h2 : RdI w B A2 n2 d2) (hd2 : Hd A2 n2 k2) (hB : B ≤ w.heap.size) (hok1 : okM p R C d1 = true) (hok2 : okM p C C2 d2 = true) :
    Calls Try.prog 32 #[.agg #[.int .i64 p, .int .i64 R, .int .i64 C, .slice A1 n1 k1], .agg #[.int .i64 p, .int .i64 C, .int .i64 C2, .slice A2 n2 k2]] w (RetM p R C2 (mulD R C C2 d1 d2 p) w) := by
  have K1 := Lib.hid hok1
  have K2 := Lib.hid hok2
  have hx := ((Box.new w #[.int .i64 p, .int .i64 R, .int .i64 C, .slice A1 n1 k1] 26).alloc (.cells #[.int .i64 p, .int .i64 C, .int .i64 C2, .slice A2 n2 k2] 26)).alloc (.cells #[.int .i64 0, .int .i64 0, .int .i64 0, .slice none 0 0] 26)
  have hy := (Box.new (w.alloc (.cells #[.int .i64 p, .int .i64 R, .int .i64 C, .slice A1 n1 k1] 26)) #[.int .i64 p, .int .i64 C, .int .i64 C2, .slice A2 n2 k2] 26).alloc (.cells #[.int .i64 0, .int .i64 0, .int .i64 0, .slice none 0 0] 26)
  have hz := Box.new ((w.alloc (.cells #[.int .i64 p, .int .i64 R, .int .i64 C, .slice A1 n1 k1] 26)).alloc (.cells #[.int .i64 p, .int .i64 C, .int .i64 C2, .slice A2 n2 k2] 26)) #[.int .i64 0, .int .i64 0, .int .i64 0, .slice none 0 0] 26
  simp only [World.size_alloc] at hy hz
  obtain ⟨x0, x1, x2, x3⟩ := hx.four
  obtain ⟨y0, y1, y2, y3⟩ := hy.four
  clear hok1 hok2
  go_enter Try.func32, Try.ntmps32
  go_wp2_with fail
  refine (sMul_ok p R C C2 n1 k1 n2 k2 A1 A2 d1 d2 _ (B := B) (by exact h1.below ((by repeat' (first | (with_reducible exact Below.refl _ _) | (with_reducible refine Below.setCell ?_ (by first | exact Nat.le_refl _ | omega | (simp only [World.size_alloc, World.size_setCell, World.heap_drewN]; omega) | (simp; omega)) _) | (with_reducible refine Below.alloc ?_ (by first | exact Nat.le_refl _ | omega | (simp only [World.size_alloc, World.size_setCell, World.heap_drewN]; omega) | (simp; omega)) _) | (with_reducible refine below_drewN ?_ _) | (with_reducible refine Below.drew ?_))) : Below w.heap.size w _) hB) (by exact h2.below ((by repeat' (first | (with_reducible exact Below.refl _ _) | (with_reducible refine Below.setCell ?_ (by first | exact Nat.le_refl _ | omega | (simp only [World.size_alloc, World.size_setCell, World.heap_drewN]; omega) | (simp; omega)) _) | (with_reducible refine Below.alloc ?_ (by first | exact Nat.le_refl _ | omega | (simp only [World.size_alloc, World.size_setCell, World.heap_drewN]; omega) | (simp; omega)) _) | (with_reducible refine below_drewN ?_ _) | (with_reducible refine Below.drew ?_))) : Below w.heap.size w _) hB) hd2 (by first | exact Nat.le_refl _ | omega | (simp only [World.size_alloc, World.size_setCell, World.heap_drewN]; omega) | (simp; omega)) K1.out K2.out).mono ?_
  rintro e w1 ⟨A3, n3, k3, rfl, hd3, hb3, ho3⟩
  simp only [World.size_alloc] at ho3
  have hs3 := hb3.size
  simp only [World.size_alloc] at hs3
  have hq : Below w.heap.size w w1 := (by repeat' (first | (with_reducible exact Below.refl _ _) | (with_reducible refine Below.setCell ?_ (by first | exact Nat.le_refl _ | omega | (simp only [World.size_alloc, World.size_setCell, World.heap_drewN]; omega) | (simp; omega)) _) | (with_reducible refine Below.alloc ?_ (by first | exact Nat.le_refl _ | omega | (simp only [World.size_alloc, World.size_setCell, World.heap_drewN]; omega) | (simp; omega)) _) | (with_reducible refine below_drewN ?_ _) | (with_reducible refine Below.drew ?_) | (with_reducible refine Below.trans ?_ (hb3.mono (by first | exact Nat.le_refl _ | omega | (simp only [World.size_alloc, World.size_setCell, World.heap_drewN]; omega) | (simp; omega))))))
  have hz3 := (hz.below hb3 (by first | exact Nat.le_refl _ | omega | (simp only [World.size_alloc, World.size_setCell, World.heap_drewN]; omega) | (simp; omega))).alloc (.cells #[.int .i64 p, .int .i64 R, .int .i64 C2, .slice A3 n3 k3] 26)
  have hb := Box.new w1 #[.int .i64 p, .int .i64 R, .int .i64 C2, .slice A3 n3 k3] 26
  have ho := ho3.alloc (Nat.le_refl _) (.cells #[.int .i64 p, .int .i64 R, .int .i64 C2, .slice A3 n3 k3] 26)
  have hqa : Below w.heap.size w (w1.alloc (.cells #[.int .i64 p, .int .i64 R, .int .i64 C2, .slice A3 n3 k3] 26)) := (by repeat' (first | (with_reducible exact Below.refl _ _) | (with_reducible refine Below.setCell ?_ (by first | exact Nat.le_refl _ | omega | (simp only [World.size_alloc, World.size_setCell, World.heap_drewN]; omega) | (simp; omega)) _) | (with_reducible refine Below.alloc ?_ (by first | exact Nat.le_refl _ | omega | (simp only [World.size_alloc, World.size_setCell, World.heap_drewN]; omega) | (simp; omega)) _) | (with_reducible refine below_drewN ?_ _) | (with_reducible refine Below.drew ?_) | (with_reducible refine Below.trans ?_ (hq.mono (by first | exact Nat.le_refl _ | omega | (simp only [World.size_alloc, World.size_setCell, World.heap_drewN]; omega) | (simp; omega))))))
  clear x0 x1 x2 x3 y0 y1 y2 y3 ho3 hb3
  obtain ⟨x0, x1, x2, x3⟩ := hb.four
  obtain ⟨z0, z1, z2, z3⟩ := hz3.four
  have zf := hz3.fz
  go_wp2
  exact bodyPost_ret (v := .agg #[.int .i64 p, .int .i64 R, .int .i64 C2, .slice A3 n3 k3]) (by simp [results, Try.results32, go_sem, z0, z1, z2, z3]) rfl (retM4 (R := w.heap.size + 1 + 1) hqa ho (by omega) (by omega) (by rw [World.size_alloc]; omega) _ _ _ _ hd3)
/-- a power that is 0 stays 0 -/
theorem pw_stay {R : Nat} {d : List Int} {p : Int} {i : Nat} (hp : 1 ≤ p) (h : zeroB (pw R d p i) = true) : zeroB (pw R d p (i + 1)) = true := by
  have h0 : ∀ t, gI (pw R d p i) t = 0 := fun t => by
    rcases Nat.lt_or_ge t (pw R d p i).length with ht | ht
    · have := List.all_eq_true.1 (show ((pw R d p i).all fun x => x == 0) = true from by unfold zeroB at h; simpa using h) ((pw R d p i)[t]) (List.getElem_mem _)
      rw [gI_lt ht]; simpa using this
    · exact gI_ge ht
  have hz : ∀ x y m, mulS (pw R d p i) d R R p x y m = 0 := fun x y m => by
    induction m with
    | zero => rfl
    | succ m ih => simp only [mulS, ih, h0]; simp
  refine zeroB_true fun t ht => ?_
  have hl : (pw R d p (i + 1)).length = R * R := pw_len _ _ _ _
  rw [hl] at ht
  have hR : 0 < R := by rcases Nat.eq_zero_or_pos R with e | e; · subst e; simp at ht
                        · exact e
  rw [show t = t / R * R + t % R by rw [Nat.mul_comm]; exact (Nat.div_add_mod t R).symm]
  show gI (mulD R R R (pw R d p i) d p) _ = 0
  rw [mulD, tab_get _ (Nat.div_lt_of_lt_mul ht) (Nat.mod_lt _ hR)]
  exact hz _ _ _
theorem nil_iff {R : Nat} {d : List Int} {p : Int} (hp : 1 ≤ p) : nilV R d p ≤ R ∧ (nilV R d p < 0 → ∀ i, i ≤ R → zeroB (pw R d p i) = false) ∧ (0 ≤ nilV R d p → ∀ i, i ≤ R → zeroB (pw R d p i) = decide (nilV R d p ≤ i)) := by
  by_cases h : ∃ i, i ≤ R ∧ zeroB (pw R d p i) = true
  · obtain ⟨k, ⟨hk, hz⟩, hmin⟩ : ∃ k, (k ≤ R ∧ zeroB (pw R d p k) = true) ∧ ∀ j, j < k → ¬ (j ≤ R ∧ zeroB (pw R d p j) = true) := by
      obtain ⟨i, hi⟩ := h
      induction i using Nat.strongRecOn with
      | _ i ih =>
        by_cases hm : ∃ j, j < i ∧ (j ≤ R ∧ zeroB (pw R d p j) = true)
        · obtain ⟨j, hj, hjj⟩ := hm
          exact ih j hj hjj
        · exact ⟨i, hi, fun j hj hh => hm ⟨j, hj, hh⟩⟩
    have hb : ∀ j, j < k → zeroB (pw R d p j) = false := fun j hj => by
      rcases e : zeroB (pw R d p j) with _ | _
      · rfl
      · exact absurd ⟨by omega, e⟩ (hmin j hj)
    have e := nilV_hit hk hz hb
    rw [e]
    refine ⟨by omega, fun h => by omega, fun _ i hi => ?_⟩
    rcases Nat.lt_or_ge i k with hl | hl
    · rw [hb i hl]; symm; rw [decide_eq_false_iff_not]; omega
    · have : ∀ m, zeroB (pw R d p (k + m)) = true := fun m => by
        induction m with
        | zero => exact hz
        | succ m ih => exact pw_stay hp ih
      have := this (i - k)
      rw [show k + (i - k) = i by omega] at this
      rw [this]; symm; rw [decide_eq_true_eq]; omega
  · have hb : ∀ j, j ≤ R → zeroB (pw R d p j) = false := fun j hj => by
      rcases e : zeroB (pw R d p j) with _ | _
      · rfl
      · exact absurd ⟨j, hj, e⟩ h
    have e := nilV_miss hb
    rw [e]
    exact ⟨by omega, fun _ => hb, fun h => by omega⟩
end Go.Proofs.Ytfiganobjjjloaa
namespace Go.Proofs.Ytfiganobjjjloaa
set_option linter.unusedVariables false
set_option linter.unusedSimpArgs false
set_option maxRecDepth 20000
open Go.RowKit
set_option maxHeartbeats 1000000
theorem lints_any {B1 B2 : Nat} (A1 A2 : Option Addr) (n1 c1 n2 c2 : Nat) (xs ys : List Int) (w : World) (h1 : RdI w B1 A1 n1 xs) (h2 : RdI w B2 A2 n2 ys) :
    Calls Try.prog 25 #[.slice A1 n1 c1, .slice A2 n2 c2] w (Qt (.bool (xs == ys)) w) := by
  obtain ⟨hl1, hm1, hc1⟩ := h1
  obtain ⟨hl2, hm2, hc2⟩ := h2
  unfold maxLen at hm1 hm2
  by_cases hne : n1 = n2
  · subst hne
    rcases Nat.eq_zero_or_pos n1 with h0 | hpos
    · subst h0
      have hx : xs = [] := List.eq_nil_of_length_eq_zero hl1
      have hy : ys = [] := List.eq_nil_of_length_eq_zero hl2
      subst hx hy
      go_enter Try.func25, Try.ntmps25
      go_wp2
      go_loop [5] (fun i => i = .int .i64 0) (fun _ => 0)
      case atStart => rfl
      case round =>
        obtain rfl := hrel
        go_wp2
        go_ret
        exact ⟨rfl, SameD.refl _⟩
    · obtain ⟨b1, o1, rfl, _, hx⟩ := hc1 hpos
      obtain ⟨b2, o2, rfl, _, hy⟩ := hc2 hpos
      have HL := Lib.hid (And.intro hl1 hl2)
      clear hc1 hc2 hl1 hl2
      go_enter Try.func25, Try.ntmps25
      go_wp2
      go_loopw [5] (fun i wr => ∃ k : Nat, k ≤ n1 ∧ i = .int .i64 k ∧ Hid (xs.take k = ys.take k) ∧ SameD w wr) (fun i _ => n1 - (intOf i).toNat)
      case atStart => exact ⟨0, by omega, rfl, rfl, SameD.refl _⟩
      case round =>
        obtain ⟨k, hk, rfl, he, d, rfl⟩ := hrel
        by_cases hlt : k < n1
        · have hxk := hx k hlt
          have hyk := hy k hlt
          by_cases hz : gI xs k = gI ys k
          · have hz' : (gI xs k != gI ys k) = false := by simpa using hz
            have Hn := Lib.hid (show xs.take (k + 1) = ys.take (k + 1) by
              have a1 := HL.out.1
              have a2 := HL.out.2
              have e1 := he.out
              rw [take_gI (by omega), take_gI (by omega), e1, hz])
            clear hz hx hy
            go_wp2
            go_quiet (fail)
            go_wp2
            go_roundw
            case rel => exact ⟨k + 1, by omega, by go_num, Hn, (by first | exact SameD.refl _ | exact ⟨_, rfl⟩ | exact SameD.two _ _ _ | exact (SameD.two _ _ _).drewN _)⟩
            case measure => simp [intOf]; omega
          · have hz' : (gI xs k != gI ys k) = true := by simpa using hz
            have Hn := Lib.hid (show (xs == ys) = false by
              rw [beq_eq_false_iff_ne]; intro e; exact hz (by rw [e]))
            clear hz hx hy
            go_wp2
            go_quiet (fail)
            go_wp2
            go_ret
            exact ⟨by rw [Hn.out]; rfl, (by first | exact SameD.refl _ | exact ⟨_, rfl⟩ | exact SameD.two _ _ _ | exact (SameD.two _ _ _).drewN _)⟩
        · have hkn : k = n1 := by omega
          have Hn := Lib.hid (show (xs == ys) = true by
            have a1 := HL.out.1
            have a2 := HL.out.2
            have e1 := he.out
            rw [List.take_of_length_le (by omega), List.take_of_length_le (by omega)] at e1
            rw [e1]; simp)
          clear hx hy
          subst hkn
          go_wp2
          go_ret
          exact ⟨by rw [Hn.out]; rfl, (by first | exact SameD.refl _ | exact ⟨_, rfl⟩ | exact SameD.two _ _ _ | exact (SameD.two _ _ _).drewN _)⟩
  · have hb : ((n1 : Int) != (n2 : Int)) = true := by simp; omega
    have Hn := Lib.hid (show (xs == ys) = false by
      rw [beq_eq_false_iff_ne]; intro e; subst e; omega)
    clear hc1 hc2 hl1 hl2
    go_enter Try.func25, Try.ntmps25
    go_wp2
    go_ret
    exact ⟨by rw [Hn.out]; rfl, SameD.refl _⟩
theorem lequal_any {B1 B2 : Nat} (p1 r1 c1 : Int) (A1 : Option Addr) (n1 k1 : Nat) (d1 : List Int) (p2 r2 c2 : Int) (A2 : Option Addr) (n2 k2 : Nat) (d2 : List Int) (w : World)
    (h1 : RdI w B1 A1 n1 d1) (hB1 : B1 ≤ w.heap.size) (h2 : RdI w B2 A2 n2 d2) (hB2 : B2 ≤ w.heap.size) :
    Calls Try.prog 36 #[.agg #[.int .i64 p1, .int .i64 r1, .int .i64 c1, .slice A1 n1 k1], .agg #[.int .i64 p2, .int .i64 r2, .int .i64 c2, .slice A2 n2 k2]] w (Rv (.bool (p1 == p2 && r1 == r2 && c1 == c2 && d1 == d2)) w) := by
  by_cases e1 : p1 = p2
  · have f1 : (p1 == p2) = true := by simpa using e1
    by_cases e2 : r1 = r2
    · have f2 : (r1 == r2) = true := by simpa using e2
      by_cases e3 : c1 = c2
      · have f3 : (c1 == c2) = true := by simpa using e3
        have HE := Lib.hid (show (p1 == p2 && r1 == r2 && c1 == c2 && d1 == d2) = (d1 == d2) by rw [e1, e2, e3]; simp)
        clear e1 e2 e3
        go_enter Try.func36, Try.ntmps36
        rcases Bool.eq_false_or_eq_true (d1 == d2) with hd | hd
        all_goals
          have Hd := Lib.hid hd
          clear hd
          go_wp2_with (go_at_call 25; refine (lints_any A1 A2 n1 k1 n2 k2 d1 d2 _ (B1 := B1) (B2 := B2) (by exact h1.below ((by repeat' (first | (with_reducible exact Below.refl _ _) | (with_reducible refine Below.setCell ?_ (by first | exact Nat.le_refl _ | omega | (simp only [World.size_alloc, World.size_setCell, World.heap_drewN]; omega) | (simp; omega)) _) | (with_reducible refine Below.alloc ?_ (by first | exact Nat.le_refl _ | omega | (simp only [World.size_alloc, World.size_setCell, World.heap_drewN]; omega) | (simp; omega)) _) | (with_reducible refine below_drewN ?_ _) | (with_reducible refine Below.drew ?_))) : Below w.heap.size w _) hB1) (by exact h2.below ((by repeat' (first | (with_reducible exact Below.refl _ _) | (with_reducible refine Below.setCell ?_ (by first | exact Nat.le_refl _ | omega | (simp only [World.size_alloc, World.size_setCell, World.heap_drewN]; omega) | (simp; omega)) _) | (with_reducible refine Below.alloc ?_ (by first | exact Nat.le_refl _ | omega | (simp only [World.size_alloc, World.size_setCell, World.heap_drewN]; omega) | (simp; omega)) _) | (with_reducible refine below_drewN ?_ _) | (with_reducible refine Below.drew ?_))) : Below w.heap.size w _) hB2)).mono ?_; rintro e w1 ⟨rfl, q, rfl⟩; rw [Hd.out])
          go_ret
          exact ⟨by rw [HE.out, Hd.out]; rfl, (by repeat' (first | (with_reducible exact Below.refl _ _) | (with_reducible refine Below.setCell ?_ (by first | exact Nat.le_refl _ | omega | (simp only [World.size_alloc, World.size_setCell, World.heap_drewN]; omega) | (simp; omega)) _) | (with_reducible refine Below.alloc ?_ (by first | exact Nat.le_refl _ | omega | (simp only [World.size_alloc, World.size_setCell, World.heap_drewN]; omega) | (simp; omega)) _) | (with_reducible refine below_drewN ?_ _) | (with_reducible refine Below.drew ?_)))⟩
      · have f3 : (c1 == c2) = false := by simpa using e3
        have HE := Lib.hid (show (p1 == p2 && r1 == r2 && c1 == c2 && d1 == d2) = false by simp [e3])
        clear e1 e2 e3
        go_enter Try.func36, Try.ntmps36
        go_wp2
        go_ret
        exact ⟨by rw [HE.out]; rfl, (by repeat' (first | (with_reducible exact Below.refl _ _) | (with_reducible refine Below.setCell ?_ (by first | exact Nat.le_refl _ | omega | (simp only [World.size_alloc, World.size_setCell, World.heap_drewN]; omega) | (simp; omega)) _) | (with_reducible refine Below.alloc ?_ (by first | exact Nat.le_refl _ | omega | (simp only [World.size_alloc, World.size_setCell, World.heap_drewN]; omega) | (simp; omega)) _) | (with_reducible refine below_drewN ?_ _) | (with_reducible refine Below.drew ?_)))⟩
    · have f2 : (r1 == r2) = false := by simpa using e2
      have HE := Lib.hid (show (p1 == p2 && r1 == r2 && c1 == c2 && d1 == d2) = false by simp [e2])
      clear e1 e2
      go_enter Try.func36, Try.ntmps36
      go_wp2
      go_ret
      exact ⟨by rw [HE.out]; rfl, (by repeat' (first | (with_reducible exact Below.refl _ _) | (with_reducible refine Below.setCell ?_ (by first | exact Nat.le_refl _ | omega | (simp only [World.size_alloc, World.size_setCell, World.heap_drewN]; omega) | (simp; omega)) _) | (with_reducible refine Below.alloc ?_ (by first | exact Nat.le_refl _ | omega | (simp only [World.size_alloc, World.size_setCell, World.heap_drewN]; omega) | (simp; omega)) _) | (with_reducible refine below_drewN ?_ _) | (with_reducible refine Below.drew ?_)))⟩
  · have f1 : (p1 == p2) = false := by simpa using e1
    have HE := Lib.hid (show (p1 == p2 && r1 == r2 && c1 == c2 && d1 == d2) = false by simp [e1])
    clear e1
    go_enter Try.func36, Try.ntmps36
    go_wp2
    go_ret
    exact ⟨by rw [HE.out]; rfl, (by repeat' (first | (with_reducible exact Below.refl _ _) | (with_reducible refine Below.setCell ?_ (by first | exact Nat.le_refl _ | omega | (simp only [World.size_alloc, World.size_setCell, World.heap_drewN]; omega) | (simp; omega)) _) | (with_reducible refine Below.alloc ?_ (by first | exact Nat.le_refl _ | omega | (simp only [World.size_alloc, World.size_setCell, World.heap_drewN]; omega) | (simp; omega)) _) | (with_reducible refine below_drewN ?_ _) | (with_reducible refine Below.drew ?_)))⟩
end Go.Proofs.Ytfiganobjjjloaa
