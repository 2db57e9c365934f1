/- l1Row, l1Within, IsSubspace of both packages. No condition but what each theorem names. -/
import Derived.Test.YtefgklgacojljaaCooW
import Derived.Test.YtefgklgacojljaaRwo
import Derived.Deep.RegionHeld3
namespace Go.Proofs.Ytefgklgacojljaa
set_option linter.unusedVariables false
set_option linter.unusedSimpArgs false
open Go.RowKit
set_option maxHeartbeats 2000000
/-- a row of a matrix, where it lies: the value does not hang on the world -/
theorem l1Row_any {p r : Int} {R C i n k : Nat} {A : Option Addr} (hd : Hd A n k) (hl : n = R * C) (hi : i < R) (hR : R ≤ 100000) (hC : C ≤ 100000) (hn : n ≤ 1073741824) :
    ∃ A' k', Hd A' C k' ∧ (∀ (w : World) (B : Nat) (d : List Int), RdI w B A n d → RdI w B A' C (sub d (i * C) C)) ∧
      ∀ w, Calls Try.prog 99 #[.agg #[.int .i64 p, .int .i64 r, .int .i64 C, .slice A n k], .int .i64 i] w (Rv (.slice A' C k') w) := by
  obtain ⟨e1, e2, e3, e4, e5, e6⟩ := row_bd (C := C) hi
  have hle : i * C + C ≤ n := by rw [hl]; exact e6
  have hnn : (R : Int) * C = n := by rw [hl, Int.natCast_mul]
  obtain ⟨A', hd', hp', hrun⟩ := part_run (A := A) (n := n) (k := k) (lo := i * C) (hi := i * C + C) ((i : Int) * C) (((i : Int) + 1) * C) (by rw [Int.natCast_mul]) (by rw [← e2, Int.natCast_add, Int.natCast_mul]) hd (by omega) hle
  rw [show i * C + C - i * C = C by omega] at hd' hp' hrun
  refine ⟨A', _, hd', hp', fun w => ?_⟩
  clear hp' hd' hl
  go_enter Try.func99, Try.ntmps99
  go_wp2
  go_ret
  exact ⟨rfl, (by repeat' (first | (with_reducible exact Below.refl _ _) | (with_reducible refine Below.setCell ?_ (by first | exact Nat.le_refl _ | omega | (simp only [World.size_alloc, World.size_setCell, World.heap_drewN]; omega) | (simp; omega)) _) | (with_reducible refine Below.alloc ?_ (by first | exact Nat.le_refl _ | omega | (simp only [World.size_alloc, World.size_setCell, World.heap_drewN]; omega) | (simp; omega)) _) | (with_reducible refine below_drewN ?_ _) | (with_reducible refine Below.drew ?_)))⟩
/-- all rows of the first lie in the second -/
def wiB (R1 R2 C : Nat) (p : Int) (d1 d2 : List Int) : Bool := (List.range R1).all fun i => inB R2 C p d2 (sub d1 (i * C) C)
theorem wiB_no {R1 R2 C : Nat} {p : Int} {d1 d2 : List Int} {i : Nat} (hi : i < R1) (h : inB R2 C p d2 (sub d1 (i * C) C) = false) : wiB R1 R2 C p d1 d2 = false := by
  unfold wiB
  rw [List.all_eq_false]
  exact ⟨i, List.mem_range.2 hi, by simp [h]⟩
theorem wiB_yes {R1 R2 C : Nat} {p : Int} {d1 d2 : List Int} (h : ∀ i, i < R1 → inB R2 C p d2 (sub d1 (i * C) C) = true) : wiB R1 R2 C p d1 d2 = true := by
  unfold wiB
  rw [List.all_eq_true]
  exact fun i hi => h i (List.mem_range.1 hi)
theorem resB_sub {d : List Int} {p : Int} {o m : Nat} (hp : 1 ≤ p) (h : resB d p = true) : resB (sub d o m) p = true := by
  refine resB_true fun k hk => ?_
  rw [sub_get (by unfold sub at hk; simp at hk; omega)]
  exact gI_res hp h _
set_option maxRecDepth 100000 in
theorem l1Within_any {B : Nat} (p : Int) (R1 R2 C n1 k1 n2 k2 : Nat) (A1 A2 : Option Addr) (d1 d2 : List Int) (w : World) (h1 : RdI w B A1 n1 d1) (hd1 : Hd A1 n1 k1) (h2 : RdI w B A2 n2 d2) (hB : B ≤ w.heap.size) (hl1 : n1 = R1 * C) (hR1 : R1 ≤ 1000) (hr1 : resB d1 p = true) (hsp : spB p R2 C d2 = true) :
    Calls Try.prog 73 #[.agg #[.int .i64 p, .int .i64 R1, .int .i64 C, .slice A1 n1 k1], .agg #[.int .i64 p, .int .i64 R2, .int .i64 C, .slice A2 n2 k2]] w (Rv (.bool (wiB R1 R2 C p d1 d2)) w) := by
  obtain ⟨hp, hR2, hC, hl, -, -, -⟩ := space_ok hsp
  obtain ⟨hp1, hp2⟩ := isP_bd hp
  have hn1 : n1 ≤ 40000 := by rw [hl1]; exact Nat.mul_le_mul hR1 hC
  have HL1 := Lib.hid hl1
  have HS := Lib.hid hsp
  have HR := Lib.hid (show ∀ i, resB (sub d1 (i * C) C) p = true from fun i => resB_sub (by omega) hr1)
  have HLL := Lib.hid h1.1
  clear hl1 hsp hr1 hp hl
  go_enter Try.func73, Try.ntmps73
  go_wp2_with fail
  have hx0 := (Box.new w #[.int .i64 p, .int .i64 R1, .int .i64 C, .slice A1 n1 k1] 28).alloc (.cells #[.int .i64 p, .int .i64 R2, .int .i64 C, .slice A2 n2 k2] 28)
  have hy0 := Box.new (w.alloc (.cells #[.int .i64 p, .int .i64 R1, .int .i64 C, .slice A1 n1 k1] 28)) #[.int .i64 p, .int .i64 R2, .int .i64 C, .slice A2 n2 k2] 28
  rw [World.size_alloc] at hy0
  go_loopw [5] (fun i wr => ∃ i' : Nat, i' ≤ R1 ∧ i = .int .i64 i' ∧ Below (w.heap.size + 2) ((w.alloc (.cells #[.int .i64 p, .int .i64 R1, .int .i64 C, .slice A1 n1 k1] 28)).alloc (.cells #[.int .i64 p, .int .i64 R2, .int .i64 C, .slice A2 n2 k2] 28)) wr ∧ Hid (∀ j, j < i' → inB R2 C p d2 (sub d1 (j * C) C) = true)) (fun i _ => R1 - (intOf i).toNat)
  case atStart => exact ⟨0, by omega, rfl, Below.refl _ _, fun j h => absurd h (by omega)⟩
  case round =>
    obtain ⟨i, hi, rfl, hb, hA⟩ := hrel
    have hsz := hb.size
    simp only [World.size_alloc] at hsz
    have hx := hx0.below hb (by omega)
    have hy := hy0.below hb (by omega)
    have hq : Below w.heap.size w wr := (by repeat' (first | (with_reducible exact Below.refl _ _) | (with_reducible refine Below.setCell ?_ (by first | exact Nat.le_refl _ | omega | (simp only [World.size_alloc, World.size_setCell, World.heap_drewN]; omega) | (simp; omega)) _) | (with_reducible refine Below.alloc ?_ (by first | exact Nat.le_refl _ | omega | (simp only [World.size_alloc, World.size_setCell, World.heap_drewN]; omega) | (simp; omega)) _) | (with_reducible refine below_drewN ?_ _) | (with_reducible refine Below.drew ?_) | (with_reducible refine Below.trans ?_ (hb.mono (by first | exact Nat.le_refl _ | omega | (simp only [World.size_alloc, World.size_setCell, World.heap_drewN]; omega) | (simp; omega))))))
    have ha1 := h1.below hq hB
    have ha2 := h2.below hq hB
    obtain ⟨x0, x1, x2, x3⟩ := hx.four
    obtain ⟨y0, y1, y2, y3⟩ := hy.four
    by_cases hlt : i < R1
    · obtain ⟨A', k', hd', hp', hrow⟩ := l1Row_any (p := p) (r := R1) (k := k1) hd1 HL1.out hlt (by omega) (by omega) (by omega)
      have hrd := hp' _ _ _ ha1
      clear hp'
      rcases hz : inB R2 C p d2 (sub d1 (i * C) C) with _ | _
      all_goals
        have HZ := Lib.hid hz
        clear hz
        go_wp2_with fail
        clear x0 x1 x2 x3 y0 y1 y2 y3
        go_region_held3 (fun w' => (w'.cell? ⟨w.heap.size, 0, none⟩ = some (.int .i64 p) ∧ w'.cell? ⟨w.heap.size, 1, none⟩ = some (.int .i64 R1) ∧ w'.cell? ⟨w.heap.size, 2, none⟩ = some (.int .i64 C) ∧ w'.cell? ⟨w.heap.size, 3, none⟩ = some (.slice A1 n1 k1)) ∧ w'.cell? ⟨w.heap.size + 1, 0, none⟩ = some (.int .i64 p) ∧ w'.cell? ⟨w.heap.size + 1, 1, none⟩ = some (.int .i64 R2) ∧ w'.cell? ⟨w.heap.size + 1, 2, none⟩ = some (.int .i64 C) ∧ w'.cell? ⟨w.heap.size + 1, 3, none⟩ = some (.slice A2 n2 k2)) (exact ⟨hx.four, hy.four⟩)
          (first
            | (go_at_call 99; refine (hrow _).mono ?_; rintro e wc ⟨rfl, hb2⟩; have hb2 := Below.ofDrew hb2; have hs2 := hb2.size; have hx := hx.step hb2; have hy := hy.step hb2; have ha2 := ha2.below hb2 (by omega); have hrd := hrd.below hb2 (by omega))
            | (go_at_call 76; refine (l1Coo_any (B := B) (Bv := B) p R2 C n2 k2 A2 d2 A' k' (sub d1 (i * C) C) _ ha2 (by omega) hrd (by omega) HS.out (HR.out i)).mono ?_; rintro e w3 ⟨A3, n3, k3, rfl, hd3, hb3, ho3⟩; rw [HZ.out]; have hs3 := hb3.size; have hx := hx.step hb3; have hy := hy.step hb3))
        have hb4 : Below (w.heap.size + 2) wr w3 := (hb2.mono (by omega)).trans (hb3.mono (by omega))
        obtain ⟨x0, x1, x2, x3⟩ := hx.four
        obtain ⟨y0, y1, y2, y3⟩ := hy.four
      · go_wp2
        go_ret
        exact ⟨by rw [wiB_no hlt HZ.out]; rfl, hq.trans (hb4.mono (by omega))⟩
      · go_wp2
        go_roundw
        case rel => exact ⟨i + 1, by omega, by go_num, hb.trans hb4, fun j hj => by
          rcases Nat.lt_or_ge j i with h | h
          · exact hA.out j h
          · obtain rfl : j = i := by omega
            exact HZ.out⟩
        case measure => simp [intOf]; omega
    · obtain rfl : i = R1 := by omega
      go_wp2
      go_ret
      exact ⟨by rw [wiB_yes hA.out]; rfl, hq⟩
/-- IsSubspace's answer -/
def sbB (p r c : Int) (d1 : List Int) (q s t : Int) (d2 : List Int) : Bool := bothB p r c d1 q s t d2 && wiB r.toNat s.toNat c.toNat p d1 d2
theorem sbB_bad {p r c q s t : Int} {d1 d2 : List Int} (h : bothB p r c d1 q s t d2 = false) : sbB p r c d1 q s t d2 = false := by unfold sbB; rw [h]; rfl
theorem sbB_ok {p : Int} {R1 R2 C : Nat} {d1 d2 : List Int} (h : bothB p R1 C d1 p R2 C d2 = true) : sbB p R1 C d1 p R2 C d2 = wiB R1 R2 C p d1 d2 := by unfold sbB; rw [h]; simp
theorem both_sp {p r c q s t : Int} {d1 d2 : List Int} (h : bothB p r c d1 q s t d2 = true) : spB p r c d1 = true ∧ spB q s t d2 = true := by
  unfold bothB at h
  simp only [Bool.and_eq_true] at h
  exact ⟨h.1.1.1, h.1.1.2⟩
theorem sSbs_ok {B : Nat} (p : Int) (R1 R2 C n1 k1 n2 k2 : Nat) (A1 A2 : Option Addr) (d1 d2 : List Int) (w : World) (h1 : RdI w B A1 n1 d1) (hd1 : Hd A1 n1 k1) (h2 : RdI w B A2 n2 d2) (hd2 : Hd A2 n2 k2) (hB : B ≤ w.heap.size) (hok : bothB p R1 C d1 p R2 C d2 = true) :
    Calls Try.prog 42 #[.agg #[.int .i64 p, .int .i64 R1, .int .i64 C, .slice A1 n1 k1], .agg #[.int .i64 p, .int .i64 R2, .int .i64 C, .slice A2 n2 k2]] w (Rv (.bool (wiB R1 R2 C p d1 d2)) w) := by
  obtain ⟨s1, s2⟩ := both_sp hok
  obtain ⟨-, hR1, -, hl1, hr1, -, -⟩ := space_ok s1
  have KB := Lib.hid hok
  have HS2 := Lib.hid s2
  have HR1 := Lib.hid hr1
  have L1 := Lib.hid (show n1 = R1 * C by rw [← hl1]; exact h1.1.symm)
  clear hok s1 s2 hr1 hl1
  go_enter Try.func42, Try.ntmps42
  go_wp2_with fail
  refine (l1Both_any p R1 C p R2 C n1 k1 n2 k2 A1 A2 d1 d2 _ (B := B) (by exact h1.below ((by repeat' (first | (with_reducible exact Below.refl _ _) | (with_reducible refine Below.setCell ?_ (by first | exact Nat.le_refl _ | omega | (simp only [World.size_alloc, World.size_setCell, World.heap_drewN]; omega) | (simp; omega)) _) | (with_reducible refine Below.alloc ?_ (by first | exact Nat.le_refl _ | omega | (simp only [World.size_alloc, World.size_setCell, World.heap_drewN]; omega) | (simp; omega)) _) | (with_reducible refine below_drewN ?_ _) | (with_reducible refine Below.drew ?_))) : Below w.heap.size w _) hB) hd1 (by exact h2.below ((by repeat' (first | (with_reducible exact Below.refl _ _) | (with_reducible refine Below.setCell ?_ (by first | exact Nat.le_refl _ | omega | (simp only [World.size_alloc, World.size_setCell, World.heap_drewN]; omega) | (simp; omega)) _) | (with_reducible refine Below.alloc ?_ (by first | exact Nat.le_refl _ | omega | (simp only [World.size_alloc, World.size_setCell, World.heap_drewN]; omega) | (simp; omega)) _) | (with_reducible refine below_drewN ?_ _) | (with_reducible refine Below.drew ?_))) : Below w.heap.size w _) hB) hd2 (by first | exact Nat.le_refl _ | omega | (simp only [World.size_alloc, World.size_setCell, World.heap_drewN]; omega) | (simp; omega))).mono ?_
  rintro e w1 ⟨rfl, hb1⟩
  rw [KB.out]
  have hx := ((Box.new w _ _).alloc _).below hb1 (by simp; omega)
  have hy := (Box.new (w.alloc _) _ _).below hb1 (by simp)
  rw [World.size_alloc] at hy
  have hs1 := hb1.size
  simp only [World.size_alloc] at hs1
  have hq1 : Below w.heap.size w w1 := (by repeat' (first | (with_reducible exact Below.refl _ _) | (with_reducible refine Below.setCell ?_ (by first | exact Nat.le_refl _ | omega | (simp only [World.size_alloc, World.size_setCell, World.heap_drewN]; omega) | (simp; omega)) _) | (with_reducible refine Below.alloc ?_ (by first | exact Nat.le_refl _ | omega | (simp only [World.size_alloc, World.size_setCell, World.heap_drewN]; omega) | (simp; omega)) _) | (with_reducible refine below_drewN ?_ _) | (with_reducible refine Below.drew ?_) | (with_reducible refine Below.trans ?_ (hb1.mono (by first | exact Nat.le_refl _ | omega | (simp only [World.size_alloc, World.size_setCell, World.heap_drewN]; omega) | (simp; omega))))))
  have ha1 := h1.below hq1 hB
  have ha2 := h2.below hq1 hB
  clear hb1
  obtain ⟨x0, x1, x2, x3⟩ := hx.four
  obtain ⟨y0, y1, y2, y3⟩ := hy.four
  go_wp2_with fail
  refine (l1Within_any p R1 R2 C n1 k1 n2 k2 A1 A2 d1 d2 _ (B := B) ha1 hd1 ha2 (by omega) L1.out (by omega) HR1.out HS2.out).mono ?_
  rintro e w2 ⟨rfl, hb2⟩
  go_wp2
  go_ret
  exact ⟨rfl, (by repeat' (first | (with_reducible exact Below.refl _ _) | (with_reducible refine Below.setCell ?_ (by first | exact Nat.le_refl _ | omega | (simp only [World.size_alloc, World.size_setCell, World.heap_drewN]; omega) | (simp; omega)) _) | (with_reducible refine Below.alloc ?_ (by first | exact Nat.le_refl _ | omega | (simp only [World.size_alloc, World.size_setCell, World.heap_drewN]; omega) | (simp; omega)) _) | (with_reducible refine below_drewN ?_ _) | (with_reducible refine Below.drew ?_) | (with_reducible refine Below.trans ?_ (hq1.mono (by first | exact Nat.le_refl _ | omega | (simp only [World.size_alloc, World.size_setCell, World.heap_drewN]; omega) | (simp; omega)))) | (with_reducible refine Below.trans ?_ (hb2.mono (by first | exact Nat.le_refl _ | omega | (simp only [World.size_alloc, World.size_setCell, World.heap_drewN]; omega) | (simp; omega))))))⟩
theorem sSbs_bad {B : Nat} (p r c q s t : Int) (n1 k1 n2 k2 : Nat) (A1 A2 : Option Addr) (d1 d2 : List Int) (w : World) (h1 : RdI w B A1 n1 d1) (hd1 : Hd A1 n1 k1) (h2 : RdI w B A2 n2 d2) (hd2 : Hd A2 n2 k2) (hB : B ≤ w.heap.size) (hok : bothB p r c d1 q s t d2 = false) :
    Calls Try.prog 42 #[.agg #[.int .i64 p, .int .i64 r, .int .i64 c, .slice A1 n1 k1], .agg #[.int .i64 q, .int .i64 s, .int .i64 t, .slice A2 n2 k2]] w (Rv (.bool false) w) := by
  have KB := Lib.hid hok
  clear hok
  go_enter Try.func42, Try.ntmps42
  go_wp2_with fail
  refine (l1Both_any p r c q s t n1 k1 n2 k2 A1 A2 d1 d2 _ (B := B) (by exact h1.below ((by repeat' (first | (with_reducible exact Below.refl _ _) | (with_reducible refine Below.setCell ?_ (by first | exact Nat.le_refl _ | omega | (simp only [World.size_alloc, World.size_setCell, World.heap_drewN]; omega) | (simp; omega)) _) | (with_reducible refine Below.alloc ?_ (by first | exact Nat.le_refl _ | omega | (simp only [World.size_alloc, World.size_setCell, World.heap_drewN]; omega) | (simp; omega)) _) | (with_reducible refine below_drewN ?_ _) | (with_reducible refine Below.drew ?_))) : Below w.heap.size w _) hB) hd1 (by exact h2.below ((by repeat' (first | (with_reducible exact Below.refl _ _) | (with_reducible refine Below.setCell ?_ (by first | exact Nat.le_refl _ | omega | (simp only [World.size_alloc, World.size_setCell, World.heap_drewN]; omega) | (simp; omega)) _) | (with_reducible refine Below.alloc ?_ (by first | exact Nat.le_refl _ | omega | (simp only [World.size_alloc, World.size_setCell, World.heap_drewN]; omega) | (simp; omega)) _) | (with_reducible refine below_drewN ?_ _) | (with_reducible refine Below.drew ?_))) : Below w.heap.size w _) hB) hd2 (by first | exact Nat.le_refl _ | omega | (simp only [World.size_alloc, World.size_setCell, World.heap_drewN]; omega) | (simp; omega))).mono ?_
  rintro e w1 ⟨rfl, hb⟩
  rw [KB.out]
  go_wp2
  go_ret
  exact ⟨rfl, (by repeat' (first | (with_reducible exact Below.refl _ _) | (with_reducible refine Below.setCell ?_ (by first | exact Nat.le_refl _ | omega | (simp only [World.size_alloc, World.size_setCell, World.heap_drewN]; omega) | (simp; omega)) _) | (with_reducible refine Below.alloc ?_ (by first | exact Nat.le_refl _ | omega | (simp only [World.size_alloc, World.size_setCell, World.heap_drewN]; omega) | (simp; omega)) _) | (with_reducible refine below_drewN ?_ _) | (with_reducible refine Below.drew ?_) | (with_reducible refine Below.trans ?_ (hb.mono (by first | exact Nat.le_refl _ | omega | (simp only [World.size_alloc, World.size_setCell, World.heap_drewN]; omega) | (simp; omega))))))⟩
theorem iSbs_ok {B : Nat} (p : Int) (R1 R2 C n1 k1 n2 k2 : Nat) (A1 A2 : Option Addr) (d1 d2 : List Int) (w : World) (h1 : RdI w B A1 n1 d1) (hd1 : Hd A1 n1 k1) (h2 : RdI w B A2 n2 d2) (hd2 : Hd A2 n2 k2) (hB : B ≤ w.heap.size) (hok : bothB p R1 C d1 p R2 C d2 = true) :
    Calls Try.prog 43 #[.agg #[.int .i64 p, .int .i64 R1, .int .i64 C, .slice A1 n1 k1], .agg #[.int .i64 p, .int .i64 R2, .int .i64 C, .slice A2 n2 k2]] w (Rv (.bool (wiB R1 R2 C p d1 d2)) w) := by
  obtain ⟨s1, s2⟩ := both_sp hok
  obtain ⟨hp, hR1, hC, hl1, hr1, -, -⟩ := space_ok s1
  obtain ⟨-, hR2, -, hl2, hr2, -, -⟩ := space_ok s2
  obtain ⟨hp1, hp2⟩ := isP_bd hp
  have HPV := Lib.hid (space_piv s2)
  have K1 := Lib.hid s1
  have K2 := Lib.hid s2
  have HR2 := Lib.hid hr2
  have HRS := Lib.hid (show ∀ i, resB (sub d1 (i * C) C) p = true from fun i => resB_sub (by omega) hr1)
  have hn1 : n1 ≤ 1600 := by rw [show n1 = R1 * C by rw [← hl1]; exact h1.1.symm]; exact Nat.mul_le_mul hR1 hC
  have hn2 : n2 ≤ 1600 := by rw [show n2 = R2 * C by rw [← hl2]; exact h2.1.symm]; exact Nat.mul_le_mul hR2 hC
  have HL1 := Lib.hid hl1
  have L1 := Lib.hid (show n1 = R1 * C by rw [← hl1]; exact h1.1.symm)
  have L2 := Lib.hid (show n2 = R2 * C by rw [← hl2]; exact h2.1.symm)
  clear hok s1 s2 hr1 hl1 hr2 hl2 hp
  go_enter Try.func43, Try.ntmps43
  go_wp2_with fail
  refine (iSp_any p R1 C n1 k1 A1 d1 _ (B := B) (by exact h1.below ((by repeat' (first | (with_reducible exact Below.refl _ _) | (with_reducible refine Below.setCell ?_ (by first | exact Nat.le_refl _ | omega | (simp only [World.size_alloc, World.size_setCell, World.heap_drewN]; omega) | (simp; omega)) _) | (with_reducible refine Below.alloc ?_ (by first | exact Nat.le_refl _ | omega | (simp only [World.size_alloc, World.size_setCell, World.heap_drewN]; omega) | (simp; omega)) _) | (with_reducible refine below_drewN ?_ _) | (with_reducible refine Below.drew ?_))) : Below w.heap.size w _) hB) hd1 (by first | exact Nat.le_refl _ | omega | (simp only [World.size_alloc, World.size_setCell, World.heap_drewN]; omega) | (simp; omega))).mono ?_
  rintro e w1 ⟨rfl, hb1⟩
  rw [K1.out]
  have hx := ((Box.new w _ _).alloc _).below hb1 (by simp; omega)
  have hy := (Box.new (w.alloc _) _ _).below hb1 (by simp)
  rw [World.size_alloc] at hy
  have hs1 := hb1.size
  simp only [World.size_alloc] at hs1
  have hq := ((by repeat' (first | (with_reducible exact Below.refl _ _) | (with_reducible refine Below.setCell ?_ (by first | exact Nat.le_refl _ | omega | (simp only [World.size_alloc, World.size_setCell, World.heap_drewN]; omega) | (simp; omega)) _) | (with_reducible refine Below.alloc ?_ (by first | exact Nat.le_refl _ | omega | (simp only [World.size_alloc, World.size_setCell, World.heap_drewN]; omega) | (simp; omega)) _) | (with_reducible refine below_drewN ?_ _) | (with_reducible refine Below.drew ?_) | (with_reducible refine Below.trans ?_ (hb1.mono (by first | exact Nat.le_refl _ | omega | (simp only [World.size_alloc, World.size_setCell, World.heap_drewN]; omega) | (simp; omega)))))) : Below w.heap.size w w1)
  have ha1 := h1.below hq hB
  have ha2 := h2.below hq hB
  clear hb1 h1 h2
  obtain ⟨x0, x1, x2, x3⟩ := hx.four
  obtain ⟨y0, y1, y2, y3⟩ := hy.four
  go_wp2_with fail
  refine (iSp_any p R2 C n2 k2 A2 d2 _ (B := B) ha2 hd2 (by omega)).mono ?_
  rintro e w2 ⟨rfl, hb⟩
  rw [K2.out]
  have hs2 := hb.size
  have hx := hx.below hb (by omega)
  have hy := hy.below hb (by omega)
  have hq := hq.trans (hb.mono (by omega))
  have ha1 := ha1.below hb (by omega)
  have ha2 := ha2.below hb (by omega)
  clear x0 x1 x2 x3 y0 y1 y2 y3 hb
  obtain ⟨x0, x1, x2, x3⟩ := hx.four
  obtain ⟨y0, y1, y2, y3⟩ := hy.four
  go_wp2_with fail
  refine (rowsOf_any p R1 C n1 k1 A1 d1 _ (B := B) ha1 hd1 (by omega) (by omega) (by omega) L1.out (by omega)).mono ?_
  rintro e w3 ⟨A3, n3, k3, rfl, hd3, hb, hs3, hT⟩
  obtain rfl : R1 = n3 := by rw [← hT.len, rowsD_len]
  have hs4 := hb.size
  have hy := hy.below hb (by omega)
  have hq := hq.trans (hb.mono (by omega))
  have ha2 := ha2.below hb (by omega)
  have hT := hT.rd
  clear x0 x1 x2 x3 y0 y1 y2 y3 hb ha1 hx
  go_wp2_with fail
  go_loopw [32] (fun i wr => ∃ i' : Nat, i' ≤ R1 ∧ i = .int .i64 i' ∧ Below w3.heap.size w3 wr ∧ Hid (∀ j, j < i' → inB R2 C p d2 (sub d1 (j * C) C) = true)) (fun i _ => R1 - (intOf i).toNat)
  case atStart => exact ⟨0, by omega, rfl, Below.refl _ _, fun j h => absurd h (by omega)⟩
  case round =>
    obtain ⟨i, hi, rfl, hb, hA⟩ := hrel
    have hsz := hb.size
    have hy := hy.below hb (by omega)
    have hq := hq.trans (hb.mono (by omega))
    have ha2 := ha2.below hb (by omega)
    have hT := hT.below hb (Nat.le_refl _)
    by_cases hlt : i < R1
    · obtain ⟨bT, oT, rfl, hbT, hcT⟩ := hT.tbl (by omega)
      have hci := hcT i hlt
      unfold slv at hci
      obtain ⟨hr, hdd⟩ := hT.rows i hlt
      rw [rowsD_row hlt] at hr
      obtain ⟨y0, y1, y2, y3⟩ := hy.four
      have hrl : (hdr hs3 i).2.1 = C := by
        rw [← hr.1]
        exact sub_len (by rw [HL1.out]; exact (row_bd (C := C) hlt).2.2.2.2.2)
      rw [hrl] at hr hdd hci
      clear hcT
      rcases hz : inB R2 C p d2 (sub d1 (i * C) C) with _ | _
      all_goals
        have HZ := Lib.hid hz
        have HZ2 : Hid (zeroB (rby C d2 p (pg (spv R2 C p d2)) (sub d1 (i * C) C) R2) = _) := Lib.hid hz
        clear hz
        go_wp2_with fail
        refine (reduceBy_any (B := w3.heap.size) p R2 C n2 k2 _ A2 _ d2 (sub d1 (i * C) C) (pg (spv R2 C p d2)) _ (ha2.up (by omega)) hd2 hr hdd (by omega) (by omega) (by omega) L2.out hp1 hp2 HR2.out (HRS.out i) HPV.out).mono ?_
        rintro e w4 ⟨A4, n4, c4, rfl, hd4, hb4, ho4⟩
        have hs5 := hb4.size
        clear y0 y1 y2 y3 hci
        go_wp2_with fail
        refine (isZero_any _ _ _ _ _ ho4.rd).mono ?_
        rintro e w5 hqt
        obtain ⟨rfl, hb5⟩ := hqt.rv
        rw [HZ2.out]
        have hs6 := hb5.size
        have hb6 : Below w3.heap.size wr w5 := (hb4.mono (by omega)).trans (hb5.mono (by omega))
      · go_wp2
        go_ret
        exact ⟨by rw [wiB_no hlt HZ.out]; rfl, hq.trans (hb6.mono (by omega))⟩
      · go_wp2
        go_roundw
        case rel => exact ⟨i + 1, by omega, by go_num, hb.trans hb6, fun j hj => by
          rcases Nat.lt_or_ge j i with h | h
          · exact hA.out j h
          · obtain rfl : j = i := by omega
            exact HZ.out⟩
        case measure => simp [intOf]; omega
    · obtain rfl : i = R1 := by omega
      go_wp2
      go_ret
      exact ⟨by rw [wiB_yes hA.out]; rfl, hq⟩
theorem iSbs_bad {B : Nat} (p r c q s t : Int) (n1 k1 n2 k2 : Nat) (A1 A2 : Option Addr) (d1 d2 : List Int) (w : World) (h1 : RdI w B A1 n1 d1) (hd1 : Hd A1 n1 k1) (h2 : RdI w B A2 n2 d2) (hd2 : Hd A2 n2 k2) (hB : B ≤ w.heap.size) (hbad : bothB p r c d1 q s t d2 = false) :
    Calls Try.prog 43 #[.agg #[.int .i64 p, .int .i64 r, .int .i64 c, .slice A1 n1 k1], .agg #[.int .i64 q, .int .i64 s, .int .i64 t, .slice A2 n2 k2]] w (Rv (.bool false) w) := by
  rcases both_cases p r c d1 q s t d2 with ⟨K1, KB⟩ | ⟨K1, K2, KB⟩ | ⟨K1, K2, e3, e3', KB⟩ | ⟨K1, K2, e3, e3', e4, e4', KB⟩ | ⟨K1, K2, e3, e3', e4, e4', KB⟩
  case inr.inr.inr.inr => have := KB.out; rw [hbad] at this; cases this
  all_goals clear KB hbad
  · go_enter Try.func43, Try.ntmps43
    go_wp2_with fail
    refine (iSp_any p r c n1 k1 A1 d1 _ (B := B) (by exact h1.below ((by repeat' (first | (with_reducible exact Below.refl _ _) | (with_reducible refine Below.setCell ?_ (by first | exact Nat.le_refl _ | omega | (simp only [World.size_alloc, World.size_setCell, World.heap_drewN]; omega) | (simp; omega)) _) | (with_reducible refine Below.alloc ?_ (by first | exact Nat.le_refl _ | omega | (simp only [World.size_alloc, World.size_setCell, World.heap_drewN]; omega) | (simp; omega)) _) | (with_reducible refine below_drewN ?_ _) | (with_reducible refine Below.drew ?_))) : Below w.heap.size w _) hB) hd1 (by first | exact Nat.le_refl _ | omega | (simp only [World.size_alloc, World.size_setCell, World.heap_drewN]; omega) | (simp; omega))).mono ?_
    rintro e w1 ⟨rfl, hb⟩
    rw [K1.out]
    go_wp2
    go_ret
    exact ⟨rfl, (by repeat' (first | (with_reducible exact Below.refl _ _) | (with_reducible refine Below.setCell ?_ (by first | exact Nat.le_refl _ | omega | (simp only [World.size_alloc, World.size_setCell, World.heap_drewN]; omega) | (simp; omega)) _) | (with_reducible refine Below.alloc ?_ (by first | exact Nat.le_refl _ | omega | (simp only [World.size_alloc, World.size_setCell, World.heap_drewN]; omega) | (simp; omega)) _) | (with_reducible refine below_drewN ?_ _) | (with_reducible refine Below.drew ?_) | (with_reducible refine Below.trans ?_ (hb.mono (by first | exact Nat.le_refl _ | omega | (simp only [World.size_alloc, World.size_setCell, World.heap_drewN]; omega) | (simp; omega))))))⟩
  all_goals
    go_enter Try.func43, Try.ntmps43
    go_wp2_with fail
    refine (iSp_any p r c n1 k1 A1 d1 _ (B := B) (by exact h1.below ((by repeat' (first | (with_reducible exact Below.refl _ _) | (with_reducible refine Below.setCell ?_ (by first | exact Nat.le_refl _ | omega | (simp only [World.size_alloc, World.size_setCell, World.heap_drewN]; omega) | (simp; omega)) _) | (with_reducible refine Below.alloc ?_ (by first | exact Nat.le_refl _ | omega | (simp only [World.size_alloc, World.size_setCell, World.heap_drewN]; omega) | (simp; omega)) _) | (with_reducible refine below_drewN ?_ _) | (with_reducible refine Below.drew ?_))) : Below w.heap.size w _) hB) hd1 (by first | exact Nat.le_refl _ | omega | (simp only [World.size_alloc, World.size_setCell, World.heap_drewN]; omega) | (simp; omega))).mono ?_
    rintro e w1 ⟨rfl, hb1⟩
    rw [K1.out]
    have hx := ((Box.new w _ _).alloc _).below hb1 (by simp; omega)
    have hy := (Box.new (w.alloc _) _ _).below hb1 (by simp)
    rw [World.size_alloc] at hy
    have hs1 := hb1.size
    simp only [World.size_alloc] at hs1
    have hq1 : Below w.heap.size w w1 := (by repeat' (first | (with_reducible exact Below.refl _ _) | (with_reducible refine Below.setCell ?_ (by first | exact Nat.le_refl _ | omega | (simp only [World.size_alloc, World.size_setCell, World.heap_drewN]; omega) | (simp; omega)) _) | (with_reducible refine Below.alloc ?_ (by first | exact Nat.le_refl _ | omega | (simp only [World.size_alloc, World.size_setCell, World.heap_drewN]; omega) | (simp; omega)) _) | (with_reducible refine below_drewN ?_ _) | (with_reducible refine Below.drew ?_) | (with_reducible refine Below.trans ?_ (hb1.mono (by first | exact Nat.le_refl _ | omega | (simp only [World.size_alloc, World.size_setCell, World.heap_drewN]; omega) | (simp; omega))))))
    have ha2 := h2.below hq1 hB
    clear hb1
    obtain ⟨x0, x1, x2, x3⟩ := hx.four
    obtain ⟨y0, y1, y2, y3⟩ := hy.four
    go_wp2_with fail
    refine (iSp_any q s t n2 k2 A2 d2 _ (B := B) ha2 hd2 (by omega)).mono ?_
    rintro e w2 ⟨rfl, hb⟩
    rw [K2.out]
    have hs2 := hb.size
    have hx := hx.below hb (by omega)
    have hy := hy.below hb (by omega)
    clear x0 x1 x2 x3 y0 y1 y2 y3
    obtain ⟨x0, x1, x2, x3⟩ := hx.four
    obtain ⟨y0, y1, y2, y3⟩ := hy.four
    go_wp2
    go_ret
    exact ⟨rfl, (by repeat' (first | (with_reducible exact Below.refl _ _) | (with_reducible refine Below.setCell ?_ (by first | exact Nat.le_refl _ | omega | (simp only [World.size_alloc, World.size_setCell, World.heap_drewN]; omega) | (simp; omega)) _) | (with_reducible refine Below.alloc ?_ (by first | exact Nat.le_refl _ | omega | (simp only [World.size_alloc, World.size_setCell, World.heap_drewN]; omega) | (simp; omega)) _) | (with_reducible refine below_drewN ?_ _) | (with_reducible refine Below.drew ?_) | (with_reducible refine Below.trans ?_ (hq1.mono (by first | exact Nat.le_refl _ | omega | (simp only [World.size_alloc, World.size_setCell, World.heap_drewN]; omega) | (simp; omega)))) | (with_reducible refine Below.trans ?_ (hb.mono (by first | exact Nat.le_refl _ | omega | (simp only [World.size_alloc, World.size_setCell, World.heap_drewN]; omega) | (simp; omega))))))⟩
end Go.Proofs.Ytefgklgacojljaa
