/- IsUnimodular of both packages. No condition but what each theorem names. -/
import Derived.Test.YtiggomjohikapaaAdjW
import Derived.Test.YtiggomjohikapaaTraceW
import Derived.Test.YtiggomjohikapaaTrace2W
namespace Go.Proofs.Ytiggomjohikapaa
set_option linter.unusedVariables false
set_option linter.unusedSimpArgs false
set_option maxRecDepth 20000
open Go.RowKit Go.Sort
set_option maxHeartbeats 4000000
theorem okM_tab {p : Int} {R C : Nat} {f : Nat → Nat → Int} (hp : isP p = true) (hR : R ≤ 40) (hC : C ≤ 40) (hf : ∀ i j, 0 ≤ f i j ∧ f i j < p) : okM p R C (tab R C f) = true := by
  unfold okM
  have h1 : resB (tab R C f) p = true := resB_tab fun i j _ _ => hf i j
  have h2 : (((tab R C f).length : Int) == (R : Int) * C) = true := by rw [tab_len, beq_iff_eq, Int.natCast_mul]
  rw [hp, h1, h2]
  simp; omega
/-- the matrix of the bracket with basis element i -/
def adT (n : Nat) (p : Int) (d : List Int) (i : Nat) : List Int := tab n n (adF n p d (unitV n i))
theorem adT_res {n : Nat} {p : Int} (hp : 1 ≤ p) (d : List Int) (i : Nat) : resB (adT n p d i) p = true := resB_tab fun a b _ _ => adF_bd hp d _ a b
theorem adT_len (n : Nat) (p : Int) (d : List Int) (i : Nat) : (adT n p d i).length = n * n := tab_len _ _ _
theorem unitV_res {n i : Nat} {p : Int} (hp : 2 ≤ p) (hi : i < n) : resB (unitV n i) p = true := resB_true fun k _ => by
  rw [unitV_get hi]; split <;> omega
def unT (n : Nat) (p : Int) (d : List Int) (i : Nat) : Int := trS (adT n p d i) n n % p
def uniB (n : Nat) (p : Int) (d : List Int) : Bool := decide (∀ i, i < n → unT n p d i = 0)
theorem uni_no {n : Nat} {p : Int} {d : List Int} {i : Nat} (hi : i < n) (h : unT n p d i ≠ 0) : uniB n p d = false := by
  unfold uniB; rw [decide_eq_false_iff_not]; exact fun hA => h (hA i hi)
theorem uni_yes {n : Nat} {p : Int} {d : List Int} (h : ∀ i, i < n → unT n p d i = 0) : uniB n p d = true := by
  unfold uniB; rw [decide_eq_true_eq]; exact h
theorem sUni_no {B : Nat} (p q : Int) (n k : Nat) (A : Option Addr) (d : List Int) (w : World) (h : RdI w B A n d) (hd : Hd A n k) (hB : B ≤ w.heap.size) (hok : okA p q d = false) :
    Calls Try.prog 27 #[.agg #[.int .i64 p, .int .i64 q, .slice A n k]] w (Rv (.bool false) w) := by
  have HK := Lib.hid hok
  clear hok
  go_enter Try.func27, Try.ntmps27
  go_wp2_with fail
  refine (sAlg_any p q n k A d _ (B := B) (by exact h.below ((by repeat' (first | (with_reducible exact Below.refl _ _) | (with_reducible refine Below.setCell ?_ (by first | exact Nat.le_refl _ | omega | (simp only [World.size_alloc, World.size_setCell, World.heap_drewN]; omega) | (simp; omega)) _) | (with_reducible refine Below.alloc ?_ (by first | exact Nat.le_refl _ | omega | (simp only [World.size_alloc, World.size_setCell, World.heap_drewN]; omega) | (simp; omega)) _) | (with_reducible refine below_drewN ?_ _) | (with_reducible refine Below.drew ?_))) : Below w.heap.size w _) hB) hd (by first | exact Nat.le_refl _ | omega | (simp only [World.size_alloc, World.size_setCell, World.heap_drewN]; omega) | (simp; omega))).mono ?_
  rintro e w1 ⟨rfl, hb1⟩
  have hx1 : Box w1 (w.heap.size) #[.int .i64 p, .int .i64 q, .slice A n k] := by
    have hq := (Box.new w #[.int .i64 p, .int .i64 q, .slice A n k] 27).below hb1 (by first | omega | (simp only [World.size_alloc]; omega) | (simp; omega))
    (try simp only [World.size_alloc] at hq)
    exact hq
  have hq1 : Below w.heap.size w w1 := (by repeat' (first | (with_reducible exact Below.refl _ _) | (with_reducible refine Below.setCell ?_ (by first | exact Nat.le_refl _ | omega | (simp only [World.size_alloc, World.size_setCell, World.heap_drewN]; omega) | (simp; omega)) _) | (with_reducible refine Below.alloc ?_ (by first | exact Nat.le_refl _ | omega | (simp only [World.size_alloc, World.size_setCell, World.heap_drewN]; omega) | (simp; omega)) _) | (with_reducible refine below_drewN ?_ _) | (with_reducible refine Below.drew ?_) | (with_reducible refine Below.trans ?_ (hb1.mono (by first | exact Nat.le_refl _ | omega | (simp only [World.size_alloc, World.size_setCell, World.heap_drewN]; omega) | (simp; omega))))))
  have hs1 := hb1.size
  simp only [World.size_alloc] at hs1
  clear hb1
  rw [HK.out]
  go_wp2
  go_ret
  exact ⟨rfl, hq1⟩
theorem iUni_no {B : Nat} (p q : Int) (n k : Nat) (A : Option Addr) (d : List Int) (w : World) (h : RdI w B A n d) (hd : Hd A n k) (hB : B ≤ w.heap.size) (hok : okA p q d = false) :
    Calls Try.prog 28 #[.agg #[.int .i64 p, .int .i64 q, .slice A n k]] w (Rv (.bool false) w) := by
  have HK := Lib.hid hok
  clear hok
  go_enter Try.func28, Try.ntmps28
  go_wp2_with fail
  refine (iAlg_any p q n k A d _ (B := B) (by exact h.below ((by repeat' (first | (with_reducible exact Below.refl _ _) | (with_reducible refine Below.setCell ?_ (by first | exact Nat.le_refl _ | omega | (simp only [World.size_alloc, World.size_setCell, World.heap_drewN]; omega) | (simp; omega)) _) | (with_reducible refine Below.alloc ?_ (by first | exact Nat.le_refl _ | omega | (simp only [World.size_alloc, World.size_setCell, World.heap_drewN]; omega) | (simp; omega)) _) | (with_reducible refine below_drewN ?_ _) | (with_reducible refine Below.drew ?_))) : Below w.heap.size w _) hB) hd (by first | exact Nat.le_refl _ | omega | (simp only [World.size_alloc, World.size_setCell, World.heap_drewN]; omega) | (simp; omega))).mono ?_
  rintro e w1 ⟨rfl, hb1⟩
  have hx1 : Box w1 (w.heap.size) #[.int .i64 p, .int .i64 q, .slice A n k] := by
    have hq := (Box.new w #[.int .i64 p, .int .i64 q, .slice A n k] 27).below hb1 (by first | omega | (simp only [World.size_alloc]; omega) | (simp; omega))
    (try simp only [World.size_alloc] at hq)
    exact hq
  have hq1 : Below w.heap.size w w1 := (by repeat' (first | (with_reducible exact Below.refl _ _) | (with_reducible refine Below.setCell ?_ (by first | exact Nat.le_refl _ | omega | (simp only [World.size_alloc, World.size_setCell, World.heap_drewN]; omega) | (simp; omega)) _) | (with_reducible refine Below.alloc ?_ (by first | exact Nat.le_refl _ | omega | (simp only [World.size_alloc, World.size_setCell, World.heap_drewN]; omega) | (simp; omega)) _) | (with_reducible refine below_drewN ?_ _) | (with_reducible refine Below.drew ?_) | (with_reducible refine Below.trans ?_ (hb1.mono (by first | exact Nat.le_refl _ | omega | (simp only [World.size_alloc, World.size_setCell, World.heap_drewN]; omega) | (simp; omega))))))
  have hs1 := hb1.size
  simp only [World.size_alloc] at hs1
  clear hb1
  rw [HK.out]
  go_wp2
  go_ret
  exact ⟨rfl, hq1⟩
theorem traceP_ok {p : Int} {n : Nat} {d : List Int} (h : okM p n n d = true) : traceP p n n d = (trS d n n % p, true) := by
  unfold traceP; rw [if_pos ⟨h, rfl⟩]; simp
set_option maxRecDepth 100000 in
theorem iUni_ok {B : Nat} (p : Int) (N n k : Nat) (A : Option Addr) (d : List Int) (w : World) (h : RdI w B A n d) (hd : Hd A n k) (hB : B ≤ w.heap.size) (hok : okA p N d = true) :
    Calls Try.prog 28 #[.agg #[.int .i64 p, .int .i64 N, .slice A n k]] w (Rv (.bool (uniB N p d)) w) := by
  obtain ⟨k1, k2, k3, k4, k5, k6, k7⟩ := okA_bd hok
  obtain ⟨hp1, hp2⟩ := isP_bd k1
  have hN : N ≤ 28 := by omega
  rw [Int.toNat_natCast] at k4
  have HL := Lib.hid (show n = N * N * N by rw [← k4]; exact h.1.symm)
  have HR := Lib.hid k5
  have HP := Lib.hid k1
  have HK := Lib.hid hok
  clear hok k1 k2 k3 k4 k5 k6 k7
  go_enter Try.func28, Try.ntmps28
  go_wp2_with fail
  refine (iAlg_any p N n k A d _ (B := B) (by exact h.below ((by repeat' (first | (with_reducible exact Below.refl _ _) | (with_reducible refine Below.setCell ?_ (by first | exact Nat.le_refl _ | omega | (simp only [World.size_alloc, World.size_setCell, World.heap_drewN]; omega) | (simp; omega)) _) | (with_reducible refine Below.alloc ?_ (by first | exact Nat.le_refl _ | omega | (simp only [World.size_alloc, World.size_setCell, World.heap_drewN]; omega) | (simp; omega)) _) | (with_reducible refine below_drewN ?_ _) | (with_reducible refine Below.drew ?_))) : Below w.heap.size w _) hB) hd (by first | exact Nat.le_refl _ | omega | (simp only [World.size_alloc, World.size_setCell, World.heap_drewN]; omega) | (simp; omega))).mono ?_
  rintro e w1 ⟨rfl, hb1⟩
  have hx1 : Box w1 (w.heap.size) #[.int .i64 p, .int .i64 N, .slice A n k] := by
    have hq := (Box.new w #[.int .i64 p, .int .i64 N, .slice A n k] 27).below hb1 (by first | omega | (simp only [World.size_alloc]; omega) | (simp; omega))
    (try simp only [World.size_alloc] at hq)
    exact hq
  have hq1 : Below w.heap.size w w1 := (by repeat' (first | (with_reducible exact Below.refl _ _) | (with_reducible refine Below.setCell ?_ (by first | exact Nat.le_refl _ | omega | (simp only [World.size_alloc, World.size_setCell, World.heap_drewN]; omega) | (simp; omega)) _) | (with_reducible refine Below.alloc ?_ (by first | exact Nat.le_refl _ | omega | (simp only [World.size_alloc, World.size_setCell, World.heap_drewN]; omega) | (simp; omega)) _) | (with_reducible refine below_drewN ?_ _) | (with_reducible refine Below.drew ?_) | (with_reducible refine Below.trans ?_ (hb1.mono (by first | exact Nat.le_refl _ | omega | (simp only [World.size_alloc, World.size_setCell, World.heap_drewN]; omega) | (simp; omega))))))
  have hs1 := hb1.size
  simp only [World.size_alloc] at hs1
  have ha1 := h.below hq1 hB
  clear hb1
  rw [HK.out]
  obtain ⟨x0, x1, x2⟩ := hx1.three
  go_wp2_with (go_at_call 67; refine (newLie_any p N A n k _).mono ?_; rintro e w2 ⟨rfl, hb2⟩; clear x0 x1 x2; have hs2 := hb2.size; have hx := (hx1.below hb2 (by omega)).alloc (.cells #[.int .i64 p, .int .i64 N, .slice A n k] 63); have hy := Box.new w2 #[.int .i64 p, .int .i64 N, .slice A n k] 63; have ha := (ha1.below hb2 (by omega)).alloc (by omega) (.cells #[.int .i64 p, .int .i64 N, .slice A n k] 63); have hq := hq1.trans (hb2.mono (by omega)); obtain ⟨x0, x1, x2⟩ := hx.three)
  clear x0 x1 x2 hx1 ha1 hb2
  obtain ⟨hx0, hy0, ha0⟩ : _ ∧ _ ∧ _ := ⟨hx, hy, ha⟩
  clear hx hy ha
  go_loopw [14] (fun i wr => ∃ i' : Nat, i' ≤ N ∧ i = .int .i64 i' ∧ Below (w2.heap.size + 1) (w2.alloc (.cells #[.int .i64 p, .int .i64 N, .slice A n k] 63)) wr ∧ Hid (∀ a, a < i' → unT N p d a = 0)) (fun i _ => N - (intOf i).toNat)
  case atStart => exact ⟨0, by omega, rfl, Below.refl _ _, fun a h => absurd h (by omega)⟩
  case round =>
    obtain ⟨i, hi, rfl, hb, hA⟩ := hrel
    by_cases hlt : i < N
    · have hsz := hb.size
      rw [World.size_alloc] at hsz
      have hx := hx0.below hb (by omega)
      have hy := hy0.below hb (by omega)
      have ha := ha0.below hb (by omega)
      have HU := Lib.hid (unitV_res (p := p) hp1 hlt)
      have HT := Lib.hid (show traceP p N N (tab N N (adF N p d (unitV N i))) = (unT N p d i, true) from traceP_ok (okM_tab HP.out (by omega) (by omega) (adF_bd (by omega) d _)))
      go_wp2_with fail
      go_region_held3 (fun w' => (w'.cell? ⟨w.heap.size, 0, none⟩ = some (.int .i64 p) ∧ w'.cell? ⟨w.heap.size, 1, none⟩ = some (.int .i64 N) ∧ w'.cell? ⟨w.heap.size, 2, none⟩ = some (.slice A n k)) ∧ (w'.cell? ⟨w2.heap.size, 0, none⟩ = some (.int .i64 p) ∧ w'.cell? ⟨w2.heap.size, 1, none⟩ = some (.int .i64 N) ∧ w'.cell? ⟨w2.heap.size, 2, none⟩ = some (.slice A n k))) (exact ⟨hx.three, hy.three⟩)
        (first
          | (go_at_call 84; refine (unit_any N i _ (by omega) hlt).mono ?_; rintro e w3 ⟨Ay, ny, cy, rfl, hdy, hb3, hoy⟩; have hb3 := (by first | with_reducible exact bel_ofDrew hb3 | exact hb3 : Below wr.heap.size wr w3); have hs3 := hb3.size; have hx : Box w3 w.heap.size _ := hx.below hb3 (by omega); have hy : Box w3 w2.heap.size _ := hy.below hb3 (by omega); obtain rfl : N = ny := (by have := hoy.1; rw [unitV_len] at this; exact this))
          | (go_at_call 83; refine (adjoint_any (B := w3.heap.size) p N n k cy A Ay d (unitV N i) _ ((ha.below hb3 (by omega)).up (by omega)) hd hoy.rd (Nat.le_refl _) HL.out (by omega) hp1 hp2 HR.out HU.out).mono ?_; rintro e w4 ⟨A4, n4, c4, rfl, hd4, hb4, ho4⟩; have hs4 := hb4.size; have hb34 : Below wr.heap.size wr w4 := hb3.trans (hb4.mono hs3); have hx : Box w4 w.heap.size _ := hx.below hb4 (by omega); have hy : Box w4 w2.heap.size _ := hy.below hb4 (by omega))
          | (go_at_call 82; refine (iTrace_any p N N A4 n4 c4 _ _ (B := w4.heap.size) ho4.rd (Nat.le_refl _)).mono ?_; rw [HT.out]; rintro e w5 ⟨rfl, hb5⟩; have hs5 := hb5.size; have hb35 : Below wr.heap.size wr w5 := hb34.trans (hb5.mono (by omega)); have hx : Box w5 w.heap.size _ := hx.below hb5 (by omega); have hy : Box w5 w2.heap.size _ := hy.below hb5 (by omega)))
      clear hb3 hb4 hb34 hb5 hoy ho4 HU HT hx hy
      rcases Decidable.em (unT N p d i = 0) with hz | hz
      · have hz' : (unT N p d i != 0) = false := by simpa using hz
        have HZ := Lib.hid hz
        clear hz
        go_wp2
        go_roundw
        case rel => exact ⟨i + 1, by omega, by go_num, hb.trans (hb35.mono (by omega)), fun a h1 => by
          rcases Nat.lt_or_ge a i with h | h
          · exact hA.out a h
          · obtain rfl : a = i := by omega
            exact HZ.out⟩
        case measure => simp [intOf]; omega
      · have hz' : (unT N p d i != 0) = true := by simpa using hz
        have HZ := Lib.hid hz
        clear hz
        go_wp2
        go_ret
        exact ⟨by rw [uni_no hlt HZ.out]; rfl, hq.trans (((by repeat' (first | (with_reducible exact Below.refl _ _) | (with_reducible refine Below.setCell ?_ (by first | exact Nat.le_refl _ | omega | (simp only [World.size_alloc, World.size_setCell, World.heap_drewN]; omega) | (simp; omega)) _) | (with_reducible refine Below.alloc ?_ (by first | exact Nat.le_refl _ | omega | (simp only [World.size_alloc, World.size_setCell, World.heap_drewN]; omega) | (simp; omega)) _) | (with_reducible refine below_drewN ?_ _) | (with_reducible refine Below.drew ?_) | (with_reducible refine Below.trans ?_ (hb35.mono (by first | exact Nat.le_refl _ | omega | (simp only [World.size_alloc, World.size_setCell, World.heap_drewN]; omega) | (simp; omega)))) | (with_reducible refine Below.trans ?_ (hb.mono (by first | exact Nat.le_refl _ | omega | (simp only [World.size_alloc, World.size_setCell, World.heap_drewN]; omega) | (simp; omega)))))) : Below w2.heap.size w2 _).mono (by omega))⟩
    · obtain rfl : N = i := by omega
      go_wp2
      go_ret
      exact ⟨by rw [uni_yes hA.out]; rfl, hq.trans (((by repeat' (first | (with_reducible exact Below.refl _ _) | (with_reducible refine Below.setCell ?_ (by first | exact Nat.le_refl _ | omega | (simp only [World.size_alloc, World.size_setCell, World.heap_drewN]; omega) | (simp; omega)) _) | (with_reducible refine Below.alloc ?_ (by first | exact Nat.le_refl _ | omega | (simp only [World.size_alloc, World.size_setCell, World.heap_drewN]; omega) | (simp; omega)) _) | (with_reducible refine below_drewN ?_ _) | (with_reducible refine Below.drew ?_) | (with_reducible refine Below.trans ?_ (hb.mono (by first | exact Nat.le_refl _ | omega | (simp only [World.size_alloc, World.size_setCell, World.heap_drewN]; omega) | (simp; omega)))))) : Below w2.heap.size w2 _).mono (by omega))⟩
set_option maxRecDepth 100000 in
theorem sUni_ok {B : Nat} (p : Int) (N n k : Nat) (A : Option Addr) (d : List Int) (w : World) (h : RdI w B A n d) (hd : Hd A n k) (hB : B ≤ w.heap.size) (hok : okA p N d = true) :
    Calls Try.prog 27 #[.agg #[.int .i64 p, .int .i64 N, .slice A n k]] w (Rv (.bool (uniB N p d)) w) := by
  obtain ⟨k1, k2, k3, k4, k5, k6, k7⟩ := okA_bd hok
  obtain ⟨hp1, hp2⟩ := isP_bd k1
  have hN : N ≤ 28 := by omega
  rw [Int.toNat_natCast] at k4
  have HL := Lib.hid (show n = N * N * N by rw [← k4]; exact h.1.symm)
  have HR := Lib.hid k5
  have HP := Lib.hid k1
  have HK := Lib.hid hok
  clear hok k1 k2 k3 k4 k5 k6 k7
  go_enter Try.func27, Try.ntmps27
  go_wp2_with fail
  refine (sAlg_any p N n k A d _ (B := B) (by exact h.below ((by repeat' (first | (with_reducible exact Below.refl _ _) | (with_reducible refine Below.setCell ?_ (by first | exact Nat.le_refl _ | omega | (simp only [World.size_alloc, World.size_setCell, World.heap_drewN]; omega) | (simp; omega)) _) | (with_reducible refine Below.alloc ?_ (by first | exact Nat.le_refl _ | omega | (simp only [World.size_alloc, World.size_setCell, World.heap_drewN]; omega) | (simp; omega)) _) | (with_reducible refine below_drewN ?_ _) | (with_reducible refine Below.drew ?_))) : Below w.heap.size w _) hB) hd (by first | exact Nat.le_refl _ | omega | (simp only [World.size_alloc, World.size_setCell, World.heap_drewN]; omega) | (simp; omega))).mono ?_
  rintro e w1 ⟨rfl, hb1⟩
  have hx0 : Box w1 (w.heap.size) #[.int .i64 p, .int .i64 N, .slice A n k] := by
    have hq := (Box.new w #[.int .i64 p, .int .i64 N, .slice A n k] 27).below hb1 (by first | omega | (simp only [World.size_alloc]; omega) | (simp; omega))
    (try simp only [World.size_alloc] at hq)
    exact hq
  have hq1 : Below w.heap.size w w1 := (by repeat' (first | (with_reducible exact Below.refl _ _) | (with_reducible refine Below.setCell ?_ (by first | exact Nat.le_refl _ | omega | (simp only [World.size_alloc, World.size_setCell, World.heap_drewN]; omega) | (simp; omega)) _) | (with_reducible refine Below.alloc ?_ (by first | exact Nat.le_refl _ | omega | (simp only [World.size_alloc, World.size_setCell, World.heap_drewN]; omega) | (simp; omega)) _) | (with_reducible refine below_drewN ?_ _) | (with_reducible refine Below.drew ?_) | (with_reducible refine Below.trans ?_ (hb1.mono (by first | exact Nat.le_refl _ | omega | (simp only [World.size_alloc, World.size_setCell, World.heap_drewN]; omega) | (simp; omega))))))
  have hs1 := hb1.size
  simp only [World.size_alloc] at hs1
  have ha0 := h.below hq1 hB
  clear hb1
  rw [HK.out]
  go_wp2_with fail
  go_loopw [3] (fun i wr => ∃ i' : Nat, i' ≤ N ∧ i = .int .i64 i' ∧ Below w1.heap.size w1 wr ∧ Hid (∀ a, a < i' → unT N p d a = 0)) (fun i _ => N - (intOf i).toNat)
  case atStart => exact ⟨0, by omega, rfl, Below.refl _ _, fun a h => absurd h (by omega)⟩
  case round =>
    obtain ⟨i, hi, rfl, hb, hA⟩ := hrel
    have hsz := hb.size
    have hx := hx0.below hb (by omega)
    obtain ⟨x0, x1, x2⟩ := hx.three
    by_cases hlt : i < N
    · have ha := ha0.below hb (by omega)
      have HU := Lib.hid (unitV_res (p := p) hp1 hlt)
      have HT := Lib.hid (show trS (tab N N (adF N p d (unitV N i))) N N % p = unT N p d i from rfl)
      have HAR := Lib.hid (adT_res (n := N) (p := p) (by omega) d i)
      rcases Decidable.em (unT N p d i = 0) with hz | hz
      all_goals
        have HZ := Lib.hid hz
        first
          | have hz' : (unT N p d i != 0) = false := by simpa using hz
          | have hz' : (unT N p d i != 0) = true := by simpa using hz
        clear hz
        go_wp2_with fail
        clear x0 x1 x2
        go_region_held3 (fun w' => w'.cell? ⟨w.heap.size, 0, none⟩ = some (.int .i64 p) ∧ w'.cell? ⟨w.heap.size, 1, none⟩ = some (.int .i64 N) ∧ w'.cell? ⟨w.heap.size, 2, none⟩ = some (.slice A n k)) (exact hx.three)
          (first
            | (go_at_call 81; refine (l2Basis_any N i _ (by omega) hlt).mono ?_; rintro e w3 ⟨Ay, ny, cy, rfl, hdy, hb3, hoy⟩; have hb3 := (by first | with_reducible exact bel_ofDrew hb3 | exact hb3 : Below wr.heap.size wr w3); have hs3 := hb3.size; have hx : Box w3 w.heap.size _ := hx.below hb3 (by omega); obtain rfl : N = ny := (by have := hoy.1; rw [unitV_len] at this; exact this))
            | (go_at_call 80; refine (l2Adjoint_any (B := w3.heap.size) p N n k cy A Ay d (unitV N i) _ ((ha.below hb3 (by omega)).up (by omega)) hd hoy.rd (Nat.le_refl _) HL.out (by omega) hp1 hp2 HR.out HU.out).mono ?_; rintro e w4 ⟨A4, n4, c4, rfl, hd4, hb4, ho4⟩; have hs4 := hb4.size; have hb34 : Below wr.heap.size wr w4 := hb3.trans (hb4.mono hs3); have hx : Box w4 w.heap.size _ := hx.below hb4 (by omega); obtain rfl : n4 = N * N := (by have := ho4.1; rw [tab_len] at this; exact this.symm))
            | (go_at_call 79; refine (l1Trace_any p N (N * N) c4 A4 _ _ (B := w4.heap.size) ho4.rd (Nat.le_refl _) (by omega) hp2 (by omega) rfl HAR.out).mono ?_; rw [HT.out]; rintro e w5 ⟨rfl, hb5⟩; have hs5 := hb5.size; have hb35 : Below wr.heap.size wr w5 := hb34.trans (hb5.mono (by omega)); have hx : Box w5 w.heap.size _ := hx.below hb5 (by omega)))
        clear hb3 hb4 hb34 hb5 hoy ho4 HU HT hx HAR
      · go_wp2
        go_roundw
        case rel => exact ⟨i + 1, by omega, by go_num, hb.trans (hb35.mono (by omega)), fun a h1 => by
          rcases Nat.lt_or_ge a i with h | h
          · exact hA.out a h
          · obtain rfl : a = i := by omega
            exact HZ.out⟩
        case measure => simp [intOf]; omega
      · go_wp2
        go_ret
        exact ⟨by rw [uni_no hlt HZ.out]; rfl, (by repeat' (first | (with_reducible exact Below.refl _ _) | (with_reducible refine Below.setCell ?_ (by first | exact Nat.le_refl _ | omega | (simp only [World.size_alloc, World.size_setCell, World.heap_drewN]; omega) | (simp; omega)) _) | (with_reducible refine Below.alloc ?_ (by first | exact Nat.le_refl _ | omega | (simp only [World.size_alloc, World.size_setCell, World.heap_drewN]; omega) | (simp; omega)) _) | (with_reducible refine below_drewN ?_ _) | (with_reducible refine Below.drew ?_) | (with_reducible refine Below.trans ?_ (hb35.mono (by first | exact Nat.le_refl _ | omega | (simp only [World.size_alloc, World.size_setCell, World.heap_drewN]; omega) | (simp; omega)))) | (with_reducible refine Below.trans ?_ (hb.mono (by first | exact Nat.le_refl _ | omega | (simp only [World.size_alloc, World.size_setCell, World.heap_drewN]; omega) | (simp; omega)))) | (with_reducible refine Below.trans ?_ (hq1.mono (by first | exact Nat.le_refl _ | omega | (simp only [World.size_alloc, World.size_setCell, World.heap_drewN]; omega) | (simp; omega))))))⟩
    · obtain rfl : N = i := by omega
      go_wp2
      go_ret
      exact ⟨by rw [uni_yes hA.out]; rfl, (by repeat' (first | (with_reducible exact Below.refl _ _) | (with_reducible refine Below.setCell ?_ (by first | exact Nat.le_refl _ | omega | (simp only [World.size_alloc, World.size_setCell, World.heap_drewN]; omega) | (simp; omega)) _) | (with_reducible refine Below.alloc ?_ (by first | exact Nat.le_refl _ | omega | (simp only [World.size_alloc, World.size_setCell, World.heap_drewN]; omega) | (simp; omega)) _) | (with_reducible refine below_drewN ?_ _) | (with_reducible refine Below.drew ?_) | (with_reducible refine Below.trans ?_ (hb.mono (by first | exact Nat.le_refl _ | omega | (simp only [World.size_alloc, World.size_setCell, World.heap_drewN]; omega) | (simp; omega)))) | (with_reducible refine Below.trans ?_ (hq1.mono (by first | exact Nat.le_refl _ | omega | (simp only [World.size_alloc, World.size_setCell, World.heap_drewN]; omega) | (simp; omega))))))⟩
end Go.Proofs.Ytiggomjohikapaa
