/- InnerDerivations of both packages. No condition but what each theorem names. -/
import Derived.Test.YtiggomjohikapaaUniW
import Derived.Test.YtiggomjohikapaaRowW
import Derived.Test.YtiggomjohikapaaSpanW
namespace Go.Proofs.Ytiggomjohikapaa
set_option linter.unusedVariables false
set_option linter.unusedSimpArgs false
set_option maxRecDepth 20000
open Go.RowKit Go.Sort
set_option maxHeartbeats 4000000
theorem rr_tab (R C : Nat) (p : Int) (f : Tb) :
    rowsD C (tab (rr R p (matF (tab R C f) C) C).rk C (rr R p (matF (tab R C f) C) C).f) (rr R p (matF (tab R C f) C) C).rk = tabR (rr R p f C).rk C (rr R p f C).f := by
  have h := rr_congr (R := R) (C := C) (p := p) (f := matF (tab R C f) C) (g := f) (fun i j hi hj => tab_get f hi hj) C (Nat.le_refl _)
  have hk := (rr_rk R p (matF (tab R C f) C) C).1
  rw [rowsD_tabR (by rw [tab_len]; exact Nat.le_refl _)]
  rw [tabR_congr (f := matF (tab (rr R p (matF (tab R C f) C) C).rk C (rr R p (matF (tab R C f) C) C).f) C) (g := (rr R p f C).f) (fun i j hi hj => by
    rw [show matF (tab (rr R p (matF (tab R C f) C) C).rk C (rr R p (matF (tab R C f) C) C).f) C i j = (rr R p (matF (tab R C f) C) C).f i j from tab_get _ hi hj]
    exact h.2.2.2 i j (by omega) hj)]
  rw [h.1]
def inF (n : Nat) (p : Int) (d : List Int) : Tb := fun i j => gI (adT n p d i) j
theorem inF_res {n : Nat} {p : Int} (hp : 1 ≤ p) (d : List Int) : ResF (inF n p d) p := fun i j => gI_res hp (adT_res hp d i) j
def inL (n : Nat) (p : Int) (d : List Int) (m : Nat) : List (List Int) := (List.range m).map (adT n p d)
theorem inL_succ (n : Nat) (p : Int) (d : List Int) (m : Nat) : inL n p d (m + 1) = inL n p d m ++ [adT n p d m] := by simp [inL, List.range_succ]
theorem inL_FF (n : Nat) (p : Int) (d : List Int) : FF (inL n p d n) n (n * n) (inF n p d) := by
  intro i hi
  have e : row (inL n p d n) i = adT n p d i := by
    rw [row_lt (by simpa [inL] using hi)]; simp [inL]
  rw [e]
  exact ⟨adT_len _ _ _ _, fun j _ => rfl⟩
theorem inL_tab (n : Nat) (p : Int) (d : List Int) : inL n p d n = tabR n (n * n) (inF n p d) := (inL_FF n p d).eq_tabR (by simp [inL])
def inS (n : Nat) (p : Int) (d : List Int) : RS := rr n p (inF n p d) (n * n)
theorem run_fldM (x y z : Int) (A : Option Addr) (n k : Nat) (w : World) : (Instr.field 36 (.agg #[.int .i64 x, .int .i64 y, .int .i64 z, .slice A n k]) 3).run Try.prog w = .ok (.slice A n k) w := by kernel_rfl
theorem sInn_no {B : Nat} (p q : Int) (n k : Nat) (A : Option Addr) (d : List Int) (w : World) (h : RdI w B A n d) (hd : Hd A n k) (hB : B ≤ w.heap.size) (hok : okA p q d = false) :
    Calls Try.prog 47 #[.agg #[.int .i64 p, .int .i64 q, .slice A n k]] w (RetT [] w) := by
  have HK := Lib.hid hok
  clear hok
  go_enter Try.func47, Try.ntmps47
  go_wp2_with fail
  refine (sAlg_any p q n k A d _ (B := B) (by exact h.below ((by repeat' (first | (with_reducible exact Below.refl _ _) | (with_reducible refine Below.setCell ?_ (by first | exact Nat.le_refl _ | omega | (simp only [World.size_alloc, World.size_setCell, World.heap_drewN]; omega) | (simp; omega)) _) | (with_reducible refine Below.alloc ?_ (by first | exact Nat.le_refl _ | omega | (simp only [World.size_alloc, World.size_setCell, World.heap_drewN]; omega) | (simp; omega)) _) | (with_reducible refine below_drewN ?_ _) | (with_reducible refine Below.drew ?_))) : Below w.heap.size w _) hB) hd (by first | exact Nat.le_refl _ | omega | (simp only [World.size_alloc, World.size_setCell, World.heap_drewN]; omega) | (simp; omega))).mono ?_
  rintro e w1 ⟨rfl, hb1⟩
  have hx1 : Box w1 (w.heap.size) #[.int .i64 p, .int .i64 q, .slice A n k] := by
    have hq := (Box.new w #[.int .i64 p, .int .i64 q, .slice A n k] 27).below hb1 (by first | omega | (simp only [World.size_alloc]; omega) | (simp; omega))
    (try simp only [World.size_alloc] at hq)
    exact hq
  have hq1 : Below w.heap.size w w1 := (by repeat' (first | (with_reducible exact Below.refl _ _) | (with_reducible refine Below.setCell ?_ (by first | exact Nat.le_refl _ | omega | (simp only [World.size_alloc, World.size_setCell, World.heap_drewN]; omega) | (simp; omega)) _) | (with_reducible refine Below.alloc ?_ (by first | exact Nat.le_refl _ | omega | (simp only [World.size_alloc, World.size_setCell, World.heap_drewN]; omega) | (simp; omega)) _) | (with_reducible refine below_drewN ?_ _) | (with_reducible refine Below.drew ?_) | (with_reducible refine Below.trans ?_ (hb1.mono (by first | exact Nat.le_refl _ | omega | (simp only [World.size_alloc, World.size_setCell, World.heap_drewN]; omega) | (simp; omega))))))
  have hs1 := hb1.size
  simp only [World.size_alloc] at hs1
  clear hb1
  rw [HK.out]
  go_wp2
  go_ret
  exact ⟨none, 0, 0, rfl, Hd.nil, hq1, [], OwT.nil _ _ _⟩
theorem sInn_big {B : Nat} (p q : Int) (n k : Nat) (A : Option Addr) (d : List Int) (w : World) (h : RdI w B A n d) (hd : Hd A n k) (hB : B ≤ w.heap.size) (hok : okA p q d = true) (hq : 8 < q) :
    Calls Try.prog 47 #[.agg #[.int .i64 p, .int .i64 q, .slice A n k]] w (RetT [] w) := by
  have HK := Lib.hid hok
  clear hok
  go_enter Try.func47, Try.ntmps47
  go_wp2_with fail
  refine (sAlg_any p q n k A d _ (B := B) (by exact h.below ((by repeat' (first | (with_reducible exact Below.refl _ _) | (with_reducible refine Below.setCell ?_ (by first | exact Nat.le_refl _ | omega | (simp only [World.size_alloc, World.size_setCell, World.heap_drewN]; omega) | (simp; omega)) _) | (with_reducible refine Below.alloc ?_ (by first | exact Nat.le_refl _ | omega | (simp only [World.size_alloc, World.size_setCell, World.heap_drewN]; omega) | (simp; omega)) _) | (with_reducible refine below_drewN ?_ _) | (with_reducible refine Below.drew ?_))) : Below w.heap.size w _) hB) hd (by first | exact Nat.le_refl _ | omega | (simp only [World.size_alloc, World.size_setCell, World.heap_drewN]; omega) | (simp; omega))).mono ?_
  rintro e w1 ⟨rfl, hb1⟩
  have hx1 : Box w1 (w.heap.size) #[.int .i64 p, .int .i64 q, .slice A n k] := by
    have hq := (Box.new w #[.int .i64 p, .int .i64 q, .slice A n k] 27).below hb1 (by first | omega | (simp only [World.size_alloc]; omega) | (simp; omega))
    (try simp only [World.size_alloc] at hq)
    exact hq
  have hq1 : Below w.heap.size w w1 := (by repeat' (first | (with_reducible exact Below.refl _ _) | (with_reducible refine Below.setCell ?_ (by first | exact Nat.le_refl _ | omega | (simp only [World.size_alloc, World.size_setCell, World.heap_drewN]; omega) | (simp; omega)) _) | (with_reducible refine Below.alloc ?_ (by first | exact Nat.le_refl _ | omega | (simp only [World.size_alloc, World.size_setCell, World.heap_drewN]; omega) | (simp; omega)) _) | (with_reducible refine below_drewN ?_ _) | (with_reducible refine Below.drew ?_) | (with_reducible refine Below.trans ?_ (hb1.mono (by first | exact Nat.le_refl _ | omega | (simp only [World.size_alloc, World.size_setCell, World.heap_drewN]; omega) | (simp; omega))))))
  have hs1 := hb1.size
  simp only [World.size_alloc] at hs1
  clear hb1
  rw [HK.out]
  obtain ⟨x0, x1, x2⟩ := hx1.three
  go_wp2
  go_ret
  exact ⟨none, 0, 0, rfl, Hd.nil, hq1, [], OwT.nil _ _ _⟩
theorem iInn_no {B : Nat} (p q : Int) (n k : Nat) (A : Option Addr) (d : List Int) (w : World) (h : RdI w B A n d) (hd : Hd A n k) (hB : B ≤ w.heap.size) (hok : okA p q d = false) :
    Calls Try.prog 48 #[.agg #[.int .i64 p, .int .i64 q, .slice A n k]] w (RetT [] w) := by
  have HK := Lib.hid hok
  clear hok
  go_enter Try.func48, Try.ntmps48
  go_wp2_with fail
  refine (iAlg_any p q n k A d _ (B := B) (by exact h.below ((by repeat' (first | (with_reducible exact Below.refl _ _) | (with_reducible refine Below.setCell ?_ (by first | exact Nat.le_refl _ | omega | (simp only [World.size_alloc, World.size_setCell, World.heap_drewN]; omega) | (simp; omega)) _) | (with_reducible refine Below.alloc ?_ (by first | exact Nat.le_refl _ | omega | (simp only [World.size_alloc, World.size_setCell, World.heap_drewN]; omega) | (simp; omega)) _) | (with_reducible refine below_drewN ?_ _) | (with_reducible refine Below.drew ?_))) : Below w.heap.size w _) hB) hd (by first | exact Nat.le_refl _ | omega | (simp only [World.size_alloc, World.size_setCell, World.heap_drewN]; omega) | (simp; omega))).mono ?_
  rintro e w1 ⟨rfl, hb1⟩
  have hx1 : Box w1 (w.heap.size) #[.int .i64 p, .int .i64 q, .slice A n k] := by
    have hq := (Box.new w #[.int .i64 p, .int .i64 q, .slice A n k] 27).below hb1 (by first | omega | (simp only [World.size_alloc]; omega) | (simp; omega))
    (try simp only [World.size_alloc] at hq)
    exact hq
  have hq1 : Below w.heap.size w w1 := (by repeat' (first | (with_reducible exact Below.refl _ _) | (with_reducible refine Below.setCell ?_ (by first | exact Nat.le_refl _ | omega | (simp only [World.size_alloc, World.size_setCell, World.heap_drewN]; omega) | (simp; omega)) _) | (with_reducible refine Below.alloc ?_ (by first | exact Nat.le_refl _ | omega | (simp only [World.size_alloc, World.size_setCell, World.heap_drewN]; omega) | (simp; omega)) _) | (with_reducible refine below_drewN ?_ _) | (with_reducible refine Below.drew ?_) | (with_reducible refine Below.trans ?_ (hb1.mono (by first | exact Nat.le_refl _ | omega | (simp only [World.size_alloc, World.size_setCell, World.heap_drewN]; omega) | (simp; omega))))))
  have hs1 := hb1.size
  simp only [World.size_alloc] at hs1
  clear hb1
  rw [HK.out]
  go_wp2
  go_ret
  exact ⟨none, 0, 0, rfl, Hd.nil, hq1, [], OwT.nil _ _ _⟩
theorem iInn_big {B : Nat} (p q : Int) (n k : Nat) (A : Option Addr) (d : List Int) (w : World) (h : RdI w B A n d) (hd : Hd A n k) (hB : B ≤ w.heap.size) (hok : okA p q d = true) (hq : 8 < q) :
    Calls Try.prog 48 #[.agg #[.int .i64 p, .int .i64 q, .slice A n k]] w (RetT [] w) := by
  have HK := Lib.hid hok
  clear hok
  go_enter Try.func48, Try.ntmps48
  go_wp2_with fail
  refine (iAlg_any p q n k A d _ (B := B) (by exact h.below ((by repeat' (first | (with_reducible exact Below.refl _ _) | (with_reducible refine Below.setCell ?_ (by first | exact Nat.le_refl _ | omega | (simp only [World.size_alloc, World.size_setCell, World.heap_drewN]; omega) | (simp; omega)) _) | (with_reducible refine Below.alloc ?_ (by first | exact Nat.le_refl _ | omega | (simp only [World.size_alloc, World.size_setCell, World.heap_drewN]; omega) | (simp; omega)) _) | (with_reducible refine below_drewN ?_ _) | (with_reducible refine Below.drew ?_))) : Below w.heap.size w _) hB) hd (by first | exact Nat.le_refl _ | omega | (simp only [World.size_alloc, World.size_setCell, World.heap_drewN]; omega) | (simp; omega))).mono ?_
  rintro e w1 ⟨rfl, hb1⟩
  have hx1 : Box w1 (w.heap.size) #[.int .i64 p, .int .i64 q, .slice A n k] := by
    have hq := (Box.new w #[.int .i64 p, .int .i64 q, .slice A n k] 27).below hb1 (by first | omega | (simp only [World.size_alloc]; omega) | (simp; omega))
    (try simp only [World.size_alloc] at hq)
    exact hq
  have hq1 : Below w.heap.size w w1 := (by repeat' (first | (with_reducible exact Below.refl _ _) | (with_reducible refine Below.setCell ?_ (by first | exact Nat.le_refl _ | omega | (simp only [World.size_alloc, World.size_setCell, World.heap_drewN]; omega) | (simp; omega)) _) | (with_reducible refine Below.alloc ?_ (by first | exact Nat.le_refl _ | omega | (simp only [World.size_alloc, World.size_setCell, World.heap_drewN]; omega) | (simp; omega)) _) | (with_reducible refine below_drewN ?_ _) | (with_reducible refine Below.drew ?_) | (with_reducible refine Below.trans ?_ (hb1.mono (by first | exact Nat.le_refl _ | omega | (simp only [World.size_alloc, World.size_setCell, World.heap_drewN]; omega) | (simp; omega))))))
  have hs1 := hb1.size
  simp only [World.size_alloc] at hs1
  clear hb1
  rw [HK.out]
  obtain ⟨x0, x1, x2⟩ := hx1.three
  go_wp2
  go_ret
  exact ⟨none, 0, 0, rfl, Hd.nil, hq1, [], OwT.nil _ _ _⟩
set_option maxRecDepth 100000 in
theorem iInn_ok {B : Nat} (p : Int) (N n k : Nat) (A : Option Addr) (d : List Int) (w : World) (h : RdI w B A n d) (hd : Hd A n k) (hB : B ≤ w.heap.size) (hok : okA p N d = true) (hN : N ≤ 8) :
    Calls Try.prog 48 #[.agg #[.int .i64 p, .int .i64 N, .slice A n k]] w (RetT (tabR (inS N p d).rk (N * N) (inS N p d).f) w) := by
  obtain ⟨k1, k2, k3, k4, k5, k6, k7⟩ := okA_bd hok
  obtain ⟨hp1, hp2⟩ := isP_bd k1
  rw [Int.toNat_natCast] at k4
  have HL := Lib.hid (show n = N * N * N by rw [← k4]; exact h.1.symm)
  have HR := Lib.hid k5
  have HP := Lib.hid k1
  have HF := Lib.hid (inL_FF N p d)
  have HIR := Lib.hid (inF_res (n := N) (p := p) (by omega) d)
  have hNN : N * N ≤ 8 * 8 := Nat.mul_le_mul hN hN
  have hC1 : (N : Int) * N = ((N * N : Nat) : Int) := by rw [Int.natCast_mul]
  have hC2 : 0 ≤ (N : Int) * N ∧ (N : Int) * N ≤ 64 := by omega
  have HCC := Lib.hid hC1
  have HK := Lib.hid hok
  clear hok k1 k2 k3 k4 k5 k6 k7 hC1
  go_enter Try.func48, Try.ntmps48
  go_wp2_with fail
  refine (iAlg_any p N n k A d _ (B := B) (by exact h.below ((by repeat' (first | (with_reducible exact Below.refl _ _) | (with_reducible refine Below.setCell ?_ (by first | exact Nat.le_refl _ | omega | (simp only [World.size_alloc, World.size_setCell, World.heap_drewN]; omega) | (simp; omega)) _) | (with_reducible refine Below.alloc ?_ (by first | exact Nat.le_refl _ | omega | (simp only [World.size_alloc, World.size_setCell, World.heap_drewN]; omega) | (simp; omega)) _) | (with_reducible refine below_drewN ?_ _) | (with_reducible refine Below.drew ?_))) : Below w.heap.size w _) hB) hd (by first | exact Nat.le_refl _ | omega | (simp only [World.size_alloc, World.size_setCell, World.heap_drewN]; omega) | (simp; omega))).mono ?_
  rintro e w1 ⟨rfl, hb1⟩
  have hx1 : Box w1 (w.heap.size) #[.int .i64 p, .int .i64 N, .slice A n k] := by
    have hq := (Box.new w #[.int .i64 p, .int .i64 N, .slice A n k] 27).below hb1 (by first | omega | (simp only [World.size_alloc]; omega) | (simp; omega))
    (try simp only [World.size_alloc] at hq)
    exact hq
  have hq1 : Below w.heap.size w w1 := (by repeat' (first | (with_reducible exact Below.refl _ _) | (with_reducible refine Below.setCell ?_ (by first | exact Nat.le_refl _ | omega | (simp only [World.size_alloc, World.size_setCell, World.heap_drewN]; omega) | (simp; omega)) _) | (with_reducible refine Below.alloc ?_ (by first | exact Nat.le_refl _ | omega | (simp only [World.size_alloc, World.size_setCell, World.heap_drewN]; omega) | (simp; omega)) _) | (with_reducible refine below_drewN ?_ _) | (with_reducible refine Below.drew ?_) | (with_reducible refine Below.trans ?_ (hb1.mono (by first | exact Nat.le_refl _ | omega | (simp only [World.size_alloc, World.size_setCell, World.heap_drewN]; omega) | (simp; omega))))))
  have hs1 := hb1.size
  simp only [World.size_alloc] at hs1
  have ha1 := h.below hq1 hB
  clear hb1
  rw [HK.out]
  obtain ⟨x0, x1, x2⟩ := hx1.three
  go_wp2_with (go_at_call 67; refine (newLie_any p N A n k _).mono ?_; rintro e w2 ⟨rfl, hb2⟩; clear x0 x1 x2; have hs2 := hb2.size; have hx := ((hx1.below hb2 (by omega)).alloc (.cells #[.int .i64 p, .int .i64 N, .slice A n k] 63)).alloc (.cells #[] 22); have hy := (Box.new w2 #[.int .i64 p, .int .i64 N, .slice A n k] 63).alloc (.cells #[] 22); have ha := ((ha1.below hb2 (by omega)).alloc (by omega) (.cells #[.int .i64 p, .int .i64 N, .slice A n k] 63)).alloc (by rw [World.size_alloc]; omega) (.cells #[] 22); have hq := hq1.trans (hb2.mono (by omega)); obtain ⟨x0, x1, x2⟩ := hx.three)
  clear x0 x1 x2 hx1 ha1 hb2
  obtain ⟨hx0, hy0, ha0⟩ : _ ∧ _ ∧ _ := ⟨hx, hy, ha⟩
  clear hx hy ha
  have hq0 : Below w.heap.size w ((w2.alloc (.cells #[.int .i64 p, .int .i64 N, .slice A n k] 63)).alloc (.cells #[] 22)) := (by repeat' (first | (with_reducible exact Below.refl _ _) | (with_reducible refine Below.setCell ?_ (by first | exact Nat.le_refl _ | omega | (simp only [World.size_alloc, World.size_setCell, World.heap_drewN]; omega) | (simp; omega)) _) | (with_reducible refine Below.alloc ?_ (by first | exact Nat.le_refl _ | omega | (simp only [World.size_alloc, World.size_setCell, World.heap_drewN]; omega) | (simp; omega)) _) | (with_reducible refine below_drewN ?_ _) | (with_reducible refine Below.drew ?_) | (with_reducible refine Below.trans ?_ (hq.mono (by first | exact Nat.le_refl _ | omega | (simp only [World.size_alloc, World.size_setCell, World.heap_drewN]; omega) | (simp; omega))))))
  have hG := GrwT.start (w2.alloc (.cells #[.int .i64 p, .int .i64 N, .slice A n k] 63)) 22 rfl
  simp only [World.size_alloc] at hG
  go_loopw [4, 19] (fun v i wr => ∃ j : Nat, j ≤ N ∧ i = .int .i64 j ∧ GrwT (w2.heap.size + 1) ((w2.alloc (.cells #[.int .i64 p, .int .i64 N, .slice A n k] 63)).alloc (.cells #[] 22)) wr v j (inL N p d j)) (fun _ i _ => N - (intOf i).toNat)
  case atStart => exact ⟨0, by omega, rfl, hG⟩
  case round =>
    clear hG
    obtain ⟨j, hj, rfl, hG⟩ := hrel
    have hsz := hG.size
    simp only [World.size_alloc] at hsz
    have hbl := hG.below
    have hx := hx0.below hbl (by omega)
    have hy := hy0.below hbl (by omega)
    have ha := ha0.below hbl (by omega)
    have hq := hq0.trans (hbl.mono (by omega))
    clear hbl
    by_cases hlt : j < N
    · obtain ⟨hst, hhl, how, hi', hOT, hhi'⟩ := hG.tbl
      have HS := Lib.hid (inL_succ N p d j)
      have HU := Lib.hid (unitV_res (p := p) hp1 hlt)
      have HAD := Lib.hid (show tab N N (adF N p d (unitV N j)) = adT N p d j from rfl)
      have hcn : j ≤ 1073741824 := by omega
      have hfd := run_fldM
      go_wp2_with fail
      go_region_held3 (fun w' => (w'.cell? ⟨w.heap.size, 0, none⟩ = some (.int .i64 p) ∧ w'.cell? ⟨w.heap.size, 1, none⟩ = some (.int .i64 N) ∧ w'.cell? ⟨w.heap.size, 2, none⟩ = some (.slice A n k)) ∧ (w'.cell? ⟨w2.heap.size, 0, none⟩ = some (.int .i64 p) ∧ w'.cell? ⟨w2.heap.size, 1, none⟩ = some (.int .i64 N) ∧ w'.cell? ⟨w2.heap.size, 2, none⟩ = some (.slice A n k))) (first | exact ⟨hx.three, hy.three⟩ | exact ⟨(hx.alloc _).three, (hy.alloc _).three⟩)
        (first
          | (go_at_call 84; refine (unit_any N j _ (by omega) hlt).mono ?_; rintro e w3 ⟨Ay, ny, cy, rfl, hdy, hb3, hoy⟩; have hb3 := (by first | with_reducible exact bel_ofDrew hb3 | exact hb3 : Below wr.heap.size wr w3); have hs3 := hb3.size; have hx : Box w3 w.heap.size _ := hx.below hb3 (by omega); have hy : Box w3 w2.heap.size _ := hy.below hb3 (by omega); obtain rfl : N = ny := (by have := hoy.1; rw [unitV_len] at this; exact this))
          | (go_at_call 83; refine (adjoint_any (B := w3.heap.size) p N n k cy A Ay d (unitV N j) _ ((ha.below hb3 (by omega)).up (by omega)) hd hoy.rd (Nat.le_refl _) HL.out (by omega) hp1 hp2 HR.out HU.out).mono ?_; rw [HAD.out]; rintro e w4 ⟨A4, n4, c4, rfl, hd4, hb4, ho4⟩; have hs4 := hb4.size; have hb34 : Below wr.heap.size wr w4 := hb3.trans (hb4.mono hs3); have hOT4 := hOT.below hb34 hhi'; have hx : Box w4 w.heap.size _ := hx.below hb4 (by omega); have hy : Box w4 w2.heap.size _ := hy.below hb4 (by omega))
          | (refine step_apT (v := u4) (w := w4.alloc (.cells #[.slice A4 n4 c4] 22)) (lo := w2.heap.size + 1) (b := w4.heap.size) (u := .slice A4 n4 c4) rfl (.tmp 22) (.tmp 30) rfl rfl (hOT4.alloc (by omega) _).tbl rfl (Box.new w4 _ _).one rfl hcn (by rw [World.size_alloc]; omega) ?_; intro v5 w5 ho5 hg5 hv5; have hG6 := hG.push hOT hhi' hb34 ho4 hs3 hd4 ho5 hg5 hv5; have hx : Box w5 w.heap.size _ := hx0.below hG6.below (by omega); have hy : Box w5 w2.heap.size _ := hy0.below hG6.below (by omega)))
      have HT := Lib.hid hG6
      clear hG hOT hOT4 how ho4 ho5 hg5 hv5 hb4 hb3 hb34 hG6 hx hy hoy hfd
      go_wp2
      go_roundw
      case rel => exact ⟨j + 1, by omega, by go_num, by rw [HS.out]; exact HT.out⟩
      case measure => simp [intOf]; omega
    · obtain rfl : N = j := by omega
      obtain ⟨A7, c7, rfl, hd7, hst7, hT7⟩ := hG.ret
      clear hG
      obtain ⟨x0, x1, x2⟩ := hx.three
      go_wp2_with fail
      rw [HCC.out]
      refine (span_any (B := wr.heap.size) A7 N c7 (N * N) p (inF N p d) hst7 _ _ hT7.rd HF.out (Nat.le_refl _) (by omega) (by omega) HP.out HIR.out).mono ?_
      rintro e w6 ⟨A6, n6, k6, rfl, hd6, hb6, hst6, hT6⟩
      have hs6 := hb6.size
      go_wp2
      go_ret
      exact ⟨_, _, _, rfl, hd6, hq.trans (hb6.mono (by omega)), _, hT6.down (by omega)⟩
set_option maxRecDepth 100000 in
theorem sInn_ok {B : Nat} (p : Int) (N n k : Nat) (A : Option Addr) (d : List Int) (w : World) (h : RdI w B A n d) (hd : Hd A n k) (hB : B ≤ w.heap.size) (hok : okA p N d = true) (hN : N ≤ 8) :
    Calls Try.prog 47 #[.agg #[.int .i64 p, .int .i64 N, .slice A n k]] w (RetT (tabR (inS N p d).rk (N * N) (inS N p d).f) w) := by
  obtain ⟨k1, k2, k3, k4, k5, k6, k7⟩ := okA_bd hok
  obtain ⟨hp1, hp2⟩ := isP_bd k1
  rw [Int.toNat_natCast] at k4
  have HL := Lib.hid (show n = N * N * N by rw [← k4]; exact h.1.symm)
  have HR := Lib.hid k5
  have HP := Lib.hid k1
  have HF := Lib.hid (inL_tab N p d)
  have HFL := Lib.hid (flat_tabR N (N * N) (inF N p d))
  have HIR := Lib.hid (show resB (tab N (N * N) (inF N p d)) p = true from resB_tab fun i j _ _ => inF_res (n := N) (p := p) (by omega) d i j)
  have HRT := Lib.hid (rr_tab N (N * N) p (inF N p d))
  have hRK := (rr_rk N p (matF (tab N (N * N) (inF N p d)) (N * N)) (N * N)).1
  have hNN : N * N ≤ 8 * 8 := Nat.mul_le_mul hN hN
  have hN3 : N * (N * N) ≤ 8 * 64 := Nat.mul_le_mul hN hNN
  have hRC : (rr N p (matF (tab N (N * N) (inF N p d)) (N * N)) (N * N)).rk * (N * N) ≤ 8 * 64 := Nat.mul_le_mul (by omega) hNN
  have hC1 : (N : Int) * N = ((N * N : Nat) : Int) := by rw [Int.natCast_mul]
  have hC2 : 0 ≤ (N : Int) * N ∧ (N : Int) * N ≤ 64 := by omega
  have HCC := Lib.hid hC1
  have HK := Lib.hid hok
  rw [show tabR (inS N p d).rk (N * N) (inS N p d).f = rowsD (N * N) (tab (rr N p (matF (tab N (N * N) (inF N p d)) (N * N)) (N * N)).rk (N * N) (rr N p (matF (tab N (N * N) (inF N p d)) (N * N)) (N * N)).f) (rr N p (matF (tab N (N * N) (inF N p d)) (N * N)) (N * N)).rk from HRT.out.symm]
  generalize hs' : rr N p (matF (tab N (N * N) (inF N p d)) (N * N)) (N * N) = s at *
  have HS' := Lib.hid hs'
  clear hok k1 k2 k3 k4 k5 k6 k7 hC1 hs'
  go_enter Try.func47, Try.ntmps47
  go_wp2_with fail
  refine (sAlg_any p N n k A d _ (B := B) (by exact h.below ((by repeat' (first | (with_reducible exact Below.refl _ _) | (with_reducible refine Below.setCell ?_ (by first | exact Nat.le_refl _ | omega | (simp only [World.size_alloc, World.size_setCell, World.heap_drewN]; omega) | (simp; omega)) _) | (with_reducible refine Below.alloc ?_ (by first | exact Nat.le_refl _ | omega | (simp only [World.size_alloc, World.size_setCell, World.heap_drewN]; omega) | (simp; omega)) _) | (with_reducible refine below_drewN ?_ _) | (with_reducible refine Below.drew ?_))) : Below w.heap.size w _) hB) hd (by first | exact Nat.le_refl _ | omega | (simp only [World.size_alloc, World.size_setCell, World.heap_drewN]; omega) | (simp; omega))).mono ?_
  rintro e w1 ⟨rfl, hb1⟩
  have hx1 : Box w1 (w.heap.size) #[.int .i64 p, .int .i64 N, .slice A n k] := by
    have hq := (Box.new w #[.int .i64 p, .int .i64 N, .slice A n k] 27).below hb1 (by first | omega | (simp only [World.size_alloc]; omega) | (simp; omega))
    (try simp only [World.size_alloc] at hq)
    exact hq
  have hq1 : Below w.heap.size w w1 := (by repeat' (first | (with_reducible exact Below.refl _ _) | (with_reducible refine Below.setCell ?_ (by first | exact Nat.le_refl _ | omega | (simp only [World.size_alloc, World.size_setCell, World.heap_drewN]; omega) | (simp; omega)) _) | (with_reducible refine Below.alloc ?_ (by first | exact Nat.le_refl _ | omega | (simp only [World.size_alloc, World.size_setCell, World.heap_drewN]; omega) | (simp; omega)) _) | (with_reducible refine below_drewN ?_ _) | (with_reducible refine Below.drew ?_) | (with_reducible refine Below.trans ?_ (hb1.mono (by first | exact Nat.le_refl _ | omega | (simp only [World.size_alloc, World.size_setCell, World.heap_drewN]; omega) | (simp; omega))))))
  have hs1 := hb1.size
  simp only [World.size_alloc] at hs1
  have ha1 := h.below hq1 hB
  clear hb1
  rw [HK.out]
  have hx0 := hx1.alloc (.cells #[] 22)
  have ha0 := ha1.alloc (by omega) (.cells #[] 22)
  have hq0 : Below w.heap.size w (w1.alloc (.cells #[] 22)) := (by repeat' (first | (with_reducible exact Below.refl _ _) | (with_reducible refine Below.setCell ?_ (by first | exact Nat.le_refl _ | omega | (simp only [World.size_alloc, World.size_setCell, World.heap_drewN]; omega) | (simp; omega)) _) | (with_reducible refine Below.alloc ?_ (by first | exact Nat.le_refl _ | omega | (simp only [World.size_alloc, World.size_setCell, World.heap_drewN]; omega) | (simp; omega)) _) | (with_reducible refine below_drewN ?_ _) | (with_reducible refine Below.drew ?_) | (with_reducible refine Below.trans ?_ (hq1.mono (by first | exact Nat.le_refl _ | omega | (simp only [World.size_alloc, World.size_setCell, World.heap_drewN]; omega) | (simp; omega))))))
  have hG := GrwT.start w1 22 rfl
  obtain ⟨x0, x1, x2⟩ := hx1.three
  go_wp2_with fail
  clear x0 x1 x2
  go_loopw [3, 4] (fun v i wr => ∃ j : Nat, j ≤ N ∧ i = .int .i64 j ∧ GrwT w1.heap.size (w1.alloc (.cells #[] 22)) wr v j (inL N p d j)) (fun _ i _ => N - (intOf i).toNat)
  case atStart => exact ⟨0, by omega, rfl, hG⟩
  case round =>
    clear hG
    obtain ⟨j, hj, rfl, hG⟩ := hrel
    have hsz := hG.size
    simp only [World.size_alloc] at hsz
    have hbl := hG.below
    have hx := hx0.below hbl (by omega)
    have ha := ha0.below hbl (by omega)
    have hq := hq0.trans (hbl.mono (by omega))
    clear hbl
    obtain ⟨x0, x1, x2⟩ := hx.three
    by_cases hlt : j < N
    · obtain ⟨hst, hhl, how, hi', hOT, hhi'⟩ := hG.tbl
      have HS := Lib.hid (inL_succ N p d j)
      have HU := Lib.hid (unitV_res (p := p) hp1 hlt)
      have HAD := Lib.hid (show tab N N (adF N p d (unitV N j)) = adT N p d j from rfl)
      have hcn : j ≤ 1073741824 := by omega
      have hfd := run_fldM
      go_wp2_with fail
      clear x0 x1 x2
      go_region_held3 (fun w' => w'.cell? ⟨w.heap.size, 0, none⟩ = some (.int .i64 p) ∧ w'.cell? ⟨w.heap.size, 1, none⟩ = some (.int .i64 N) ∧ w'.cell? ⟨w.heap.size, 2, none⟩ = some (.slice A n k)) (first | exact hx.three | exact (hx.alloc _).three)
        (first
          | (go_at_call 81; refine (l2Basis_any N j _ (by omega) hlt).mono ?_; rintro e w3 ⟨Ay, ny, cy, rfl, hdy, hb3, hoy⟩; have hb3 := (by first | with_reducible exact bel_ofDrew hb3 | exact hb3 : Below wr.heap.size wr w3); have hs3 := hb3.size; have hx : Box w3 w.heap.size _ := hx.below hb3 (by omega); obtain rfl : N = ny := (by have := hoy.1; rw [unitV_len] at this; exact this))
          | (go_at_call 80; refine (l2Adjoint_any (B := w3.heap.size) p N n k cy A Ay d (unitV N j) _ ((ha.below hb3 (by omega)).up (by omega)) hd hoy.rd (Nat.le_refl _) HL.out (by omega) hp1 hp2 HR.out HU.out).mono ?_; rw [HAD.out]; rintro e w4 ⟨A4, n4, c4, rfl, hd4, hb4, ho4⟩; have hs4 := hb4.size; have hb34 : Below wr.heap.size wr w4 := hb3.trans (hb4.mono hs3); have hOT4 := hOT.below hb34 hhi'; have hx : Box w4 w.heap.size _ := hx.below hb4 (by omega))
          | (refine step_apT (v := u3) (w := w4.alloc (.cells #[.slice A4 n4 c4] 22)) (lo := w1.heap.size) (b := w4.heap.size) (u := .slice A4 n4 c4) rfl (.tmp 20) (.tmp 28) rfl rfl (hOT4.alloc (by omega) _).tbl rfl (Box.new w4 _ _).one rfl hcn (by rw [World.size_alloc]; omega) ?_; intro v5 w5 ho5 hg5 hv5; have hG6 := hG.push hOT hhi' hb34 ho4 hs3 hd4 ho5 hg5 hv5; have hx : Box w5 w.heap.size _ := hx0.below hG6.below (by omega)))
      have HT := Lib.hid hG6
      clear hG hOT hOT4 how ho4 ho5 hg5 hv5 hb4 hb3 hb34 hG6 hx hoy hfd
      go_wp2
      go_roundw
      case rel => exact ⟨j + 1, by omega, by go_num, by rw [HS.out]; exact HT.out⟩
      case measure => simp [intOf]; omega
    · obtain rfl : N = j := by omega
      obtain ⟨A7, c7, rfl, hd7, hst7, hT7⟩ := hG.ret
      rw [HF.out] at hT7
      clear hG
      go_wp2_with fail
      rw [HCC.out]
      refine (l1Rows_any p ((N * N : Nat) : Int) A7 N c7 hst7 _ _ hT7.rd (Nat.le_refl _) (by rw [HFL.out, tab_len]; omega)).mono ?_
      rw [HFL.out]
      rintro e w6 ⟨A6, n6, k6, rfl, hd6, hb6, ho6⟩
      have hs6 := hb6.size
      have hl6 := ho6.1
      rw [tab_len] at hl6
      go_wp2_with fail
      refine (l1Span_any (B := w6.heap.size) p N (N * N) n6 k6 A6 _ _ ho6.rd hd6 (Nat.le_refl _) hl6.symm (by omega) (by omega) (by omega) HP.out HIR.out).mono ?_
      rw [HS'.out]
      rintro e w7 ⟨A8, n8, k8, rfl, hd8, hb8, ho8⟩
      have hs8 := hb8.size
      have hl8 := ho8.1
      rw [tab_len] at hl8
      go_wp2_with fail
      refine (l3Lists_any (B := w7.heap.size) p s.rk (N * N) n8 k8 A8 _ _ ho8.rd hd8 (Nat.le_refl _) hl8.symm (by omega) (by omega) (by omega)).mono ?_
      rintro e w9 ⟨A9, n9, k9, rfl, hd9, hb9, hst9, hT9⟩
      have hs9 := hb9.size
      clear x0 x1 x2
      go_wp2
      go_ret
      exact ⟨_, _, _, rfl, hd9, (by repeat' (first | (with_reducible exact Below.refl _ _) | (with_reducible refine Below.setCell ?_ (by first | exact Nat.le_refl _ | omega | (simp only [World.size_alloc, World.size_setCell, World.heap_drewN]; omega) | (simp; omega)) _) | (with_reducible refine Below.alloc ?_ (by first | exact Nat.le_refl _ | omega | (simp only [World.size_alloc, World.size_setCell, World.heap_drewN]; omega) | (simp; omega)) _) | (with_reducible refine below_drewN ?_ _) | (with_reducible refine Below.drew ?_) | (with_reducible refine Below.trans ?_ (hb9.mono (by first | exact Nat.le_refl _ | omega | (simp only [World.size_alloc, World.size_setCell, World.heap_drewN]; omega) | (simp; omega)))) | (with_reducible refine Below.trans ?_ (hb8.mono (by first | exact Nat.le_refl _ | omega | (simp only [World.size_alloc, World.size_setCell, World.heap_drewN]; omega) | (simp; omega)))) | (with_reducible refine Below.trans ?_ (hb6.mono (by first | exact Nat.le_refl _ | omega | (simp only [World.size_alloc, World.size_setCell, World.heap_drewN]; omega) | (simp; omega)))) | (with_reducible refine Below.trans ?_ (hq.mono (by first | exact Nat.le_refl _ | omega | (simp only [World.size_alloc, World.size_setCell, World.heap_drewN]; omega) | (simp; omega)))))), _, hT9.down (by omega)⟩
end Go.Proofs.Ytiggomjohikapaa
