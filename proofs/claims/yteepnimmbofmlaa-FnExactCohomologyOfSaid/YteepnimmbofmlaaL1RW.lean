/- Words for l1Reduce: a matrix's numbers in one slice of the call's own, the pivots beside. No program in sight but the types' numbers. -/
import Derived.Test.YteepnimmbofmlaaRedW
import Derived.Test.YteepnimmbofmlaaCpW
import Derived.Test.YteepnimmbofmlaaUnitW
import Derived.Test.YteepnimmbofmlaaLawK
import Derived.Outline
import Derived.Deep.DeepCutAuto
namespace Go.Proofs.Yteepnimmbofmlaa
set_option linter.unusedVariables false
set_option linter.unusedSimpArgs false
set_option maxRecDepth 20000
open Go.RowKit
/-- the slice holds the numbers of f, row by row -/
def FD (D : List Int) (R C : Nat) (f : Tb) : Prop := ∀ i j, i < R → j < C → gI D (i * C + j) = f i j
theorem FD.congr {D : List Int} {R C : Nat} {f g : Tb} (h : FD D R C f) (he : ∀ i j, i < R → j < C → f i j = g i j) : FD D R C g := fun i j hi hj => by rw [← he i j hi hj]; exact h i j hi hj
theorem FD.store {D : List Int} {R C a b : Nat} {f : Tb} (h : FD D R C f) (hl : D.length = R * C) (ha : a < R) (hb : b < C) (x : Int) : FD (D.set (a * C + b) x) R C (fun i j => if i = a ∧ j = b then x else f i j) := by
  intro i j hi hj
  show gI _ _ = if i = a ∧ j = b then x else f i j
  rw [gI_set _ _ _ _ (by rw [hl]; exact idx_lt ha hb)]
  by_cases e : i = a ∧ j = b
  · obtain ⟨rfl, rfl⟩ := e
    rw [if_pos rfl, if_pos ⟨rfl, rfl⟩]
  · rw [if_neg e, if_neg (fun e2 => e (idx_inj hj hb e2))]; exact h i j hi hj
theorem FD.tab {D : List Int} {R C : Nat} {f : Tb} (h : FD D R C f) (hl : D.length = R * C) : D = tab R C f := eq_tab hl h
/-- what a piece of l1Reduce leaves -/
def CutL (lo hi base : Nat) (A : Option Addr) (n R C : Nat) (v6 : Value) (m : Nat) (xs : List Value) (f : Tb) (w wx : World) : Prop :=
  Chg lo hi w wx ∧ (∃ D, OwI wx lo hi A n D ∧ FD D R C f) ∧ wx.ownsRow base 3 1 v6 m xs
section
variable {lo hi base n R C m : Nat} {A : Option Addr} {v6 : Value} {xs : List Value} {f g : Tb} {w wx w' : World}
theorem CutL.below (h : CutL lo hi base A n R C v6 m xs f w wx) (hhi : hi ≤ wx.heap.size) (hb : Below wx.heap.size wx w') : CutL lo hi base A n R C v6 m xs f w w' := by
  obtain ⟨h1, ⟨D, h2, h3⟩, h4⟩ := h
  exact ⟨h1.trans (Chg.ofBelow hb (Nat.le_refl _)), ⟨D, h2.below hb hhi, h3⟩, ownsRow_keep h4 fun b _ hs => hb.block b hs⟩
theorem CutL.drewN (h : CutL lo hi base A n R C v6 m xs f w wx) (k : Nat) : CutL lo hi base A n R C v6 m xs f w (wx.drewN k) := by
  obtain ⟨h1, ⟨D, h2, h3⟩, h4⟩ := h
  exact ⟨h1.drewN k, ⟨D, h2.drewN k, h3⟩, ownsRow_keep h4 fun b _ hs => rfl⟩
theorem CutL.congr (h : CutL lo hi base A n R C v6 m xs f w wx) (he : ∀ i j, i < R → j < C → f i j = g i j) : CutL lo hi base A n R C v6 m xs g w wx := by
  obtain ⟨h1, ⟨D, h2, h3⟩, h4⟩ := h
  exact ⟨h1, ⟨D, h2, h3.congr he⟩, h4⟩
theorem CutL.store {b o i j : Nat} (h : CutL lo hi base (some ⟨b, o, none⟩) n R C v6 m xs f w wx) (hn : n = R * C) (hI : i < R) (hJ : j < C) (hhi : hi ≤ base) (x : Int) :
    CutL lo hi base (some ⟨b, o, none⟩) n R C v6 m xs (fun a y => if a = i ∧ y = j then x else f a y) w (wx.setCell ⟨b, o + (i * C + j), none⟩ (.int .i64 x)) := by
  obtain ⟨h1, ⟨D, h2, h3⟩, h4⟩ := h
  have hlt : i * C + j < n := by rw [hn]; exact idx_lt hI hJ
  obtain ⟨hb0, hb1⟩ := h2.blk (by omega)
  exact ⟨h1.setCell hb0 hb1 _, ⟨_, h2.store hlt, h3.store (by rw [h2.1]; exact hn) hI hJ x⟩, ownsRow_chg h4 ((Chg.refl lo hi wx).setCell hb0 hb1 _) hhi⟩
theorem CutL.at_ {b o i j : Nat} (h : CutL lo hi base (some ⟨b, o, none⟩) n R C v6 m xs f w wx) (hn : n = R * C) (hI : i < R) (hJ : j < C) :
    wx.cell? ⟨b, o + (i * C + j), none⟩ = some (.int .i64 (f i j)) ∧ wx.frozen? ⟨b, o + (i * C + j), none⟩ = false := by
  obtain ⟨h1, ⟨D, h2, h3⟩, h4⟩ := h
  have := h2.at_ (j := i * C + j) (by rw [hn]; exact idx_lt hI hJ)
  rwa [h3 i j hI hJ] at this
theorem CutL.addr (h : CutL lo hi base A n R C v6 m xs f w wx) (hn : 0 < n) : ∃ b o, A = some ⟨b, o, none⟩ ∧ lo ≤ b ∧ b < hi := by
  obtain ⟨h1, ⟨D, h2, h3⟩, h4⟩ := h
  obtain ⟨b, o, rfl⟩ := h2.addr hn
  exact ⟨b, o, rfl, h2.blk hn⟩
theorem CutL.rd (h : CutL lo hi base A n R C v6 m xs f w wx) : ∃ D, RdI wx hi A n D ∧ FD D R C f := by
  obtain ⟨h1, ⟨D, h2, h3⟩, h4⟩ := h
  exact ⟨D, h2.rd, h3⟩
end
/-- an index into a matrix, in the walk's spellings -/
theorem ixF {i j R C n : Nat} (hI : i < R) (hJ : j < C) (hn : n = R * C) (hle : n ≤ 1000000000) :
    i * C + j < n ∧ 0 ≤ (i : Int) * (C : Int) ∧ (i : Int) * (C : Int) + (j : Int) < (n : Int) ∧ 0 ≤ (i : Int) * (C : Int) + (j : Int) ∧ IntKind.i64.wrap ((i : Int) * (C : Int)) = (i : Int) * (C : Int) ∧ IntKind.i64.wrap ((i : Int) * (C : Int) + (j : Int)) = (i : Int) * (C : Int) + (j : Int) ∧ ((i : Int) * (C : Int) + (j : Int)).toNat = i * C + j := by
  have h1 : i * C + j < n := by rw [hn]; exact idx_lt hI hJ
  have h2 : 0 ≤ (i : Int) * (C : Int) := Int.mul_nonneg (by omega) (by omega)
  have h3 : (i : Int) * (C : Int) + (j : Int) < (n : Int) := by rw [← Int.natCast_mul, ← Int.natCast_add]; omega
  exact ⟨h1, h2, h3, by omega, IntWalk.i64_in _ (by omega), IntWalk.i64_in _ (by omega), by rw [← Int.natCast_mul, ← Int.natCast_add]; rfl⟩
/-- two rows exchanged up to column j -/
def swT (f : Tb) (r k j : Nat) : Tb := fun i y => if y < j then swapF f r k i y else f i y
theorem swT_succ (f : Tb) (r k j i y : Nat) : (if i = k ∧ y = j then f r j else if i = r ∧ y = j then f k j else swT f r k j i y) = swT f r k (j + 1) i y := by
  unfold swT swapF
  by_cases h2 : y = j
  · subst h2
    rw [if_neg (Nat.lt_irrefl _), if_pos (show y < y + 1 by omega)]
    by_cases h3 : i = k
    · by_cases h4 : i = r
      · rw [if_pos ⟨h3, rfl⟩, if_pos h4, ← h3, ← h4]
      · rw [if_pos ⟨h3, rfl⟩, if_neg h4, if_pos h3]
    · rw [if_neg (by omega)]
      by_cases h4 : i = r
      · rw [if_pos ⟨h4, rfl⟩, if_pos h4]
      · rw [if_neg (by omega), if_neg h4, if_neg h3]
  · rw [if_neg (by omega), if_neg (by omega)]
    by_cases h5 : y < j
    · rw [if_pos h5, if_pos (show y < j + 1 by omega)]
    · rw [if_neg h5, if_neg (show ¬ y < j + 1 by omega)]
theorem swT_at (f : Tb) (r k j i : Nat) : swT f r k j i j = f i j := by unfold swT; rw [if_neg (by omega)]
theorem swT_zero (f : Tb) (r k i y : Nat) : swT f r k 0 i y = f i y := by unfold swT; rw [if_neg (by omega)]
theorem swT_done (f : Tb) (r k C i y : Nat) (hy : y < C) : swT f r k C i y = swapF f r k i y := by unfold swT; rw [if_pos hy]
/-- row i cleared up to column j -/
def elR (f : Tb) (r c : Nat) (p : Int) (i j : Nat) : Tb := fun a y => if a = i ∧ y < j then elimF f r c p a y else elT f r c p i a y
theorem elR_zero (f : Tb) (r c : Nat) (p : Int) (i a y : Nat) : elR f r c p i 0 a y = elT f r c p i a y := by unfold elR; rw [if_neg (by omega)]
theorem elR_at (f : Tb) (r c : Nat) (p : Int) (i j : Nat) : elR f r c p i j i j = f i j := by unfold elR; rw [if_neg (by omega), elT_at]
theorem elR_row (f : Tb) (r c : Nat) (p : Int) (i j y : Nat) (h : i ≠ r) : elR f r c p i j r y = f r y := by unfold elR; rw [if_neg (by omega), elT_row]
theorem elR_succ (f : Tb) (r c : Nat) (p : Int) (i j a y : Nat) : (if a = i ∧ y = j then elimF f r c p i j else elR f r c p i j a y) = elR f r c p i (j + 1) a y := by
  unfold elR
  by_cases h1 : a = i
  · by_cases h2 : y = j
    · subst h1 h2; rw [if_pos ⟨rfl, rfl⟩, if_pos ⟨rfl, by omega⟩]
    · rw [if_neg (by omega)]
      by_cases h3 : y < j
      · rw [if_pos ⟨h1, h3⟩, if_pos ⟨h1, by omega⟩]
      · rw [if_neg (by omega), if_neg (by omega)]
  · rw [if_neg (by omega), if_neg (by omega), if_neg (by omega)]
theorem elR_done (f : Tb) (r c : Nat) (p : Int) (i C a y : Nat) (hy : y < C) : elR f r c p i C a y = elT f r c p (i + 1) a y := by
  unfold elR
  by_cases h1 : a = i
  · subst h1; rw [if_pos ⟨rfl, hy⟩]; unfold elT; rw [if_pos (by omega)]
  · rw [if_neg (by omega)]; exact elT_succ f r c p i a y h1
theorem elim_sub {f : Tb} {r c i y : Nat} {p : Int} (h : i ≠ r) : elimF f r c p i y = (f i y - f i c * f r y) % p := by unfold elimF; rw [if_neg h]
/-- what l1Reduce leaves: the reduced matrix, its pivots, the determinant's number -/
def RetMSI (p : Int) (R C : Nat) (d : List Int) (pv : List Int) (m : Nat) (det : Int) (w : World) (e : Ending) (w' : World) : Prop :=
  ∃ A n k A6 k6 mid, e = .returned (.tuple #[.agg #[.int .i64 p, .int .i64 R, .int .i64 C, .slice A n k], .slice A6 m k6, .int .i64 det]) ∧ Hd A n k ∧ Hd A6 m k6 ∧ Below w.heap.size w w' ∧ OwI w' w.heap.size mid A n d ∧ OwI w' mid w'.heap.size A6 m pv ∧ mid ≤ w'.heap.size ∧ w.heap.size ≤ mid
end Go.Proofs.Yteepnimmbofmlaa
namespace Go.Proofs.Yteepnimmbofmlaa
set_option linter.unusedVariables false
set_option linter.unusedSimpArgs false
set_option maxRecDepth 20000
open Go.RowKit Go.Sort
theorem invOf_invI {x p : Int} (hp : isP p = true) (h0 : 0 < x) (h1 : x < p) : invOfI x p = invI x p := by
  unfold invOfI
  rw [if_pos ⟨hp, by rw [Int.emod_eq_of_lt (by omega) h1]; omega⟩]
theorem rr_hit' {R : Nat} {p : Int} {f : Tb} {c k : Nat} (h : pivAt (rr R p f c).f c (rr R p f c).rk R = k) (hk : k < R) :
    (rr R p f (c + 1)).det = (if k = (rr R p f c).rk then (rr R p f c).det else (0 - (rr R p f c).det) % p) * (rr R p f c).f k c % p := by
  simp only [rr, rstep, h, if_pos hk]
theorem l1r_end {p : Int} {R C n k m c6 N hi base : Nat} {A A6 : Option Addr} {D d : List Int} {pv : List Int} {det : Int} {w wr : World} (hb : Below w.heap.size w wr) (g2 : OwI wr (w.heap.size + 2) hi A n D) (hD : D = d) (ho6 : OwI wr base wr.heap.size A6 m pv) (h1 : hi ≤ base) (h2 : w.heap.size + 2 ≤ hi) (h3 : base ≤ wr.heap.size) (hN : N = w.heap.size + 1) (hd : Hd A n k) (hd6 : Hd A6 m c6) (v0 v1 v2 v3 : Value) :
    RetMSI p R C d pv m det w (.returned (.tuple #[.agg #[.int .i64 p, .int .i64 R, .int .i64 C, .slice A n k], .slice A6 m c6, .int .i64 det])) ((((wr.setCell ⟨N, 0, none⟩ v0).setCell ⟨N, 1, none⟩ v1).setCell ⟨N, 2, none⟩ v2).setCell ⟨N, 3, none⟩ v3) := by
  subst hD hN
  refine ⟨_, _, _, _, _, hi, rfl, hd, hd6, (by repeat' (first | (with_reducible exact Below.refl _ _) | (with_reducible refine Below.setCell ?_ (by first | exact Nat.le_refl _ | omega | (simp only [World.size_alloc, World.size_setCell, World.heap_drewN]; omega) | (simp; omega)) _) | (with_reducible refine Below.alloc ?_ (by first | exact Nat.le_refl _ | omega | (simp only [World.size_alloc, World.size_setCell, World.heap_drewN]; omega) | (simp; omega)) _) | (with_reducible refine below_drewN ?_ _) | (with_reducible refine Below.drew ?_) | (with_reducible refine Below.trans ?_ (hb.mono (by first | exact Nat.le_refl _ | omega | (simp only [World.size_alloc, World.size_setCell, World.heap_drewN]; omega) | (simp; omega)))))), ?_, ?_, by simp only [World.size_setCell]; omega, by omega⟩
  · exact ((((g2.setLow (by show w.heap.size + 1 < _; omega) _).setLow (by show w.heap.size + 1 < _; omega) _).setLow (by show w.heap.size + 1 < _; omega) _).setLow (by show w.heap.size + 1 < _; omega) _).down (by omega)
  · simp only [World.size_setCell]
    exact ((((ho6.setLow (by show w.heap.size + 1 < _; omega) _).setLow (by show w.heap.size + 1 < _; omega) _).setLow (by show w.heap.size + 1 < _; omega) _).setLow (by show w.heap.size + 1 < _; omega) _).down h1
set_option maxHeartbeats 4000000
set_option maxRecDepth 100000 in
theorem l1Reduce_any {B : Nat} (p : Int) (R C n k : Nat) (A : Option Addr) (d : List Int) (w : World) (h : RdI w B A n d) (hd : Hd A n k) (hB : B ≤ w.heap.size) (hl : n = R * C) (hn : n ≤ 100000000) (hR : R ≤ 1000000) (hC : C ≤ 1000000) (hp : isP p = true) (hr : resB d p = true) :
    Calls Try.prog 69 #[.agg #[.int .i64 p, .int .i64 R, .int .i64 C, .slice A n k]] w (RetMSI p R C (tab R C (rr R p (matF d C) C).f) (pvI (rr R p (matF d C) C).pv) (rr R p (matF d C) C).rk (rr R p (matF d C) C).det w) := by
  obtain ⟨hp1, hp2⟩ := isP_bd hp
  have HP := Lib.hid hp
  have HL := Lib.hid hl
  have HRF := Lib.hid (matF_res (C := C) (by omega) hr)
  have HDL := Lib.hid h.1
  clear hp hl hr
  generalize hf : matF d C = f at *
  have HFD := Lib.hid (show FD d R C f by rw [← hf]; intro i j _ _; rfl)
  clear hf
  go_enter Try.func69, Try.ntmps69
  go_wp2_with fail
  refine (l1Copy_any p R C A n k d _ (B := B) (by exact h.below ((by repeat' (first | (with_reducible exact Below.refl _ _) | (with_reducible refine Below.setCell ?_ (by first | exact Nat.le_refl _ | omega | (simp only [World.size_alloc, World.size_setCell, World.heap_drewN]; omega) | (simp; omega)) _) | (with_reducible refine Below.alloc ?_ (by first | exact Nat.le_refl _ | omega | (simp only [World.size_alloc, World.size_setCell, World.heap_drewN]; omega) | (simp; omega)) _) | (with_reducible refine below_drewN ?_ _) | (with_reducible refine Below.drew ?_))) : Below w.heap.size w _) hB) hd (by first | exact Nat.le_refl _ | omega | (simp only [World.size_alloc, World.size_setCell, World.heap_drewN]; omega) | (simp; omega)) (by omega)).mono ?_
  rintro e w1 ⟨A1, n1, k1, rfl, hd1, hb1, ho1⟩
  have hs1 := hb1.size
  simp only [World.size_alloc] at hs1 ho1
  have hx := (((Box.new w _ _).alloc _).below hb1 (by simp; omega) : Box w1 w.heap.size #[.int .i64 p, .int .i64 R, .int .i64 C, .slice A n k])
  have hz := ((Box.new (w.alloc _) _ _).below hb1 (by simp) : Box w1 (w.alloc (.cells #[.int .i64 p, .int .i64 R, .int .i64 C, .slice A n k] 27)).heap.size #[.int .i64 0, .int .i64 0, .int .i64 0, .slice none 0 0])
  rw [World.size_alloc] at hz
  have hq1 : Below w.heap.size w w1 := (by repeat' (first | (with_reducible exact Below.refl _ _) | (with_reducible refine Below.setCell ?_ (by first | exact Nat.le_refl _ | omega | (simp only [World.size_alloc, World.size_setCell, World.heap_drewN]; omega) | (simp; omega)) _) | (with_reducible refine Below.alloc ?_ (by first | exact Nat.le_refl _ | omega | (simp only [World.size_alloc, World.size_setCell, World.heap_drewN]; omega) | (simp; omega)) _) | (with_reducible refine below_drewN ?_ _) | (with_reducible refine Below.drew ?_) | (with_reducible refine Below.trans ?_ (hb1.mono (by first | exact Nat.le_refl _ | omega | (simp only [World.size_alloc, World.size_setCell, World.heap_drewN]; omega) | (simp; omega))))))
  obtain rfl : n1 = n := by rw [← ho1.1, HDL.out]
  clear hb1 h
  obtain ⟨x0, x1, x2, x3⟩ := hx.four
  have hsz0 : w.heap.size < w1.heap.size := by omega
  have hpe : (p == 0) = false := by simp; omega
  have htm : (1 : Int).tmod p = 1 % p := Int.tmod_eq_emod_of_nonneg (by omega)
  have g1 := Int.emod_nonneg 1 (show p ≠ 0 by omega)
  have g2 := Int.emod_lt_of_pos 1 (show 0 < p by omega)
  have hw1 : IntKind.i64.wrap (1 % p) = 1 % p := IntWalk.i64_in _ (by omega)
  go_wp2_with fail
  clear x0 x1 x2 x3 htm g1 g2 hw1
  have hm := Box.new w1 #[.int .i64 p, .int .i64 R, .int .i64 C, .slice A1 n1 k1] 27
  have hZ := hz.alloc (.cells #[.int .i64 p, .int .i64 R, .int .i64 C, .slice A1 n1 k1] 27)
  have hBW : Below w.heap.size w (w1.alloc (.cells #[.int .i64 p, .int .i64 R, .int .i64 C, .slice A1 n1 k1] 27)) := hq1.alloc (by omega) _
  have hWs : (w1.alloc (.cells #[.int .i64 p, .int .i64 R, .int .i64 C, .slice A1 n1 k1] 27)).heap.size = w1.heap.size + 1 := by simp
  have hO : OwI (w1.alloc (.cells #[.int .i64 p, .int .i64 R, .int .i64 C, .slice A1 n1 k1] 27)) (w.heap.size + 2) w1.heap.size A1 n1 d := ho1.alloc (Nat.le_refl _) _
  clear hx hz ho1 hq1
  generalize (w1.alloc (.cells #[.int .i64 p, .int .i64 R, .int .i64 C, .slice A1 n1 k1] 27)) = W1 at hm hZ hBW hWs hO ⊢
  have hC0 : CutL (w.heap.size + 2) w1.heap.size (w1.heap.size + 1) A1 n1 R C (.slice (some ⟨W1.heap.size, 0, none⟩) 0 0) 0 [] f W1 (W1.alloc (.cells #[] 3)) :=
    ⟨(Chg.refl _ _ _).alloc _, ⟨d, hO.alloc (by omega) _, HFD.out⟩, World.ownsRow_lit W1 #[] 0 (by omega) (by unfold maxLen; omega) rfl⟩
  rw [hWs] at hC0
  have HWs := Lib.hid hWs
  go_loopw [6, 7, 8] (fun v6 dd cc wr => ∃ c : Nat, c ≤ C ∧ cc = .int .i64 c ∧ dd = .int .i64 (rr R p f c).det ∧ CutL (w.heap.size + 2) w1.heap.size (w1.heap.size + 1) A1 n1 R C v6 (rr R p f c).rk ((pvI (rr R p f c).pv).map (Value.int .i64)) (rr R p f c).f W1 wr) (fun _ _ cc _ => C - (intOf cc).toNat)
  case atStart => exact ⟨0, by omega, rfl, rfl, hC0⟩
  case round =>
    clear hC0
    obtain ⟨c, hc, rfl, rfl, hS⟩ := hrel
    have hsz := hS.1.size
    have hM := hm.chg hS.1 (.inr (Nat.le_refl _))
    obtain ⟨m0, m1, m2, m3⟩ := hM.four
    obtain ⟨hrk, hpl⟩ := rr_rk R p f c
    have HPL := Lib.hid hpl
    clear hpl
    obtain ⟨A6, c6, rfl, hd6⟩ := own_hd hS.2.2
    by_cases hcond : c < C ∧ (rr R p f c).rk < R
    · obtain ⟨hlt, hrkR⟩ := hcond
      have hdt := rr_det (R := R) (f := f) (p := p) (by omega) c
      have hres := Lib.hid (rr_res (R := R) (by omega) HRF.out c)
      obtain ⟨b, o, rfl, hb0, hb1⟩ := hS.addr (by have h1 := HL.out; have h2 := idx_lt hrkR hlt; omega)
      go_wp2_with fail
      go_loopw [10] (fun x wr => ∃ k : Nat, (rr R p f c).rk ≤ k ∧ k ≤ R ∧ x = .int .i64 k ∧ CutL (w.heap.size + 2) w1.heap.size (w1.heap.size + 1) (some ⟨b, o, none⟩) n1 R C (.slice A6 (rr R p f c).rk c6) (rr R p f c).rk ((pvI (rr R p f c).pv).map (Value.int .i64)) (rr R p f c).f W1 wr ∧ Hid (∀ j, (rr R p f c).rk ≤ j → j < k → (rr R p f c).f j c = 0)) (fun x _ => R - (intOf x).toNat)
      case atStart => exact ⟨(rr R p f c).rk, Nat.le_refl _, hrk, rfl, hS, fun j h1 h2 => by omega⟩
      case round =>
        clear hS hM m0 m1 m2 m3
        obtain ⟨k, hk0, hk, rfl, hS, hz⟩ := hrel
        have hsz := hS.1.size
        have hM := hm.chg hS.1 (.inr (Nat.le_refl _))
        obtain ⟨m0, m1, m2, m3⟩ := hM.four
        by_cases hkR : k < R
        · obtain ⟨i1, i2, i3, i4, -, -, -⟩ := ixF hkR hlt HL.out (by omega)
          obtain ⟨D, hrD, hFD⟩ := hS.rd
          have hval := hFD k c hkR hlt
          have HFD := Lib.hid hFD
          clear hFD
          go_wp2_with fail
          refine (l1At_any p R C k c n1 k1 _ D _ (B := w1.heap.size) (by exact hrD) (by omega) i1 (by omega)).mono ?_
          rintro e w5 ⟨rfl, hb5⟩
          rw [hval]
          have hS5 := hS.below (by omega) hb5
          have HV := Lib.hid hval
          clear hval m0 m1 m2 m3 hM hS hrD
          have hsz := hS5.1.size
          have hM := hm.chg hS5.1 (.inr (Nat.le_refl _))
          obtain ⟨m0, m1, m2, m3⟩ := hM.four
          by_cases hv : (rr R p f c).f k c = 0
          · have Hv := Lib.hid hv
            have hv' : ((rr R p f c).f k c == 0) = true := by simpa using hv
            clear hv
            go_wp2
            go_roundw
            case rel => exact ⟨k + 1, by omega, by omega, by go_num, hS5, fun j h1 h2 => by
              by_cases e : j = k
              · subst e; exact Hv.out
              · exact hz.out j h1 (by omega)⟩
            case measure => simp [intOf]; omega
          · have hv' : ((rr R p f c).f k c == 0) = false := by simpa using hv
            have HPV := Lib.hid (pivAt_eq hk0 hk hz.out (.inr hv))
            have Hv := Lib.hid hv
            clear hv
            go_upto_if 59 with fail
            go_cut [7] (fun s7 wx => s7 = .int .i64 (if k = (rr R p f c).rk then (rr R p f c).det else (0 - (rr R p f c).det) % p) ∧ CutL (w.heap.size + 2) w1.heap.size (w1.heap.size + 1) (some ⟨b, o, none⟩) n1 R C (.slice A6 (rr R p f c).rk c6) (rr R p f c).rk ((pvI (rr R p f c).pv).map (Value.int .i64)) (rr R p f c).f W1 wx)
            case first =>
              by_cases hkr : k = (rr R p f c).rk
              · have hkr' : ((k : Int) != ((rr R p f c).rk : Int)) = false := by simp; omega
                have HK := Lib.hid (show (if k = (rr R p f c).rk then (rr R p f c).det else (0 - (rr R p f c).det) % p) = (rr R p f c).det from if_pos hkr)
                clear hkr
                go_wp2_with fail
                go_meet
                exact ⟨by rw [HK.out], hS5⟩
              · have hkr' : ((k : Int) != ((rr R p f c).rk : Int)) = true := by simp; omega
                have HK := Lib.hid (show (if k = (rr R p f c).rk then (rr R p f c).det else (0 - (rr R p f c).det) % p) = (0 - (rr R p f c).det) % p from if_neg hkr)
                clear hkr
                go_wp2_with (go_at_call 71; refine (l1Mod_any _ _ _ (by omega) (by omega)).mono ?_; rintro e w' ⟨rfl, rfl⟩)
                go_meet
                exact ⟨by rw [HK.out, Int.zero_sub], hS5⟩
            case rest => as_aux_lemma =>
              obtain ⟨rfl, hS⟩ := hcut
              have hd1b : 0 ≤ (if k = (rr R p f c).rk then (rr R p f c).det else (0 - (rr R p f c).det) % p) ∧ (if k = (rr R p f c).rk then (rr R p f c).det else (0 - (rr R p f c).det) % p) < p := by
                split
                · exact hdt
                · exact ⟨Int.emod_nonneg _ (by omega), Int.emod_lt_of_pos _ (by omega)⟩
              have HS := Lib.hid (And.intro (rr_hit HPV.out hkR) (rr_hit' HPV.out hkR))
              generalize (if k = (rr R p f c).rk then (rr R p f c).det else (0 - (rr R p f c).det) % p) = dt1 at hd1b HS ⊢
              clear m0 m1 m2 m3 hM hS5 hdt i1 i2 i3 i4
              have hsb := swap_bd (r := (rr R p f c).rk) (k := k) hres.out
              have hsc : swapF (rr R p f c).f (rr R p f c).rk k (rr R p f c).rk c = (rr R p f c).f k c := by simp [swapF]
              have hkb := hres.out k c
              have hk1 : 0 < (rr R p f c).f k c := by have := Hv.out; omega
              have HSB := Lib.hid hsb
              have HSC := Lib.hid hsc
              clear hsb hsc
              go_wp2_with fail
              go_loopw [11] (fun jj wr => ∃ j : Nat, j ≤ C ∧ jj = .int .i64 j ∧ CutL (w.heap.size + 2) w1.heap.size (w1.heap.size + 1) (some ⟨b, o, none⟩) n1 R C (.slice A6 (rr R p f c).rk c6) (rr R p f c).rk ((pvI (rr R p f c).pv).map (Value.int .i64)) (swT (rr R p f c).f (rr R p f c).rk k j) W1 wr) (fun jj _ => C - (intOf jj).toNat)
              case atStart => exact ⟨0, by omega, rfl, hS.congr fun i y _ _ => (swT_zero _ _ _ _ _).symm⟩
              case round =>
                clear hS
                obtain ⟨j, hj, rfl, hS⟩ := hrel
                have hsz := hS.1.size
                have hM := hm.chg hS.1 (.inr (Nat.le_refl _))
                obtain ⟨m0, m1, m2, m3⟩ := hM.four
                by_cases hltj : j < C
                · obtain ⟨i1, i2, i3, i4, i5, i6, i7⟩ := ixF hrkR hltj HL.out (by omega)
                  obtain ⟨j1, j2, j3, j4, j5, j6, j7⟩ := ixF hkR hltj HL.out (by omega)
                  obtain ⟨u1, u2⟩ := hS.at_ HL.out hrkR hltj
                  obtain ⟨v1, v2⟩ := hS.at_ HL.out hkR hltj
                  rw [swT_at] at u1 v1
                  have hS2 := fun nq => (hS.drewN nq).store HL.out hrkR hltj (by omega) ((rr R p f c).f k j)
                  have hq : ∀ nq, ∃ v, ((wr.drewN nq).setCell ⟨b, o + ((rr R p f c).rk * C + j), none⟩ (.int .i64 ((rr R p f c).f k j))).cell? ⟨b, o + (k * C + j), none⟩ = some v := fun nq => ⟨_, ((hS2 nq).at_ HL.out hkR hltj).1⟩
                  have HS2 := Lib.hid hS2
                  have HQ := Lib.hid hq
                  have HSS := Lib.hid hS
                  clear hS2 hq hS hM
                  go_wp2_with fail
                  (refine wp_region_quiet_last (C := fun w' => ∃ nn, w' = wr.drewN nn) 19 (by kernel_rfl) (by kernel_rfl) (by kernel_rfl) (by kernel_rfl) (by kernel_rfl) (by kernel_rfl) (by kernel_rfl) (by kernel_rfl) ⟨1, rfl⟩ ?_; simp only [List.take_succ_cons, List.take_zero, List.drop_succ_cons, List.drop_zero]; (repeat (go_big_quiet_step (fail))); refine wpQuiet_nil ?_; rintro W ⟨nq, rfl⟩)
                  obtain ⟨vq, hq⟩ := HQ.out nq
                  have hS3 := (HS2.out nq).store HL.out hkR hltj (by omega) ((rr R p f c).f (rr R p f c).rk j)
                  have HS3 := Lib.hid (hS3.congr fun i y _ _ => swT_succ (rr R p f c).f (rr R p f c).rk k j i y)
                  clear hS3 HS2 HQ HSS
                  go_wp2
                  go_roundw
                  case rel => exact ⟨j + 1, by omega, by go_num, HS3.out⟩
                  case measure => simp [intOf]; omega
                · as_aux_lemma =>
                  obtain rfl : C = j := by omega
                  have hS := hS.congr fun i y _ hy => swT_done (rr R p f c).f (rr R p f c).rk k _ i y hy
                  have HSC2 := HSC
                  generalize swapF (rr R p f c).f (rr R p f c).rk k = f2 at hS HSB HSC HS
                  have HS' := HS
                  obtain ⟨D, hrD, hFD⟩ := hS.rd
                  have hval := (hFD (rr R p f c).rk c hrkR hlt).trans HSC.out
                  obtain ⟨i1, i2, i3, i4, i5, i6, i7⟩ := ixF hrkR hlt HL.out (by omega)
                  have hsz := hS.1.size
                  have hhi : w1.heap.size ≤ wr.heap.size := by omega
                  have r1 : 0 ≤ dt1 * (rr R p f c).f k c := Int.mul_nonneg hd1b.1 hkb.1
                  have r2 : dt1 * (rr R p f c).f k c ≤ 10007 * 10007 := Int.mul_le_mul (by omega) (by omega) hkb.1 (by omega)
                  have r3 := Int.emod_nonneg (dt1 * (rr R p f c).f k c) (show p ≠ 0 by omega)
                  have r4 := Int.emod_lt_of_pos (dt1 * (rr R p f c).f k c) (show 0 < p by omega)
                  have e1 : IntKind.i64.wrap (dt1 * (rr R p f c).f k c) = dt1 * (rr R p f c).f k c := IntWalk.i64_in _ (by omega)
                  have e2 : (dt1 * (rr R p f c).f k c).tmod p = dt1 * (rr R p f c).f k c % p := Int.tmod_eq_emod_of_nonneg r1
                  have e3 : IntKind.i64.wrap (dt1 * (rr R p f c).f k c % p) = dt1 * (rr R p f c).f k c % p := IntWalk.i64_in _ (by omega)
                  have cA : ∀ d os, Calls Try.prog 72 #[.agg #[.int .i64 p, .int .i64 R, .int .i64 C, .slice (some ⟨b, o, none⟩) n1 k1], .int .i64 (rr R p f c).rk, .int .i64 c] (grow (redrawn wr d) os) fun e w'' => e = .returned (.int .i64 ((rr R p f c).f k c)) ∧ ∃ p : Regrown, w'' = grow (redrawn wr p.d) p.os :=
                    fun d os => Calls.regrown_of (by rw [← hval]; exact l1At_any p R C (rr R p f c).rk c n1 k1 _ D _ (B := w1.heap.size) (hrD.below (below_regrown wr d os) hhi) (by have := (below_regrown wr d os).size; omega) i1 (by omega))
                  have cI : ∀ d os, Calls Try.prog 89 #[.int .i64 ((rr R p f c).f k c), .int .i64 p] (grow (redrawn wr d) os) fun e w'' => e = .returned (.int .i64 (invI ((rr R p f c).f k c) p)) ∧ ∃ p : Regrown, w'' = grow (redrawn wr p.d) p.os :=
                    fun d os => Calls.regrown_of ((sInvOf_any _ _ _).mono fun e w' h => ⟨by rw [h.1, invOf_invI HP.out hk1 hkb.2], by rw [← h.2]; exact Below.refl _ _⟩)
                  have q0 := cell_regrown m0
                  have q1 := cell_regrown m1
                  have q2 := cell_regrown m2
                  have q3 := cell_regrown m3
                  clear hval
                  go_upto_region 20 with fail
                  clear m0 m1 m2 m3
                  (refine wp_region_quiet_below (w := wr) (by kernel_rfl) (by kernel_rfl) ?_; (repeat (go_big_quiet_step (exact cA _ _))); refine wpQuiet_nil ?_; rintro W ⟨pp, hW⟩; have hbW : Below wr.heap.size wr W := hW ▸ below_regrown _ _ _; clear hW)
                  obtain ⟨Wa, rfl⟩ : ∃ x, x = W := ⟨W, rfl⟩
                  have hS5 := hS.below hhi hbW
                  obtain ⟨D, hrD, hFD⟩ := hS5.rd
                  have hval := (hFD (rr R p f c).rk c hrkR hlt).trans HSC.out
                  have hM := hm.chg hS5.1 (.inr (Nat.le_refl _))
                  obtain ⟨m0, m1, m2, m3⟩ := hM.four
                  have hhi5 : w1.heap.size ≤ Wa.heap.size := by have := hS5.1.size; omega
                  have cA5 : ∀ d os, Calls Try.prog 72 #[.agg #[.int .i64 p, .int .i64 R, .int .i64 C, .slice (some ⟨b, o, none⟩) n1 k1], .int .i64 (rr R p f c).rk, .int .i64 c] (grow (redrawn Wa d) os) fun e w'' => e = .returned (.int .i64 ((rr R p f c).f k c)) ∧ ∃ p : Regrown, w'' = grow (redrawn Wa p.d) p.os :=
                    fun d os => Calls.regrown_of (by rw [← hval]; exact l1At_any p R C (rr R p f c).rk c n1 k1 _ D _ (B := w1.heap.size) (hrD.below (below_regrown Wa d os) hhi5) (by have := (below_regrown Wa d os).size; omega) i1 (by omega))
                  have cI5 : ∀ d os, Calls Try.prog 89 #[.int .i64 ((rr R p f c).f k c), .int .i64 p] (grow (redrawn Wa d) os) fun e w'' => e = .returned (.int .i64 (invI ((rr R p f c).f k c) p)) ∧ ∃ p : Regrown, w'' = grow (redrawn Wa p.d) p.os :=
                    fun d os => Calls.regrown_of ((sInvOf_any _ _ _).mono fun e w' h => ⟨by rw [h.1, invOf_invI HP.out hk1 hkb.2], by rw [← h.2]; exact Below.refl _ _⟩)
                  clear q0 q1 q2 q3 cA cI hval hS hrD hhi hbW e1 e2 e3 r1 r2 r3 r4
                  have q0 := cell_regrown m0
                  have q1 := cell_regrown m1
                  have q2 := cell_regrown m2
                  have q3 := cell_regrown m3
                  go_upto_region 21 with fail
                  clear m0 m1 m2 m3
                  (refine wp_region_quiet_below (w := Wa) (by kernel_rfl) (by kernel_rfl) ?_; (repeat (go_big_quiet_step (first | exact cA5 _ _ | exact cI5 _ _))); refine wpQuiet_nil ?_; rintro W ⟨pp, hW⟩; have hbW : Below Wa.heap.size Wa W := hW ▸ below_regrown _ _ _; clear hW)
                  have hS6 := hS5.below hhi5 hbW
                  have hvb := invI_bd (n := (rr R p f c).f k c) HP.out
                  clear q0 q1 q2 q3 cA5 cI5 hS5 hhi5 hbW hM HSC hFD hsz
                  generalize invI ((rr R p f c).f k c) p = vi at HS hvb ⊢
                  have hM := hm.chg hS6.1 (.inr (Nat.le_refl _))
                  obtain ⟨m0, m1, m2, m3⟩ := hM.four
                  have hsz := hS6.1.size
                  go_wp2_with fail
                  go_loopw [14] (fun jj wr => ∃ j : Nat, j ≤ C ∧ jj = .int .i64 j ∧ CutL (w.heap.size + 2) w1.heap.size (w1.heap.size + 1) (some ⟨b, o, none⟩) n1 R C (.slice A6 (rr R p f c).rk c6) (rr R p f c).rk ((pvI (rr R p f c).pv).map (Value.int .i64)) (scT f2 (rr R p f c).rk vi p j) W1 wr) (fun jj _ => C - (intOf jj).toNat)
                  case atStart => exact ⟨0, by omega, rfl, hS6.congr fun i y _ _ => (scT_zero _ _ _ _ _ _).symm⟩
                  case round =>
                    clear hS6 hM m0 m1 m2 m3 hsz
                    obtain ⟨j, hj, rfl, hS⟩ := hrel
                    have hsz := hS.1.size
                    have hM := hm.chg hS.1 (.inr (Nat.le_refl _))
                    obtain ⟨m0, m1, m2, m3⟩ := hM.four
                    by_cases hltj : j < C
                    · obtain ⟨i1, i2, i3, i4, i5, i6, i7⟩ := ixF hrkR hltj HL.out (by omega)
                      obtain ⟨u1, u2⟩ := hS.at_ HL.out hrkR hltj
                      rw [scT_at] at u1
                      obtain ⟨y1, y2⟩ := HSB.out (rr R p f c).rk j
                      have r1 : 0 ≤ f2 (rr R p f c).rk j * vi := Int.mul_nonneg y1 hvb.1
                      have r2 : f2 (rr R p f c).rk j * vi ≤ 10007 * 10007 := Int.mul_le_mul (by omega) (by omega) hvb.1 (by omega)
                      have r3 := Int.emod_nonneg (f2 (rr R p f c).rk j * vi) (show p ≠ 0 by omega)
                      have r4 := Int.emod_lt_of_pos (f2 (rr R p f c).rk j * vi) (show 0 < p by omega)
                      have e1 : IntKind.i64.wrap (f2 (rr R p f c).rk j * vi) = f2 (rr R p f c).rk j * vi := IntWalk.i64_in _ (by omega)
                      have e2 : (f2 (rr R p f c).rk j * vi).tmod p = f2 (rr R p f c).rk j * vi % p := Int.tmod_eq_emod_of_nonneg r1
                      have e3 : IntKind.i64.wrap (f2 (rr R p f c).rk j * vi % p) = f2 (rr R p f c).rk j * vi % p := IntWalk.i64_in _ (by omega)
                      have HSS := Lib.hid hS
                      clear hS hM
                      go_wp2_with fail
                      (refine wp_region_quiet_last (C := fun w' => ∃ nn, w' = wr.drewN nn) 24 (by kernel_rfl) (by kernel_rfl) (by kernel_rfl) (by kernel_rfl) (by kernel_rfl) (by kernel_rfl) (by kernel_rfl) (by kernel_rfl) ⟨1, rfl⟩ ?_; simp only [List.take_succ_cons, List.take_zero, List.drop_succ_cons, List.drop_zero]; (repeat (go_big_quiet_step (fail))); refine wpQuiet_nil ?_; rintro W ⟨nq, rfl⟩)
                      have HS3 := Lib.hid (((HSS.out.drewN nq).store HL.out hrkR hltj (by omega) (f2 (rr R p f c).rk j * vi % p)).congr fun i y _ _ => scT_succ f2 (rr R p f c).rk vi p j i y)
                      clear HSS e1 e2 e3 r1 r2 r3 r4
                      go_wp2
                      go_roundw
                      case rel => exact ⟨j + 1, by omega, by go_num, HS3.out⟩
                      case measure => simp [intOf]; omega
                    · obtain rfl : C = j := by omega
                      have hS := hS.congr fun i y _ hy => scT_done f2 (rr R p f c).rk vi p _ i y hy
                      have hbd := Lib.hid (scale_bd (r := (rr R p f c).rk) (v := vi) (p := p) (by omega) HSB.out)
                      generalize scaleF f2 (rr R p f c).rk vi p = f3 at HS hS hbd
                      clear HSB
                      go_wp2_with fail
                      go_loopw [15] (fun ii wr => ∃ i : Nat, i ≤ R ∧ ii = .int .i64 i ∧ CutL (w.heap.size + 2) w1.heap.size (w1.heap.size + 1) (some ⟨b, o, none⟩) n1 R C (.slice A6 (rr R p f c).rk c6) (rr R p f c).rk ((pvI (rr R p f c).pv).map (Value.int .i64)) (elT f3 (rr R p f c).rk c p i) W1 wr) (fun ii _ => R - (intOf ii).toNat)
                      case atStart => exact ⟨0, by omega, rfl, hS.congr fun i y _ _ => by unfold elT; rw [if_neg (by omega)]⟩
                      case round =>
                        clear hS hM m0 m1 m2 m3 hsz
                        obtain ⟨i, hi, rfl, hS⟩ := hrel
                        have hsz := hS.1.size
                        have hM := hm.chg hS.1 (.inr (Nat.le_refl _))
                        obtain ⟨m0, m1, m2, m3⟩ := hM.four
                        by_cases hlti : i < R
                        · obtain ⟨i1, i2, i3, i4, i5, i6, i7⟩ := ixF hlti hlt HL.out (by omega)
                          obtain ⟨D, hrD, hFD⟩ := hS.rd
                          have hval := hFD i c hlti hlt
                          rw [elT_at] at hval
                          have HFD := Lib.hid hFD
                          clear hFD
                          go_wp2_with fail
                          refine (l1At_any p R C i c n1 k1 _ D _ (B := w1.heap.size) (by exact hrD) (by omega) i1 (by omega)).mono ?_
                          rintro e w5 ⟨rfl, hb5⟩
                          rw [hval]
                          have hS5 := hS.below (by omega) hb5
                          clear hval m0 m1 m2 m3 hM hS hrD hb5 i1 i2 i3 i4 i5 i6 i7 hsz
                          have hfb := hbd.out i c
                          go_wp2_with fail
                          go_loopw [17] (fun jj wr => ∃ j : Nat, j ≤ C ∧ jj = .int .i64 j ∧ CutL (w.heap.size + 2) w1.heap.size (w1.heap.size + 1) (some ⟨b, o, none⟩) n1 R C (.slice A6 (rr R p f c).rk c6) (rr R p f c).rk ((pvI (rr R p f c).pv).map (Value.int .i64)) (elR f3 (rr R p f c).rk c p i j) W1 wr ∧ (j = 0 ∨ Hid (i ≠ (rr R p f c).rk ∧ f3 i c ≠ 0))) (fun jj _ => C - (intOf jj).toNat)
                          case atStart => exact ⟨0, by omega, rfl, hS5.congr fun a y _ _ => (elR_zero _ _ _ _ _ _ _).symm, .inl rfl⟩
                          case round =>
                            clear hS5
                            obtain ⟨j, hj, rfl, hS, hj0⟩ := hrel
                            have hsz := hS.1.size
                            have hM := hm.chg hS.1 (.inr (Nat.le_refl _))
                            obtain ⟨m0, m1, m2, m3⟩ := hM.four
                            by_cases hgo : j < C ∧ i ≠ (rr R p f c).rk ∧ f3 i c ≠ 0
                            · obtain ⟨hltj, hir, hfz⟩ := hgo
                              have HJ0 := Lib.hid (And.intro hir hfz)
                              have hir' : ((i : Int) != ((rr R p f c).rk : Int)) = true := by simp; omega
                              have hfz' : (f3 i c != 0) = true := by simpa using hfz
                              obtain ⟨i1, i2, i3, i4, i5, i6, i7⟩ := ixF hrkR hltj HL.out (by omega)
                              obtain ⟨j1, j2, j3, j4, j5, j6, j7⟩ := ixF hlti hltj HL.out (by omega)
                              obtain ⟨u1, u2⟩ := hS.at_ HL.out hlti hltj
                              obtain ⟨v1, v2⟩ := hS.at_ HL.out hrkR hltj
                              rw [elR_at] at u1
                              rw [elR_row _ _ _ _ _ _ _ hir] at v1
                              obtain ⟨y1, y2⟩ := hbd.out (rr R p f c).rk j
                              obtain ⟨z1, z2⟩ := hbd.out i j
                              have r1 : 0 ≤ f3 i c * f3 (rr R p f c).rk j := Int.mul_nonneg hfb.1 y1
                              have r2 : f3 i c * f3 (rr R p f c).rk j ≤ 10007 * 10007 := Int.mul_le_mul (by omega) (by omega) y1 (by omega)
                              have e1 : IntKind.i64.wrap (f3 i c * f3 (rr R p f c).rk j) = f3 i c * f3 (rr R p f c).rk j := IntWalk.i64_in _ (by omega)
                              have e2 : IntKind.i64.wrap (f3 i j - f3 i c * f3 (rr R p f c).rk j) = f3 i j - f3 i c * f3 (rr R p f c).rk j := IntWalk.i64_in _ (by omega)
                              have HE := Lib.hid (elim_sub (f := f3) (r := (rr R p f c).rk) (c := c) (i := i) (y := j) (p := p) hir)
                              have HSS := Lib.hid hS
                              have cM : ∀ nn, Calls Try.prog 71 #[.int .i64 (f3 i j - f3 i c * f3 (rr R p f c).rk j), .int .i64 p] (wr.drewN nn) fun e w'' => e = .returned (.int .i64 ((f3 i j - f3 i c * f3 (rr R p f c).rk j) % p)) ∧ ∃ k, w'' = wr.drewN k :=
                                fun nn => (l1Mod_any _ _ _ (by omega) (by omega)).mono fun e w' h => ⟨h.1, nn, h.2.symm⟩
                              clear hS hM hir hfz hj0
                              go_wp2_with fail
                              (refine wp_region_quiet_last (C := fun w' => ∃ nn, w' = wr.drewN nn) 35 (by kernel_rfl) (by kernel_rfl) (by kernel_rfl) (by kernel_rfl) (by kernel_rfl) (by kernel_rfl) (by kernel_rfl) (by kernel_rfl) ⟨1, rfl⟩ ?_; simp only [List.take_succ_cons, List.take_zero, List.drop_succ_cons, List.drop_zero]; (repeat (go_big_quiet_step (exact cM _))); refine wpQuiet_nil ?_; rintro W ⟨nq, rfl⟩)
                              have HS3 := Lib.hid (((HSS.out.drewN nq).store HL.out hlti hltj (by omega) ((f3 i j - f3 i c * f3 (rr R p f c).rk j) % p)).congr (g := elR f3 (rr R p f c).rk c p i (j + 1)) fun a y _ _ => by
                                have := elR_succ f3 (rr R p f c).rk c p i j a y
                                rw [HE.out] at this
                                exact this)
                              clear HSS e1 e2 r1 r2
                              go_wp2
                              go_roundw
                              case rel => exact ⟨j + 1, by omega, by go_num, HS3.out, .inr HJ0⟩
                              case measure => simp [intOf]; omega
                            · have HG : CutL (w.heap.size + 2) w1.heap.size (w1.heap.size + 1) (some ⟨b, o, none⟩) n1 R C (.slice A6 (rr R p f c).rk c6) (rr R p f c).rk ((pvI (rr R p f c).pv).map (Value.int .i64)) (elT f3 (rr R p f c).rk c p (i + 1)) W1 wr := by
                                rcases hj0 with h0 | h0
                                · by_cases hz : i = (rr R p f c).rk ∨ f3 i c = 0
                                  · subst h0
                                    refine hS.congr fun a y _ _ => ?_
                                    rw [elR_zero]
                                    exact elT_skip f3 _ c p i a y (elim_skip (by omega) hz (hbd.out i y))
                                  · exact absurd ⟨by omega, fun e => hz (.inl e), fun e => hz (.inr e)⟩ hgo
                                · obtain rfl : C = j := by
                                    have h1 := h0.out
                                    by_cases e : j < C
                                    · exact absurd ⟨e, h1⟩ hgo
                                    · omega
                                  exact hS.congr fun a y _ hy => elR_done f3 _ c p i _ a y hy
                              have HGG := Lib.hid HG
                              have hgo3 : (j < C ∧ i ≠ (rr R p f c).rk ∧ f3 i c = 0) ∨ (j < C ∧ i = (rr R p f c).rk) ∨ j = C := by
                                by_cases h1 : j < C
                                · by_cases h2 : i = (rr R p f c).rk
                                  · exact .inr (.inl ⟨h1, h2⟩)
                                  · exact .inl ⟨h1, h2, by
                                      by_cases h3 : f3 i c = 0
                                      · exact h3
                                      · exact absurd ⟨h1, h2, h3⟩ hgo⟩
                                · exact .inr (.inr (by omega))
                              clear hgo hj0 HG hS hM
                              rcases hgo3 with ⟨h1, h2, h3⟩ | ⟨h1, h2⟩ | h1
                              · have hir' : ((i : Int) != ((rr R p f c).rk : Int)) = true := by simp; omega
                                have hfz' : (f3 i c != 0) = false := by simpa using h3
                                clear h2 h3
                                go_wp2
                                go_roundw
                                case rel => exact ⟨i + 1, by omega, by go_num, HGG.out⟩
                                case measure => simp [intOf]; omega
                              · have hir' : ((i : Int) != ((rr R p f c).rk : Int)) = false := by simp; omega
                                clear h2
                                go_wp2
                                go_roundw
                                case rel => exact ⟨i + 1, by omega, by go_num, HGG.out⟩
                                case measure => simp [intOf]; omega
                              · obtain rfl : C = j := h1.symm
                                go_wp2
                                go_roundw
                                case rel => exact ⟨i + 1, by omega, by go_num, HGG.out⟩
                                case measure => simp [intOf]; omega
                        · obtain rfl : R = i := by omega
                          obtain ⟨⟨h1, h2, h3⟩, h4⟩ := HS.out
                          have HS7 := Lib.hid (hS.congr (g := (rr R p f (c + 1)).f) fun a y ha hy => by rw [h1, elT_done _ _ _ _ _ _ _ ha])
                          have HR := Lib.hid (And.intro h2 (And.intro h3 h4))
                          have hOA := (hS.2.2.alloc (.cells #[.int .i64 c] 3))
                          have hRO := RdI.one wr c 3
                          have hcn : (rr R p f c).rk + 1 ≤ 1073741824 := by omega
                          clear h1 h2 h3 h4 hS
                          go_wp2_with (at_builtin; refine wpList_apI (v := .slice A6 (rr R p f c).rk c6) (w := wr.alloc (.cells #[.int .i64 c] 3)) (lo := w1.heap.size + 1) (n := (rr R p f c).rk) (xs := pvI (rr R p f c).pv) (ys := [(c : Int)]) (m := 1) rfl (.tmp 216) (.tmp 218) rfl rfl hOA rfl hRO (Hd.self (by unfold maxLen; omega)) hcn (by simp; omega) ?_; intro v' w' ho' hg' hv')
                          obtain ⟨g1, ⟨D, g2, g3⟩, g4⟩ := HS7.out
                          have HS8 : CutL (w.heap.size + 2) w1.heap.size (w1.heap.size + 1) (some ⟨b, o, none⟩) n1 R C v' (rr R p f (c + 1)).rk ((pvI (rr R p f (c + 1)).pv).map (Value.int .i64)) (rr R p f (c + 1)).f W1 w' := by
                            refine ⟨?_, ⟨D, ?_, g3⟩, by rw [HR.out.1, HR.out.2.1, pvI_app]; exact ho'⟩
                            · exact (g1.alloc (.cells #[.int .i64 c] 3)).grown hg' (fun b e => by have := (hOA.lt b e).1; omega)
                            · exact (g2.alloc (by omega) (.cells #[.int .i64 c] 3)).keepH fun b _ hb hs => hg'.block b hs (fun e => by have := (hOA.lt b e.symm).1; omega)
                          go_wp2
                          go_roundw
                          case rel => exact ⟨c + 1, by omega, by go_num, by rw [HR.out.2.2], HS8⟩
                          case measure => simp [intOf]; omega
        · have hkR' : k = R := by omega
          subst hkR'
          have HM := Lib.hid (rr_miss (pivAt_eq hk0 hk hz.out (.inl rfl)))
          go_wp2
          go_roundw
          case rel => exact ⟨c + 1, by omega, by go_num, by rw [HM.out], by rw [HM.out]; exact hS⟩
          case measure => simp [intOf]; omega
    · have hfin : rr R p f C = rr R p f c := by
        by_cases e : c = C
        · rw [e]
        · have h1 := rr_full (R := R) (p := p) (f := f) (c := c) (by omega) (C - c)
          rwa [show c + (C - c) = C by omega] at h1
      have HF := Lib.hid hfin
      have hcs : (c < C ∧ R = (rr R p f c).rk) ∨ c = C := by omega
      have ho6 := ofOwn' hS.2.2 (by unfold maxLen; omega)
      obtain ⟨g1, ⟨D, g2, g3⟩, -⟩ := hS
      have HD := Lib.hid (g3.tab (by rw [g2.1]; exact HL.out))
      have HRKs := Lib.hid hrk
      have hzz := hZ.chg g1 (.inl (by omega))
      obtain ⟨r0, r1, r2, r3⟩ := hzz.four
      have rf := hzz.fz
      have hWW := HWs.out
      have hBB : Below w.heap.size w wr := hBW.trans ((g1.below (by omega)).mono (by omega))
      clear hfin hcond g3 hZ hm
      rcases hcs with ⟨h1, h2⟩ | h1
      · have HR := Lib.hid h2
        have hlt2 : decide ((rr R p f c).rk < R) = false := by simp; omega
        clear h2
        go_wp2
        exact bodyPost_ret (v := .tuple #[.agg #[.int .i64 p, .int .i64 R, .int .i64 C, .slice A1 n1 k1], .slice A6 (rr R p f c).rk c6, .int .i64 (rr R p f c).det]) (by simp [results, Try.results69, go_sem, r0, r1, r2, r3]) rfl (by rw [HF.out]; exact l1r_end hBB g2 HD.out ho6 (by omega) (by omega) (by omega) (by omega) hd1 hd6 _ _ _ _)
      · obtain rfl : C = c := h1.symm
        go_wp2
        exact bodyPost_ret (v := .tuple #[.agg #[.int .i64 p, .int .i64 R, .int .i64 C, .slice A1 n1 k1], .slice A6 (rr R p f C).rk c6, .int .i64 (rr R p f C).det]) (by simp [results, Try.results69, go_sem, r0, r1, r2, r3]) rfl (l1r_end hBB g2 HD.out ho6 (by omega) (by omega) (by omega) (by omega) hd1 hd6 _ _ _ _)
end Go.Proofs.Yteepnimmbofmlaa
