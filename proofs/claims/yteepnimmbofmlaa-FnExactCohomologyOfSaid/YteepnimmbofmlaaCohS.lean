/- CohomologyOf of the reference. No condition but what each theorem names. -/
import Derived.Test.YteepnimmbofmlaaCohV
import Derived.Test.YteepnimmbofmlaaSumW
import Derived.Test.YteepnimmbofmlaaL1SpW
import Derived.Test.YteepnimmbofmlaaRowW
import Derived.Test.YteepnimmbofmlaaRin
import Derived.Deep.RegionHeld3
import Derived.Deep.DeepCutAuto
namespace Go.Proofs.Yteepnimmbofmlaa
set_option linter.unusedVariables false
set_option linter.unusedSimpArgs false
set_option maxRecDepth 20000
open Go.RowKit Go.Sort
set_option maxHeartbeats 4000000
theorem RdI.grown {w w' : World} {B n : Nat} {A : Option Addr} {xs : List Int} {row : Option Nat} (h : RdI w B A n xs) (hg : w.grownBy w' row) (hB : B ≤ w.heap.size) (hne : ∀ b o, A = some ⟨b, o, none⟩ → 0 < n → row ≠ some b) : RdI w' B A n xs :=
  ⟨h.1, h.2.1, fun hn => by
    obtain ⟨b, o, e, hb, hc⟩ := h.2.2 hn
    have hk := hg.block b (by omega) (fun e2 => hne b o e hn e2.symm)
    exact ⟨b, o, e, hb, fun j hj => (World.cell?_of_block (w := w) hk).trans (hc j hj)⟩⟩
theorem RdI.setNe {w : World} {B n : Nat} {A : Option Addr} {xs : List Int} (h : RdI w B A n xs) {q : Addr} (hne : ∀ b o, A = some ⟨b, o, none⟩ → 0 < n → b ≠ q.block) (u : Value) : RdI (w.setCell q u) B A n xs :=
  ⟨h.1, h.2.1, fun hn => by
    obtain ⟨b, o, e, hb, hc⟩ := h.2.2 hn
    have hk := Below.heap_setCell w q u b (hne b o e hn)
    exact ⟨b, o, e, hb, fun j hj => (World.cell?_of_block (w := w) hk).trans (hc j hj)⟩⟩
theorem RdT.one (w : World) {B : Nat} {A : Option Addr} {n k : Nat} {xs : List Int} (T : TypeId) (h : RdI w B A n xs) (hd : Hd A n k) (hB : B ≤ w.heap.size) : RdT (w.alloc (.cells #[.slice A n k] T)) (w.heap.size + 1) (some ⟨w.heap.size, 0, none⟩) 1 [(A, n, k)] [xs] :=
  ⟨rfl, by unfold maxLen; omega, fun _ => ⟨_, _, rfl, by omega, fun j hj => by
    obtain rfl : j = 0 := by omega
    exact (Box.new w _ _).cell rfl⟩, fun j hj => by
    obtain rfl : j = 0 := by omega
    exact ⟨(h.alloc hB _).up (by omega), hd⟩⟩
theorem sCoh_no {B : Nat} (p q x : Int) (n k : Nat) (A : Option Addr) (d : List Int) (w : World) (h : RdI w B A n d) (hd : Hd A n k) (hB : B ≤ w.heap.size) (hno : (okA p q d && decide (q ≤ 7) && (decide (0 ≤ x) && decide (x ≤ q))) = false) :
    Calls Try.prog 14 #[.agg #[.int .i64 p, .int .i64 q, .slice A n k], .int .i64 x] w (RetT [] w) := by
  rcases h1 : (okA p q d && decide (q ≤ 7)) with _ | _
  · have HC := Lib.hid h1
    clear h1 hno
    go_enter Try.func14, Try.ntmps14
    go_wp2_with fail
    refine (l4Small_any p q n k A d _ (B := B) (by exact h.below ((by repeat' (first | (with_reducible exact Below.refl _ _) | (with_reducible refine Below.setCell ?_ (by first | exact Nat.le_refl _ | omega | (simp only [World.size_alloc, World.size_setCell, World.heap_drewN]; omega) | (simp; omega)) _) | (with_reducible refine Below.alloc ?_ (by first | exact Nat.le_refl _ | omega | (simp only [World.size_alloc, World.size_setCell, World.heap_drewN]; omega) | (simp; omega)) _) | (with_reducible refine below_drewN ?_ _) | (with_reducible refine Below.drew ?_))) : Below w.heap.size w _) hB) hd (by first | exact Nat.le_refl _ | omega | (simp only [World.size_alloc, World.size_setCell, World.heap_drewN]; omega) | (simp; omega))).mono ?_
    rintro e w1 ⟨rfl, hb1⟩
    have b1 : Box w1 (w.heap.size) #[.int .i64 p, .int .i64 q, .slice A n k] := by
      have hq := (Box.new w #[.int .i64 p, .int .i64 q, .slice A n k] 29).below hb1 (by first | omega | (simp only [World.size_alloc]; omega) | (simp; omega))
      (try simp only [World.size_alloc] at hq)
      exact hq
    have hq1 : Below w.heap.size w w1 := (by repeat' (first | (with_reducible exact Below.refl _ _) | (with_reducible refine Below.setCell ?_ (by first | exact Nat.le_refl _ | omega | (simp only [World.size_alloc, World.size_setCell, World.heap_drewN]; omega) | (simp; omega)) _) | (with_reducible refine Below.alloc ?_ (by first | exact Nat.le_refl _ | omega | (simp only [World.size_alloc, World.size_setCell, World.heap_drewN]; omega) | (simp; omega)) _) | (with_reducible refine below_drewN ?_ _) | (with_reducible refine Below.drew ?_) | (with_reducible refine Below.trans ?_ (hb1.mono (by first | exact Nat.le_refl _ | omega | (simp only [World.size_alloc, World.size_setCell, World.heap_drewN]; omega) | (simp; omega))))))
    have hs1 := hb1.size
    simp only [World.size_alloc] at hs1
    clear hb1
    rw [HC.out]
    go_wp2
    go_ret
    exact ⟨none, 0, 0, rfl, Hd.nil, hq1, [], OwT.nil _ _ _⟩
  · have HC := Lib.hid h1
    have HI := Lib.hid (show (decide (0 ≤ x) && decide (x ≤ q)) = false by rw [h1, Bool.true_and] at hno; exact hno)
    clear h1 hno
    go_enter Try.func14, Try.ntmps14
    go_wp2_with fail
    refine (l4Small_any p q n k A d _ (B := B) (by exact h.below ((by repeat' (first | (with_reducible exact Below.refl _ _) | (with_reducible refine Below.setCell ?_ (by first | exact Nat.le_refl _ | omega | (simp only [World.size_alloc, World.size_setCell, World.heap_drewN]; omega) | (simp; omega)) _) | (with_reducible refine Below.alloc ?_ (by first | exact Nat.le_refl _ | omega | (simp only [World.size_alloc, World.size_setCell, World.heap_drewN]; omega) | (simp; omega)) _) | (with_reducible refine below_drewN ?_ _) | (with_reducible refine Below.drew ?_))) : Below w.heap.size w _) hB) hd (by first | exact Nat.le_refl _ | omega | (simp only [World.size_alloc, World.size_setCell, World.heap_drewN]; omega) | (simp; omega))).mono ?_
    rintro e w1 ⟨rfl, hb1⟩
    have b1 : Box w1 (w.heap.size) #[.int .i64 p, .int .i64 q, .slice A n k] := by
      have hq := (Box.new w #[.int .i64 p, .int .i64 q, .slice A n k] 29).below hb1 (by first | omega | (simp only [World.size_alloc]; omega) | (simp; omega))
      (try simp only [World.size_alloc] at hq)
      exact hq
    have hq1 : Below w.heap.size w w1 := (by repeat' (first | (with_reducible exact Below.refl _ _) | (with_reducible refine Below.setCell ?_ (by first | exact Nat.le_refl _ | omega | (simp only [World.size_alloc, World.size_setCell, World.heap_drewN]; omega) | (simp; omega)) _) | (with_reducible refine Below.alloc ?_ (by first | exact Nat.le_refl _ | omega | (simp only [World.size_alloc, World.size_setCell, World.heap_drewN]; omega) | (simp; omega)) _) | (with_reducible refine below_drewN ?_ _) | (with_reducible refine Below.drew ?_) | (with_reducible refine Below.trans ?_ (hb1.mono (by first | exact Nat.le_refl _ | omega | (simp only [World.size_alloc, World.size_setCell, World.heap_drewN]; omega) | (simp; omega))))))
    have hs1 := hb1.size
    simp only [World.size_alloc] at hs1
    clear hb1
    rw [HC.out]
    obtain ⟨x0, x1, x2⟩ := b1.three
    go_wp2_with fail
    refine (l1In_any x 0 q _).mono ?_
    rw [HI.out]
    rintro e w2 ⟨rfl, rfl⟩
    go_wp2
    go_ret
    exact ⟨none, 0, 0, rfl, Hd.nil, hq1, [], OwT.nil _ _ _⟩
set_option maxRecDepth 100000 in
theorem sCoh_ok {B : Nat} (p : Int) (N K n k : Nat) (A : Option Addr) (d : List Int) (w : World) (h : RdI w B A n d) (hd : Hd A n k) (hB : B ≤ w.heap.size) (hN : N ≤ 7) (hK : K ≤ N) (hp : isP p = true) (hl : d.length = N * N * N) (hr : resB d p = true) (hok : okA p N d = true) :
    Calls Try.prog 14 #[.agg #[.int .i64 p, .int .i64 N, .slice A n k], .int .i64 K] w (RetT (chL N K p d (clR N K p d)) w) := by
  obtain ⟨hp1, hp2⟩ := isP_bd hp
  have HP := Lib.hid hp
  have HC := Lib.hid (show (okA p N d && decide ((N : Int) ≤ 7)) = true by rw [hok]; simp; omega)
  obtain ⟨KI, hKI⟩ : ∃ KI : Int, KI = (K : Int) := ⟨_, rfl⟩
  have HI := Lib.hid (show (decide ((0 : Int) ≤ KI) && decide (KI ≤ (N : Int))) = true by rw [hKI]; simp; omega)
  have HL := Lib.hid (show n = N * N * N by rw [← hl]; exact h.1.symm)
  have HR := Lib.hid hr
  have hR35 := nS_le hN (show K ≤ 8 by omega)
  have HSL := Lib.hid (show (subs N K 0).length = nS N K from rfl)
  have HKI := Lib.hid hKI
  rw [← hKI]
  clear hok hp hl hr hKI
  go_enter Try.func14, Try.ntmps14
  go_wp2_with fail
  refine (l4Small_any p N n k A d _ (B := B) (by exact h.below ((by repeat' (first | (with_reducible exact Below.refl _ _) | (with_reducible refine Below.setCell ?_ (by first | exact Nat.le_refl _ | omega | (simp only [World.size_alloc, World.size_setCell, World.heap_drewN]; omega) | (simp; omega)) _) | (with_reducible refine Below.alloc ?_ (by first | exact Nat.le_refl _ | omega | (simp only [World.size_alloc, World.size_setCell, World.heap_drewN]; omega) | (simp; omega)) _) | (with_reducible refine below_drewN ?_ _) | (with_reducible refine Below.drew ?_))) : Below w.heap.size w _) hB) hd (by first | exact Nat.le_refl _ | omega | (simp only [World.size_alloc, World.size_setCell, World.heap_drewN]; omega) | (simp; omega))).mono ?_
  rintro e w1 ⟨rfl, hb1⟩
  have b1 : Box w1 (w.heap.size) #[.int .i64 p, .int .i64 N, .slice A n k] := by
    have hq := (Box.new w #[.int .i64 p, .int .i64 N, .slice A n k] 29).below hb1 (by first | omega | (simp only [World.size_alloc]; omega) | (simp; omega))
    (try simp only [World.size_alloc] at hq)
    exact hq
  have hq1 : Below w.heap.size w w1 := (by repeat' (first | (with_reducible exact Below.refl _ _) | (with_reducible refine Below.setCell ?_ (by first | exact Nat.le_refl _ | omega | (simp only [World.size_alloc, World.size_setCell, World.heap_drewN]; omega) | (simp; omega)) _) | (with_reducible refine Below.alloc ?_ (by first | exact Nat.le_refl _ | omega | (simp only [World.size_alloc, World.size_setCell, World.heap_drewN]; omega) | (simp; omega)) _) | (with_reducible refine below_drewN ?_ _) | (with_reducible refine Below.drew ?_) | (with_reducible refine Below.trans ?_ (hb1.mono (by first | exact Nat.le_refl _ | omega | (simp only [World.size_alloc, World.size_setCell, World.heap_drewN]; omega) | (simp; omega))))))
  have hs1 := hb1.size
  simp only [World.size_alloc] at hs1
  have g1 := h.below hq1 hB
  clear hb1
  rw [HC.out]
  clear h
  obtain ⟨x0, x1, x2⟩ := b1.three
  go_wp2_with fail
  refine (l1In_any KI 0 N _).mono ?_
  rw [HI.out]
  rintro e w2 ⟨rfl, rfl⟩
  go_wp2_with fail
  refine (sSubs_any N hN K KI 0 0 _ (by omega) (by omega) (Lib.hid (by have := HKI.out; omega)) (Lib.hid rfl)).mono ?_
  rintro e w2 ⟨AS, nS5, kS, rfl, hdS, hb2, hsS, hTS⟩
  obtain rfl : nS N K = nS5 := hTS.len
  clear hTS
  have hs2 := hb2.size
  have hq2 := hq1.trans (hb2.mono (by omega))
  have b2 := b1.below hb2 (by omega)
  have g2 := g1.below hb2 (by omega)
  clear x0 x1 x2 hb2 b1 g1 hq1
  obtain ⟨x0, x1, x2⟩ := b2.three
  go_wp2_with fail
  refine (l1Unit_any p (nS N K) _ (by omega)).mono ?_
  rintro e w3 ⟨A3, n3, k3, rfl, hd3, hb3, ho3⟩
  have hs3 := hb3.size
  have b3 := (b2.below hb3 (by omega)).alloc (.cells #[.int .i64 p, .int .i64 (nS N K), .int .i64 (nS N K), .slice A3 n3 k3] 27)
  have g3 := (g2.below hb3 (by omega)).alloc (by omega) (.cells #[.int .i64 p, .int .i64 (nS N K), .int .i64 (nS N K), .slice A3 n3 k3] 27)
  have hq3 := (hq2.trans (hb3.mono (by omega))).alloc (by omega) (.cells #[.int .i64 p, .int .i64 (nS N K), .int .i64 (nS N K), .slice A3 n3 k3] 27)
  have h6 := Box.new w3 #[.int .i64 p, .int .i64 (nS N K), .int .i64 (nS N K), .slice A3 n3 k3] 27
  have ho4 := (ho3.alloc (Nat.le_refl _) (.cells #[.int .i64 p, .int .i64 (nS N K), .int .i64 (nS N K), .slice A3 n3 k3] 27)).rd
  clear x0 x1 x2 hb3 ho3 b2 g2 hq2
  obtain ⟨x0, x1, x2⟩ := b3.three
  go_upto_if 33 with fail
  obtain ⟨W4, hW4⟩ : ∃ W4, W4 = w3.alloc (.cells #[.int .i64 p, .int .i64 (nS N K), .int .i64 (nS N K), .slice A3 n3 k3] 27) := ⟨_, rfl⟩
  have hW4s : W4.heap.size = w3.heap.size + 1 := by rw [hW4]; simp
  obtain ⟨g6, hg6⟩ : ∃ g, g = w3.heap.size := ⟨_, rfl⟩
  rw [← hW4] at b3 g3 hq3 h6 ho4 x0 x1 x2 ⊢
  rw [← hg6] at h6 hs3 hW4s ho4 ⊢
  clear hW4 hg6
  go_cut [6] (fun s6 wx => s6 = .pointer (some ⟨g6, 0, none⟩) ∧ ∃ (Ac : Option Addr) (nc kc : Nat), Box wx g6 #[.int .i64 p, .int .i64 (clR N K p d), .int .i64 (nS N K), .slice Ac nc kc] ∧ Hd Ac nc kc ∧ RdI wx wx.heap.size Ac nc (tab (clR N K p d) (nS N K) (clF N K p d)) ∧ Below g6 W4 wx)
  case first =>
    by_cases hKN : K + 1 ≤ N
    · have hlt : decide (KI < (N : Int)) = true := by have := HKI.out; simp; omega
      have hlt2 : KI < (N : Int) := by have := HKI.out; omega
      have cM : Calls Try.prog 33 #[.agg #[.int .i64 p, .int .i64 N, .slice A n k], .int .i64 KI] W4 (RetM p (nS N (K + 1)) (nS N K) (tab (nS N (K + 1)) (nS N K) fun j i => dmF N K p d i j) W4) := by
        rw [HKI.out]; exact l4Matrix_any (B := B) p N K n k A d _ g3 hd (by omega) hN hKN HL.out hp1 hp2 HR.out
      have HT := Lib.hid (cc_tab (N := N) (K := K) HP.out d)
      have HCI := Lib.hid (cl_in (p := p) d hKN)
      have HTR := Lib.hid (show resB (tab (nS N (K + 1)) (nS N K) fun j i => dmF N K p d i j) p = true from resB_tab fun i j _ _ => dmF_res (by omega) d j i)
      have hC35 := nS_le hN (show K + 1 ≤ 8 by omega)
      have hCR : nS N (K + 1) * nS N K ≤ 35 * 35 := Nat.mul_le_mul hC35 hR35
      go_wp2_with fail
      refine cM.mono ?_
      rintro e w5 ⟨A5, n5, k5, rfl, hd5, hb5, ho5⟩
      have hs5 := hb5.size
      have HN5 := Lib.hid (show n5 = nS N (K + 1) * nS N K by have := ho5.1; rw [tab_len] at this; exact this.symm)
      go_wp2_with fail
      refine (l1Kernel_any (B := w5.heap.size) p (nS N (K + 1)) (nS N K) n5 k5 A5 _ _ ho5.rd hd5 (Nat.le_refl _) HN5.out (by rw [HN5.out]; omega) (by omega) (by omega) HP.out HTR.out).mono ?_
      rw [HT.out.2, HT.out.1, ← HCI.out.1, ← HCI.out.2]
      rintro e w6 ⟨A6, n6, k6, rfl, hd6, hb6, ho6⟩
      have hs6 := hb6.size
      have hb46 : Below W4.heap.size W4 w6 := hb5.trans (hb6.mono hs5)
      have h66 := h6.step hb46
      obtain ⟨y0, y1, y2, y3⟩ := h66.four
      have yf := h66.fz
      have HO := Lib.hid ho6
      clear ho5 ho6 hb5 hb6 x0 x1 x2
      go_wp2
      go_meet
      refine ⟨rfl, A6, n6, k6, h66.set4 _ _ _ _, hd6, ?_, ?_⟩
      · simp only [World.size_setCell]
        exact ((((HO.out.setLow (by show g6 < _; omega) _).setLow (by show g6 < _; omega) _).setLow (by show g6 < _; omega) _).setLow (by show g6 < _; omega) _).rd
      · exact ((((hb46.mono (by omega)).setCell (by exact Nat.le_refl _) _).setCell (by exact Nat.le_refl _) _).setCell (by exact Nat.le_refl _) _).setCell (by exact Nat.le_refl _) _
    · have hlt : decide (KI < (N : Int)) = false := by have := HKI.out; simp; omega
      have hlt2 : ¬ KI < (N : Int) := by have := HKI.out; omega
      have HCT := Lib.hid (cl_top (p := p) d hKN)
      go_wp2
      go_meet
      exact ⟨rfl, A3, n3, k3, by rw [HCT.out.1]; exact h6, hd3, by rw [HCT.out.2]; exact ho4.up (by omega), Below.refl _ _⟩
  case rest =>
    clear x0 x1 x2
    obtain ⟨wd, rfl⟩ : ∃ x, x = wc := ⟨wc, rfl⟩
    obtain ⟨rfl, Ac, nc, kc, h6c, hdc, hrc, hbc⟩ := hcut
    have bc := b3.below hbc (by omega)
    have gc := g3.below hbc (by omega)
    have hsc := hbc.size
    have hqc := hq3.trans (hbc.mono (by omega))
    clear b3 g3 hq3 ho4 h6 hbc
    obtain ⟨x0, x1, x2⟩ := bc.three
    go_wp2_with fail
    refine (l1Zero_any p 0 (nS N K) _ (by omega) (by omega) (by omega) (by omega)).mono ?_
    rw [show ((0 : Int) * (nS N K : Int)).toNat = 0 by rw [Int.zero_mul, Int.toNat_zero]]
    rintro e w5 ⟨A5, n5, k5, rfl, hd5, hb5, ho5⟩
    have hs5 := hb5.size
    have b5 := (bc.below hb5 (by omega)).alloc (.cells #[.int .i64 p, .int .i64 0, .int .i64 (nS N K), .slice A5 n5 k5] 27)
    have h65 := (h6c.below hb5 (by omega)).alloc (.cells #[.int .i64 p, .int .i64 0, .int .i64 (nS N K), .slice A5 n5 k5] 27)
    have g5 := (gc.below hb5 (by omega)).alloc (by omega) (.cells #[.int .i64 p, .int .i64 0, .int .i64 (nS N K), .slice A5 n5 k5] 27)
    have hrc5 := (hrc.below hb5 (Nat.le_refl _)).alloc (by omega) (.cells #[.int .i64 p, .int .i64 0, .int .i64 (nS N K), .slice A5 n5 k5] 27)
    have hq5 := (hqc.trans (hb5.mono (by omega))).alloc (by omega) (.cells #[.int .i64 p, .int .i64 0, .int .i64 (nS N K), .slice A5 n5 k5] 27)
    have h7 := Box.new w5 #[.int .i64 p, .int .i64 0, .int .i64 (nS N K), .slice A5 n5 k5] 27
    have ho7 := (ho5.alloc (Nat.le_refl _) (.cells #[.int .i64 p, .int .i64 0, .int .i64 (nS N K), .slice A5 n5 k5] 27)).rd
    clear x0 x1 x2 hb5 ho5 bc h6c gc hqc
    obtain ⟨x0, x1, x2⟩ := b5.three
    go_upto_if 43 with fail
    obtain ⟨W7, hW7⟩ : ∃ W7, W7 = w5.alloc (.cells #[.int .i64 p, .int .i64 0, .int .i64 (nS N K), .slice A5 n5 k5] 27) := ⟨_, rfl⟩
    have hW7s : W7.heap.size = w5.heap.size + 1 := by rw [hW7]; simp
    obtain ⟨g7, hg7⟩ : ∃ g, g = w5.heap.size := ⟨_, rfl⟩
    rw [← hW7] at b5 h65 g5 hrc5 hq5 h7 ho7 x0 x1 x2 ⊢
    rw [← hg7] at h7 hs5 hW7s ho7 ⊢
    clear hW7 hg7
    go_cut [7] (fun s7 wx => s7 = .pointer (some ⟨g7, 0, none⟩) ∧ ∃ (Ak : Option Addr) (nk kk : Nat), Box wx g7 #[.int .i64 p, .int .i64 (knS N p d K).1, .int .i64 (nS N K), .slice Ak nk kk] ∧ Hd Ak nk kk ∧ RdI wx wx.heap.size Ak nk (knS N p d K).2 ∧ Below g7 W7 wx ∧ ∀ b o, Ak = some ⟨b, o, none⟩ → 0 < nk → b ≠ g7)
    case first =>
      rcases K with _ | K
      · have hk2 : decide ((0 : Int) < KI) = false := by have := HKI.out; simp; omega
        have hk3 : ¬ (0 : Int) < KI := by have := HKI.out; omega
        go_wp2
        go_meet
        exact ⟨rfl, A5, n5, k5, h7, hd5, ho7.up (by omega), Below.refl _ _, fun b o e hn => absurd ho7.1 (by simp; omega)⟩
      · have hT := Lib.hid (kn_tab (N := N) (K := K) HP.out d)
        have hk1 : IntKind.i64.wrap (KI - 1) = (K : Int) := by
          rw [show KI - 1 = (K : Int) by have := HKI.out; omega]; exact IntWalk.i64_in _ (by omega)
        have hk2 : decide ((0 : Int) < KI) = true := by have := HKI.out; simp; omega
        have hk3 : (0 : Int) < KI := by have := HKI.out; omega
        have hC35 := nS_le hN (show K ≤ 8 by omega)
        have hCR : nS N (K + 1) * nS N K ≤ 35 * 35 := Nat.mul_le_mul hR35 hC35
        have hCR2 : nS N K * nS N (K + 1) ≤ 35 * 35 := Nat.mul_le_mul hC35 hR35
        have HTR := Lib.hid (show resB (tab (nS N K) (nS N (K + 1)) (dmF N K p d)) p = true from resB_tab fun i j _ _ => dmF_res (by omega) d i j)
        have HTD := Lib.hid (trD_tab (nS N (K + 1)) (nS N K) fun j i => dmF N K p d i j)
        go_wp2_with fail
        refine (l4Matrix_any (B := B) p N K n k A d _ g5 hd (by omega) hN hK HL.out hp1 hp2 HR.out).mono ?_
        rintro e w6 ⟨A6, n6, k6, rfl, hd6, hb6, ho6⟩
        have hs6 := hb6.size
        have HN6 := Lib.hid (show n6 = nS N (K + 1) * nS N K by have := ho6.1; rw [tab_len] at this; exact this.symm)
        go_wp2_with fail
        refine (l1Transpose_any (B := w6.heap.size) p (nS N (K + 1)) (nS N K) n6 k6 A6 _ _ ho6.rd (Nat.le_refl _) (by omega) (by omega) HN6.out).mono ?_
        rw [HTD.out]
        rintro e w8 ⟨A8, n8, k8, rfl, hd8, hb8, ho8⟩
        have hs8 := hb8.size
        have HN8 := Lib.hid (show n8 = nS N K * nS N (K + 1) by have := ho8.1; rw [tab_len] at this; exact this.symm)
        go_wp2_with fail
        refine (l1Span_any (B := w8.heap.size) p (nS N K) (nS N (K + 1)) n8 k8 A8 _ _ ho8.rd hd8 (Nat.le_refl _) HN8.out (by rw [HN8.out]; omega) (by omega) (by omega) HP.out HTR.out).mono ?_
        rw [hT.out.2, hT.out.1]
        rintro e w9 ⟨A9, n9, k9, rfl, hd9, hb9, ho9⟩
        have hs9 := hb9.size
        have hb79 : Below W7.heap.size W7 w9 := hb6.trans ((hb8.trans (hb9.mono hs8)).mono hs6)
        have h79 := h7.step hb79
        obtain ⟨y0, y1, y2, y3⟩ := h79.four
        have yf := h79.fz
        have HO := Lib.hid ho9
        clear ho6 ho8 ho9 hb6 hb8 hb9 x0 x1 x2
        go_wp2
        go_meet
        refine ⟨rfl, A9, n9, k9, h79.set4 _ _ _ _, hd9, ?_, ?_, fun b o e hn => by have := HO.out.low (Nat.le_refl _) b o e hn; omega⟩
        · simp only [World.size_setCell]
          exact ((((HO.out.setLow (by show g7 < _; omega) _).setLow (by show g7 < _; omega) _).setLow (by show g7 < _; omega) _).setLow (by show g7 < _; omega) _).rd
        · exact ((((hb79.mono (by omega)).setCell (by exact Nat.le_refl _) _).setCell (by exact Nat.le_refl _) _).setCell (by exact Nat.le_refl _) _).setCell (by exact Nat.le_refl _) _
    case rest =>
      clear x0 x1 x2
      obtain ⟨rfl, Ak, nk, kk, h7c, hdk, hrk, hb7, hkG⟩ := hcut
      have bc := b5.below hb7 (by omega)
      have h6c := h65.below hb7 (by omega)
      have hrcc := hrc5.below hb7 (by omega)
      have hs7 := hb7.size
      have hqc := hq5.trans (hb7.mono (by omega))
      clear b5 h65 hrc5 hq5 hb7 h7 ho7 g5
      have hrcc := hrcc.up hs5
      go_wp2_with fail
      have HNC := Lib.hid (show nc = clR N K p d * nS N K by have := hrcc.1; rw [tab_len] at this; exact this.symm)
      have hcR := clR_le (N := N) (K := K) p d
      have hT0 := OwT.made wc
      have bW := bc.alloc (.cells #[] 22)
      have h6W := h6c.alloc (.cells #[] 22)
      have h7W := h7c.alloc (.cells #[] 22)
      have hrW := hrcc.alloc (by omega) (.cells #[] 22)
      have hkW := (hrk.alloc (Nat.le_refl _) (.cells #[] 22)).up (B' := (wc.alloc (.cells #[] 22)).heap.size) (by simp)
      have hkN : ∀ b o, Ak = some ⟨b, o, none⟩ → 0 < nk → b < wc.heap.size := fun b o e hn => by
        obtain ⟨b', o', e', hb', _⟩ := hrk.2.2 hn
        rw [e] at e'; injection e' with e'; injection e' with e'
        omega
      have hqW := hqc.alloc hqc.size (.cells #[] 22)
      obtain ⟨W8, hW8⟩ : ∃ W8, W8 = wc.alloc (.cells #[] 22) := ⟨_, rfl⟩
      have hW8s : wc.heap.size + 1 ≤ W8.heap.size ∧ W8.heap.size ≤ wc.heap.size + 1 := by rw [hW8]; simp
      obtain ⟨g8, hg8⟩ : ∃ g, g = wc.heap.size := ⟨_, rfl⟩
      rw [← hW8] at hT0 bW h6W h7W hrW hkW hqW ⊢
      rw [← hg8] at hT0 hs7 hkN hW8s ⊢
      clear hW8 hg8 hrcc hrk bc h6c h7c hqc
      go_loopw [8, 9] (fun v iv wr => ∃ (i m hi : Nat) (hs : List Hdr) (Ak : Option Addr) (nk kk : Nat), i ≤ clR N K p d ∧ iv = .int .i64 i ∧ OwT wr g8 hi v m hs (chL N K p d i) ∧ hi ≤ wr.heap.size ∧ Below g7 W8 wr ∧ Box wr g7 #[.int .i64 p, .int .i64 (chK N K p d i).1, .int .i64 (nS N K), .slice Ak nk kk] ∧ Hd Ak nk kk ∧ RdI wr wr.heap.size Ak nk (chK N K p d i).2 ∧ (∀ b o, Ak = some ⟨b, o, none⟩ → 0 < nk → b ≠ g7 ∧ v.ownBlock ≠ some b)) (fun _ iv _ => clR N K p d - (intOf iv).toNat)
      case atStart => exact ⟨0, 0, g8 + 1, [], Ak, nk, kk, Nat.zero_le _, rfl, hT0, by omega, Below.refl _ _, h7W, hdk, hkW, fun b o e hn => ⟨hkG b o e hn, by intro e2; injection e2 with e2; have := hkN b o e hn; have e3 : g8 = b := e2; omega⟩⟩
      case round =>
        clear hT0 h7W hkW hkN hkG hdk
        obtain ⟨i, m, hi, hs, Ak, nk, kk, hile, rfl, hT, hhi, hbl0, h7, hdk, hkr, hkb⟩ := hrel
        have hsz := hbl0.size
        have hx := bW.below hbl0 (by omega)
        have h6 := h6W.below hbl0 (by omega)
        have hrr := hrW.below hbl0 (Nat.le_refl _)
        have hqr := hqW.trans (hbl0.mono (by omega))
        obtain ⟨y0, y1, y2, y3⟩ := h6.four
        by_cases hlt : i < clR N K p d
        · obtain ⟨Ar, kr, hdr, hpr, hcr⟩ := l1Row_any (p := p) (r := (clR N K p d : Int)) (R := clR N K p d) (C := nS N K) hdc HNC.out hlt (by omega) (by omega) (by rw [HNC.out]; have : clR N K p d * nS N K ≤ 35 * 35 := Nat.mul_le_mul (by omega) hR35; omega)
          have hrow := hpr _ _ _ hrr
          rw [clV_sub hlt] at hrow
          have hKs := chK_spn (N := N) (K := K) HP.out d i
          have HKL := Lib.hid (show nk = (chK N K p d i).1 * nS N K by rw [← hkr.1]; exact hKs.1)
          have HKR := Lib.hid hKs.2.1
          have hk35 : (chK N K p d i).1 ≤ 35 := by have := hKs.2.2.1; omega
          have HVL := Lib.hid (clV_len N K p d i)
          have HVR := Lib.hid (clV_res (N := N) (K := K) hp1 d i)
          have HN1 := Lib.hid (show (rr ((chK N K p d i).1 + 1) p (matF ((chK N K p d i).2 ++ clV N K p d i) (nS N K)) (nS N K)).rk = (chK N K p d (i + 1)).1 from rfl)
          have HN2 := Lib.hid (show tab (rr ((chK N K p d i).1 + 1) p (matF ((chK N K p d i).2 ++ clV N K p d i) (nS N K)) (nS N K)).rk (nS N K) (rr ((chK N K p d i).1 + 1) p (matF ((chK N K p d i).2 ++ clV N K p d i) (nS N K)) (nS N K)).f = (chK N K p d (i + 1)).2 from rfl)
          have hx0 := hx.three
          clear hKs
          go_wp2_with fail
          clear y0 y1 y2 y3
          refine wp_region_kept (fun vs => ⟨#[Value.agg #[Value.int IntKind.i64 p, Value.int IntKind.i64 ↑N, Value.slice A n k], Value.int IntKind.i64 KI, Value.pointer (some ⟨w.heap.size, 0, none⟩), undef, Value.slice none 0 0, Value.int IntKind.i64 ↑(nS N K), Value.pointer (some ⟨g6, 0, none⟩), Value.pointer (some ⟨g7, 0, none⟩), u8, Value.int IntKind.i64 ↑i, vs 10, u11, u12, u13, u14, u15, u16, u17, u18, u19, u20, u21, u22, u23, u24, u25, u26, u27, u28, u29, u30, u31, u32, u33, u34, u35, u36, u37, u38, u39, u40, u41, u42, u43, u44, u45, u46, u47, u48, u49, Value.slice (some ⟨g8, 0, none⟩) 0 0, Value.int IntKind.i64 ↑i, Value.pointer (some ⟨g6, 1, none⟩), Value.int IntKind.i64 ↑(clR N K p d), Value.bool true, u55, u56, vs 0, vs 1, vs 2, vs 3, vs 4, vs 5, vs 6, vs 7, vs 8, vs 9, u67, u68, u69, u70, u71, u72, u73, u74, u75, u76, u77, u78, u79, u80], []⟩) (fun k => ([.eq (.agg #[.int .i64 p, .int .i64 (chK N K p d i).1, .int .i64 (nS N K), .slice Ak nk kk]), .eq (.pointer (some ⟨w.heap.size, 0, none⟩)), .eq (.int .i64 p), .eq (.int .i64 (nS N K)), .eq (.agg #[.int .i64 p, .int .i64 (clR N K p d), .int .i64 (nS N K), .slice Ac nc kc]), .eq (.int .i64 i), .eq (.slice Ar (nS N K) kr), .tb [clV N K p d i], .mat p 1 (nS N K) (clV N K p d i), .mat p (chK N K p d (i + 1)).1 (nS N K) (chK N K p d (i + 1)).2, .bx #[.int .i64 0, .int .i64 0, .int .i64 0, .slice none 0 0]] : List VK).getD k .any) (fun k => if k = 0 then (u57) else if k = 1 then (u58) else if k = 2 then (u59) else if k = 3 then (u60) else if k = 4 then (u61) else if k = 5 then (u62) else if k = 6 then (u63) else if k = 7 then (u64) else if k = 8 then (u65) else if k = 9 then (u66) else if k = 10 then (u10) else undef) (wr.heap.size) wr 11 (by rfl) (by rfl) (Below.refl _ _) (by kernel_rfl) (by rfl) (by kernel_rfl) ?_ ?_ (Nat.le_refl _)
          · rintro i oi vs wx hin ho hbl hd Kc hK
            have hsw := hbl.size
            rcases i with _ | _ | _ | _ | _ | _ | _ | _ | _ | _ | _ | i''
            · obtain rfl := Option.some.inj ho
              clear ho hin
              refine ite_take (by rfl) ?_
              obtain ⟨q0, q1, q2, q3⟩ := (h7.step hbl).four
              go_simp
              exact hK _ _ rfl (Below.refl _ _)
            · obtain rfl := Option.some.inj ho
              clear ho hin
              refine ite_take (by rfl) ?_
              go_simp
              exact hK _ _ rfl (Below.refl _ _)
            · obtain rfl := Option.some.inj ho
              clear ho hin
              have e1 : vs 1 = .pointer (some ⟨w.heap.size, 0, none⟩) := hd 1 (by rfl)
              obtain ⟨vs, rfl⟩ := vs_at e1
              refine ite_take (by rfl) ?_
              (try simp only [↓reduceIte, Nat.reduceEqDiff])
              have q0 := (hx.step hbl).three.1
              go_simp
              exact hK _ _ rfl (Below.refl _ _)
            · obtain rfl := Option.some.inj ho
              clear ho hin
              refine ite_take (by rfl) ?_
              go_simp
              exact hK _ _ rfl (Below.refl _ _)
            · obtain rfl := Option.some.inj ho
              clear ho hin
              refine ite_take (by rfl) ?_
              obtain ⟨q0, q1, q2, q3⟩ := (h6.step hbl).four
              go_simp
              exact hK _ _ rfl (Below.refl _ _)
            · obtain rfl := Option.some.inj ho
              clear ho hin
              refine ite_take (by rfl) ?_
              go_simp
              exact hK _ _ rfl (Below.refl _ _)
            · obtain rfl := Option.some.inj ho
              clear ho hin
              have e4 : vs 4 = .agg #[.int .i64 p, .int .i64 (clR N K p d), .int .i64 (nS N K), .slice Ac nc kc] := hd 4 (by rfl)
              obtain ⟨vs, rfl⟩ := vs_at e4
              have e5 : vs 5 = .int .i64 i := hd 5 (by rfl)
              obtain ⟨vs, rfl⟩ := vs_at e5
              refine ite_take (by rfl) ?_
              (try simp only [↓reduceIte, Nat.reduceEqDiff])
              go_simp
              refine (hcr _).mono ?_
              rintro e wc ⟨rfl, hbc⟩
              go_simp
              exact hK _ _ rfl hbc
            · obtain rfl := Option.some.inj ho
              clear ho hin
              have e6 : vs 6 = .slice Ar (nS N K) kr := hd 6 (by rfl)
              obtain ⟨vs, rfl⟩ := vs_at e6
              refine ite_take (by rfl) ?_
              (try simp only [↓reduceIte, Nat.reduceEqDiff])
              go_simp
              exact hK _ _ ⟨_, _, _, _, rfl, Hd.self (by unfold maxLen; omega), by rw [World.size_alloc]; exact RdT.one wx 22 (hrow.below hbl (by omega)) hdr (by omega)⟩ ((Below.refl wx.heap.size wx).alloc (Nat.le_refl _) _)
            · obtain rfl := Option.some.inj ho
              clear ho hin
              have e2 : vs 2 = .int .i64 p := hd 2 (by rfl)
              obtain ⟨vs, rfl⟩ := vs_at e2
              have e3 : vs 3 = .int .i64 (nS N K) := hd 3 (by rfl)
              obtain ⟨vs, rfl⟩ := vs_at e3
              obtain ⟨Av7, nv7, kv7, hsv7, e7, hdv7, hrv7⟩ := hd 7 (by rfl)
              obtain ⟨vs, rfl⟩ := vs_at e7
              refine ite_take (by rfl) ?_
              (try simp only [↓reduceIte, Nat.reduceEqDiff])
              obtain rfl : 1 = nv7 := hrv7.len
              go_simp
              refine (l1Rows_any (B := wx.heap.size) p (nS N K) Av7 1 kv7 hsv7 _ wx hrv7 (Nat.le_refl _) (by simp only [List.flatten_cons, List.flatten_nil, List.append_nil]; rw [HVL.out]; omega)).mono ?_
              simp only [List.flatten_cons, List.flatten_nil, List.append_nil]
              rintro e wc ⟨Ab, nb, kb, rfl, hdb, hbb, hob⟩
              go_simp
              exact hK _ _ ⟨_, _, _, rfl, hdb, hob.rd, hob.low (Nat.le_refl _)⟩ hbb
            · obtain rfl := Option.some.inj ho
              clear ho hin
              have e0 : vs 0 = .agg #[.int .i64 p, .int .i64 (chK N K p d i).1, .int .i64 (nS N K), .slice Ak nk kk] := hd 0 (by rfl)
              obtain ⟨vs, rfl⟩ := vs_at e0
              obtain ⟨Av8, nv8, kv8, e8, hdv8, hrv8, hgv8⟩ := hd 8 (by rfl)
              obtain ⟨vs, rfl⟩ := vs_at e8
              refine ite_take (by rfl) ?_
              (try simp only [↓reduceIte, Nat.reduceEqDiff])
              go_simp
              refine (l1Join_any (B := wx.heap.size) p (chK N K p d i).1 1 (nS N K) nk kk nv8 kv8 p (nS N K) Ak Av8 _ _ wx ((hkr.below hbl (Nat.le_refl _)).up hsw) hdk hrv8 hdv8 (Nat.le_refl _) HKL.out (by rw [← hrv8.1, HVL.out, Nat.one_mul]) (by omega) (by omega) (by omega) HP.out HKR.out HVR.out).mono ?_
              rw [HN2.out, HN1.out]
              rintro e wc ⟨An, nn, kn, rfl, hdn, hbn, hon⟩
              go_simp
              exact hK _ _ ⟨_, _, _, rfl, hdn, hon.rd, hon.low (Nat.le_refl _)⟩ hbn
            · obtain rfl := Option.some.inj ho
              clear ho hin
              refine ite_take (by rfl) ?_
              go_simp
              exact hK _ _ ⟨_, rfl, Nat.le_refl _, Box.new _ _ _⟩ ((Below.refl wx.heap.size wx).alloc (Nat.le_refl _) _)
            · exact absurd hin (by omega)
          · rintro oi vs wx ho hbl hall hsep Kc hK
            obtain rfl := Option.some.inj ho
            clear ho
            have hsw := hbl.size
            have e0 : vs 0 = .agg #[.int .i64 p, .int .i64 (chK N K p d i).1, .int .i64 (nS N K), .slice Ak nk kk] := hall 0 (by decide)
            have e1 : vs 1 = .pointer (some ⟨w.heap.size, 0, none⟩) := hall 1 (by decide)
            have e2 : vs 2 = .int .i64 p := hall 2 (by decide)
            have e3 : vs 3 = .int .i64 (nS N K) := hall 3 (by decide)
            have e4 : vs 4 = .agg #[.int .i64 p, .int .i64 (clR N K p d), .int .i64 (nS N K), .slice Ac nc kc] := hall 4 (by decide)
            have e5 : vs 5 = .int .i64 i := hall 5 (by decide)
            have e6 : vs 6 = .slice Ar (nS N K) kr := hall 6 (by decide)
            obtain ⟨Av7, nv7, kv7, hsv7, e7, hdv7, hrv7⟩ := hall 7 (by decide)
            obtain ⟨Av8, nv8, kv8, e8, hdv8, hrv8, hgv8⟩ := hall 8 (by decide)
            obtain ⟨Av9, nv9, kv9, e9, hdv9, hrv9, hgv9⟩ := hall 9 (by decide)
            obtain ⟨gv10, e10, hgv10, hxv10⟩ := hall 10 (by decide)
            have hne : ∀ b o, Av9 = some ⟨b, o, none⟩ → 0 < nv9 → b ≠ gv10 := fun b o e hn => hsep 10 9 (by decide) (by decide) (by decide) gv10 _ _ _ Av9 nv9 kv9 b o e10 e9 e hn
            clear hsep
            replace e0 : vs 0 = _ := e0
            obtain ⟨vs, rfl⟩ := vs_at e0
            clear e0
            replace e1 : vs 1 = _ := e1
            obtain ⟨vs, rfl⟩ := vs_at e1
            clear e1
            replace e2 : vs 2 = _ := e2
            obtain ⟨vs, rfl⟩ := vs_at e2
            clear e2
            replace e3 : vs 3 = _ := e3
            obtain ⟨vs, rfl⟩ := vs_at e3
            clear e3
            replace e4 : vs 4 = _ := e4
            obtain ⟨vs, rfl⟩ := vs_at e4
            clear e4
            replace e5 : vs 5 = _ := e5
            obtain ⟨vs, rfl⟩ := vs_at e5
            clear e5
            replace e6 : vs 6 = _ := e6
            obtain ⟨vs, rfl⟩ := vs_at e6
            clear e6
            replace e7 : vs 7 = _ := e7
            obtain ⟨vs, rfl⟩ := vs_at e7
            clear e7
            replace e8 : vs 8 = _ := e8
            obtain ⟨vs, rfl⟩ := vs_at e8
            clear e8
            replace e9 : vs 9 = _ := e9
            obtain ⟨vs, rfl⟩ := vs_at e9
            clear e9
            replace e10 : vs 10 = _ := e10
            obtain ⟨vs, rfl⟩ := vs_at e10
            clear e10
            clear hall
            refine ite_take (by rfl) ?_
            (try simp only [↓reduceIte, Nat.reduceEqDiff])
            obtain ⟨r0, r1, r2, r3⟩ := hxv10.four
            have rf := hxv10.fz
            go_simp
            refine hK _ _ ?_
            have hdata := ((((hrv9.setNe (q := ⟨gv10, 0, none⟩) hne (.int .i64 p)).setNe (q := ⟨gv10, 1, none⟩) hne (.int .i64 (chK N K p d (i + 1)).1)).setNe (q := ⟨gv10, 2, none⟩) hne (.int .i64 (nS N K))).setNe (q := ⟨gv10, 3, none⟩) hne (.slice Av9 nv9 kv9))
            have hbox := hxv10.set4 (.int .i64 p) (.int .i64 (chK N K p d (i + 1)).1) (.int .i64 (nS N K)) (.slice Av9 nv9 kv9)
            have hb9 : Below wr.heap.size wr _ := (((hbl.setCell (p := ⟨gv10, 0, none⟩) (by exact hgv10) (.int .i64 p)).setCell (p := ⟨gv10, 1, none⟩) (by exact hgv10) (.int .i64 (chK N K p d (i + 1)).1)).setCell (p := ⟨gv10, 2, none⟩) (by exact hgv10) (.int .i64 (nS N K))).setCell (p := ⟨gv10, 3, none⟩) (by exact hgv10) (.slice Av9 nv9 kv9)
            have hs9 : ((((wx.setCell ⟨gv10, 0, none⟩ (.int .i64 p)).setCell ⟨gv10, 1, none⟩ (.int .i64 (chK N K p d (i + 1)).1)).setCell ⟨gv10, 2, none⟩ (.int .i64 (nS N K))).setCell ⟨gv10, 3, none⟩ (.slice Av9 nv9 kv9)).heap.size = wx.heap.size := by simp
            obtain ⟨W9, hW9⟩ : ∃ W, W = ((((wx.setCell ⟨gv10, 0, none⟩ (.int .i64 p)).setCell ⟨gv10, 1, none⟩ (.int .i64 (chK N K p d (i + 1)).1)).setCell ⟨gv10, 2, none⟩ (.int .i64 (nS N K))).setCell ⟨gv10, 3, none⟩ (.slice Av9 nv9 kv9)) := ⟨_, rfl⟩
            rw [← hW9] at hdata hbox hb9 hs9 ⊢
            have hdata := hdata.up (B' := W9.heap.size) (by omega)
            clear hW9 hrv9 hxv10 r0 r1 r2 r3 rf hrv8 hrv7
            have hg10 : gv10 < W9.heap.size := hbox.lt
            have h7 := h7.step hb9
            have hx := hx.step hb9
            have h6 := h6.step hb9
            have hT9 := hT.below hb9 hhi
            have hkr := (hkr.below hb9 (Nat.le_refl _)).up hb9.size
            have hrow := hrow.below hb9 (by omega)
            have hHI : hi ≤ W9.heap.size := by omega
            have hub : ∀ b, u8.ownBlock = some b → b < hi := hT9.blk
            have hqW9 := hqr.trans (hb9.mono (by omega))
            have hbW9 := hbl0.trans (hb9.mono (by omega))
            clear hT hb9 hrr hpr
            obtain ⟨q0, q1, q2, q3⟩ := hbox.four
            obtain ⟨p0, p1, p2, p3⟩ := h7.four
            obtain ⟨y0, y1, y2, y3⟩ := h6.four
            by_cases hgr : (chK N K p d i).1 < (chK N K p d (i + 1)).1
            · have hgr2 : ((chK N K p d i).1 : Int) < ((chK N K p d (i + 1)).1 : Int) := by omega
              have HLT := Lib.hid (chL_take hgr).1
              have hcn : m ≤ 1073741824 := by have h1 := chL_len (N := N) (K := K) p d i; have h2 := hT9.len; omega
              clear hx0
              go_wp2_with fail
              refine (hcr _).mono ?_
              rintro e wa ⟨rfl, hba⟩
              have hsa := hba.size
              have hrowa := hrow.below hba (by omega)
              clear y0 y1 y2 y3 q0 q1 q2 q3 p0 p1 p2 p3
              go_wp2_with fail
              refine (l1Ints_any (B := g7) Ar _ kr _ wa hrowa hdr (by omega) (by omega)).mono ?_
              rintro e wb ⟨A12, n12, c12, rfl, hd12, hbb, ho12⟩
              have hsb := hbb.size
              have hbab : Below W9.heap.size W9 wb := hba.trans (hbb.mono hsa)
              have hTb := hT9.below hbab hHI
              go_wp2_with (at_builtin; refine wpList_apT (v := u8) (w := wb.alloc (.cells #[.slice A12 n12 c12] 22)) (lo := g8) (b := wb.heap.size) (u := .slice A12 n12 c12) rfl (.tmp 72) (.tmp 77) rfl rfl (hTb.alloc (by omega) _).tbl rfl (Box.new wb _ _).one rfl hcn (by rw [World.size_alloc]; omega) ?_; intro v2 w13 ho2 hg2 hv2; have hk13 : ∀ b, b < wb.heap.size → u8.ownBlock ≠ some b → w13.heap[b]? = wb.heap[b]? := (fun b hb1 hne2 => (hg2.block b (by rw [World.size_alloc]; omega) (fun e => hne2 e.symm)).trans (Below.heap_alloc _ _ _ hb1)); have hbox13 : Box w13 gv10 _ := (hbox.step hbab).keep (hk13 gv10 (by omega) (fun e => by have := hub _ e; omega)); have h713 : Box w13 g7 _ := (h7.step hbab).keep (hk13 g7 (by omega) (fun e => by have := hTb.tbl.lt _ e; omega)); obtain ⟨q0, q1, q2, q3⟩ := hbox13.four; obtain ⟨p0, p1, p2, p3⟩ := h713.four; have pf := h713.fz)
              obtain ⟨hT13, hB13⟩ := hT9.pushed hHI hbab ho12 (by omega) hd12 (by omega) ho2 hg2 hv2
              rw [← HLT.out] at hT13
              have hs13 := hB13.size
              have hgs := hg2.size
              rw [World.size_alloc] at hgs
              have hd13 : RdI w13 wb.heap.size Av9 nv9 (chK N K p d (i + 1)).2 := ⟨hdata.1, hdata.2.1, fun hn => by
                obtain ⟨b, o, e, hb1, hcl⟩ := hdata.2.2 hn
                have h1 := hgv9 b o e hn
                have hk := (hk13 b (by omega) (fun e2 => by have := hub _ e2; omega)).trans (hbab.block b hb1)
                exact ⟨b, o, e, by omega, fun j hj => (World.cell?_of_block (w := W9) hk).trans (hcl j hj)⟩⟩
              have hne7 : ∀ b o, Av9 = some ⟨b, o, none⟩ → 0 < nv9 → b ≠ g7 := fun b o e hn => by have := hgv9 b o e hn; omega
              have HD := Lib.hid ((((hd13.setNe (q := ⟨g7, 0, none⟩) hne7 (.int .i64 p)).setNe (q := ⟨g7, 1, none⟩) hne7 (.int .i64 (chK N K p d (i + 1)).1)).setNe (q := ⟨g7, 2, none⟩) hne7 (.int .i64 (nS N K))).setNe (q := ⟨g7, 3, none⟩) hne7 (.slice Av9 nv9 kv9))
              have HX := Lib.hid (h713.set4 (.int .i64 p) (.int .i64 (chK N K p d (i + 1)).1) (.int .i64 (nS N K)) (.slice Av9 nv9 kv9))
              have HB := Lib.hid (show Below g7 W8 _ from ((((hbW9.trans (hB13.mono (by omega))).setCell (p := ⟨g7, 0, none⟩) (by exact Nat.le_refl _) (.int .i64 p)).setCell (p := ⟨g7, 1, none⟩) (by exact Nat.le_refl _) (.int .i64 (chK N K p d (i + 1)).1)).setCell (p := ⟨g7, 2, none⟩) (by exact Nat.le_refl _) (.int .i64 (nS N K))).setCell (p := ⟨g7, 3, none⟩) (by exact Nat.le_refl _) (.slice Av9 nv9 kv9))
              have HT := Lib.hid (show OwT ((((w13.setCell ⟨g7, 0, none⟩ (.int .i64 p)).setCell ⟨g7, 1, none⟩ (.int .i64 (chK N K p d (i + 1)).1)).setCell ⟨g7, 2, none⟩ (.int .i64 (nS N K))).setCell ⟨g7, 3, none⟩ (.slice Av9 nv9 kv9)) g8 w13.heap.size v2 (m + 1) _ (chL N K p d (i + 1)) from hT13.keep fun b hl _ _ => by
                rw [Below.heap_setCell _ _ _ _ (by show b ≠ g7; omega), Below.heap_setCell _ _ _ _ (by show b ≠ g7; omega), Below.heap_setCell _ _ _ _ (by show b ≠ g7; omega), Below.heap_setCell _ _ _ _ (by show b ≠ g7; omega)])
              have HV := Lib.hid (show ∀ b o, Av9 = some ⟨b, o, none⟩ → 0 < nv9 → b ≠ g7 ∧ v2.ownBlock ≠ some b from fun b o e hn => ⟨hne7 b o e hn, by
                obtain ⟨b', o', e', hb1, _⟩ := hdata.2.2 hn
                rw [e] at e'; injection e' with e'; injection e' with e'
                have h1 := hgv9 b o e hn
                rcases hv2 with h2 | h2
                · rw [h2]; intro e2; have := hub _ e2; omega
                · rw [h2, World.size_alloc]; intro e2; injection e2 with e2; omega⟩)
              clear hTb hT9 hT13 ho2 hg2 hv2 ho12 hbb hba hbab hd13 hk13 hbox13 h713 hkr hkb hrow hrowa hdata hbox h7 h6 hx
              go_wp2
              go_roundw
              case rel => exact ⟨i + 1, m + 1, w13.heap.size, _, Av9, nv9, kv9, by omega, by go_num, HT.out, by simp only [World.size_setCell]; exact Nat.le_refl _, HB.out, HX.out, hdv9, HD.out.up (by simp only [World.size_setCell]; omega), HV.out⟩
              case measure => simp [intOf]; omega
            · have hgr2 : ¬ ((chK N K p d i).1 : Int) < ((chK N K p d (i + 1)).1 : Int) := by omega
              have hst := (chK_stay (N := N) (K := K) HP.out d i).2 (by omega)
              have HLT := Lib.hid (chL_skip hgr).1
              have HST := Lib.hid hst
              have HT := Lib.hid hT9
              have HX := Lib.hid h7
              have HD := Lib.hid hkr
              clear hst hx0 hT9 hkr
              go_wp2
              go_roundw
              case rel => exact ⟨i + 1, m, hi, hs, Ak, nk, kk, by omega, by go_num, by rw [HLT.out]; exact HT.out, hHI, hbW9, by rw [HST.out]; exact HX.out, hdk, by rw [HST.out]; exact HD.out, hkb⟩
              case measure => simp [intOf]; omega
        · obtain rfl : i = clR N K p d := by omega
          obtain ⟨Ae, ce, rfl, hde⟩ := hT.hd
          go_wp2
          go_ret
          exact ⟨Ae, m, ce, rfl, hde, hqr, hs, (hT.up hhi).down (by omega)⟩
end Go.Proofs.Yteepnimmbofmlaa
