/- l4Small, CochainOk of both packages. No condition but what each theorem names. -/
import Derived.Test.YticebbkmakpkjaaAIkW
import Derived.Test.YticebbkmakpkjaaSubW
namespace Go.Proofs.Yticebbkmakpkjaa
set_option linter.unusedVariables false
set_option linter.unusedSimpArgs false
set_option maxRecDepth 20000
open Go.RowKit Go.Sort
set_option maxHeartbeats 4000000
/-- a cochain's numbers -/
def chB (p q : Int) (d : List Int) (k : Int) (v : List Int) : Bool := okA p q d && decide (q ≤ 7) && (decide (0 ≤ k) && decide (k ≤ q)) && ((v.length : Int) == (((subs q.toNat k.toNat 0).length : Nat) : Int)) && resB v p
theorem chB_cases (p q : Int) (d : List Int) (k : Int) (v : List Int) :
    (okA p q d = false ∧ chB p q d k v = false) ∨
    (okA p q d = true ∧ decide (q ≤ 7) = false ∧ chB p q d k v = false) ∨
    (okA p q d = true ∧ decide (q ≤ 7) = true ∧ (decide (0 ≤ k) && decide (k ≤ q)) = false ∧ chB p q d k v = false) ∨
    (okA p q d = true ∧ decide (q ≤ 7) = true ∧ (decide (0 ≤ k) && decide (k ≤ q)) = true ∧ ((v.length : Int) == (((subs q.toNat k.toNat 0).length : Nat) : Int)) = false ∧ chB p q d k v = false) ∨
    (okA p q d = true ∧ decide (q ≤ 7) = true ∧ (decide (0 ≤ k) && decide (k ≤ q)) = true ∧ ((v.length : Int) == (((subs q.toNat k.toNat 0).length : Nat) : Int)) = true ∧ chB p q d k v = resB v p) := by
  unfold chB
  rcases okA p q d with _ | _ <;> rcases decide (q ≤ 7) with _ | _ <;> rcases (decide (0 ≤ k) && decide (k ≤ q)) with _ | _ <;> rcases ((v.length : Int) == (((subs q.toNat k.toNat 0).length : Nat) : Int)) with _ | _ <;> simp
theorem l4Small_any {B : Nat} (p q : Int) (n k : Nat) (A : Option Addr) (d : List Int) (w : World) (h : RdI w B A n d) (hd : Hd A n k) (hB : B ≤ w.heap.size) :
    Calls Try.prog 86 #[.agg #[.int .i64 p, .int .i64 q, .slice A n k]] w (Rv (.bool (okA p q d && decide (q ≤ 7))) w) := by
  rcases e1 : okA p q d with _ | _
  · have E1 := Lib.hid e1
    clear e1
    go_enter Try.func86, Try.ntmps86
    go_wp2_with fail
    refine (sAlg_any p q n k A d _ (B := B) (by exact h.below ((by repeat' (first | (with_reducible exact Below.refl _ _) | (with_reducible refine Below.setCell ?_ (by first | exact Nat.le_refl _ | omega | (simp only [World.size_alloc, World.size_setCell, World.heap_drewN]; omega) | (simp; omega)) _) | (with_reducible refine Below.alloc ?_ (by first | exact Nat.le_refl _ | omega | (simp only [World.size_alloc, World.size_setCell, World.heap_drewN]; omega) | (simp; omega)) _) | (with_reducible refine below_drewN ?_ _) | (with_reducible refine Below.drew ?_))) : Below w.heap.size w _) hB) hd (by first | exact Nat.le_refl _ | omega | (simp only [World.size_alloc, World.size_setCell, World.heap_drewN]; omega) | (simp; omega))).mono ?_
    rintro e w1 ⟨rfl, hb1⟩
    have b1 : Box w1 (w.heap.size) #[.int .i64 p, .int .i64 q, .slice A n k] := by
      have hq := (Box.new w #[.int .i64 p, .int .i64 q, .slice A n k] 27).below hb1 (by first | omega | (simp only [World.size_alloc]; omega) | (simp; omega))
      (try simp only [World.size_alloc] at hq)
      exact hq
    have hq1 : Below w.heap.size w w1 := (by repeat' (first | (with_reducible exact Below.refl _ _) | (with_reducible refine Below.setCell ?_ (by first | exact Nat.le_refl _ | omega | (simp only [World.size_alloc, World.size_setCell, World.heap_drewN]; omega) | (simp; omega)) _) | (with_reducible refine Below.alloc ?_ (by first | exact Nat.le_refl _ | omega | (simp only [World.size_alloc, World.size_setCell, World.heap_drewN]; omega) | (simp; omega)) _) | (with_reducible refine below_drewN ?_ _) | (with_reducible refine Below.drew ?_) | (with_reducible refine Below.trans ?_ (hb1.mono (by first | exact Nat.le_refl _ | omega | (simp only [World.size_alloc, World.size_setCell, World.heap_drewN]; omega) | (simp; omega))))))
    have hs1 := hb1.size
    simp only [World.size_alloc] at hs1
    clear hb1
    rw [E1.out]
    go_wp2
    go_ret
    exact ⟨rfl, hq1⟩
  · rcases e2 : decide (q ≤ 7) with _ | _
    all_goals
      have E1 := Lib.hid e1
      clear e1
      go_enter Try.func86, Try.ntmps86
      go_wp2_with fail
      refine (sAlg_any p q n k A d _ (B := B) (by exact h.below ((by repeat' (first | (with_reducible exact Below.refl _ _) | (with_reducible refine Below.setCell ?_ (by first | exact Nat.le_refl _ | omega | (simp only [World.size_alloc, World.size_setCell, World.heap_drewN]; omega) | (simp; omega)) _) | (with_reducible refine Below.alloc ?_ (by first | exact Nat.le_refl _ | omega | (simp only [World.size_alloc, World.size_setCell, World.heap_drewN]; omega) | (simp; omega)) _) | (with_reducible refine below_drewN ?_ _) | (with_reducible refine Below.drew ?_))) : Below w.heap.size w _) hB) hd (by first | exact Nat.le_refl _ | omega | (simp only [World.size_alloc, World.size_setCell, World.heap_drewN]; omega) | (simp; omega))).mono ?_
      rintro e w1 ⟨rfl, hb1⟩
      have b1 : Box w1 (w.heap.size) #[.int .i64 p, .int .i64 q, .slice A n k] := by
        have hq := (Box.new w #[.int .i64 p, .int .i64 q, .slice A n k] 27).below hb1 (by first | omega | (simp only [World.size_alloc]; omega) | (simp; omega))
        (try simp only [World.size_alloc] at hq)
        exact hq
      have hq1 : Below w.heap.size w w1 := (by repeat' (first | (with_reducible exact Below.refl _ _) | (with_reducible refine Below.setCell ?_ (by first | exact Nat.le_refl _ | omega | (simp only [World.size_alloc, World.size_setCell, World.heap_drewN]; omega) | (simp; omega)) _) | (with_reducible refine Below.alloc ?_ (by first | exact Nat.le_refl _ | omega | (simp only [World.size_alloc, World.size_setCell, World.heap_drewN]; omega) | (simp; omega)) _) | (with_reducible refine below_drewN ?_ _) | (with_reducible refine Below.drew ?_) | (with_reducible refine Below.trans ?_ (hb1.mono (by first | exact Nat.le_refl _ | omega | (simp only [World.size_alloc, World.size_setCell, World.heap_drewN]; omega) | (simp; omega))))))
      have hs1 := hb1.size
      simp only [World.size_alloc] at hs1
      clear hb1
      rw [E1.out]
      obtain ⟨x0, x1, x2⟩ := b1.three
      go_wp2
      go_ret
      exact ⟨rfl, hq1⟩
theorem sChk_any {B : Nat} (p q K : Int) (n k m km : Nat) (A Am : Option Addr) (d v : List Int) (w : World) (h : RdI w B A n d) (hd : Hd A n k) (hm : RdI w B Am m v) (hB : B ≤ w.heap.size) :
    Calls Try.prog 57 #[.agg #[.int .i64 p, .int .i64 q, .slice A n k], .int .i64 K, .slice Am m km] w (Rv (.bool (chB p q d K v)) w) := by
  obtain rfl : v.length = m := hm.1
  rcases chB_cases p q d K v with ⟨e1, eq⟩ | ⟨e1, e2, eq⟩ | ⟨e1, e2, e3, eq⟩ | ⟨e1, e2, e3, e4, eq⟩ | ⟨e1, e2, e3, e4, eq⟩
  iterate 2
    · have E1 := Lib.hid (show (okA p q d && decide (q ≤ 7)) = false by simp_all)
      rw [eq]
      clear e1 eq
      try clear e2
      go_enter Try.func57, Try.ntmps57
      go_wp2_with fail
      refine (l4Small_any p q n k A d _ (B := B) (by exact h.below ((by repeat' (first | (with_reducible exact Below.refl _ _) | (with_reducible refine Below.setCell ?_ (by first | exact Nat.le_refl _ | omega | (simp only [World.size_alloc, World.size_setCell, World.heap_drewN]; omega) | (simp; omega)) _) | (with_reducible refine Below.alloc ?_ (by first | exact Nat.le_refl _ | omega | (simp only [World.size_alloc, World.size_setCell, World.heap_drewN]; omega) | (simp; omega)) _) | (with_reducible refine below_drewN ?_ _) | (with_reducible refine Below.drew ?_))) : Below w.heap.size w _) hB) hd (by first | exact Nat.le_refl _ | omega | (simp only [World.size_alloc, World.size_setCell, World.heap_drewN]; omega) | (simp; omega))).mono ?_
      rintro e w1 ⟨rfl, hb1⟩
      have b1 : Box w1 (w.heap.size) #[.int .i64 p, .int .i64 q, .slice A n k] := by
        have hq := (Box.new w #[.int .i64 p, .int .i64 q, .slice A n k] 27).below hb1 (by first | omega | (simp only [World.size_alloc]; omega) | (simp; omega))
        (try simp only [World.size_alloc] at hq)
        exact hq
      have hq1 : Below w.heap.size w w1 := (by repeat' (first | (with_reducible exact Below.refl _ _) | (with_reducible refine Below.setCell ?_ (by first | exact Nat.le_refl _ | omega | (simp only [World.size_alloc, World.size_setCell, World.heap_drewN]; omega) | (simp; omega)) _) | (with_reducible refine Below.alloc ?_ (by first | exact Nat.le_refl _ | omega | (simp only [World.size_alloc, World.size_setCell, World.heap_drewN]; omega) | (simp; omega)) _) | (with_reducible refine below_drewN ?_ _) | (with_reducible refine Below.drew ?_) | (with_reducible refine Below.trans ?_ (hb1.mono (by first | exact Nat.le_refl _ | omega | (simp only [World.size_alloc, World.size_setCell, World.heap_drewN]; omega) | (simp; omega))))))
      have hs1 := hb1.size
      simp only [World.size_alloc] at hs1
      clear hb1
      rw [E1.out]
      go_wp2
      go_ret
      exact ⟨rfl, hq1⟩
  all_goals
    have E1 := Lib.hid (show (okA p q d && decide (q ≤ 7)) = true by rw [e1, e2]; rfl)
    obtain ⟨_, a1, -⟩ := okA_bd e1
    obtain ⟨N, rfl⟩ := Int.eq_ofNat_of_zero_le a1
    have hN : N ≤ 7 := by simp at e2; omega
    rw [eq]
    clear e1 e2 eq a1
  · skip
    go_enter Try.func57, Try.ntmps57
    go_wp2_with fail
    refine (l4Small_any p N n k A d _ (B := B) (by exact h.below ((by repeat' (first | (with_reducible exact Below.refl _ _) | (with_reducible refine Below.setCell ?_ (by first | exact Nat.le_refl _ | omega | (simp only [World.size_alloc, World.size_setCell, World.heap_drewN]; omega) | (simp; omega)) _) | (with_reducible refine Below.alloc ?_ (by first | exact Nat.le_refl _ | omega | (simp only [World.size_alloc, World.size_setCell, World.heap_drewN]; omega) | (simp; omega)) _) | (with_reducible refine below_drewN ?_ _) | (with_reducible refine Below.drew ?_))) : Below w.heap.size w _) hB) hd (by first | exact Nat.le_refl _ | omega | (simp only [World.size_alloc, World.size_setCell, World.heap_drewN]; omega) | (simp; omega))).mono ?_
    rintro e w1 ⟨rfl, hb1⟩
    have b1 : Box w1 (w.heap.size) #[.int .i64 p, .int .i64 N, .slice A n k] := by
      have hq := (Box.new w #[.int .i64 p, .int .i64 N, .slice A n k] 27).below hb1 (by first | omega | (simp only [World.size_alloc]; omega) | (simp; omega))
      (try simp only [World.size_alloc] at hq)
      exact hq
    have hq1 : Below w.heap.size w w1 := (by repeat' (first | (with_reducible exact Below.refl _ _) | (with_reducible refine Below.setCell ?_ (by first | exact Nat.le_refl _ | omega | (simp only [World.size_alloc, World.size_setCell, World.heap_drewN]; omega) | (simp; omega)) _) | (with_reducible refine Below.alloc ?_ (by first | exact Nat.le_refl _ | omega | (simp only [World.size_alloc, World.size_setCell, World.heap_drewN]; omega) | (simp; omega)) _) | (with_reducible refine below_drewN ?_ _) | (with_reducible refine Below.drew ?_) | (with_reducible refine Below.trans ?_ (hb1.mono (by first | exact Nat.le_refl _ | omega | (simp only [World.size_alloc, World.size_setCell, World.heap_drewN]; omega) | (simp; omega))))))
    have hs1 := hb1.size
    simp only [World.size_alloc] at hs1
    clear hb1
    rw [E1.out]
    obtain ⟨x0, x1, x2⟩ := b1.three
    go_wp2_with (go_at_call 95; refine (l1In_any _ _ _ _).mono ?_; rintro e w' ⟨rfl, rfl⟩)
    go_ret
    exact ⟨rfl, hq1⟩
  all_goals
    obtain ⟨K, rfl⟩ := Int.eq_ofNat_of_zero_le (show 0 ≤ K by simp at e3; exact e3.1)
    have hK : K ≤ N := by simp at e3; omega
    simp only [Int.toNat_natCast] at e4
    have E4 := Lib.hid e4
    have HE := Lib.hid e3
    have hSL : (subs N K 0).length ≤ 5764801 := Nat.le_trans (subs_count N K 0) (pow_bd hN (by omega))
    clear e4
    go_enter Try.func57, Try.ntmps57
    go_wp2_with fail
    refine (l4Small_any p N n k A d _ (B := B) (by exact h.below ((by repeat' (first | (with_reducible exact Below.refl _ _) | (with_reducible refine Below.setCell ?_ (by first | exact Nat.le_refl _ | omega | (simp only [World.size_alloc, World.size_setCell, World.heap_drewN]; omega) | (simp; omega)) _) | (with_reducible refine Below.alloc ?_ (by first | exact Nat.le_refl _ | omega | (simp only [World.size_alloc, World.size_setCell, World.heap_drewN]; omega) | (simp; omega)) _) | (with_reducible refine below_drewN ?_ _) | (with_reducible refine Below.drew ?_))) : Below w.heap.size w _) hB) hd (by first | exact Nat.le_refl _ | omega | (simp only [World.size_alloc, World.size_setCell, World.heap_drewN]; omega) | (simp; omega))).mono ?_
    rintro e w1 ⟨rfl, hb1⟩
    have b1 : Box w1 (w.heap.size) #[.int .i64 p, .int .i64 N, .slice A n k] := by
      have hq := (Box.new w #[.int .i64 p, .int .i64 N, .slice A n k] 27).below hb1 (by first | omega | (simp only [World.size_alloc]; omega) | (simp; omega))
      (try simp only [World.size_alloc] at hq)
      exact hq
    have hq1 : Below w.heap.size w w1 := (by repeat' (first | (with_reducible exact Below.refl _ _) | (with_reducible refine Below.setCell ?_ (by first | exact Nat.le_refl _ | omega | (simp only [World.size_alloc, World.size_setCell, World.heap_drewN]; omega) | (simp; omega)) _) | (with_reducible refine Below.alloc ?_ (by first | exact Nat.le_refl _ | omega | (simp only [World.size_alloc, World.size_setCell, World.heap_drewN]; omega) | (simp; omega)) _) | (with_reducible refine below_drewN ?_ _) | (with_reducible refine Below.drew ?_) | (with_reducible refine Below.trans ?_ (hb1.mono (by first | exact Nat.le_refl _ | omega | (simp only [World.size_alloc, World.size_setCell, World.heap_drewN]; omega) | (simp; omega))))))
    have hs1 := hb1.size
    simp only [World.size_alloc] at hs1
    have g1 := hm.below hq1 hB
    clear hb1
    rw [E1.out]
    obtain ⟨x0, x1, x2⟩ := b1.three
    go_wp2_with (go_at_call 95; refine (l1In_any _ _ _ _).mono ?_; rintro e w' ⟨rfl, rfl⟩)
    refine (sSubs_any N hN K K 0 0 _ (by omega) (by omega) (Lib.hid rfl) (Lib.hid rfl)).mono ?_
    rintro e w2 ⟨A2, n2, k2, rfl, hd2, hb2, hs2, hT2⟩
    obtain rfl : (subs N K 0).length = n2 := hT2.len
    have e4 := E4.out
    have b2 := b1.below hb2 (by omega)
    have g2 := g1.below hb2 (by omega)
    have hq2 := hq1.trans (hb2.mono (by omega))
    clear x0 x1 x2 hT2
    obtain ⟨x0, x1, x2⟩ := b2.three
  · go_wp2
    go_ret
    exact ⟨rfl, hq2⟩
  · rcases hz : resB v p with _ | _
    all_goals
      have HZ := Lib.hid hz
      clear hz
      go_wp2_with (go_at_call 122; refine (l1Residues_any Am _ km p v _ (B := B) g2).mono ?_; rintro e w3 ⟨rfl, q3, rfl⟩; rw [HZ.out])
      go_ret
      exact ⟨by rw [HZ.out]; rfl, (by repeat' (first | (with_reducible exact Below.refl _ _) | (with_reducible refine Below.setCell ?_ (by first | exact Nat.le_refl _ | omega | (simp only [World.size_alloc, World.size_setCell, World.heap_drewN]; omega) | (simp; omega)) _) | (with_reducible refine Below.alloc ?_ (by first | exact Nat.le_refl _ | omega | (simp only [World.size_alloc, World.size_setCell, World.heap_drewN]; omega) | (simp; omega)) _) | (with_reducible refine below_drewN ?_ _) | (with_reducible refine Below.drew ?_) | (with_reducible refine Below.trans ?_ (hq2.mono (by first | exact Nat.le_refl _ | omega | (simp only [World.size_alloc, World.size_setCell, World.heap_drewN]; omega) | (simp; omega))))))⟩
theorem iChk_any {B : Nat} (p q K : Int) (n k m km : Nat) (A Am : Option Addr) (d v : List Int) (w : World) (h : RdI w B A n d) (hd : Hd A n k) (hm : RdI w B Am m v) (hB : B ≤ w.heap.size) :
    Calls Try.prog 60 #[.agg #[.int .i64 p, .int .i64 q, .slice A n k], .int .i64 K, .slice Am m km] w (Rv (.bool (chB p q d K v)) w) := by
  obtain rfl : v.length = m := hm.1
  rcases chB_cases p q d K v with ⟨e1, eq⟩ | ⟨e1, e2, eq⟩ | ⟨e1, e2, e3, eq⟩ | ⟨e1, e2, e3, e4, eq⟩ | ⟨e1, e2, e3, e4, eq⟩
  · have E1 := Lib.hid e1
    rw [eq]
    clear e1 eq
    go_enter Try.func60, Try.ntmps60
    go_wp2_with fail
    refine (iAlg_any p q n k A d _ (B := B) (by exact h.below ((by repeat' (first | (with_reducible exact Below.refl _ _) | (with_reducible refine Below.setCell ?_ (by first | exact Nat.le_refl _ | omega | (simp only [World.size_alloc, World.size_setCell, World.heap_drewN]; omega) | (simp; omega)) _) | (with_reducible refine Below.alloc ?_ (by first | exact Nat.le_refl _ | omega | (simp only [World.size_alloc, World.size_setCell, World.heap_drewN]; omega) | (simp; omega)) _) | (with_reducible refine below_drewN ?_ _) | (with_reducible refine Below.drew ?_))) : Below w.heap.size w _) hB) hd (by first | exact Nat.le_refl _ | omega | (simp only [World.size_alloc, World.size_setCell, World.heap_drewN]; omega) | (simp; omega))).mono ?_
    rintro e w1 ⟨rfl, hb1⟩
    have b1 : Box w1 (w.heap.size) #[.int .i64 p, .int .i64 q, .slice A n k] := by
      have hq := (Box.new w #[.int .i64 p, .int .i64 q, .slice A n k] 27).below hb1 (by first | omega | (simp only [World.size_alloc]; omega) | (simp; omega))
      (try simp only [World.size_alloc] at hq)
      exact hq
    have hq1 : Below w.heap.size w w1 := (by repeat' (first | (with_reducible exact Below.refl _ _) | (with_reducible refine Below.setCell ?_ (by first | exact Nat.le_refl _ | omega | (simp only [World.size_alloc, World.size_setCell, World.heap_drewN]; omega) | (simp; omega)) _) | (with_reducible refine Below.alloc ?_ (by first | exact Nat.le_refl _ | omega | (simp only [World.size_alloc, World.size_setCell, World.heap_drewN]; omega) | (simp; omega)) _) | (with_reducible refine below_drewN ?_ _) | (with_reducible refine Below.drew ?_) | (with_reducible refine Below.trans ?_ (hb1.mono (by first | exact Nat.le_refl _ | omega | (simp only [World.size_alloc, World.size_setCell, World.heap_drewN]; omega) | (simp; omega))))))
    have hs1 := hb1.size
    simp only [World.size_alloc] at hs1
    clear hb1
    rw [E1.out]
    go_wp2
    go_ret
    exact ⟨rfl, hq1⟩
  · have E1 := Lib.hid e1
    rw [eq]
    clear e1 eq
    go_enter Try.func60, Try.ntmps60
    go_wp2_with fail
    refine (iAlg_any p q n k A d _ (B := B) (by exact h.below ((by repeat' (first | (with_reducible exact Below.refl _ _) | (with_reducible refine Below.setCell ?_ (by first | exact Nat.le_refl _ | omega | (simp only [World.size_alloc, World.size_setCell, World.heap_drewN]; omega) | (simp; omega)) _) | (with_reducible refine Below.alloc ?_ (by first | exact Nat.le_refl _ | omega | (simp only [World.size_alloc, World.size_setCell, World.heap_drewN]; omega) | (simp; omega)) _) | (with_reducible refine below_drewN ?_ _) | (with_reducible refine Below.drew ?_))) : Below w.heap.size w _) hB) hd (by first | exact Nat.le_refl _ | omega | (simp only [World.size_alloc, World.size_setCell, World.heap_drewN]; omega) | (simp; omega))).mono ?_
    rintro e w1 ⟨rfl, hb1⟩
    have b1 : Box w1 (w.heap.size) #[.int .i64 p, .int .i64 q, .slice A n k] := by
      have hq := (Box.new w #[.int .i64 p, .int .i64 q, .slice A n k] 27).below hb1 (by first | omega | (simp only [World.size_alloc]; omega) | (simp; omega))
      (try simp only [World.size_alloc] at hq)
      exact hq
    have hq1 : Below w.heap.size w w1 := (by repeat' (first | (with_reducible exact Below.refl _ _) | (with_reducible refine Below.setCell ?_ (by first | exact Nat.le_refl _ | omega | (simp only [World.size_alloc, World.size_setCell, World.heap_drewN]; omega) | (simp; omega)) _) | (with_reducible refine Below.alloc ?_ (by first | exact Nat.le_refl _ | omega | (simp only [World.size_alloc, World.size_setCell, World.heap_drewN]; omega) | (simp; omega)) _) | (with_reducible refine below_drewN ?_ _) | (with_reducible refine Below.drew ?_) | (with_reducible refine Below.trans ?_ (hb1.mono (by first | exact Nat.le_refl _ | omega | (simp only [World.size_alloc, World.size_setCell, World.heap_drewN]; omega) | (simp; omega))))))
    have hs1 := hb1.size
    simp only [World.size_alloc] at hs1
    clear hb1
    rw [E1.out]
    obtain ⟨x0, x1, x2⟩ := b1.three
    go_wp2
    go_ret
    exact ⟨rfl, hq1⟩
  all_goals
    have E1 := Lib.hid e1
    obtain ⟨hpp, a1, -⟩ := okA_bd e1
    obtain ⟨hp1, hp2⟩ := isP_bd hpp
    obtain ⟨N, rfl⟩ := Int.eq_ofNat_of_zero_le a1
    have hN : N ≤ 7 := by simp at e2; omega
    rw [eq]
    clear e1 eq a1 hpp
  · skip
    go_enter Try.func60, Try.ntmps60
    go_wp2_with fail
    refine (iAlg_any p N n k A d _ (B := B) (by exact h.below ((by repeat' (first | (with_reducible exact Below.refl _ _) | (with_reducible refine Below.setCell ?_ (by first | exact Nat.le_refl _ | omega | (simp only [World.size_alloc, World.size_setCell, World.heap_drewN]; omega) | (simp; omega)) _) | (with_reducible refine Below.alloc ?_ (by first | exact Nat.le_refl _ | omega | (simp only [World.size_alloc, World.size_setCell, World.heap_drewN]; omega) | (simp; omega)) _) | (with_reducible refine below_drewN ?_ _) | (with_reducible refine Below.drew ?_))) : Below w.heap.size w _) hB) hd (by first | exact Nat.le_refl _ | omega | (simp only [World.size_alloc, World.size_setCell, World.heap_drewN]; omega) | (simp; omega))).mono ?_
    rintro e w1 ⟨rfl, hb1⟩
    have b1 : Box w1 (w.heap.size) #[.int .i64 p, .int .i64 N, .slice A n k] := by
      have hq := (Box.new w #[.int .i64 p, .int .i64 N, .slice A n k] 27).below hb1 (by first | omega | (simp only [World.size_alloc]; omega) | (simp; omega))
      (try simp only [World.size_alloc] at hq)
      exact hq
    have hq1 : Below w.heap.size w w1 := (by repeat' (first | (with_reducible exact Below.refl _ _) | (with_reducible refine Below.setCell ?_ (by first | exact Nat.le_refl _ | omega | (simp only [World.size_alloc, World.size_setCell, World.heap_drewN]; omega) | (simp; omega)) _) | (with_reducible refine Below.alloc ?_ (by first | exact Nat.le_refl _ | omega | (simp only [World.size_alloc, World.size_setCell, World.heap_drewN]; omega) | (simp; omega)) _) | (with_reducible refine below_drewN ?_ _) | (with_reducible refine Below.drew ?_) | (with_reducible refine Below.trans ?_ (hb1.mono (by first | exact Nat.le_refl _ | omega | (simp only [World.size_alloc, World.size_setCell, World.heap_drewN]; omega) | (simp; omega))))))
    have hs1 := hb1.size
    simp only [World.size_alloc] at hs1
    clear hb1
    rw [E1.out]
    obtain ⟨x0, x1, x2⟩ := b1.three
    go_wp2_with (go_at_call 104; refine (inside_any _ _ _ _).mono ?_; rintro e w' ⟨rfl, rfl⟩)
    go_ret
    exact ⟨rfl, hq1⟩
  all_goals
    obtain ⟨K, rfl⟩ := Int.eq_ofNat_of_zero_le (show 0 ≤ K by simp at e3; exact e3.1)
    have hK : K ≤ N := by simp at e3; omega
    simp only [Int.toNat_natCast] at e4
    have E4 := Lib.hid e4
    have hSL : (subs N K 0).length ≤ 5764801 := Nat.le_trans (subs_count N K 0) (pow_bd hN (by omega))
    clear e4
    go_enter Try.func60, Try.ntmps60
    go_wp2_with fail
    refine (iAlg_any p N n k A d _ (B := B) (by exact h.below ((by repeat' (first | (with_reducible exact Below.refl _ _) | (with_reducible refine Below.setCell ?_ (by first | exact Nat.le_refl _ | omega | (simp only [World.size_alloc, World.size_setCell, World.heap_drewN]; omega) | (simp; omega)) _) | (with_reducible refine Below.alloc ?_ (by first | exact Nat.le_refl _ | omega | (simp only [World.size_alloc, World.size_setCell, World.heap_drewN]; omega) | (simp; omega)) _) | (with_reducible refine below_drewN ?_ _) | (with_reducible refine Below.drew ?_))) : Below w.heap.size w _) hB) hd (by first | exact Nat.le_refl _ | omega | (simp only [World.size_alloc, World.size_setCell, World.heap_drewN]; omega) | (simp; omega))).mono ?_
    rintro e w1 ⟨rfl, hb1⟩
    have b1 : Box w1 (w.heap.size) #[.int .i64 p, .int .i64 N, .slice A n k] := by
      have hq := (Box.new w #[.int .i64 p, .int .i64 N, .slice A n k] 27).below hb1 (by first | omega | (simp only [World.size_alloc]; omega) | (simp; omega))
      (try simp only [World.size_alloc] at hq)
      exact hq
    have hq1 : Below w.heap.size w w1 := (by repeat' (first | (with_reducible exact Below.refl _ _) | (with_reducible refine Below.setCell ?_ (by first | exact Nat.le_refl _ | omega | (simp only [World.size_alloc, World.size_setCell, World.heap_drewN]; omega) | (simp; omega)) _) | (with_reducible refine Below.alloc ?_ (by first | exact Nat.le_refl _ | omega | (simp only [World.size_alloc, World.size_setCell, World.heap_drewN]; omega) | (simp; omega)) _) | (with_reducible refine below_drewN ?_ _) | (with_reducible refine Below.drew ?_) | (with_reducible refine Below.trans ?_ (hb1.mono (by first | exact Nat.le_refl _ | omega | (simp only [World.size_alloc, World.size_setCell, World.heap_drewN]; omega) | (simp; omega))))))
    have hs1 := hb1.size
    simp only [World.size_alloc] at hs1
    have g1 := hm.below hq1 hB
    clear hb1
    rw [E1.out]
    obtain ⟨x0, x1, x2⟩ := b1.three
    go_wp2_with (go_at_call 104; refine (inside_any _ _ _ _).mono ?_; rintro e w' ⟨rfl, rfl⟩)
    refine (iSub_ok N K _ hN hK).mono ?_
    rintro e w2 ⟨A2, n2, k2, rfl, hd2, hb2, hs2, hT2⟩
    obtain rfl : (subs N K 0).length = n2 := hT2.len
    have e4 := E4.out
    have b2 := b1.below hb2 (by omega)
    have g2 := g1.below hb2 (by omega)
    have hq2 := hq1.trans (hb2.mono (by omega))
    clear x0 x1 x2 hT2
    obtain ⟨x0, x1, x2⟩ := b2.three
  · go_wp2
    go_ret
    exact ⟨rfl, hq2⟩
  · rcases hz : resB v p with _ | _
    all_goals
      have HZ := Lib.hid hz
      clear hz
      have hs2' := hb2.size
      go_wp2_with (go_at_call 124; refine (residues_any Am _ km p v _ (B := B) g2 (by omega) (by omega) (by omega)).mono ?_; rintro e w3 ⟨rfl, hb3⟩; rw [HZ.out])
      go_ret
      exact ⟨by rw [HZ.out]; rfl, (by repeat' (first | (with_reducible exact Below.refl _ _) | (with_reducible refine Below.setCell ?_ (by first | exact Nat.le_refl _ | omega | (simp only [World.size_alloc, World.size_setCell, World.heap_drewN]; omega) | (simp; omega)) _) | (with_reducible refine Below.alloc ?_ (by first | exact Nat.le_refl _ | omega | (simp only [World.size_alloc, World.size_setCell, World.heap_drewN]; omega) | (simp; omega)) _) | (with_reducible refine below_drewN ?_ _) | (with_reducible refine Below.drew ?_) | (with_reducible refine Below.trans ?_ (hb3.mono (by first | exact Nat.le_refl _ | omega | (simp only [World.size_alloc, World.size_setCell, World.heap_drewN]; omega) | (simp; omega)))) | (with_reducible refine Below.trans ?_ (hq2.mono (by first | exact Nat.le_refl _ | omega | (simp only [World.size_alloc, World.size_setCell, World.heap_drewN]; omega) | (simp; omega))))))⟩
end Go.Proofs.Yticebbkmakpkjaa
