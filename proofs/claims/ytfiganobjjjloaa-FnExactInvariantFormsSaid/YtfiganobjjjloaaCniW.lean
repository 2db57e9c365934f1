/- Derivations and InvariantForms of both packages. No condition but what each theorem names. -/
import Derived.Test.YtfiganobjjjloaaCndW
import Derived.Test.YtfiganobjjjloaaUniW
import Derived.Test.YtfiganobjjjloaaRowW
import Derived.Test.YtfiganobjjjloaaKernW
import Derived.Test.YtfiganobjjjloaaKeSW
namespace Go.Proofs.Ytfiganobjjjloaa
set_option linter.unusedVariables false
set_option linter.unusedSimpArgs false
set_option maxRecDepth 20000
open Go.RowKit Go.Sort
set_option maxHeartbeats 8000000
def ci1 (N : Nat) (p : Int) (d : List Int) : List (List Int) := cnR N (fun _ => N) (fun _ _ => true) (fun i j k => ifR N p d i j k N N) N 0 0
def ci0 (N : Nat) (p : Int) (d : List Int) : List (List Int) := cnR N (fun i => i) (fun _ _ => true) (fun i j k => dvR N p d i j k N N N) N 0 0
def cS (xss : List (List Int)) (p : Int) (N : Nat) : RS := kerS xss.length (N * N) p (rowF xss)
theorem cdk_all1 {N : Nat} {p : Int} {d : List Int} (hp : 1 ≤ p) : ∀ r ∈ cd1 N p d, r.length = N * N ∧ resB r p = true := cn_all (P := fun r => r.length = N * N ∧ resB r p = true) fun i j k => ⟨ifR_len _ _, ifR_res hp _ _⟩
theorem cdk_all0 {N : Nat} {p : Int} {d : List Int} (hp : 1 ≤ p) : ∀ r ∈ cd0 N p d, r.length = N * N ∧ resB r p = true := cn_all (P := fun r => r.length = N * N ∧ resB r p = true) fun i j k => ⟨dvR_len _ _ _, dvR_res hp _ _ _⟩
theorem cik_all0 {N : Nat} {p : Int} {d : List Int} (hp : 1 ≤ p) : ∀ r ∈ ci0 N p d, r.length = N * N ∧ resB r p = true := cn_all (P := fun r => r.length = N * N ∧ resB r p = true) fun i j k => ⟨dvR_len _ _ _, dvR_res hp _ _ _⟩
theorem cdk1 {N T : Nat} {p : Int} {d : List Int} (hok : okA p N d = true) (hT : (cd1 N p d).length ≤ 200 * T) :
    (kerS (thin p (N * N) (chs (cd1 N p d)) T).1 (N * N) p (matF (thin p (N * N) (chs (cd1 N p d)) T).2 (N * N))).rk = (cS (ci1 N p d) p N).rk ∧
    ∀ i j, i < (kerS (thin p (N * N) (chs (cd1 N p d)) T).1 (N * N) p (matF (thin p (N * N) (chs (cd1 N p d)) T).2 (N * N))).rk → j < N * N → (kerS (thin p (N * N) (chs (cd1 N p d)) T).1 (N * N) p (matF (thin p (N * N) (chs (cd1 N p d)) T).2 (N * N))).f i j = (cS (ci1 N p d) p N).f i j := by
  obtain ⟨k1, _⟩ := okA_bd hok
  have hb := isP_bd k1
  exact thin_ker k1 hT (fun r hr => (cdk_all1 (by omega) r hr).1) (fun r hr => (cdk_all1 (by omega) r hr).2) (fun r hr => (cdk_all1 (N := N) (by omega) r hr).2) fun n hn hpn x => Iff.rfl
theorem cdk0 {N T : Nat} {p : Int} {d : List Int} (hok : okA p N d = true) (hT : (cd0 N p d).length ≤ 200 * T) :
    (kerS (thin p (N * N) (chs (cd0 N p d)) T).1 (N * N) p (matF (thin p (N * N) (chs (cd0 N p d)) T).2 (N * N))).rk = (cS (ci0 N p d) p N).rk ∧
    ∀ i j, i < (kerS (thin p (N * N) (chs (cd0 N p d)) T).1 (N * N) p (matF (thin p (N * N) (chs (cd0 N p d)) T).2 (N * N))).rk → j < N * N → (kerS (thin p (N * N) (chs (cd0 N p d)) T).1 (N * N) p (matF (thin p (N * N) (chs (cd0 N p d)) T).2 (N * N))).f i j = (cS (ci0 N p d) p N).f i j := by
  obtain ⟨k1, _, _, _, _, k6, _⟩ := okA_bd hok
  rw [Int.toNat_natCast] at k6
  have hb := isP_bd k1
  exact thin_ker k1 hT (fun r hr => (cdk_all0 (by omega) r hr).1) (fun r hr => (cdk_all0 (by omega) r hr).2) (fun r hr => (cik_all0 (N := N) (by omega) r hr).2) fun n hn hpn x => by subst hpn; exact dv_same k6 x
theorem sDerivations_no {B : Nat} (p q : Int) (n k : Nat) (A : Option Addr) (d : List Int) (w : World) (h : RdI w B A n d) (hd : Hd A n k) (hB : B ≤ w.heap.size) (hok : okA p q d = false) :
    Calls Try.prog 51 #[.agg #[.int .i64 p, .int .i64 q, .slice A n k]] w (RetT [] w) := by
  have HK := Lib.hid hok
  clear hok
  go_enter Try.func51, Try.ntmps51
  go_wp2_with fail
  refine (sAlg_any p q n k A d _ (B := B) (by exact h.below ((by repeat' (first | (with_reducible exact Below.refl _ _) | (with_reducible refine Below.setCell ?_ (by first | exact Nat.le_refl _ | omega | (simp only [World.size_alloc, World.size_setCell, World.heap_drewN]; omega) | (simp; omega)) _) | (with_reducible refine Below.alloc ?_ (by first | exact Nat.le_refl _ | omega | (simp only [World.size_alloc, World.size_setCell, World.heap_drewN]; omega) | (simp; omega)) _) | (with_reducible refine below_drewN ?_ _) | (with_reducible refine Below.drew ?_))) : Below w.heap.size w _) hB) hd (by first | exact Nat.le_refl _ | omega | (simp only [World.size_alloc, World.size_setCell, World.heap_drewN]; omega) | (simp; omega))).mono ?_
  rintro e w1 ⟨rfl, hb1⟩
  have hx1 : Box w1 (w.heap.size) #[.int .i64 p, .int .i64 q, .slice A n k] := by
    have hq := (Box.new w #[.int .i64 p, .int .i64 q, .slice A n k] 63).below hb1 (by first | omega | (simp only [World.size_alloc]; omega) | (simp; omega))
    (try simp only [World.size_alloc] at hq)
    exact hq
  have hq1 : Below w.heap.size w w1 := (by repeat' (first | (with_reducible exact Below.refl _ _) | (with_reducible refine Below.setCell ?_ (by first | exact Nat.le_refl _ | omega | (simp only [World.size_alloc, World.size_setCell, World.heap_drewN]; omega) | (simp; omega)) _) | (with_reducible refine Below.alloc ?_ (by first | exact Nat.le_refl _ | omega | (simp only [World.size_alloc, World.size_setCell, World.heap_drewN]; omega) | (simp; omega)) _) | (with_reducible refine below_drewN ?_ _) | (with_reducible refine Below.drew ?_) | (with_reducible refine Below.trans ?_ (hb1.mono (by first | exact Nat.le_refl _ | omega | (simp only [World.size_alloc, World.size_setCell, World.heap_drewN]; omega) | (simp; omega))))))
  have hs1 := hb1.size
  simp only [World.size_alloc] at hs1
  clear hb1
  rw [HK.out]
  go_wp2
  go_ret
  exact ⟨none, 0, 0, rfl, Hd.nil, hq1, [], OwT.nil _ _ _⟩
theorem sDerivations_big {B : Nat} (p q : Int) (n k : Nat) (A : Option Addr) (d : List Int) (w : World) (h : RdI w B A n d) (hd : Hd A n k) (hB : B ≤ w.heap.size) (hok : okA p q d = true) (hq : 8 < q) :
    Calls Try.prog 51 #[.agg #[.int .i64 p, .int .i64 q, .slice A n k]] w (RetT [] w) := by
  have HK := Lib.hid hok
  clear hok
  go_enter Try.func51, Try.ntmps51
  go_wp2_with fail
  refine (sAlg_any p q n k A d _ (B := B) (by exact h.below ((by repeat' (first | (with_reducible exact Below.refl _ _) | (with_reducible refine Below.setCell ?_ (by first | exact Nat.le_refl _ | omega | (simp only [World.size_alloc, World.size_setCell, World.heap_drewN]; omega) | (simp; omega)) _) | (with_reducible refine Below.alloc ?_ (by first | exact Nat.le_refl _ | omega | (simp only [World.size_alloc, World.size_setCell, World.heap_drewN]; omega) | (simp; omega)) _) | (with_reducible refine below_drewN ?_ _) | (with_reducible refine Below.drew ?_))) : Below w.heap.size w _) hB) hd (by first | exact Nat.le_refl _ | omega | (simp only [World.size_alloc, World.size_setCell, World.heap_drewN]; omega) | (simp; omega))).mono ?_
  rintro e w1 ⟨rfl, hb1⟩
  have hx1 : Box w1 (w.heap.size) #[.int .i64 p, .int .i64 q, .slice A n k] := by
    have hq := (Box.new w #[.int .i64 p, .int .i64 q, .slice A n k] 63).below hb1 (by first | omega | (simp only [World.size_alloc]; omega) | (simp; omega))
    (try simp only [World.size_alloc] at hq)
    exact hq
  have hq1 : Below w.heap.size w w1 := (by repeat' (first | (with_reducible exact Below.refl _ _) | (with_reducible refine Below.setCell ?_ (by first | exact Nat.le_refl _ | omega | (simp only [World.size_alloc, World.size_setCell, World.heap_drewN]; omega) | (simp; omega)) _) | (with_reducible refine Below.alloc ?_ (by first | exact Nat.le_refl _ | omega | (simp only [World.size_alloc, World.size_setCell, World.heap_drewN]; omega) | (simp; omega)) _) | (with_reducible refine below_drewN ?_ _) | (with_reducible refine Below.drew ?_) | (with_reducible refine Below.trans ?_ (hb1.mono (by first | exact Nat.le_refl _ | omega | (simp only [World.size_alloc, World.size_setCell, World.heap_drewN]; omega) | (simp; omega))))))
  have hs1 := hb1.size
  simp only [World.size_alloc] at hs1
  clear hb1
  rw [HK.out]
  obtain ⟨x0, x1, x2⟩ := hx1.three
  go_wp2
  go_ret
  exact ⟨none, 0, 0, rfl, Hd.nil, hq1, [], OwT.nil _ _ _⟩
theorem iDerivations_no {B : Nat} (p q : Int) (n k : Nat) (A : Option Addr) (d : List Int) (w : World) (h : RdI w B A n d) (hd : Hd A n k) (hB : B ≤ w.heap.size) (hok : okA p q d = false) :
    Calls Try.prog 52 #[.agg #[.int .i64 p, .int .i64 q, .slice A n k]] w (RetT [] w) := by
  have HK := Lib.hid hok
  clear hok
  go_enter Try.func52, Try.ntmps52
  go_wp2_with fail
  refine (iAlg_any p q n k A d _ (B := B) (by exact h.below ((by repeat' (first | (with_reducible exact Below.refl _ _) | (with_reducible refine Below.setCell ?_ (by first | exact Nat.le_refl _ | omega | (simp only [World.size_alloc, World.size_setCell, World.heap_drewN]; omega) | (simp; omega)) _) | (with_reducible refine Below.alloc ?_ (by first | exact Nat.le_refl _ | omega | (simp only [World.size_alloc, World.size_setCell, World.heap_drewN]; omega) | (simp; omega)) _) | (with_reducible refine below_drewN ?_ _) | (with_reducible refine Below.drew ?_))) : Below w.heap.size w _) hB) hd (by first | exact Nat.le_refl _ | omega | (simp only [World.size_alloc, World.size_setCell, World.heap_drewN]; omega) | (simp; omega))).mono ?_
  rintro e w1 ⟨rfl, hb1⟩
  have hx1 : Box w1 (w.heap.size) #[.int .i64 p, .int .i64 q, .slice A n k] := by
    have hq := (Box.new w #[.int .i64 p, .int .i64 q, .slice A n k] 63).below hb1 (by first | omega | (simp only [World.size_alloc]; omega) | (simp; omega))
    (try simp only [World.size_alloc] at hq)
    exact hq
  have hq1 : Below w.heap.size w w1 := (by repeat' (first | (with_reducible exact Below.refl _ _) | (with_reducible refine Below.setCell ?_ (by first | exact Nat.le_refl _ | omega | (simp only [World.size_alloc, World.size_setCell, World.heap_drewN]; omega) | (simp; omega)) _) | (with_reducible refine Below.alloc ?_ (by first | exact Nat.le_refl _ | omega | (simp only [World.size_alloc, World.size_setCell, World.heap_drewN]; omega) | (simp; omega)) _) | (with_reducible refine below_drewN ?_ _) | (with_reducible refine Below.drew ?_) | (with_reducible refine Below.trans ?_ (hb1.mono (by first | exact Nat.le_refl _ | omega | (simp only [World.size_alloc, World.size_setCell, World.heap_drewN]; omega) | (simp; omega))))))
  have hs1 := hb1.size
  simp only [World.size_alloc] at hs1
  clear hb1
  rw [HK.out]
  go_wp2
  go_ret
  exact ⟨none, 0, 0, rfl, Hd.nil, hq1, [], OwT.nil _ _ _⟩
theorem iDerivations_big {B : Nat} (p q : Int) (n k : Nat) (A : Option Addr) (d : List Int) (w : World) (h : RdI w B A n d) (hd : Hd A n k) (hB : B ≤ w.heap.size) (hok : okA p q d = true) (hq : 8 < q) :
    Calls Try.prog 52 #[.agg #[.int .i64 p, .int .i64 q, .slice A n k]] w (RetT [] w) := by
  have HK := Lib.hid hok
  clear hok
  go_enter Try.func52, Try.ntmps52
  go_wp2_with fail
  refine (iAlg_any p q n k A d _ (B := B) (by exact h.below ((by repeat' (first | (with_reducible exact Below.refl _ _) | (with_reducible refine Below.setCell ?_ (by first | exact Nat.le_refl _ | omega | (simp only [World.size_alloc, World.size_setCell, World.heap_drewN]; omega) | (simp; omega)) _) | (with_reducible refine Below.alloc ?_ (by first | exact Nat.le_refl _ | omega | (simp only [World.size_alloc, World.size_setCell, World.heap_drewN]; omega) | (simp; omega)) _) | (with_reducible refine below_drewN ?_ _) | (with_reducible refine Below.drew ?_))) : Below w.heap.size w _) hB) hd (by first | exact Nat.le_refl _ | omega | (simp only [World.size_alloc, World.size_setCell, World.heap_drewN]; omega) | (simp; omega))).mono ?_
  rintro e w1 ⟨rfl, hb1⟩
  have hx1 : Box w1 (w.heap.size) #[.int .i64 p, .int .i64 q, .slice A n k] := by
    have hq := (Box.new w #[.int .i64 p, .int .i64 q, .slice A n k] 63).below hb1 (by first | omega | (simp only [World.size_alloc]; omega) | (simp; omega))
    (try simp only [World.size_alloc] at hq)
    exact hq
  have hq1 : Below w.heap.size w w1 := (by repeat' (first | (with_reducible exact Below.refl _ _) | (with_reducible refine Below.setCell ?_ (by first | exact Nat.le_refl _ | omega | (simp only [World.size_alloc, World.size_setCell, World.heap_drewN]; omega) | (simp; omega)) _) | (with_reducible refine Below.alloc ?_ (by first | exact Nat.le_refl _ | omega | (simp only [World.size_alloc, World.size_setCell, World.heap_drewN]; omega) | (simp; omega)) _) | (with_reducible refine below_drewN ?_ _) | (with_reducible refine Below.drew ?_) | (with_reducible refine Below.trans ?_ (hb1.mono (by first | exact Nat.le_refl _ | omega | (simp only [World.size_alloc, World.size_setCell, World.heap_drewN]; omega) | (simp; omega))))))
  have hs1 := hb1.size
  simp only [World.size_alloc] at hs1
  clear hb1
  rw [HK.out]
  obtain ⟨x0, x1, x2⟩ := hx1.three
  go_wp2
  go_ret
  exact ⟨none, 0, 0, rfl, Hd.nil, hq1, [], OwT.nil _ _ _⟩
theorem sInvariantForms_no {B : Nat} (p q : Int) (n k : Nat) (A : Option Addr) (d : List Int) (w : World) (h : RdI w B A n d) (hd : Hd A n k) (hB : B ≤ w.heap.size) (hok : okA p q d = false) :
    Calls Try.prog 56 #[.agg #[.int .i64 p, .int .i64 q, .slice A n k]] w (RetT [] w) := by
  have HK := Lib.hid hok
  clear hok
  go_enter Try.func56, Try.ntmps56
  go_wp2_with fail
  refine (sAlg_any p q n k A d _ (B := B) (by exact h.below ((by repeat' (first | (with_reducible exact Below.refl _ _) | (with_reducible refine Below.setCell ?_ (by first | exact Nat.le_refl _ | omega | (simp only [World.size_alloc, World.size_setCell, World.heap_drewN]; omega) | (simp; omega)) _) | (with_reducible refine Below.alloc ?_ (by first | exact Nat.le_refl _ | omega | (simp only [World.size_alloc, World.size_setCell, World.heap_drewN]; omega) | (simp; omega)) _) | (with_reducible refine below_drewN ?_ _) | (with_reducible refine Below.drew ?_))) : Below w.heap.size w _) hB) hd (by first | exact Nat.le_refl _ | omega | (simp only [World.size_alloc, World.size_setCell, World.heap_drewN]; omega) | (simp; omega))).mono ?_
  rintro e w1 ⟨rfl, hb1⟩
  have hx1 : Box w1 (w.heap.size) #[.int .i64 p, .int .i64 q, .slice A n k] := by
    have hq := (Box.new w #[.int .i64 p, .int .i64 q, .slice A n k] 63).below hb1 (by first | omega | (simp only [World.size_alloc]; omega) | (simp; omega))
    (try simp only [World.size_alloc] at hq)
    exact hq
  have hq1 : Below w.heap.size w w1 := (by repeat' (first | (with_reducible exact Below.refl _ _) | (with_reducible refine Below.setCell ?_ (by first | exact Nat.le_refl _ | omega | (simp only [World.size_alloc, World.size_setCell, World.heap_drewN]; omega) | (simp; omega)) _) | (with_reducible refine Below.alloc ?_ (by first | exact Nat.le_refl _ | omega | (simp only [World.size_alloc, World.size_setCell, World.heap_drewN]; omega) | (simp; omega)) _) | (with_reducible refine below_drewN ?_ _) | (with_reducible refine Below.drew ?_) | (with_reducible refine Below.trans ?_ (hb1.mono (by first | exact Nat.le_refl _ | omega | (simp only [World.size_alloc, World.size_setCell, World.heap_drewN]; omega) | (simp; omega))))))
  have hs1 := hb1.size
  simp only [World.size_alloc] at hs1
  clear hb1
  rw [HK.out]
  go_wp2
  go_ret
  exact ⟨none, 0, 0, rfl, Hd.nil, hq1, [], OwT.nil _ _ _⟩
theorem sInvariantForms_big {B : Nat} (p q : Int) (n k : Nat) (A : Option Addr) (d : List Int) (w : World) (h : RdI w B A n d) (hd : Hd A n k) (hB : B ≤ w.heap.size) (hok : okA p q d = true) (hq : 8 < q) :
    Calls Try.prog 56 #[.agg #[.int .i64 p, .int .i64 q, .slice A n k]] w (RetT [] w) := by
  have HK := Lib.hid hok
  clear hok
  go_enter Try.func56, Try.ntmps56
  go_wp2_with fail
  refine (sAlg_any p q n k A d _ (B := B) (by exact h.below ((by repeat' (first | (with_reducible exact Below.refl _ _) | (with_reducible refine Below.setCell ?_ (by first | exact Nat.le_refl _ | omega | (simp only [World.size_alloc, World.size_setCell, World.heap_drewN]; omega) | (simp; omega)) _) | (with_reducible refine Below.alloc ?_ (by first | exact Nat.le_refl _ | omega | (simp only [World.size_alloc, World.size_setCell, World.heap_drewN]; omega) | (simp; omega)) _) | (with_reducible refine below_drewN ?_ _) | (with_reducible refine Below.drew ?_))) : Below w.heap.size w _) hB) hd (by first | exact Nat.le_refl _ | omega | (simp only [World.size_alloc, World.size_setCell, World.heap_drewN]; omega) | (simp; omega))).mono ?_
  rintro e w1 ⟨rfl, hb1⟩
  have hx1 : Box w1 (w.heap.size) #[.int .i64 p, .int .i64 q, .slice A n k] := by
    have hq := (Box.new w #[.int .i64 p, .int .i64 q, .slice A n k] 63).below hb1 (by first | omega | (simp only [World.size_alloc]; omega) | (simp; omega))
    (try simp only [World.size_alloc] at hq)
    exact hq
  have hq1 : Below w.heap.size w w1 := (by repeat' (first | (with_reducible exact Below.refl _ _) | (with_reducible refine Below.setCell ?_ (by first | exact Nat.le_refl _ | omega | (simp only [World.size_alloc, World.size_setCell, World.heap_drewN]; omega) | (simp; omega)) _) | (with_reducible refine Below.alloc ?_ (by first | exact Nat.le_refl _ | omega | (simp only [World.size_alloc, World.size_setCell, World.heap_drewN]; omega) | (simp; omega)) _) | (with_reducible refine below_drewN ?_ _) | (with_reducible refine Below.drew ?_) | (with_reducible refine Below.trans ?_ (hb1.mono (by first | exact Nat.le_refl _ | omega | (simp only [World.size_alloc, World.size_setCell, World.heap_drewN]; omega) | (simp; omega))))))
  have hs1 := hb1.size
  simp only [World.size_alloc] at hs1
  clear hb1
  rw [HK.out]
  obtain ⟨x0, x1, x2⟩ := hx1.three
  go_wp2
  go_ret
  exact ⟨none, 0, 0, rfl, Hd.nil, hq1, [], OwT.nil _ _ _⟩
theorem iInvariantForms_no {B : Nat} (p q : Int) (n k : Nat) (A : Option Addr) (d : List Int) (w : World) (h : RdI w B A n d) (hd : Hd A n k) (hB : B ≤ w.heap.size) (hok : okA p q d = false) :
    Calls Try.prog 57 #[.agg #[.int .i64 p, .int .i64 q, .slice A n k]] w (RetT [] w) := by
  have HK := Lib.hid hok
  clear hok
  go_enter Try.func57, Try.ntmps57
  go_wp2_with fail
  refine (iAlg_any p q n k A d _ (B := B) (by exact h.below ((by repeat' (first | (with_reducible exact Below.refl _ _) | (with_reducible refine Below.setCell ?_ (by first | exact Nat.le_refl _ | omega | (simp only [World.size_alloc, World.size_setCell, World.heap_drewN]; omega) | (simp; omega)) _) | (with_reducible refine Below.alloc ?_ (by first | exact Nat.le_refl _ | omega | (simp only [World.size_alloc, World.size_setCell, World.heap_drewN]; omega) | (simp; omega)) _) | (with_reducible refine below_drewN ?_ _) | (with_reducible refine Below.drew ?_))) : Below w.heap.size w _) hB) hd (by first | exact Nat.le_refl _ | omega | (simp only [World.size_alloc, World.size_setCell, World.heap_drewN]; omega) | (simp; omega))).mono ?_
  rintro e w1 ⟨rfl, hb1⟩
  have hx1 : Box w1 (w.heap.size) #[.int .i64 p, .int .i64 q, .slice A n k] := by
    have hq := (Box.new w #[.int .i64 p, .int .i64 q, .slice A n k] 63).below hb1 (by first | omega | (simp only [World.size_alloc]; omega) | (simp; omega))
    (try simp only [World.size_alloc] at hq)
    exact hq
  have hq1 : Below w.heap.size w w1 := (by repeat' (first | (with_reducible exact Below.refl _ _) | (with_reducible refine Below.setCell ?_ (by first | exact Nat.le_refl _ | omega | (simp only [World.size_alloc, World.size_setCell, World.heap_drewN]; omega) | (simp; omega)) _) | (with_reducible refine Below.alloc ?_ (by first | exact Nat.le_refl _ | omega | (simp only [World.size_alloc, World.size_setCell, World.heap_drewN]; omega) | (simp; omega)) _) | (with_reducible refine below_drewN ?_ _) | (with_reducible refine Below.drew ?_) | (with_reducible refine Below.trans ?_ (hb1.mono (by first | exact Nat.le_refl _ | omega | (simp only [World.size_alloc, World.size_setCell, World.heap_drewN]; omega) | (simp; omega))))))
  have hs1 := hb1.size
  simp only [World.size_alloc] at hs1
  clear hb1
  rw [HK.out]
  go_wp2
  go_ret
  exact ⟨none, 0, 0, rfl, Hd.nil, hq1, [], OwT.nil _ _ _⟩
theorem iInvariantForms_big {B : Nat} (p q : Int) (n k : Nat) (A : Option Addr) (d : List Int) (w : World) (h : RdI w B A n d) (hd : Hd A n k) (hB : B ≤ w.heap.size) (hok : okA p q d = true) (hq : 8 < q) :
    Calls Try.prog 57 #[.agg #[.int .i64 p, .int .i64 q, .slice A n k]] w (RetT [] w) := by
  have HK := Lib.hid hok
  clear hok
  go_enter Try.func57, Try.ntmps57
  go_wp2_with fail
  refine (iAlg_any p q n k A d _ (B := B) (by exact h.below ((by repeat' (first | (with_reducible exact Below.refl _ _) | (with_reducible refine Below.setCell ?_ (by first | exact Nat.le_refl _ | omega | (simp only [World.size_alloc, World.size_setCell, World.heap_drewN]; omega) | (simp; omega)) _) | (with_reducible refine Below.alloc ?_ (by first | exact Nat.le_refl _ | omega | (simp only [World.size_alloc, World.size_setCell, World.heap_drewN]; omega) | (simp; omega)) _) | (with_reducible refine below_drewN ?_ _) | (with_reducible refine Below.drew ?_))) : Below w.heap.size w _) hB) hd (by first | exact Nat.le_refl _ | omega | (simp only [World.size_alloc, World.size_setCell, World.heap_drewN]; omega) | (simp; omega))).mono ?_
  rintro e w1 ⟨rfl, hb1⟩
  have hx1 : Box w1 (w.heap.size) #[.int .i64 p, .int .i64 q, .slice A n k] := by
    have hq := (Box.new w #[.int .i64 p, .int .i64 q, .slice A n k] 63).below hb1 (by first | omega | (simp only [World.size_alloc]; omega) | (simp; omega))
    (try simp only [World.size_alloc] at hq)
    exact hq
  have hq1 : Below w.heap.size w w1 := (by repeat' (first | (with_reducible exact Below.refl _ _) | (with_reducible refine Below.setCell ?_ (by first | exact Nat.le_refl _ | omega | (simp only [World.size_alloc, World.size_setCell, World.heap_drewN]; omega) | (simp; omega)) _) | (with_reducible refine Below.alloc ?_ (by first | exact Nat.le_refl _ | omega | (simp only [World.size_alloc, World.size_setCell, World.heap_drewN]; omega) | (simp; omega)) _) | (with_reducible refine below_drewN ?_ _) | (with_reducible refine Below.drew ?_) | (with_reducible refine Below.trans ?_ (hb1.mono (by first | exact Nat.le_refl _ | omega | (simp only [World.size_alloc, World.size_setCell, World.heap_drewN]; omega) | (simp; omega))))))
  have hs1 := hb1.size
  simp only [World.size_alloc] at hs1
  clear hb1
  rw [HK.out]
  obtain ⟨x0, x1, x2⟩ := hx1.three
  go_wp2
  go_ret
  exact ⟨none, 0, 0, rfl, Hd.nil, hq1, [], OwT.nil _ _ _⟩
set_option maxRecDepth 100000 in
theorem sInvariantForms_ok {B : Nat} (p : Int) (N n k : Nat) (A : Option Addr) (d : List Int) (w : World) (h : RdI w B A n d) (hd : Hd A n k) (hB : B ≤ w.heap.size) (hok : okA p N d = true) (hN : N ≤ 8) :
    Calls Try.prog 56 #[.agg #[.int .i64 p, .int .i64 N, .slice A n k]] w (RetT (tabR (cS (ci1 N p d) p N).rk (N * N) (cS (ci1 N p d) p N).f) w) := by
  obtain ⟨k1, k2, k3, k4, k5, k6, k7⟩ := okA_bd hok
  obtain ⟨hp1, hp2⟩ := isP_bd k1
  rw [Int.toNat_natCast] at k4
  have HL := Lib.hid (show n = N * N * N by rw [← k4]; exact h.1.symm)
  have HR := Lib.hid k5
  have HP := Lib.hid k1
  have hNN : N * N ≤ 8 * 8 := Nat.mul_le_mul hN hN
  have HK := Lib.hid hok
  obtain ⟨T, hT⟩ : ∃ T, T = ((cd1 N p d).length + 199) / 200 := ⟨_, rfl⟩
  have hth : (thin p (N * N) (chs (cd1 N p d)) T).2.length = (thin p (N * N) (chs (cd1 N p d)) T).1 * (N * N) ∧ resB (thin p (N * N) (chs (cd1 N p d)) T).2 p = true ∧ (thin p (N * N) (chs (cd1 N p d)) T).1 ≤ N * N := by
    obtain ⟨q, rfl⟩ := Int.eq_ofNat_of_zero_le (show 0 ≤ p by omega)
    haveI : NeZero q := ⟨by omega⟩
    have := thin_nl (C := N * N) k1 (chs (cd1 N q d)) (fun t => flat_res fun r hr => (cdk_all1 (by omega) r (chs_sub hr)).2) T
    exact ⟨this.1, this.2.1, this.2.2.1⟩
  have hker := cdk1 hok (T := T) (by omega)
  generalize hsS : kerS (thin p (N * N) (chs (cd1 N p d)) T).1 (N * N) p (matF (thin p (N * N) (chs (cd1 N p d)) T).2 (N * N)) = s at hker
  have HS' := Lib.hid hsS
  have hsk : s.rk ≤ N * N := by rw [← hsS]; exact rk_leC _ _ _ _
  rw [show tabR (cS (ci1 N p d) p N).rk (N * N) (cS (ci1 N p d) p N).f = rowsD (N * N) (tab s.rk (N * N) s.f) s.rk by
    rw [rowsD_tabR (by rw [tab_len]; exact Nat.le_refl _), ← hker.1]
    exact (tabR_congr fun i j hi hj => by rw [matF_tab' hi hj]; exact hker.2 i j hi hj).symm]
  have hRC : s.rk * (N * N) ≤ 64 * 64 := Nat.mul_le_mul (by omega) (by omega)
  obtain ⟨M, hM⟩ : ∃ M : Nat, M = N * N := ⟨_, rfl⟩
  rw [← hM] at hth hsS HS' hsk hRC hNN ⊢
  have HTL := Lib.hid hth.1
  have HTR := Lib.hid hth.2.1
  have hTk := hth.2.2
  have HT := Lib.hid hT
  have HM := Lib.hid hM
  clear hok k1 k2 k3 k4 k5 k6 k7 hker hsS hth hT hM
  go_enter Try.func56, Try.ntmps56
  go_wp2_with fail
  refine (sAlg_any p N n k A d _ (B := B) (by exact h.below ((by repeat' (first | (with_reducible exact Below.refl _ _) | (with_reducible refine Below.setCell ?_ (by first | exact Nat.le_refl _ | omega | (simp only [World.size_alloc, World.size_setCell, World.heap_drewN]; omega) | (simp; omega)) _) | (with_reducible refine Below.alloc ?_ (by first | exact Nat.le_refl _ | omega | (simp only [World.size_alloc, World.size_setCell, World.heap_drewN]; omega) | (simp; omega)) _) | (with_reducible refine below_drewN ?_ _) | (with_reducible refine Below.drew ?_))) : Below w.heap.size w _) hB) hd (by first | exact Nat.le_refl _ | omega | (simp only [World.size_alloc, World.size_setCell, World.heap_drewN]; omega) | (simp; omega))).mono ?_
  rintro e w1 ⟨rfl, hb1⟩
  have hx1 : Box w1 (w.heap.size) #[.int .i64 p, .int .i64 N, .slice A n k] := by
    have hq := (Box.new w #[.int .i64 p, .int .i64 N, .slice A n k] 63).below hb1 (by first | omega | (simp only [World.size_alloc]; omega) | (simp; omega))
    (try simp only [World.size_alloc] at hq)
    exact hq
  have hq1 : Below w.heap.size w w1 := (by repeat' (first | (with_reducible exact Below.refl _ _) | (with_reducible refine Below.setCell ?_ (by first | exact Nat.le_refl _ | omega | (simp only [World.size_alloc, World.size_setCell, World.heap_drewN]; omega) | (simp; omega)) _) | (with_reducible refine Below.alloc ?_ (by first | exact Nat.le_refl _ | omega | (simp only [World.size_alloc, World.size_setCell, World.heap_drewN]; omega) | (simp; omega)) _) | (with_reducible refine below_drewN ?_ _) | (with_reducible refine Below.drew ?_) | (with_reducible refine Below.trans ?_ (hb1.mono (by first | exact Nat.le_refl _ | omega | (simp only [World.size_alloc, World.size_setCell, World.heap_drewN]; omega) | (simp; omega))))))
  have hs1 := hb1.size
  simp only [World.size_alloc] at hs1
  have ha1 := h.below hq1 hB
  clear hb1
  rw [HK.out]
  obtain ⟨x0, x1, x2⟩ := hx1.three
  go_wp2_with fail
  refine (sCnd1_any (B := B) p N n k A d _ ha1 hd (by omega) hN HL.out HP.out HR.out).mono ?_
  rw [← HT.out, ← HM.out]
  rintro e w6 ⟨A6, n6, k6, rfl, hd6, hb6, ho6⟩
  have hs6 := hb6.size
  have hl6 := ho6.1
  rw [HTL.out] at hl6
  have hl6b : (thin p M (chs (cd1 N p d)) T).1 * M ≤ 64 * 64 := Nat.mul_le_mul (by omega) (by omega)
  go_wp2_with fail
  refine (l1Kernel_any (B := w6.heap.size) p (thin p M (chs (cd1 N p d)) T).1 M n6 k6 A6 _ _ ho6.rd hd6 (Nat.le_refl _) hl6.symm (by omega) (by omega) (by omega) HP.out HTR.out).mono ?_
  rw [HS'.out]
  rintro e w7 ⟨A8, n8, k8, rfl, hd8, hb8, ho8⟩
  have hs8 := hb8.size
  have hl8 := ho8.1
  rw [tab_len] at hl8
  go_wp2_with fail
  refine (l3Lists_any (B := w7.heap.size) p s.rk M n8 k8 A8 _ _ ho8.rd hd8 (Nat.le_refl _) hl8.symm (by omega) (by omega) (by omega)).mono ?_
  rintro e w9 ⟨A9, n9, k9, rfl, hd9, hb9, hst9, hT9⟩
  have hs9 := hb9.size
  clear x0 x1 x2
  go_wp2
  go_ret
  exact ⟨_, _, _, rfl, hd9, (by repeat' (first | (with_reducible exact Below.refl _ _) | (with_reducible refine Below.setCell ?_ (by first | exact Nat.le_refl _ | omega | (simp only [World.size_alloc, World.size_setCell, World.heap_drewN]; omega) | (simp; omega)) _) | (with_reducible refine Below.alloc ?_ (by first | exact Nat.le_refl _ | omega | (simp only [World.size_alloc, World.size_setCell, World.heap_drewN]; omega) | (simp; omega)) _) | (with_reducible refine below_drewN ?_ _) | (with_reducible refine Below.drew ?_) | (with_reducible refine Below.trans ?_ (hb9.mono (by first | exact Nat.le_refl _ | omega | (simp only [World.size_alloc, World.size_setCell, World.heap_drewN]; omega) | (simp; omega)))) | (with_reducible refine Below.trans ?_ (hb8.mono (by first | exact Nat.le_refl _ | omega | (simp only [World.size_alloc, World.size_setCell, World.heap_drewN]; omega) | (simp; omega)))) | (with_reducible refine Below.trans ?_ (hb6.mono (by first | exact Nat.le_refl _ | omega | (simp only [World.size_alloc, World.size_setCell, World.heap_drewN]; omega) | (simp; omega)))) | (with_reducible refine Below.trans ?_ (hq1.mono (by first | exact Nat.le_refl _ | omega | (simp only [World.size_alloc, World.size_setCell, World.heap_drewN]; omega) | (simp; omega)))))), _, hT9.down (by omega)⟩
set_option maxRecDepth 100000 in
theorem sDerivations_ok {B : Nat} (p : Int) (N n k : Nat) (A : Option Addr) (d : List Int) (w : World) (h : RdI w B A n d) (hd : Hd A n k) (hB : B ≤ w.heap.size) (hok : okA p N d = true) (hN : N ≤ 8) :
    Calls Try.prog 51 #[.agg #[.int .i64 p, .int .i64 N, .slice A n k]] w (RetT (tabR (cS (ci0 N p d) p N).rk (N * N) (cS (ci0 N p d) p N).f) w) := by
  obtain ⟨k1, k2, k3, k4, k5, k6, k7⟩ := okA_bd hok
  obtain ⟨hp1, hp2⟩ := isP_bd k1
  rw [Int.toNat_natCast] at k4
  have HL := Lib.hid (show n = N * N * N by rw [← k4]; exact h.1.symm)
  have HR := Lib.hid k5
  have HP := Lib.hid k1
  have hNN : N * N ≤ 8 * 8 := Nat.mul_le_mul hN hN
  have HK := Lib.hid hok
  obtain ⟨T, hT⟩ : ∃ T, T = ((cd0 N p d).length + 199) / 200 := ⟨_, rfl⟩
  have hth : (thin p (N * N) (chs (cd0 N p d)) T).2.length = (thin p (N * N) (chs (cd0 N p d)) T).1 * (N * N) ∧ resB (thin p (N * N) (chs (cd0 N p d)) T).2 p = true ∧ (thin p (N * N) (chs (cd0 N p d)) T).1 ≤ N * N := by
    obtain ⟨q, rfl⟩ := Int.eq_ofNat_of_zero_le (show 0 ≤ p by omega)
    haveI : NeZero q := ⟨by omega⟩
    have := thin_nl (C := N * N) k1 (chs (cd0 N q d)) (fun t => flat_res fun r hr => (cdk_all0 (by omega) r (chs_sub hr)).2) T
    exact ⟨this.1, this.2.1, this.2.2.1⟩
  have hker := cdk0 hok (T := T) (by omega)
  generalize hsS : kerS (thin p (N * N) (chs (cd0 N p d)) T).1 (N * N) p (matF (thin p (N * N) (chs (cd0 N p d)) T).2 (N * N)) = s at hker
  have HS' := Lib.hid hsS
  have hsk : s.rk ≤ N * N := by rw [← hsS]; exact rk_leC _ _ _ _
  rw [show tabR (cS (ci0 N p d) p N).rk (N * N) (cS (ci0 N p d) p N).f = rowsD (N * N) (tab s.rk (N * N) s.f) s.rk by
    rw [rowsD_tabR (by rw [tab_len]; exact Nat.le_refl _), ← hker.1]
    exact (tabR_congr fun i j hi hj => by rw [matF_tab' hi hj]; exact hker.2 i j hi hj).symm]
  have hRC : s.rk * (N * N) ≤ 64 * 64 := Nat.mul_le_mul (by omega) (by omega)
  obtain ⟨M, hM⟩ : ∃ M : Nat, M = N * N := ⟨_, rfl⟩
  rw [← hM] at hth hsS HS' hsk hRC hNN ⊢
  have HTL := Lib.hid hth.1
  have HTR := Lib.hid hth.2.1
  have hTk := hth.2.2
  have HT := Lib.hid hT
  have HM := Lib.hid hM
  clear hok k1 k2 k3 k4 k5 k6 k7 hker hsS hth hT hM
  go_enter Try.func51, Try.ntmps51
  go_wp2_with fail
  refine (sAlg_any p N n k A d _ (B := B) (by exact h.below ((by repeat' (first | (with_reducible exact Below.refl _ _) | (with_reducible refine Below.setCell ?_ (by first | exact Nat.le_refl _ | omega | (simp only [World.size_alloc, World.size_setCell, World.heap_drewN]; omega) | (simp; omega)) _) | (with_reducible refine Below.alloc ?_ (by first | exact Nat.le_refl _ | omega | (simp only [World.size_alloc, World.size_setCell, World.heap_drewN]; omega) | (simp; omega)) _) | (with_reducible refine below_drewN ?_ _) | (with_reducible refine Below.drew ?_))) : Below w.heap.size w _) hB) hd (by first | exact Nat.le_refl _ | omega | (simp only [World.size_alloc, World.size_setCell, World.heap_drewN]; omega) | (simp; omega))).mono ?_
  rintro e w1 ⟨rfl, hb1⟩
  have hx1 : Box w1 (w.heap.size) #[.int .i64 p, .int .i64 N, .slice A n k] := by
    have hq := (Box.new w #[.int .i64 p, .int .i64 N, .slice A n k] 63).below hb1 (by first | omega | (simp only [World.size_alloc]; omega) | (simp; omega))
    (try simp only [World.size_alloc] at hq)
    exact hq
  have hq1 : Below w.heap.size w w1 := (by repeat' (first | (with_reducible exact Below.refl _ _) | (with_reducible refine Below.setCell ?_ (by first | exact Nat.le_refl _ | omega | (simp only [World.size_alloc, World.size_setCell, World.heap_drewN]; omega) | (simp; omega)) _) | (with_reducible refine Below.alloc ?_ (by first | exact Nat.le_refl _ | omega | (simp only [World.size_alloc, World.size_setCell, World.heap_drewN]; omega) | (simp; omega)) _) | (with_reducible refine below_drewN ?_ _) | (with_reducible refine Below.drew ?_) | (with_reducible refine Below.trans ?_ (hb1.mono (by first | exact Nat.le_refl _ | omega | (simp only [World.size_alloc, World.size_setCell, World.heap_drewN]; omega) | (simp; omega))))))
  have hs1 := hb1.size
  simp only [World.size_alloc] at hs1
  have ha1 := h.below hq1 hB
  clear hb1
  rw [HK.out]
  obtain ⟨x0, x1, x2⟩ := hx1.three
  go_wp2_with fail
  refine (sCnd0_any (B := B) p N n k A d _ ha1 hd (by omega) hN HL.out HP.out HR.out).mono ?_
  rw [← HT.out, ← HM.out]
  rintro e w6 ⟨A6, n6, k6, rfl, hd6, hb6, ho6⟩
  have hs6 := hb6.size
  have hl6 := ho6.1
  rw [HTL.out] at hl6
  have hl6b : (thin p M (chs (cd0 N p d)) T).1 * M ≤ 64 * 64 := Nat.mul_le_mul (by omega) (by omega)
  go_wp2_with fail
  refine (l1Kernel_any (B := w6.heap.size) p (thin p M (chs (cd0 N p d)) T).1 M n6 k6 A6 _ _ ho6.rd hd6 (Nat.le_refl _) hl6.symm (by omega) (by omega) (by omega) HP.out HTR.out).mono ?_
  rw [HS'.out]
  rintro e w7 ⟨A8, n8, k8, rfl, hd8, hb8, ho8⟩
  have hs8 := hb8.size
  have hl8 := ho8.1
  rw [tab_len] at hl8
  go_wp2_with fail
  refine (l3Lists_any (B := w7.heap.size) p s.rk M n8 k8 A8 _ _ ho8.rd hd8 (Nat.le_refl _) hl8.symm (by omega) (by omega) (by omega)).mono ?_
  rintro e w9 ⟨A9, n9, k9, rfl, hd9, hb9, hst9, hT9⟩
  have hs9 := hb9.size
  clear x0 x1 x2
  go_wp2
  go_ret
  exact ⟨_, _, _, rfl, hd9, (by repeat' (first | (with_reducible exact Below.refl _ _) | (with_reducible refine Below.setCell ?_ (by first | exact Nat.le_refl _ | omega | (simp only [World.size_alloc, World.size_setCell, World.heap_drewN]; omega) | (simp; omega)) _) | (with_reducible refine Below.alloc ?_ (by first | exact Nat.le_refl _ | omega | (simp only [World.size_alloc, World.size_setCell, World.heap_drewN]; omega) | (simp; omega)) _) | (with_reducible refine below_drewN ?_ _) | (with_reducible refine Below.drew ?_) | (with_reducible refine Below.trans ?_ (hb9.mono (by first | exact Nat.le_refl _ | omega | (simp only [World.size_alloc, World.size_setCell, World.heap_drewN]; omega) | (simp; omega)))) | (with_reducible refine Below.trans ?_ (hb8.mono (by first | exact Nat.le_refl _ | omega | (simp only [World.size_alloc, World.size_setCell, World.heap_drewN]; omega) | (simp; omega)))) | (with_reducible refine Below.trans ?_ (hb6.mono (by first | exact Nat.le_refl _ | omega | (simp only [World.size_alloc, World.size_setCell, World.heap_drewN]; omega) | (simp; omega)))) | (with_reducible refine Below.trans ?_ (hq1.mono (by first | exact Nat.le_refl _ | omega | (simp only [World.size_alloc, World.size_setCell, World.heap_drewN]; omega) | (simp; omega)))))), _, hT9.down (by omega)⟩
set_option maxRecDepth 100000 in
theorem iDerivations_ok {B : Nat} (p : Int) (N n k : Nat) (A : Option Addr) (d : List Int) (w : World) (h : RdI w B A n d) (hd : Hd A n k) (hB : B ≤ w.heap.size) (hok : okA p N d = true) (hN : N ≤ 8) :
    Calls Try.prog 52 #[.agg #[.int .i64 p, .int .i64 N, .slice A n k]] w (RetT (tabR (cS (ci0 N p d) p N).rk (N * N) (cS (ci0 N p d) p N).f) w) := by
  obtain ⟨k1, k2, k3, k4, k5, k6, k7⟩ := okA_bd hok
  obtain ⟨hp1, hp2⟩ := isP_bd k1
  rw [Int.toNat_natCast] at k4
  have HL := Lib.hid (show n = N * N * N by rw [← k4]; exact h.1.symm)
  have HR := Lib.hid k5
  have HP := Lib.hid k1
  obtain ⟨M, hM⟩ : ∃ M : Nat, M = N * N := ⟨_, rfl⟩
  have hM64 : M ≤ 64 := by rw [hM]; exact Nat.mul_le_mul hN hN
  have hMi : (N : Int) * (N : Int) = (M : Int) := by rw [hM, Int.natCast_mul]
  have hwM : IntKind.i64.wrap ((N : Int) * (N : Int)) = (M : Int) := by rw [hMi]; exact IntWalk.i64_in _ (by omega)
  have HLEN := Lib.hid (show ∀ I J K, I ≤ N → J ≤ N → K ≤ N → (cnR N (fun i => i) (fun _ _ => true) (fun i j k => dvR N p d i j k N N N) I J K).length ≤ 600 from fun I J K hI hJ hK => cn_len (fun i => by omega) hN hI hJ hK fun i => by omega)
  have HALL := Lib.hid (show ∀ r ∈ ci0 N p d, r.length = M ∧ resB r p = true from cn_all (P := fun r => r.length = M ∧ resB r p = true) fun i j k => by rw [hM]; exact ⟨dvR_len _ _ _, dvR_res (by omega) _ _ _⟩)
  have HZ := Lib.hid (show ∀ i j k, List.replicate M 0 = dvR N p d i j k 0 0 0 from fun i j k => by rw [hM]; exact dvR_zero.symm)
  obtain ⟨s, hs⟩ : ∃ s, s = cS (ci0 N p d) p N := ⟨_, rfl⟩
  rw [← hM, ← hs]
  have HS0 := Lib.hid hs
  have HM := Lib.hid hM
  have HK := Lib.hid hok
  clear hok k1 k2 k3 k4 k5 k6 k7 hM hMi hs
  go_enter Try.func52, Try.ntmps52
  go_wp2_with fail
  refine (iAlg_any p N n k A d _ (B := B) (by exact h.below ((by repeat' (first | (with_reducible exact Below.refl _ _) | (with_reducible refine Below.setCell ?_ (by first | exact Nat.le_refl _ | omega | (simp only [World.size_alloc, World.size_setCell, World.heap_drewN]; omega) | (simp; omega)) _) | (with_reducible refine Below.alloc ?_ (by first | exact Nat.le_refl _ | omega | (simp only [World.size_alloc, World.size_setCell, World.heap_drewN]; omega) | (simp; omega)) _) | (with_reducible refine below_drewN ?_ _) | (with_reducible refine Below.drew ?_))) : Below w.heap.size w _) hB) hd (by first | exact Nat.le_refl _ | omega | (simp only [World.size_alloc, World.size_setCell, World.heap_drewN]; omega) | (simp; omega))).mono ?_
  rintro e w1 ⟨rfl, hb1⟩
  have hx1 : Box w1 (w.heap.size) #[.int .i64 p, .int .i64 N, .slice A n k] := by
    have hq := (Box.new w #[.int .i64 p, .int .i64 N, .slice A n k] 63).below hb1 (by first | omega | (simp only [World.size_alloc]; omega) | (simp; omega))
    (try simp only [World.size_alloc] at hq)
    exact hq
  have hq1 : Below w.heap.size w w1 := (by repeat' (first | (with_reducible exact Below.refl _ _) | (with_reducible refine Below.setCell ?_ (by first | exact Nat.le_refl _ | omega | (simp only [World.size_alloc, World.size_setCell, World.heap_drewN]; omega) | (simp; omega)) _) | (with_reducible refine Below.alloc ?_ (by first | exact Nat.le_refl _ | omega | (simp only [World.size_alloc, World.size_setCell, World.heap_drewN]; omega) | (simp; omega)) _) | (with_reducible refine below_drewN ?_ _) | (with_reducible refine Below.drew ?_) | (with_reducible refine Below.trans ?_ (hb1.mono (by first | exact Nat.le_refl _ | omega | (simp only [World.size_alloc, World.size_setCell, World.heap_drewN]; omega) | (simp; omega))))))
  have hs1 := hb1.size
  simp only [World.size_alloc] at hs1
  have ha1 := h.below hq1 hB
  clear hb1
  rw [HK.out]
  obtain ⟨x0, x1, x2⟩ := hx1.three
  go_wp2_with (go_at_call 112; refine (newLie_any p N A n k _).mono ?_; rintro e w2 ⟨rfl, hb2⟩; clear x0 x1 x2; have hs2 := hb2.size; have hx := ((hx1.below hb2 (by omega)).alloc (.cells #[.int .i64 p, .int .i64 N, .slice A n k] 107)).alloc (.cells #[] 22); have hy := (Box.new w2 #[.int .i64 p, .int .i64 N, .slice A n k] 107).alloc (.cells #[] 22); have ha := ((ha1.below hb2 (by omega)).alloc (by omega) (.cells #[.int .i64 p, .int .i64 N, .slice A n k] 107)).alloc (by rw [World.size_alloc]; omega) (.cells #[] 22); have hq := hq1.trans (hb2.mono (by omega)); obtain ⟨x0, x1, x2⟩ := ((hx1.below hb2 (by omega)).alloc (.cells #[.int .i64 p, .int .i64 N, .slice A n k] 107)).three)
  clear x0 x1 x2 hx1 ha1 hb2
  obtain ⟨hX0, hY0, ha0⟩ : _ ∧ _ ∧ _ := ⟨hx, hy, ha⟩
  clear hx hy ha
  have hq0 : Below w.heap.size w ((w2.alloc (.cells #[.int .i64 p, .int .i64 N, .slice A n k] 107)).alloc (.cells #[] 22)) := (by repeat' (first | (with_reducible exact Below.refl _ _) | (with_reducible refine Below.setCell ?_ (by first | exact Nat.le_refl _ | omega | (simp only [World.size_alloc, World.size_setCell, World.heap_drewN]; omega) | (simp; omega)) _) | (with_reducible refine Below.alloc ?_ (by first | exact Nat.le_refl _ | omega | (simp only [World.size_alloc, World.size_setCell, World.heap_drewN]; omega) | (simp; omega)) _) | (with_reducible refine below_drewN ?_ _) | (with_reducible refine Below.drew ?_) | (with_reducible refine Below.trans ?_ (hq.mono (by first | exact Nat.le_refl _ | omega | (simp only [World.size_alloc, World.size_setCell, World.heap_drewN]; omega) | (simp; omega))))))
  have hG := GrwT.start (w2.alloc (.cells #[.int .i64 p, .int .i64 N, .slice A n k] 107)) 22 rfl
  simp only [World.size_alloc] at hG
  have hsW : ((w2.alloc (.cells #[.int .i64 p, .int .i64 N, .slice A n k] 107)).alloc (.cells #[] 22)).heap.size = w2.heap.size + 2 := by simp
  obtain ⟨W0, hW0⟩ : ∃ W0, W0 = ((w2.alloc (.cells #[.int .i64 p, .int .i64 N, .slice A n k] 107)).alloc (.cells #[] 22)) := ⟨_, rfl⟩
  rw [← hW0] at hX0 hY0 hq0 ha0 hG hsW ⊢
  clear hW0 hq
  go_loopw [5, 25] (fun v ii wr => ∃ (I m : Nat) (xss : List (List Int)), Hid (xss = cnR N (fun i => i) (fun _ _ => true) (fun i j k => dvR N p d i j k N N N) I 0 0) ∧ I ≤ N ∧ ii = .int .i64 (I : Int) ∧ GrwT (w2.heap.size + 1) W0 wr v m xss) (fun _ ii _ => N - (intOf ii).toNat)
  case atStart => exact ⟨0, 0, [], Lib.hid cn_zero.symm, by omega, rfl, hG⟩
  case round =>
    clear hG
    obtain ⟨I, m, xss, HI, hIN, rfl, hG⟩ := hrel
    have hszr := hG.size
    by_cases hI : I < N
    · go_wp2_with fail
      obtain ⟨wi, rfl⟩ : ∃ wi : World, wi = wr := ⟨_, rfl⟩
      go_loopw [5, 29] (fun v jj wr => ∃ (J m : Nat) (xss : List (List Int)), Hid (xss = cnR N (fun i => i) (fun _ _ => true) (fun i j k => dvR N p d i j k N N N) I J 0) ∧ J ≤ I ∧ jj = .int .i64 (J : Int) ∧ GrwT (w2.heap.size + 1) W0 wr v m xss) (fun _ jj _ => I - (intOf jj).toNat)
      case atStart => exact ⟨0, m, xss, HI, by omega, rfl, hG⟩
      case round =>
        clear hG HI hszr
        obtain ⟨J, m, xss, HI, hJN, rfl, hG⟩ := hrel
        have hszr := hG.size
        by_cases hJ : J < I
        · go_wp2_with fail
          obtain ⟨wj, rfl⟩ : ∃ wj : World, wj = wr := ⟨_, rfl⟩
          go_loopw [5, 33] (fun v kk wr => ∃ (K m : Nat) (xss : List (List Int)), Hid (xss = cnR N (fun i => i) (fun _ _ => true) (fun i j k => dvR N p d i j k N N N) I J K) ∧ K ≤ N ∧ kk = .int .i64 (K : Int) ∧ GrwT (w2.heap.size + 1) W0 wr v m xss) (fun _ kk _ => N - (intOf kk).toNat)
          case atStart => exact ⟨0, m, xss, HI, by omega, rfl, hG⟩
          case round =>
            clear hG HI hszr
            obtain ⟨K, m, xss, HI, hKN, rfl, hG⟩ := hrel
            have hszr := hG.size
            by_cases hK : K < N
            · obtain ⟨hst, hhl, how, hi', hOT, hhi'⟩ := hG.tbl
              have hm6 : m ≤ 600 := by have := HLEN.out I J K (by omega) (by omega) (by omega); rw [← HI.out, hOT.len] at this; exact this
              have hbl0 := hG.below
              have HI2 := Lib.hid (show xss ++ [dvR N p d I J K N N N] = cnR N (fun i => i) (fun _ _ => true) (fun i j k => dvR N p d i j k N N N) I J (K + 1) by rw [HI.out]; exact (cn_k (by rfl)).symm)
              go_wp2_with (at_make; refine wpList_mkI _ rfl _ _ 22 rfl 3 Try.underlying22 Try.infoI .i64 .i64 _ _ M rfl rfl (by omega) (by omega) (by omega) ?_; intro w3 ho3 hb3 hs3)
              rw [HZ.out I J K] at ho3
              obtain ⟨wo, rfl⟩ : ∃ wo : World, wo = wr := ⟨_, rfl⟩
              go_loopw [41] (fun ll wr => ∃ L : Nat, L ≤ N ∧ ll = .int .i64 (L : Int) ∧ wo.heap.size < wr.heap.size ∧ Below wo.heap.size wo wr ∧ OwI wr wo.heap.size (wo.heap.size + 1) (some ⟨wo.heap.size, 0, none⟩) M (dvR N p d I J K L L L)) (fun ll _ => N - (intOf ll).toNat)
              case atStart => exact ⟨0, by omega, rfl, hs3, hb3, ho3.tight⟩
              case round =>
                clear ho3 hb3 hs3
                obtain ⟨L, hLN, rfl, hlto, hbw, ho⟩ := hrel
                have hsw := hbw.size
                by_cases hL : L < N
                · skip
                  obtain ⟨D, hD⟩ : ∃ D, D = dvR N p d I J K L L L := ⟨_, rfl⟩
                  have HD := Lib.hid hD
                  have HDR := Lib.hid (show resB D p = true by rw [hD]; exact dvR_res (by omega) _ _ _)
                  rw [← hD] at ho
                  clear hD
                  have hbq : Below (w2.heap.size + 1) W0 wr := hbl0.trans (hbw.mono (by omega))
                  have hszq : wo.heap.size ≤ wr.heap.size := hbw.size
                  obtain ⟨q, hq⟩ : ∃ q : Nat, q = L * N + K := ⟨_, rfl⟩
                  have hqM : q < M := by rw [hq, HM.out]; exact idx_lt (by omega) (by omega)
                  have hq1 : (L : Int) * (N : Int) + (K : Int) = (q : Int) := by rw [hq, Int.natCast_add, Int.natCast_mul]
                  have hq0 : 0 ≤ (L : Int) * (N : Int) := by rw [← Int.natCast_mul]; omega
                  have hwr1 : IntKind.i64.wrap ((L : Int) * (N : Int)) = (L : Int) * (N : Int) := IntWalk.i64_in _ (by omega)
                  have hwr2 : IntKind.i64.wrap ((L : Int) * (N : Int) + (K : Int)) = (q : Int) := by rw [hq1]; exact IntWalk.i64_in _ (by omega)
                  obtain ⟨hcq, hfq⟩ := ho.at_ hqM
                  rw [Nat.zero_add] at hcq hfq
                  have htb := tA_bd (n := N) (p := p) (by omega) HR.out I J L
                  have hdb := gI_res (p := p) (by omega) (HDR.out) q
                  have hwr3 : IntKind.i64.wrap (gI D q + tA N d I J L) = gI D q + tA N d I J L := IntWalk.i64_in _ (by omega)
                  have HS := Lib.hid (show D.set q ((gI D q + tA N d I J L) % p) = dvR N p d I J K (L + 1) L L by rw [HD.out, hq]; exact dvR_1 (by omega) (by omega))
                  have hx := hX0.below hbq (by omega)
                  have hy := hY0.below hbq (by omega)
                  have ha := ha0.below hbq (by omega)
                  obtain ⟨x0, x1, x2⟩ := hx.three
                  obtain ⟨y0, y1, y2⟩ := hy.three
                  obtain ⟨Ap, kp, hdp, hpp, hrun⟩ := pair_any (p := p) (n := N) (i := I) (j := J) hd HL.out (by omega) (by omega) (by omega)
                  have hpr := hpp _ _ _ ha
                  obtain ⟨bp, op, rfl⟩ := hpr.addr (by omega)
                  have hcp := hpr.at_ (show L < N by omega)
                  rw [prV_get (by omega)] at hcp
                  have q4 := cell_regrown hcp
                  have cP : ∀ e os, Calls Try.prog 113 #[.agg #[.int .i64 p, .int .i64 N, .slice A n k], .int .i64 I, .int .i64 J] (grow (redrawn wr e) os) fun e w'' => e = .returned (.slice (some ⟨bp, op, none⟩) N kp) ∧ ∃ p : Regrown, w'' = grow (redrawn wr p.d) p.os :=
                    fun e os => Calls.regrown_of (hrun _)
                  clear hpr hpp hrun
                  have hpe : (p == 0) = false := by simp; omega
                  have hp0 : p ≠ 0 := by omega
                  have htm : (gI D q + tA N d I J L).tmod p = (gI D q + tA N d I J L) % p := Int.tmod_eq_emod_of_nonneg (by omega)
                  have hwr5 : IntKind.i64.wrap ((gI D q + tA N d I J L) % p) = (gI D q + tA N d I J L) % p := by
                    have e1 := Int.emod_nonneg (gI D q + tA N d I J L) (show p ≠ 0 by omega)
                    have e2 := Int.emod_lt_of_pos (gI D q + tA N d I J L) (show 0 < p by omega)
                    exact IntWalk.i64_in _ (by omega)
                  have q0 := cell_regrown x0
                  have r0 := cell_regrown y0
                  have r1 := cell_regrown y1
                  have r2 := cell_regrown y2
                  have q3 := cell_regrown hcq
                  clear hx hy ha hq hq0 hcq hfq
                  clear hq1
                  go_wp2_with fail
                  clear x0 x1 x2 y0 y1 y2
                  (refine wp_region_quiet_last (C := fun w' => ∃ p : Regrown, w' = grow (redrawn wr p.d) p.os) 26 (by kernel_rfl) (by kernel_rfl) (by kernel_rfl) (by kernel_rfl) (by kernel_rfl) (by kernel_rfl) (by kernel_rfl) (by kernel_rfl) ⟨⟨wr.drawn + 1, #[]⟩, by rw [grow_empty]; rfl⟩ ?_; simp only [List.take_succ_cons, List.take_zero, List.drop_succ_cons, List.drop_zero]; (repeat (go_big_quiet_step (exact cP _ _))); refine wpQuiet_nil ?_; rintro W ⟨pp, hW⟩; have hbW : Below wr.heap.size wr W := hW ▸ below_regrown _ _ _; clear hW)
                  clear q0 r0 r1 r2 q3 hwr1 hwr2 hwr3 htb hdb q4 cP hpe hp0 htm hwr5
                  have hW1 := hbW.size
                  have hoW := ho.below hbW (by omega)
                  obtain ⟨hcq, hfq⟩ := hoW.at_ hqM
                  rw [Nat.zero_add] at hcq hfq
                  have HoN := Lib.hid (show OwI (W.setCell ⟨wo.heap.size, q, none⟩ (.int .i64 ((gI D q + tA N d I J L) % p))) wo.heap.size (wo.heap.size + 1) (some ⟨wo.heap.size, 0, none⟩) M (dvR N p d I J K (L + 1) L L) by have := hoW.store (v := (gI D q + tA N d I J L) % p) hqM; rw [HS.out, Nat.zero_add] at this; exact this)
                  have HbN := Lib.hid (show Below wo.heap.size wo (W.setCell ⟨wo.heap.size, q, none⟩ (.int .i64 ((gI D q + tA N d I J L) % p))) from (hbw.trans (hbW.mono (by omega))).setCell (Nat.le_refl _) _)
                  have hszN : (W.setCell ⟨wo.heap.size, q, none⟩ (.int .i64 ((gI D q + tA N d I J L) % p))).heap.size = W.heap.size := by simp
                  clear hoW ho hbw hbq HD HDR HS
                  go_wp2_with fail
                  generalize W.setCell ⟨wo.heap.size, q, none⟩ (.int .i64 ((gI D q + tA N d I J L) % p)) = Wn at *
                  clear hcq hfq hbW
                  have hlto : wo.heap.size < Wn.heap.size := by omega
                  have ho := HoN.out
                  have hbw := HbN.out
                  clear HoN HbN hqM
                  obtain ⟨wq0, rfl⟩ : ∃ wq0 : World, wq0 = Wn := ⟨_, rfl⟩
                  clear hszN hW1 hszq
                  obtain ⟨D, hD⟩ : ∃ D, D = dvR N p d I J K (L + 1) L L := ⟨_, rfl⟩
                  have HD := Lib.hid hD
                  have HDR := Lib.hid (show resB D p = true by rw [hD]; exact dvR_res (by omega) _ _ _)
                  rw [← hD] at ho
                  clear hD
                  have hbq : Below (w2.heap.size + 1) W0 wq0 := hbl0.trans (hbw.mono (by omega))
                  have hszq : wo.heap.size ≤ wq0.heap.size := hbw.size
                  obtain ⟨q, hq⟩ : ∃ q : Nat, q = I * N + L := ⟨_, rfl⟩
                  have hqM : q < M := by rw [hq, HM.out]; exact idx_lt (by omega) (by omega)
                  have hq1 : (I : Int) * (N : Int) + (L : Int) = (q : Int) := by rw [hq, Int.natCast_add, Int.natCast_mul]
                  have hq0 : 0 ≤ (I : Int) * (N : Int) := by rw [← Int.natCast_mul]; omega
                  have hwr1 : IntKind.i64.wrap ((I : Int) * (N : Int)) = (I : Int) * (N : Int) := IntWalk.i64_in _ (by omega)
                  have hwr2 : IntKind.i64.wrap ((I : Int) * (N : Int) + (L : Int)) = (q : Int) := by rw [hq1]; exact IntWalk.i64_in _ (by omega)
                  obtain ⟨hcq, hfq⟩ := ho.at_ hqM
                  rw [Nat.zero_add] at hcq hfq
                  have htb := tA_bd (n := N) (p := p) (by omega) HR.out L J K
                  have hdb := gI_res (p := p) (by omega) (HDR.out) q
                  have hwr3 : IntKind.i64.wrap (gI D q - tA N d L J K) = gI D q - tA N d L J K := IntWalk.i64_in _ (by omega)
                  have HS := Lib.hid (show D.set q ((gI D q - tA N d L J K) % p) = dvR N p d I J K (L + 1) (L + 1) L by rw [HD.out, hq]; exact dvR_2 (by omega) (by omega))
                  have hx := hX0.below hbq (by omega)
                  have hy := hY0.below hbq (by omega)
                  have ha := ha0.below hbq (by omega)
                  obtain ⟨x0, x1, x2⟩ := hx.three
                  obtain ⟨y0, y1, y2⟩ := hy.three
                  obtain ⟨Ap, kp, hdp, hpp, hrun⟩ := pair_any (p := p) (n := N) (i := L) (j := J) hd HL.out (by omega) (by omega) (by omega)
                  have hpr := hpp _ _ _ ha
                  obtain ⟨bp, op, rfl⟩ := hpr.addr (by omega)
                  have hcp := hpr.at_ (show K < N by omega)
                  rw [prV_get (by omega)] at hcp
                  have q4 := cell_regrown hcp
                  have cP : ∀ e os, Calls Try.prog 113 #[.agg #[.int .i64 p, .int .i64 N, .slice A n k], .int .i64 L, .int .i64 J] (grow (redrawn wq0 e) os) fun e w'' => e = .returned (.slice (some ⟨bp, op, none⟩) N kp) ∧ ∃ p : Regrown, w'' = grow (redrawn wq0 p.d) p.os :=
                    fun e os => Calls.regrown_of (hrun _)
                  clear hpr hpp hrun
                  have cM : ∀ y e os, Calls Try.prog 114 #[.int .i64 y, .int .i64 p] (grow (redrawn wq0 e) os) fun e w'' => e = .returned (.int .i64 (y % p)) ∧ ∃ p : Regrown, w'' = grow (redrawn wq0 p.d) p.os :=
                    fun y e os => Calls.regrown_of ((mod_any _ _ _ (by omega) (by omega)).mono fun e w' h => ⟨h.1, by rw [← h.2]; exact Below.refl _ _⟩)
                  have q0 := cell_regrown x0
                  have r0 := cell_regrown y0
                  have r1 := cell_regrown y1
                  have r2 := cell_regrown y2
                  have q3 := cell_regrown hcq
                  clear hx hy ha hq hq0 hcq hfq
                  clear hq1
                  go_wp2_with fail
                  clear x0 x1 x2 y0 y1 y2
                  (refine wp_region_quiet_last (C := fun w' => ∃ p : Regrown, w' = grow (redrawn wq0 p.d) p.os) 26 (by kernel_rfl) (by kernel_rfl) (by kernel_rfl) (by kernel_rfl) (by kernel_rfl) (by kernel_rfl) (by kernel_rfl) (by kernel_rfl) ⟨⟨wq0.drawn + 1, #[]⟩, by rw [grow_empty]; rfl⟩ ?_; simp only [List.take_succ_cons, List.take_zero, List.drop_succ_cons, List.drop_zero]; (repeat (go_big_quiet_step (first | exact cP _ _ | exact cM _ _ _))); refine wpQuiet_nil ?_; rintro W ⟨pp, hW⟩; have hbW : Below wq0.heap.size wq0 W := hW ▸ below_regrown _ _ _; clear hW)
                  clear q0 r0 r1 r2 q3 hwr1 hwr2 hwr3 htb hdb q4 cP cM
                  have hW1 := hbW.size
                  have hoW := ho.below hbW (by omega)
                  obtain ⟨hcq, hfq⟩ := hoW.at_ hqM
                  rw [Nat.zero_add] at hcq hfq
                  have HoN := Lib.hid (show OwI (W.setCell ⟨wo.heap.size, q, none⟩ (.int .i64 ((gI D q - tA N d L J K) % p))) wo.heap.size (wo.heap.size + 1) (some ⟨wo.heap.size, 0, none⟩) M (dvR N p d I J K (L + 1) (L + 1) L) by have := hoW.store (v := (gI D q - tA N d L J K) % p) hqM; rw [HS.out, Nat.zero_add] at this; exact this)
                  have HbN := Lib.hid (show Below wo.heap.size wo (W.setCell ⟨wo.heap.size, q, none⟩ (.int .i64 ((gI D q - tA N d L J K) % p))) from (hbw.trans (hbW.mono (by omega))).setCell (Nat.le_refl _) _)
                  have hszN : (W.setCell ⟨wo.heap.size, q, none⟩ (.int .i64 ((gI D q - tA N d L J K) % p))).heap.size = W.heap.size := by simp
                  clear hoW ho hbw hbq HD HDR HS
                  go_wp2_with fail
                  generalize W.setCell ⟨wo.heap.size, q, none⟩ (.int .i64 ((gI D q - tA N d L J K) % p)) = Wn at *
                  clear hcq hfq hbW
                  have hlto : wo.heap.size < Wn.heap.size := by omega
                  have ho := HoN.out
                  have hbw := HbN.out
                  clear HoN HbN hqM
                  obtain ⟨wq1, rfl⟩ : ∃ wq1 : World, wq1 = Wn := ⟨_, rfl⟩
                  clear hszN hW1 hszq
                  obtain ⟨D, hD⟩ : ∃ D, D = dvR N p d I J K (L + 1) (L + 1) L := ⟨_, rfl⟩
                  have HD := Lib.hid hD
                  have HDR := Lib.hid (show resB D p = true by rw [hD]; exact dvR_res (by omega) _ _ _)
                  rw [← hD] at ho
                  clear hD
                  have hbq : Below (w2.heap.size + 1) W0 wq1 := hbl0.trans (hbw.mono (by omega))
                  have hszq : wo.heap.size ≤ wq1.heap.size := hbw.size
                  obtain ⟨q, hq⟩ : ∃ q : Nat, q = J * N + L := ⟨_, rfl⟩
                  have hqM : q < M := by rw [hq, HM.out]; exact idx_lt (by omega) (by omega)
                  have hq1 : (J : Int) * (N : Int) + (L : Int) = (q : Int) := by rw [hq, Int.natCast_add, Int.natCast_mul]
                  have hq0 : 0 ≤ (J : Int) * (N : Int) := by rw [← Int.natCast_mul]; omega
                  have hwr1 : IntKind.i64.wrap ((J : Int) * (N : Int)) = (J : Int) * (N : Int) := IntWalk.i64_in _ (by omega)
                  have hwr2 : IntKind.i64.wrap ((J : Int) * (N : Int) + (L : Int)) = (q : Int) := by rw [hq1]; exact IntWalk.i64_in _ (by omega)
                  obtain ⟨hcq, hfq⟩ := ho.at_ hqM
                  rw [Nat.zero_add] at hcq hfq
                  have htb := tA_bd (n := N) (p := p) (by omega) HR.out I L K
                  have hdb := gI_res (p := p) (by omega) (HDR.out) q
                  have hwr3 : IntKind.i64.wrap (gI D q - tA N d I L K) = gI D q - tA N d I L K := IntWalk.i64_in _ (by omega)
                  have HS := Lib.hid (show D.set q ((gI D q - tA N d I L K) % p) = dvR N p d I J K (L + 1) (L + 1) (L + 1) by rw [HD.out, hq]; exact dvR_3 (by omega) (by omega))
                  have hx := hX0.below hbq (by omega)
                  have hy := hY0.below hbq (by omega)
                  have ha := ha0.below hbq (by omega)
                  obtain ⟨x0, x1, x2⟩ := hx.three
                  obtain ⟨y0, y1, y2⟩ := hy.three
                  obtain ⟨Ap, kp, hdp, hpp, hrun⟩ := pair_any (p := p) (n := N) (i := I) (j := L) hd HL.out (by omega) (by omega) (by omega)
                  have hpr := hpp _ _ _ ha
                  obtain ⟨bp, op, rfl⟩ := hpr.addr (by omega)
                  have hcp := hpr.at_ (show K < N by omega)
                  rw [prV_get (by omega)] at hcp
                  have q4 := cell_regrown hcp
                  have cP : ∀ e os, Calls Try.prog 113 #[.agg #[.int .i64 p, .int .i64 N, .slice A n k], .int .i64 I, .int .i64 L] (grow (redrawn wq1 e) os) fun e w'' => e = .returned (.slice (some ⟨bp, op, none⟩) N kp) ∧ ∃ p : Regrown, w'' = grow (redrawn wq1 p.d) p.os :=
                    fun e os => Calls.regrown_of (hrun _)
                  clear hpr hpp hrun
                  have cM : ∀ y e os, Calls Try.prog 114 #[.int .i64 y, .int .i64 p] (grow (redrawn wq1 e) os) fun e w'' => e = .returned (.int .i64 (y % p)) ∧ ∃ p : Regrown, w'' = grow (redrawn wq1 p.d) p.os :=
                    fun y e os => Calls.regrown_of ((mod_any _ _ _ (by omega) (by omega)).mono fun e w' h => ⟨h.1, by rw [← h.2]; exact Below.refl _ _⟩)
                  have q0 := cell_regrown x0
                  have r0 := cell_regrown y0
                  have r1 := cell_regrown y1
                  have r2 := cell_regrown y2
                  have q3 := cell_regrown hcq
                  clear hx hy ha hq hq0 hcq hfq
                  clear hq1
                  go_wp2_with fail
                  clear x0 x1 x2 y0 y1 y2
                  (refine wp_region_quiet_last (C := fun w' => ∃ p : Regrown, w' = grow (redrawn wq1 p.d) p.os) 26 (by kernel_rfl) (by kernel_rfl) (by kernel_rfl) (by kernel_rfl) (by kernel_rfl) (by kernel_rfl) (by kernel_rfl) (by kernel_rfl) ⟨⟨wq1.drawn + 1, #[]⟩, by rw [grow_empty]; rfl⟩ ?_; simp only [List.take_succ_cons, List.take_zero, List.drop_succ_cons, List.drop_zero]; (repeat (go_big_quiet_step (first | exact cP _ _ | exact cM _ _ _))); refine wpQuiet_nil ?_; rintro W ⟨pp, hW⟩; have hbW : Below wq1.heap.size wq1 W := hW ▸ below_regrown _ _ _; clear hW)
                  clear q0 r0 r1 r2 q3 hwr1 hwr2 hwr3 htb hdb q4 cP cM
                  have hW1 := hbW.size
                  have hoW := ho.below hbW (by omega)
                  obtain ⟨hcq, hfq⟩ := hoW.at_ hqM
                  rw [Nat.zero_add] at hcq hfq
                  have HoN := Lib.hid (show OwI (W.setCell ⟨wo.heap.size, q, none⟩ (.int .i64 ((gI D q - tA N d I L K) % p))) wo.heap.size (wo.heap.size + 1) (some ⟨wo.heap.size, 0, none⟩) M (dvR N p d I J K (L + 1) (L + 1) (L + 1)) by have := hoW.store (v := (gI D q - tA N d I L K) % p) hqM; rw [HS.out, Nat.zero_add] at this; exact this)
                  have HbN := Lib.hid (show Below wo.heap.size wo (W.setCell ⟨wo.heap.size, q, none⟩ (.int .i64 ((gI D q - tA N d I L K) % p))) from (hbw.trans (hbW.mono (by omega))).setCell (Nat.le_refl _) _)
                  have hszN : (W.setCell ⟨wo.heap.size, q, none⟩ (.int .i64 ((gI D q - tA N d I L K) % p))).heap.size = W.heap.size := by simp
                  clear hoW ho hbw hbq HD HDR HS
                  go_wp2_with fail
                  generalize W.setCell ⟨wo.heap.size, q, none⟩ (.int .i64 ((gI D q - tA N d I L K) % p)) = Wn at *
                  clear hcq hfq hbW
                  have hlto : wo.heap.size < Wn.heap.size := by omega
                  have ho := HoN.out
                  have hbw := HbN.out
                  clear HoN HbN hqM
                  go_roundw
                  case rel => exact ⟨L + 1, by omega, by go_num, hlto, hbw, ho⟩
                  case measure => simp [intOf]; omega
                · obtain rfl : L = N := by omega
                  have hcn : m ≤ 1073741824 := by omega
                  have hOT4 := hOT.below hbw hhi'
                  go_wp2_with (at_builtin; refine wpList_apT (v := u5) (w := wr.alloc (.cells #[.slice (some ⟨wo.heap.size, 0, none⟩) M M] 22)) (lo := w2.heap.size + 1) (b := wr.heap.size) (u := .slice (some ⟨wo.heap.size, 0, none⟩) M M) rfl (.tmp 123) (.tmp 125) rfl rfl (hOT4.alloc (by omega) _).tbl rfl (Box.new wr _ _).one rfl hcn (by rw [World.size_alloc]; omega) ?_; intro v5 w5 ho5 hg5 hv5)
                  have hG6 := hG.push hOT hhi' hbw (ho.up (by omega)) (Nat.le_refl _) (Hd.self (by unfold maxLen; omega)) ho5 hg5 hv5
                  go_roundw
                  case rel => exact ⟨K + 1, m + 1, _, HI2, by omega, by go_num, hG6⟩
                  case measure => simp [intOf]; omega
            · obtain rfl : K = N := by omega
              have HI2 := Lib.hid (HI.out.trans cn_j)
              go_wp2_with fail
              go_roundw
              case rel => exact ⟨J + 1, m, xss, HI2, by omega, by go_num, hG⟩
              case measure => simp [intOf]; omega
        · obtain rfl : J = I := by omega
          have HI2 := Lib.hid (HI.out.trans (cn_i rfl))
          go_wp2_with fail
          go_roundw
          case rel => exact ⟨J + 1, m, xss, HI2, by omega, by go_num, hG⟩
          case measure => simp [intOf]; omega
    · obtain rfl : I = N := by omega
      have hX := hX0.below hG.below (by omega)
      have hq := hq0.trans (hG.below.mono (by omega))
      obtain ⟨A7, c7, rfl, hd7, hst7, hT7⟩ := hG.ret
      have hlen7 := hT7.len
      have hm6 : m ≤ 600 := by have := HLEN.out I 0 0 (by omega) (by omega) (by omega); rw [← HI.out, hlen7] at this; exact this
      have hxs : xss = ci0 I p d := HI.out
      have HFF := Lib.hid (show FF (ci0 I p d) m M (rowF (ci0 I p d)) by have := rowF_FF (xss := ci0 I p d) (C := M) (fun r hr => (HALL.out r hr).1); rw [show (ci0 I p d).length = m by rw [← hxs]; exact hlen7] at this; exact this)
      have HRF := Lib.hid (show ResF (rowF (ci0 I p d)) p from rowF_res (by omega) fun r hr => (HALL.out r hr).2)
      have HSm := Lib.hid (show kerS m M p (rowF (ci0 I p d)) = s by rw [HS0.out, cS, ← HM.out, show (ci0 I p d).length = m by rw [← hxs]; exact hlen7])
      clear HI hlen7
      subst hxs
      obtain ⟨x0, x1, x2⟩ := hX.three
      go_wp2_with fail
      refine (kernel_any (B := wr.heap.size) A7 m c7 M p _ hst7 _ _ hT7.rd HFF.out (Nat.le_refl _) (by omega) (by omega) HP.out HRF.out).mono ?_
      rw [HSm.out]
      rintro e w6 ⟨A6, n6, k6, rfl, hd6, hb6, hst6, hT6⟩
      have hs6 := hb6.size
      clear x0 x1 x2
      go_wp2
      go_ret
      exact ⟨_, _, _, rfl, hd6, hq.trans (hb6.mono (by omega)), _, hT6.down (by omega)⟩
set_option maxRecDepth 100000 in
theorem iInvariantForms_ok {B : Nat} (p : Int) (N n k : Nat) (A : Option Addr) (d : List Int) (w : World) (h : RdI w B A n d) (hd : Hd A n k) (hB : B ≤ w.heap.size) (hok : okA p N d = true) (hN : N ≤ 8) :
    Calls Try.prog 57 #[.agg #[.int .i64 p, .int .i64 N, .slice A n k]] w (RetT (tabR (cS (ci1 N p d) p N).rk (N * N) (cS (ci1 N p d) p N).f) w) := by
  obtain ⟨k1, k2, k3, k4, k5, k6, k7⟩ := okA_bd hok
  obtain ⟨hp1, hp2⟩ := isP_bd k1
  rw [Int.toNat_natCast] at k4
  have HL := Lib.hid (show n = N * N * N by rw [← k4]; exact h.1.symm)
  have HR := Lib.hid k5
  have HP := Lib.hid k1
  obtain ⟨M, hM⟩ : ∃ M : Nat, M = N * N := ⟨_, rfl⟩
  have hM64 : M ≤ 64 := by rw [hM]; exact Nat.mul_le_mul hN hN
  have hMi : (N : Int) * (N : Int) = (M : Int) := by rw [hM, Int.natCast_mul]
  have hwM : IntKind.i64.wrap ((N : Int) * (N : Int)) = (M : Int) := by rw [hMi]; exact IntWalk.i64_in _ (by omega)
  have HLEN := Lib.hid (show ∀ I J K, I ≤ N → J ≤ N → K ≤ N → (cnR N (fun _ => N) (fun _ _ => true) (fun i j k => ifR N p d i j k N N) I J K).length ≤ 600 from fun I J K hI hJ hK => cn_len (fun i => by omega) hN hI hJ hK fun i => by omega)
  have HALL := Lib.hid (show ∀ r ∈ ci1 N p d, r.length = M ∧ resB r p = true from cn_all (P := fun r => r.length = M ∧ resB r p = true) fun i j k => by rw [hM]; exact ⟨ifR_len _ _, ifR_res (by omega) _ _⟩)
  have HZ := Lib.hid (show ∀ i j k, List.replicate M 0 = ifR N p d i j k 0 0 from fun i j k => by rw [hM]; exact ifR_zero.symm)
  obtain ⟨s, hs⟩ : ∃ s, s = cS (ci1 N p d) p N := ⟨_, rfl⟩
  rw [← hM, ← hs]
  have HS0 := Lib.hid hs
  have HM := Lib.hid hM
  have HK := Lib.hid hok
  clear hok k1 k2 k3 k4 k5 k6 k7 hM hMi hs
  go_enter Try.func57, Try.ntmps57
  go_wp2_with fail
  refine (iAlg_any p N n k A d _ (B := B) (by exact h.below ((by repeat' (first | (with_reducible exact Below.refl _ _) | (with_reducible refine Below.setCell ?_ (by first | exact Nat.le_refl _ | omega | (simp only [World.size_alloc, World.size_setCell, World.heap_drewN]; omega) | (simp; omega)) _) | (with_reducible refine Below.alloc ?_ (by first | exact Nat.le_refl _ | omega | (simp only [World.size_alloc, World.size_setCell, World.heap_drewN]; omega) | (simp; omega)) _) | (with_reducible refine below_drewN ?_ _) | (with_reducible refine Below.drew ?_))) : Below w.heap.size w _) hB) hd (by first | exact Nat.le_refl _ | omega | (simp only [World.size_alloc, World.size_setCell, World.heap_drewN]; omega) | (simp; omega))).mono ?_
  rintro e w1 ⟨rfl, hb1⟩
  have hx1 : Box w1 (w.heap.size) #[.int .i64 p, .int .i64 N, .slice A n k] := by
    have hq := (Box.new w #[.int .i64 p, .int .i64 N, .slice A n k] 63).below hb1 (by first | omega | (simp only [World.size_alloc]; omega) | (simp; omega))
    (try simp only [World.size_alloc] at hq)
    exact hq
  have hq1 : Below w.heap.size w w1 := (by repeat' (first | (with_reducible exact Below.refl _ _) | (with_reducible refine Below.setCell ?_ (by first | exact Nat.le_refl _ | omega | (simp only [World.size_alloc, World.size_setCell, World.heap_drewN]; omega) | (simp; omega)) _) | (with_reducible refine Below.alloc ?_ (by first | exact Nat.le_refl _ | omega | (simp only [World.size_alloc, World.size_setCell, World.heap_drewN]; omega) | (simp; omega)) _) | (with_reducible refine below_drewN ?_ _) | (with_reducible refine Below.drew ?_) | (with_reducible refine Below.trans ?_ (hb1.mono (by first | exact Nat.le_refl _ | omega | (simp only [World.size_alloc, World.size_setCell, World.heap_drewN]; omega) | (simp; omega))))))
  have hs1 := hb1.size
  simp only [World.size_alloc] at hs1
  have ha1 := h.below hq1 hB
  clear hb1
  rw [HK.out]
  obtain ⟨x0, x1, x2⟩ := hx1.three
  go_wp2_with (go_at_call 112; refine (newLie_any p N A n k _).mono ?_; rintro e w2 ⟨rfl, hb2⟩; clear x0 x1 x2; have hs2 := hb2.size; have hx := ((hx1.below hb2 (by omega)).alloc (.cells #[.int .i64 p, .int .i64 N, .slice A n k] 107)).alloc (.cells #[] 22); have hy := (Box.new w2 #[.int .i64 p, .int .i64 N, .slice A n k] 107).alloc (.cells #[] 22); have ha := ((ha1.below hb2 (by omega)).alloc (by omega) (.cells #[.int .i64 p, .int .i64 N, .slice A n k] 107)).alloc (by rw [World.size_alloc]; omega) (.cells #[] 22); have hq := hq1.trans (hb2.mono (by omega)); obtain ⟨x0, x1, x2⟩ := ((hx1.below hb2 (by omega)).alloc (.cells #[.int .i64 p, .int .i64 N, .slice A n k] 107)).three)
  clear x0 x1 x2 hx1 ha1 hb2
  obtain ⟨hX0, hY0, ha0⟩ : _ ∧ _ ∧ _ := ⟨hx, hy, ha⟩
  clear hx hy ha
  have hq0 : Below w.heap.size w ((w2.alloc (.cells #[.int .i64 p, .int .i64 N, .slice A n k] 107)).alloc (.cells #[] 22)) := (by repeat' (first | (with_reducible exact Below.refl _ _) | (with_reducible refine Below.setCell ?_ (by first | exact Nat.le_refl _ | omega | (simp only [World.size_alloc, World.size_setCell, World.heap_drewN]; omega) | (simp; omega)) _) | (with_reducible refine Below.alloc ?_ (by first | exact Nat.le_refl _ | omega | (simp only [World.size_alloc, World.size_setCell, World.heap_drewN]; omega) | (simp; omega)) _) | (with_reducible refine below_drewN ?_ _) | (with_reducible refine Below.drew ?_) | (with_reducible refine Below.trans ?_ (hq.mono (by first | exact Nat.le_refl _ | omega | (simp only [World.size_alloc, World.size_setCell, World.heap_drewN]; omega) | (simp; omega))))))
  have hG := GrwT.start (w2.alloc (.cells #[.int .i64 p, .int .i64 N, .slice A n k] 107)) 22 rfl
  simp only [World.size_alloc] at hG
  have hsW : ((w2.alloc (.cells #[.int .i64 p, .int .i64 N, .slice A n k] 107)).alloc (.cells #[] 22)).heap.size = w2.heap.size + 2 := by simp
  obtain ⟨W0, hW0⟩ : ∃ W0, W0 = ((w2.alloc (.cells #[.int .i64 p, .int .i64 N, .slice A n k] 107)).alloc (.cells #[] 22)) := ⟨_, rfl⟩
  rw [← hW0] at hX0 hY0 hq0 ha0 hG hsW ⊢
  clear hW0 hq
  go_loopw [5, 28] (fun v ii wr => ∃ (I m : Nat) (xss : List (List Int)), Hid (xss = cnR N (fun _ => N) (fun _ _ => true) (fun i j k => ifR N p d i j k N N) I 0 0) ∧ I ≤ N ∧ ii = .int .i64 (I : Int) ∧ GrwT (w2.heap.size + 1) W0 wr v m xss) (fun _ ii _ => N - (intOf ii).toNat)
  case atStart => exact ⟨0, 0, [], Lib.hid cn_zero.symm, by omega, rfl, hG⟩
  case round =>
    clear hG
    obtain ⟨I, m, xss, HI, hIN, rfl, hG⟩ := hrel
    have hszr := hG.size
    by_cases hI : I < N
    · go_wp2_with fail
      obtain ⟨wi, rfl⟩ : ∃ wi : World, wi = wr := ⟨_, rfl⟩
      go_loopw [5, 32] (fun v jj wr => ∃ (J m : Nat) (xss : List (List Int)), Hid (xss = cnR N (fun _ => N) (fun _ _ => true) (fun i j k => ifR N p d i j k N N) I J 0) ∧ J ≤ N ∧ jj = .int .i64 (J : Int) ∧ GrwT (w2.heap.size + 1) W0 wr v m xss) (fun _ jj _ => N - (intOf jj).toNat)
      case atStart => exact ⟨0, m, xss, HI, by omega, rfl, hG⟩
      case round =>
        clear hG HI hszr
        obtain ⟨J, m, xss, HI, hJN, rfl, hG⟩ := hrel
        have hszr := hG.size
        by_cases hJ : J < N
        · go_wp2_with fail
          obtain ⟨wj, rfl⟩ : ∃ wj : World, wj = wr := ⟨_, rfl⟩
          go_loopw [5, 36] (fun v kk wr => ∃ (K m : Nat) (xss : List (List Int)), Hid (xss = cnR N (fun _ => N) (fun _ _ => true) (fun i j k => ifR N p d i j k N N) I J K) ∧ K ≤ N ∧ kk = .int .i64 (K : Int) ∧ GrwT (w2.heap.size + 1) W0 wr v m xss) (fun _ kk _ => N - (intOf kk).toNat)
          case atStart => exact ⟨0, m, xss, HI, by omega, rfl, hG⟩
          case round =>
            clear hG HI hszr
            obtain ⟨K, m, xss, HI, hKN, rfl, hG⟩ := hrel
            have hszr := hG.size
            by_cases hK : K < N
            · obtain ⟨hst, hhl, how, hi', hOT, hhi'⟩ := hG.tbl
              have hm6 : m ≤ 600 := by have := HLEN.out I J K (by omega) (by omega) (by omega); rw [← HI.out, hOT.len] at this; exact this
              have hbl0 := hG.below
              have HI2 := Lib.hid (show xss ++ [ifR N p d I J K N N] = cnR N (fun _ => N) (fun _ _ => true) (fun i j k => ifR N p d i j k N N) I J (K + 1) by rw [HI.out]; exact (cn_k (by rfl)).symm)
              obtain ⟨Ap, kp, hdp, hpp, hrun⟩ := pair_any (p := p) (n := N) (i := I) (j := J) hd HL.out (by omega) (by omega) (by omega)
              have hq2 := hq0
              have hY := hY0.below hbl0 (by omega)
              go_wp2_with (first | (at_make; refine wpList_mkI _ rfl _ _ 22 rfl 3 Try.underlying22 Try.infoI .i64 .i64 _ _ M rfl rfl (by omega) (by omega) (by omega) ?_; intro w3 ho3 hb3 hs3; have hY3 := hY.below hb3 hY.lt; obtain ⟨y0, y1, y2⟩ := hY3.three) | (go_at_call 113; refine (hrun _).mono ?_; rintro e w4 ⟨rfl, hb4⟩))
              clear y0 y1 y2 hY hY3 hrun hq2
              rw [HZ.out I J K] at ho3
              obtain ⟨wo, rfl⟩ : ∃ wo : World, wo = wr := ⟨_, rfl⟩
              have hs4 := hb4.size
              have ho4 := ho3.tight.below hb4 (by omega)
              have hb34 := hb3.trans (hb4.mono (by omega))
              clear ho3 hb4 hb3
              go_loopw [48] (fun ll wr => ∃ L : Nat, L ≤ N ∧ ll = .int .i64 (L : Int) ∧ wo.heap.size < wr.heap.size ∧ Below wo.heap.size wo wr ∧ OwI wr wo.heap.size (wo.heap.size + 1) (some ⟨wo.heap.size, 0, none⟩) M (ifR N p d I J K L 0)) (fun ll _ => N - (intOf ll).toNat)
              case atStart => exact ⟨0, by omega, rfl, by omega, hb34, ho4⟩
              case round =>
                clear ho4 hb34 hs3 hs4
                obtain ⟨L, hLN, rfl, hlto, hbw, ho⟩ := hrel
                have hsw := hbw.size
                by_cases hL : L < N
                · have hpr := hpp _ _ _ (ha0.below (hbl0.trans (hbw.mono (by omega))) (by omega))
                  obtain ⟨bp, op, rfl⟩ := hpr.addr (by omega)
                  have hcp := hpr.at_ (show L < N by omega)
                  rw [prV_get (by omega)] at hcp
                  clear hpr hpp
                  obtain ⟨D, hD⟩ : ∃ D, D = ifR N p d I J K L 0 := ⟨_, rfl⟩
                  have HD := Lib.hid hD
                  have HDR := Lib.hid (show resB D p = true by rw [hD]; exact ifR_res (by omega) _ _)
                  rw [← hD] at ho
                  clear hD
                  have hbq : Below (w2.heap.size + 1) W0 wr := hbl0.trans (hbw.mono (by omega))
                  have hszq : wo.heap.size ≤ wr.heap.size := hbw.size
                  obtain ⟨q, hq⟩ : ∃ q : Nat, q = L * N + K := ⟨_, rfl⟩
                  have hqM : q < M := by rw [hq, HM.out]; exact idx_lt (by omega) (by omega)
                  have hq1 : (L : Int) * (N : Int) + (K : Int) = (q : Int) := by rw [hq, Int.natCast_add, Int.natCast_mul]
                  have hq0 : 0 ≤ (L : Int) * (N : Int) := by rw [← Int.natCast_mul]; omega
                  have hwr1 : IntKind.i64.wrap ((L : Int) * (N : Int)) = (L : Int) * (N : Int) := IntWalk.i64_in _ (by omega)
                  have hwr2 : IntKind.i64.wrap ((L : Int) * (N : Int) + (K : Int)) = (q : Int) := by rw [hq1]; exact IntWalk.i64_in _ (by omega)
                  obtain ⟨hcq, hfq⟩ := ho.at_ hqM
                  rw [Nat.zero_add] at hcq hfq
                  have htb := tA_bd (n := N) (p := p) (by omega) HR.out I J L
                  have hdb := gI_res (p := p) (by omega) (HDR.out) q
                  have hwr3 : IntKind.i64.wrap (gI D q + tA N d I J L) = gI D q + tA N d I J L := IntWalk.i64_in _ (by omega)
                  have HS := Lib.hid (show D.set q ((gI D q + tA N d I J L) % p) = ifR N p d I J K (L + 1) 0 by rw [HD.out, hq]; exact ifR_1 (by omega) (by omega))
                  have hx := hX0.below hbq (by omega)
                  have hy := hY0.below hbq (by omega)
                  have ha := ha0.below hbq (by omega)
                  obtain ⟨x0, x1, x2⟩ := hx.three
                  obtain ⟨y0, y1, y2⟩ := hy.three
                  have hpe : (p == 0) = false := by simp; omega
                  have hp0 : p ≠ 0 := by omega
                  have htm : (gI D q + tA N d I J L).tmod p = (gI D q + tA N d I J L) % p := Int.tmod_eq_emod_of_nonneg (by omega)
                  have hwr5 : IntKind.i64.wrap ((gI D q + tA N d I J L) % p) = (gI D q + tA N d I J L) % p := by
                    have e1 := Int.emod_nonneg (gI D q + tA N d I J L) (show p ≠ 0 by omega)
                    have e2 := Int.emod_lt_of_pos (gI D q + tA N d I J L) (show 0 < p by omega)
                    exact IntWalk.i64_in _ (by omega)
                  have q0 := cell_regrown x0
                  have r0 := cell_regrown y0
                  have r1 := cell_regrown y1
                  have r2 := cell_regrown y2
                  have q3 := cell_regrown hcq
                  clear hx hy ha hq hq0 hcq hfq
                  clear hq1
                  go_wp2_with fail
                  clear x0 x1 x2 y0 y1 y2
                  (refine wp_region_quiet_last (C := fun w' => ∃ p : Regrown, w' = grow (redrawn wr p.d) p.os) 20 (by kernel_rfl) (by kernel_rfl) (by kernel_rfl) (by kernel_rfl) (by kernel_rfl) (by kernel_rfl) (by kernel_rfl) (by kernel_rfl) ⟨⟨wr.drawn + 1, #[]⟩, by rw [grow_empty]; rfl⟩ ?_; simp only [List.take_succ_cons, List.take_zero, List.drop_succ_cons, List.drop_zero]; (repeat (go_big_quiet_step (fail))); refine wpQuiet_nil ?_; rintro W ⟨pp, hW⟩; have hbW : Below wr.heap.size wr W := hW ▸ below_regrown _ _ _; clear hW)
                  clear q0 r0 r1 r2 q3 hwr1 hwr2 hwr3 htb hdb hpe hp0 htm hwr5
                  have hW1 := hbW.size
                  have hoW := ho.below hbW (by omega)
                  obtain ⟨hcq, hfq⟩ := hoW.at_ hqM
                  rw [Nat.zero_add] at hcq hfq
                  have HoN := Lib.hid (show OwI (W.setCell ⟨wo.heap.size, q, none⟩ (.int .i64 ((gI D q + tA N d I J L) % p))) wo.heap.size (wo.heap.size + 1) (some ⟨wo.heap.size, 0, none⟩) M (ifR N p d I J K (L + 1) 0) by have := hoW.store (v := (gI D q + tA N d I J L) % p) hqM; rw [HS.out, Nat.zero_add] at this; exact this)
                  have HbN := Lib.hid (show Below wo.heap.size wo (W.setCell ⟨wo.heap.size, q, none⟩ (.int .i64 ((gI D q + tA N d I J L) % p))) from (hbw.trans (hbW.mono (by omega))).setCell (Nat.le_refl _) _)
                  have hszN : (W.setCell ⟨wo.heap.size, q, none⟩ (.int .i64 ((gI D q + tA N d I J L) % p))).heap.size = W.heap.size := by simp
                  clear hoW ho hbw hbq HD HDR HS
                  go_wp2_with fail
                  generalize W.setCell ⟨wo.heap.size, q, none⟩ (.int .i64 ((gI D q + tA N d I J L) % p)) = Wn at *
                  clear hcq hfq hbW
                  have hlto : wo.heap.size < Wn.heap.size := by omega
                  have ho := HoN.out
                  have hbw := HbN.out
                  clear HoN HbN hqM
                  clear hcp
                  go_roundw
                  case rel => exact ⟨L + 1, by omega, by go_num, hlto, hbw, ho⟩
                  case measure => simp [intOf]; omega
                · obtain rfl : L = N := by omega
                  clear hpp
                  obtain ⟨Ap2, kp2, hdp2, hpp, hrun⟩ := pair_any (p := p) (n := L) (i := J) (j := K) hd HL.out (by omega) (by omega) (by omega)
                  have hY := hY0.below (hbl0.trans (hbw.mono (by omega))) (by omega)
                  obtain ⟨y0, y1, y2⟩ := hY.three
                  obtain ⟨N, rfl⟩ : ∃ N, N = L := ⟨_, rfl⟩
                  go_wp2_with (go_at_call 113; refine (hrun _).mono ?_; rintro e w4 ⟨rfl, hb4⟩)
                  clear y0 y1 y2 hY hrun
                  obtain ⟨wp, rfl⟩ : ∃ wp : World, wp = wr := ⟨_, rfl⟩
                  have hs4 := hb4.size
                  have ho4 := ho.below hb4 (by omega)
                  have hb34 := hbw.trans (hb4.mono (by omega))
                  clear ho hb4 hbw
                  go_loopw [79] (fun ll wr => ∃ L : Nat, L ≤ N ∧ ll = .int .i64 (L : Int) ∧ wo.heap.size < wr.heap.size ∧ Below wo.heap.size wo wr ∧ OwI wr wo.heap.size (wo.heap.size + 1) (some ⟨wo.heap.size, 0, none⟩) M (ifR N p d I J K N L)) (fun ll _ => N - (intOf ll).toNat)
                  case atStart => exact ⟨0, by omega, rfl, by omega, hb34, ho4⟩
                  case round =>
                    clear ho4 hb34 hs4 hsw hlto
                    obtain ⟨L, hLN, rfl, hlto, hbw, ho⟩ := hrel
                    have hsw := hbw.size
                    by_cases hL : L < N
                    · have hpr := hpp _ _ _ (ha0.below (hbl0.trans (hbw.mono (by omega))) (by omega))
                      obtain ⟨bp, op, rfl⟩ := hpr.addr (by omega)
                      have hcp := hpr.at_ (show L < N by omega)
                      rw [prV_get (by omega)] at hcp
                      clear hpr hpp
                      obtain ⟨D, hD⟩ : ∃ D, D = ifR N p d I J K N L := ⟨_, rfl⟩
                      have HD := Lib.hid hD
                      have HDR := Lib.hid (show resB D p = true by rw [hD]; exact ifR_res (by omega) _ _)
                      rw [← hD] at ho
                      clear hD
                      have hbq : Below (w2.heap.size + 1) W0 wr := hbl0.trans (hbw.mono (by omega))
                      have hszq : wo.heap.size ≤ wr.heap.size := hbw.size
                      obtain ⟨q, hq⟩ : ∃ q : Nat, q = I * N + L := ⟨_, rfl⟩
                      have hqM : q < M := by rw [hq, HM.out]; exact idx_lt (by omega) (by omega)
                      have hq1 : (I : Int) * (N : Int) + (L : Int) = (q : Int) := by rw [hq, Int.natCast_add, Int.natCast_mul]
                      have hq0 : 0 ≤ (I : Int) * (N : Int) := by rw [← Int.natCast_mul]; omega
                      have hwr1 : IntKind.i64.wrap ((I : Int) * (N : Int)) = (I : Int) * (N : Int) := IntWalk.i64_in _ (by omega)
                      have hwr2 : IntKind.i64.wrap ((I : Int) * (N : Int) + (L : Int)) = (q : Int) := by rw [hq1]; exact IntWalk.i64_in _ (by omega)
                      obtain ⟨hcq, hfq⟩ := ho.at_ hqM
                      rw [Nat.zero_add] at hcq hfq
                      have htb := tA_bd (n := N) (p := p) (by omega) HR.out J K L
                      have hdb := gI_res (p := p) (by omega) (HDR.out) q
                      have hwr3 : IntKind.i64.wrap (gI D q - tA N d J K L) = gI D q - tA N d J K L := IntWalk.i64_in _ (by omega)
                      have HS := Lib.hid (show D.set q ((gI D q - tA N d J K L) % p) = ifR N p d I J K N (L + 1) by rw [HD.out, hq]; exact ifR_2 (by omega) (by omega))
                      have hx := hX0.below hbq (by omega)
                      have hy := hY0.below hbq (by omega)
                      have ha := ha0.below hbq (by omega)
                      obtain ⟨x0, x1, x2⟩ := hx.three
                      obtain ⟨y0, y1, y2⟩ := hy.three
                      have cM : ∀ y e os, Calls Try.prog 114 #[.int .i64 y, .int .i64 p] (grow (redrawn wr e) os) fun e w'' => e = .returned (.int .i64 (y % p)) ∧ ∃ p : Regrown, w'' = grow (redrawn wr p.d) p.os :=
                        fun y e os => Calls.regrown_of ((mod_any _ _ _ (by omega) (by omega)).mono fun e w' h => ⟨h.1, by rw [← h.2]; exact Below.refl _ _⟩)
                      have q0 := cell_regrown x0
                      have r0 := cell_regrown y0
                      have r1 := cell_regrown y1
                      have r2 := cell_regrown y2
                      have q3 := cell_regrown hcq
                      clear hx hy ha hq hq0 hcq hfq
                      clear hq1
                      go_wp2_with fail
                      clear x0 x1 x2 y0 y1 y2
                      (refine wp_region_quiet_last (C := fun w' => ∃ p : Regrown, w' = grow (redrawn wr p.d) p.os) 20 (by kernel_rfl) (by kernel_rfl) (by kernel_rfl) (by kernel_rfl) (by kernel_rfl) (by kernel_rfl) (by kernel_rfl) (by kernel_rfl) ⟨⟨wr.drawn + 1, #[]⟩, by rw [grow_empty]; rfl⟩ ?_; simp only [List.take_succ_cons, List.take_zero, List.drop_succ_cons, List.drop_zero]; (repeat (go_big_quiet_step (exact cM _ _ _))); refine wpQuiet_nil ?_; rintro W ⟨pp, hW⟩; have hbW : Below wr.heap.size wr W := hW ▸ below_regrown _ _ _; clear hW)
                      clear q0 r0 r1 r2 q3 hwr1 hwr2 hwr3 htb hdb cM
                      have hW1 := hbW.size
                      have hoW := ho.below hbW (by omega)
                      obtain ⟨hcq, hfq⟩ := hoW.at_ hqM
                      rw [Nat.zero_add] at hcq hfq
                      have HoN := Lib.hid (show OwI (W.setCell ⟨wo.heap.size, q, none⟩ (.int .i64 ((gI D q - tA N d J K L) % p))) wo.heap.size (wo.heap.size + 1) (some ⟨wo.heap.size, 0, none⟩) M (ifR N p d I J K N (L + 1)) by have := hoW.store (v := (gI D q - tA N d J K L) % p) hqM; rw [HS.out, Nat.zero_add] at this; exact this)
                      have HbN := Lib.hid (show Below wo.heap.size wo (W.setCell ⟨wo.heap.size, q, none⟩ (.int .i64 ((gI D q - tA N d J K L) % p))) from (hbw.trans (hbW.mono (by omega))).setCell (Nat.le_refl _) _)
                      have hszN : (W.setCell ⟨wo.heap.size, q, none⟩ (.int .i64 ((gI D q - tA N d J K L) % p))).heap.size = W.heap.size := by simp
                      clear hoW ho hbw hbq HD HDR HS
                      go_wp2_with fail
                      generalize W.setCell ⟨wo.heap.size, q, none⟩ (.int .i64 ((gI D q - tA N d J K L) % p)) = Wn at *
                      clear hcq hfq hbW
                      have hlto : wo.heap.size < Wn.heap.size := by omega
                      have ho := HoN.out
                      have hbw := HbN.out
                      clear HoN HbN hqM
                      clear hcp
                      go_roundw
                      case rel => exact ⟨L + 1, by omega, by go_num, hlto, hbw, ho⟩
                      case measure => simp [intOf]; omega
                    · obtain rfl : L = N := by omega
                      have hcn : m ≤ 1073741824 := by omega
                      have hOT4 := hOT.below hbw hhi'
                      go_wp2_with (at_builtin; refine wpList_apT (v := u5) (w := wr.alloc (.cells #[.slice (some ⟨wo.heap.size, 0, none⟩) M M] 22)) (lo := w2.heap.size + 1) (b := wr.heap.size) (u := .slice (some ⟨wo.heap.size, 0, none⟩) M M) rfl (.tmp 105) (.tmp 107) rfl rfl (hOT4.alloc (by omega) _).tbl rfl (Box.new wr _ _).one rfl hcn (by rw [World.size_alloc]; omega) ?_; intro v5 w5 ho5 hg5 hv5)
                      have hG6 := hG.push hOT hhi' hbw (ho.up (by omega)) (Nat.le_refl _) (Hd.self (by unfold maxLen; omega)) ho5 hg5 hv5
                      go_roundw
                      case rel => exact ⟨K + 1, m + 1, _, HI2, by omega, by go_num, hG6⟩
                      case measure => simp [intOf]; omega
            · obtain rfl : K = N := by omega
              have HI2 := Lib.hid (HI.out.trans cn_j)
              go_wp2_with fail
              go_roundw
              case rel => exact ⟨J + 1, m, xss, HI2, by omega, by go_num, hG⟩
              case measure => simp [intOf]; omega
        · obtain rfl : J = N := by omega
          have HI2 := Lib.hid (HI.out.trans (cn_i rfl))
          go_wp2_with fail
          go_roundw
          case rel => exact ⟨I + 1, m, xss, HI2, by omega, by go_num, hG⟩
          case measure => simp [intOf]; omega
    · obtain rfl : I = N := by omega
      have hX := hX0.below hG.below (by omega)
      have hq := hq0.trans (hG.below.mono (by omega))
      obtain ⟨A7, c7, rfl, hd7, hst7, hT7⟩ := hG.ret
      have hlen7 := hT7.len
      have hm6 : m ≤ 600 := by have := HLEN.out I 0 0 (by omega) (by omega) (by omega); rw [← HI.out, hlen7] at this; exact this
      have hxs : xss = ci1 I p d := HI.out
      have HFF := Lib.hid (show FF (ci1 I p d) m M (rowF (ci1 I p d)) by have := rowF_FF (xss := ci1 I p d) (C := M) (fun r hr => (HALL.out r hr).1); rw [show (ci1 I p d).length = m by rw [← hxs]; exact hlen7] at this; exact this)
      have HRF := Lib.hid (show ResF (rowF (ci1 I p d)) p from rowF_res (by omega) fun r hr => (HALL.out r hr).2)
      have HSm := Lib.hid (show kerS m M p (rowF (ci1 I p d)) = s by rw [HS0.out, cS, ← HM.out, show (ci1 I p d).length = m by rw [← hxs]; exact hlen7])
      clear HI hlen7
      subst hxs
      obtain ⟨x0, x1, x2⟩ := hX.three
      go_wp2_with fail
      refine (kernel_any (B := wr.heap.size) A7 m c7 M p _ hst7 _ _ hT7.rd HFF.out (Nat.le_refl _) (by omega) (by omega) HP.out HRF.out).mono ?_
      rw [HSm.out]
      rintro e w6 ⟨A6, n6, k6, rfl, hd6, hb6, hst6, hT6⟩
      have hs6 := hb6.size
      clear x0 x1 x2
      go_wp2
      go_ret
      exact ⟨_, _, _, rfl, hd6, hq.trans (hb6.mono (by omega)), _, hT6.down (by omega)⟩
end Go.Proofs.Ytfiganobjjjloaa
