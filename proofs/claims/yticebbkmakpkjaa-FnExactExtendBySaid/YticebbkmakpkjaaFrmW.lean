/- isForm, l3Form; formAt, l3Pair. No condition but what each theorem names. -/
import Derived.Test.YticebbkmakpkjaaFrm
import Derived.Test.YticebbkmakpkjaaAIkW
import Derived.Test.YticebbkmakpkjaaUnitW
namespace Go.Proofs.Yticebbkmakpkjaa
set_option linter.unusedVariables false
set_option linter.unusedSimpArgs false
set_option maxRecDepth 20000
open Go.RowKit Go.Sort
set_option maxHeartbeats 4000000
theorem isForm_any {B : Nat} (p q : Int) (n1 k1 : Nat) (A1 : Option Addr) (mp mr mc : Int) (n2 k2 : Nat) (A2 : Option Addr) (d2 : List Int) (w : World) (h2 : RdI w B A2 n2 d2) (hB : B ≤ w.heap.size) :
    Calls Try.prog 150 #[.agg #[.int .i64 p, .int .i64 q, .slice A1 n1 k1], .agg #[.int .i64 mp, .int .i64 mr, .int .i64 mc, .slice A2 n2 k2]] w (Rv (.bool (frB p q mp mr mc d2)) w) := by
  rcases frB_cases p q mp mr mc d2 with ⟨e1, eq⟩ | ⟨e1, f1, eq⟩ | ⟨e1, f1, f2, eq⟩ | ⟨e1, f1, f2, f3, eq⟩ | ⟨e1, f1, f2, f3, eq⟩
  all_goals
    have E1 := Lib.hid e1
    rw [eq]
    clear e1 eq
    go_enter Try.func150, Try.ntmps150
    go_wp2_with fail
    refine (iOkM_any mp mr mc A2 n2 k2 d2 _ (B := B) (by exact h2.below ((by repeat' (first | (with_reducible exact Below.refl _ _) | (with_reducible refine Below.setCell ?_ (by first | exact Nat.le_refl _ | omega | (simp only [World.size_alloc, World.size_setCell, World.heap_drewN]; omega) | (simp; omega)) _) | (with_reducible refine Below.alloc ?_ (by first | exact Nat.le_refl _ | omega | (simp only [World.size_alloc, World.size_setCell, World.heap_drewN]; omega) | (simp; omega)) _) | (with_reducible refine below_drewN ?_ _) | (with_reducible refine Below.drew ?_))) : Below w.heap.size w _) hB) (by first | exact Nat.le_refl _ | omega | (simp only [World.size_alloc, World.size_setCell, World.heap_drewN]; omega) | (simp; omega))).mono ?_
    rintro e w1 ⟨rfl, hb1⟩
    have b1 : Box w1 (w.heap.size) #[.int .i64 p, .int .i64 q, .slice A1 n1 k1] := by
      have hq := ((Box.new w #[.int .i64 p, .int .i64 q, .slice A1 n1 k1] 27).alloc _).below hb1 (by first | omega | (simp only [World.size_alloc]; omega) | (simp; omega))
      (try simp only [World.size_alloc] at hq)
      exact hq
    have b2 : Box w1 (w.heap.size + 1) #[.int .i64 mp, .int .i64 mr, .int .i64 mc, .slice A2 n2 k2] := by
      have hq := (Box.new (w.alloc (.cells #[.int .i64 p, .int .i64 q, .slice A1 n1 k1] 27)) #[.int .i64 mp, .int .i64 mr, .int .i64 mc, .slice A2 n2 k2] 53).below hb1 (by first | omega | (simp only [World.size_alloc]; omega) | (simp; omega))
      (try simp only [World.size_alloc] at hq)
      exact hq
    have hq1 : Below w.heap.size w w1 := (by repeat' (first | (with_reducible exact Below.refl _ _) | (with_reducible refine Below.setCell ?_ (by first | exact Nat.le_refl _ | omega | (simp only [World.size_alloc, World.size_setCell, World.heap_drewN]; omega) | (simp; omega)) _) | (with_reducible refine Below.alloc ?_ (by first | exact Nat.le_refl _ | omega | (simp only [World.size_alloc, World.size_setCell, World.heap_drewN]; omega) | (simp; omega)) _) | (with_reducible refine below_drewN ?_ _) | (with_reducible refine Below.drew ?_) | (with_reducible refine Below.trans ?_ (hb1.mono (by first | exact Nat.le_refl _ | omega | (simp only [World.size_alloc, World.size_setCell, World.heap_drewN]; omega) | (simp; omega))))))
    have hs1 := hb1.size
    simp only [World.size_alloc] at hs1
    clear hb1
    rw [E1.out]
    obtain ⟨x0, x1, x2⟩ := b1.three
    obtain ⟨y0, y1, y2, y3⟩ := b2.four
    go_wp2
    go_ret
    exact ⟨rfl, hq1⟩
theorem l3Form_any {B : Nat} (p q : Int) (n1 k1 : Nat) (A1 : Option Addr) (d1 : List Int) (mp mr mc : Int) (n2 k2 : Nat) (A2 : Option Addr) (d2 : List Int) (w : World) (h1 : RdI w B A1 n1 d1) (hd1 : Hd A1 n1 k1) (h2 : RdI w B A2 n2 d2) (hB : B ≤ w.heap.size) :
    Calls Try.prog 147 #[.agg #[.int .i64 p, .int .i64 q, .slice A1 n1 k1], .agg #[.int .i64 mp, .int .i64 mr, .int .i64 mc, .slice A2 n2 k2]] w (Rv (.bool (foB p q d1 mp mr mc d2)) w) := by
  rcases hok : okA p q d1 with _ | _
  · have E := Lib.hid hok
    rw [show foB p q d1 mp mr mc d2 = false by unfold foB; rw [hok]; rfl]
    clear hok
    go_enter Try.func147, Try.ntmps147
    go_wp2_with fail
    refine (sAlg_any p q n1 k1 A1 d1 _ (B := B) (by exact h1.below ((by repeat' (first | (with_reducible exact Below.refl _ _) | (with_reducible refine Below.setCell ?_ (by first | exact Nat.le_refl _ | omega | (simp only [World.size_alloc, World.size_setCell, World.heap_drewN]; omega) | (simp; omega)) _) | (with_reducible refine Below.alloc ?_ (by first | exact Nat.le_refl _ | omega | (simp only [World.size_alloc, World.size_setCell, World.heap_drewN]; omega) | (simp; omega)) _) | (with_reducible refine below_drewN ?_ _) | (with_reducible refine Below.drew ?_))) : Below w.heap.size w _) hB) hd1 (by first | exact Nat.le_refl _ | omega | (simp only [World.size_alloc, World.size_setCell, World.heap_drewN]; omega) | (simp; omega))).mono ?_
    rintro e w1 ⟨rfl, hb1⟩
    have b1 : Box w1 (w.heap.size) #[.int .i64 p, .int .i64 q, .slice A1 n1 k1] := by
      have hq := ((Box.new w #[.int .i64 p, .int .i64 q, .slice A1 n1 k1] 27).alloc _).below hb1 (by first | omega | (simp only [World.size_alloc]; omega) | (simp; omega))
      (try simp only [World.size_alloc] at hq)
      exact hq
    have b2 : Box w1 (w.heap.size + 1) #[.int .i64 mp, .int .i64 mr, .int .i64 mc, .slice A2 n2 k2] := by
      have hq := (Box.new (w.alloc (.cells #[.int .i64 p, .int .i64 q, .slice A1 n1 k1] 27)) #[.int .i64 mp, .int .i64 mr, .int .i64 mc, .slice A2 n2 k2] 53).below hb1 (by first | omega | (simp only [World.size_alloc]; omega) | (simp; omega))
      (try simp only [World.size_alloc] at hq)
      exact hq
    have hq1 : Below w.heap.size w w1 := (by repeat' (first | (with_reducible exact Below.refl _ _) | (with_reducible refine Below.setCell ?_ (by first | exact Nat.le_refl _ | omega | (simp only [World.size_alloc, World.size_setCell, World.heap_drewN]; omega) | (simp; omega)) _) | (with_reducible refine Below.alloc ?_ (by first | exact Nat.le_refl _ | omega | (simp only [World.size_alloc, World.size_setCell, World.heap_drewN]; omega) | (simp; omega)) _) | (with_reducible refine below_drewN ?_ _) | (with_reducible refine Below.drew ?_) | (with_reducible refine Below.trans ?_ (hb1.mono (by first | exact Nat.le_refl _ | omega | (simp only [World.size_alloc, World.size_setCell, World.heap_drewN]; omega) | (simp; omega))))))
    have hs1 := hb1.size
    simp only [World.size_alloc] at hs1
    clear hb1
    rw [E.out]
    go_wp2
    go_ret
    exact ⟨rfl, hq1⟩
  · have E := Lib.hid hok
    rw [show foB p q d1 mp mr mc d2 = frB p q mp mr mc d2 by unfold foB; rw [hok]; rfl]
    clear hok
    rcases frB_cases p q mp mr mc d2 with ⟨e1, eq⟩ | ⟨e1, f1, eq⟩ | ⟨e1, f1, f2, eq⟩ | ⟨e1, f1, f2, f3, eq⟩ | ⟨e1, f1, f2, f3, eq⟩
    all_goals
      have E1 := Lib.hid e1
      rw [eq]
      clear e1 eq
      go_enter Try.func147, Try.ntmps147
      go_wp2_with fail
      refine (sAlg_any p q n1 k1 A1 d1 _ (B := B) (by exact h1.below ((by repeat' (first | (with_reducible exact Below.refl _ _) | (with_reducible refine Below.setCell ?_ (by first | exact Nat.le_refl _ | omega | (simp only [World.size_alloc, World.size_setCell, World.heap_drewN]; omega) | (simp; omega)) _) | (with_reducible refine Below.alloc ?_ (by first | exact Nat.le_refl _ | omega | (simp only [World.size_alloc, World.size_setCell, World.heap_drewN]; omega) | (simp; omega)) _) | (with_reducible refine below_drewN ?_ _) | (with_reducible refine Below.drew ?_))) : Below w.heap.size w _) hB) hd1 (by first | exact Nat.le_refl _ | omega | (simp only [World.size_alloc, World.size_setCell, World.heap_drewN]; omega) | (simp; omega))).mono ?_
      rintro e w1 ⟨rfl, hb1⟩
      have b1 : Box w1 (w.heap.size) #[.int .i64 p, .int .i64 q, .slice A1 n1 k1] := by
        have hq := ((Box.new w #[.int .i64 p, .int .i64 q, .slice A1 n1 k1] 27).alloc _).below hb1 (by first | omega | (simp only [World.size_alloc]; omega) | (simp; omega))
        (try simp only [World.size_alloc] at hq)
        exact hq
      have b2 : Box w1 (w.heap.size + 1) #[.int .i64 mp, .int .i64 mr, .int .i64 mc, .slice A2 n2 k2] := by
        have hq := (Box.new (w.alloc (.cells #[.int .i64 p, .int .i64 q, .slice A1 n1 k1] 27)) #[.int .i64 mp, .int .i64 mr, .int .i64 mc, .slice A2 n2 k2] 53).below hb1 (by first | omega | (simp only [World.size_alloc]; omega) | (simp; omega))
        (try simp only [World.size_alloc] at hq)
        exact hq
      have hq1 : Below w.heap.size w w1 := (by repeat' (first | (with_reducible exact Below.refl _ _) | (with_reducible refine Below.setCell ?_ (by first | exact Nat.le_refl _ | omega | (simp only [World.size_alloc, World.size_setCell, World.heap_drewN]; omega) | (simp; omega)) _) | (with_reducible refine Below.alloc ?_ (by first | exact Nat.le_refl _ | omega | (simp only [World.size_alloc, World.size_setCell, World.heap_drewN]; omega) | (simp; omega)) _) | (with_reducible refine below_drewN ?_ _) | (with_reducible refine Below.drew ?_) | (with_reducible refine Below.trans ?_ (hb1.mono (by first | exact Nat.le_refl _ | omega | (simp only [World.size_alloc, World.size_setCell, World.heap_drewN]; omega) | (simp; omega))))))
      have hs1 := hb1.size
      simp only [World.size_alloc] at hs1
      have g2 := h2.below hq1 hB
      clear hb1
      rw [E.out]
      obtain ⟨y0, y1, y2, y3⟩ := b2.four
      go_wp2_with fail
      refine (sOkM_any mp mr mc A2 n2 k2 d2 _ (B := B) g2 (by omega)).mono ?_
      rintro e w2 ⟨rfl, hb2⟩
      rw [E1.out]
      have c1 := b1.below hb2 (by omega)
      have c2 := b2.below hb2 (by omega)
      have hq2 := hq1.trans (hb2.mono (by omega))
      clear y0 y1 y2 y3
      obtain ⟨x0, x1, x2⟩ := c1.three
      obtain ⟨y0, y1, y2, y3⟩ := c2.four
      go_wp2
      go_ret
      exact ⟨rfl, hq2⟩
/-- what the indices of a square matrix come to -/
theorem sq_bd {N i j : Nat} (hi : i < N) (hj : j < N) (hN : N ≤ 100) : 0 ≤ (i : Int) * N ∧ 0 ≤ (i : Int) * N + j ∧ (i : Int) * N + j < ((N * N : Nat) : Int) ∧ ((N * N : Nat) : Int) ≤ 10000 ∧ ((i : Int) * N + j).toNat = i * N + j := by
  have h1 : i * N + j < N * N := idx_lt hi hj
  have h2 : N * N ≤ 100 * 100 := Nat.mul_le_mul hN hN
  have e1 : (i : Int) * N = ((i * N : Nat) : Int) := by rw [Int.natCast_mul]
  refine ⟨by omega, by omega, by omega, by omega, by omega⟩
set_option maxRecDepth 100000 in
theorem formAt_any {B : Nat} (p : Int) (N n k ku kv : Nat) (A Au Av : Option Addr) (df u v : List Int) (w : World) (h : RdI w B A n df) (hu : RdI w B Au N u) (hv : RdI w B Av N v) (hB : B ≤ w.heap.size) (hl : n = N * N) (hN : N ≤ 100) (hp1 : 2 ≤ p) (hp2 : p ≤ 10007) (hr : resB df p = true) (hru : ∀ j, 0 ≤ gI u j ∧ gI u j < p) (hrv : ∀ j, 0 ≤ gI v j ∧ gI v j < p) :
    Calls Try.prog 152 #[.agg #[.int .i64 p, .int .i64 N, .int .i64 N, .slice A n k], .slice Au N ku, .slice Av N kv] w (Rv (.int .i64 (fmV N p (matF df N) u v)) w) := by
  have HL := Lib.hid hl
  have HR := Lib.hid (show ∀ i, 0 ≤ gI df i ∧ gI df i < p from fun i => gI_res (by omega) hr i)
  have HU := Lib.hid hru
  have HV := Lib.hid hrv
  have hpe : (p == 0) = false := by simp; omega
  have hx0 := Box.new w #[.int .i64 p, .int .i64 N, .int .i64 N, .slice A n k] 53
  have ha0 := h.alloc hB (.cells #[.int .i64 p, .int .i64 N, .int .i64 N, .slice A n k] 53)
  have hu0 := hu.alloc hB (.cells #[.int .i64 p, .int .i64 N, .int .i64 N, .slice A n k] 53)
  have hv0 := hv.alloc hB (.cells #[.int .i64 p, .int .i64 N, .int .i64 N, .slice A n k] 53)
  clear hl hr hru hrv h hu hv
  go_enter Try.func152, Try.ntmps152
  go_wp2_with fail
  go_loopw [7, 14] (fun s i wr => ∃ m : Nat, m ≤ N ∧ i = .int .i64 m ∧ s = .int .i64 (fmS N (matF df N) u v m % p) ∧ Below (w.heap.size + 1) (w.alloc (.cells #[.int .i64 p, .int .i64 N, .int .i64 N, .slice A n k] 53)) wr) (fun _ i _ => N - (intOf i).toNat)
  case atStart => exact ⟨0, by omega, rfl, by simp [fmS, sI], Below.refl _ _⟩
  case round =>
    obtain ⟨m, hm, rfl, rfl, hb⟩ := hrel
    have hsz := hb.size
    rw [World.size_alloc] at hsz
    by_cases hlt : m < N
    · obtain ⟨bU, oU, rfl⟩ := hu0.addr (by omega)
      have hue := (hu0.below hb (by omega)).at_ hlt
      have huv := HU.out m
      by_cases hz : gI u m = 0
      · have hz' : (gI u m == 0) = true := by simpa using hz
        have HS := Lib.hid (fm_skip (N := N) (F := matF df N) (v := v) hz)
        clear hz
        go_wp2
        go_roundw
        case rel => exact ⟨m + 1, by omega, by go_num, by rw [HS.out], hb⟩
        case measure => simp [intOf]; omega
      · have hz' : (gI u m == 0) = false := by simpa using hz
        clear hz
        go_wp2_with fail
        clear hue hz' hsz
        obtain ⟨wo, rfl⟩ : ∃ wo : World, wo = wr := ⟨_, rfl⟩
        go_loopw [7, 23] (fun s i wr => ∃ j : Nat, j ≤ N ∧ i = .int .i64 j ∧ s = .int .i64 ((fmS N (matF df N) u v m + fmR (matF df N) u v m j) % p) ∧ Below (w.heap.size + 1) (w.alloc (.cells #[.int .i64 p, .int .i64 N, .int .i64 N, .slice A n k] 53)) wr) (fun _ i _ => N - (intOf i).toNat)
        case atStart => exact ⟨0, by omega, rfl, by rw [fm_zero], hb⟩
        case round =>
          clear hb
          obtain ⟨j, hj, rfl, rfl, hb⟩ := hrel
          have hsz := hb.size
          rw [World.size_alloc] at hsz
          by_cases hlj : j < N
          · obtain ⟨bV, oV, rfl⟩ := hv0.addr (by omega)
            obtain ⟨i1, i2, i3, i4, i5⟩ := sq_bd hlt hlj hN
            have hin : m * N + j < n := by rw [HL.out]; exact idx_lt hlt hlj
            rw [← HL.out] at i3 i4
            obtain ⟨bA, oA, rfl⟩ := ha0.addr (by omega)
            have hve := (hv0.below hb (by omega)).at_ hlj
            have hae := (ha0.below hb (by omega)).at_ hin
            obtain ⟨x0, x1, x2, x3⟩ := (hx0.below hb (by omega)).four
            have hvv := HV.out j
            have hfv := HR.out (m * N + j)
            have HST := Lib.hid (fm_step N p (matF df N) u v m j)
            have hsb := mod_bd (x := fmS N (matF df N) u v m + fmR (matF df N) u v m j) (p := p) (by omega)
            have HFE := Lib.hid (show gI df (m * N + j) = matF df N m j from rfl)
            rw [HFE.out] at hae hfv
            generalize hS : (fmS N (matF df N) u v m + fmR (matF df N) u v m j) % p = S at *
            generalize hS2 : (fmS N (matF df N) u v m + fmR (matF df N) u v m (j + 1)) % p = S2 at *
            generalize matF df N m j = f at *
            have m1 : 0 ≤ gI u m * gI v j := Int.mul_nonneg huv.1 hvv.1
            have m2 : gI u m * gI v j ≤ 10007 * 10007 := Int.mul_le_mul (by omega) (by omega) hvv.1 (by omega)
            have mb := mod_bd (x := gI u m * gI v j) (p := p) (by omega)
            have m3 : 0 ≤ gI u m * gI v j % p * f := Int.mul_nonneg mb.1 hfv.1
            have m4 : gI u m * gI v j % p * f ≤ 10007 * 10007 := Int.mul_le_mul (by omega) (by omega) hfv.1 (by omega)
            have w1 : IntKind.i64.wrap (gI u m * gI v j) = gI u m * gI v j := IntWalk.i64_in _ (by omega)
            have w2 : IntKind.i64.wrap (gI u m * gI v j % p) = gI u m * gI v j % p := IntWalk.i64_in _ (by omega)
            have w3 : IntKind.i64.wrap (gI u m * gI v j % p * f) = gI u m * gI v j % p * f := IntWalk.i64_in _ (by omega)
            have w4 : IntKind.i64.wrap (S + gI u m * gI v j % p * f) = S + gI u m * gI v j % p * f := IntWalk.i64_in _ (by omega)
            have w5 : IntKind.i64.wrap ((m : Int) * N) = (m : Int) * N := IntWalk.i64_in _ (by omega)
            have w6 : IntKind.i64.wrap ((m : Int) * N + j) = (m : Int) * N + j := IntWalk.i64_in _ (by omega)
            have mb2 := mod_bd (x := S + gI u m * gI v j % p * f) (p := p) (by omega)
            have w7 : IntKind.i64.wrap ((S + gI u m * gI v j % p * f) % p) = (S + gI u m * gI v j % p * f) % p := IntWalk.i64_in _ (by omega)
            have t1 : (gI u m * gI v j).tmod p = gI u m * gI v j % p := Int.tmod_eq_emod_of_nonneg m1
            have t2 : (S + gI u m * gI v j % p * f).tmod p = (S + gI u m * gI v j % p * f) % p := Int.tmod_eq_emod_of_nonneg (by omega)
            have HS2 := Lib.hid hS2
            clear HFE hS hS2
            have q0 := cell_regrown x0
            have q1 := cell_regrown x1
            have q2 := cell_regrown x2
            have q3 := cell_regrown x3
            have q4 := cell_regrown hae
            clear x0 x1 x2 x3 hae
            go_wp2_with fail
            (refine wp_region_quiet_below (w := wr) (by kernel_rfl) (by kernel_rfl) ?_; (repeat (go_big_quiet_step (fail))); refine wpQuiet_nil ?_; rintro W ⟨pp, hW⟩; have hbW : Below wr.heap.size wr W := hW ▸ below_regrown _ _ _; clear hW)
            clear w1 w2 w3 w4 w5 w6 w7 t1 t2 q0 q1 q2 q3 q4 hve
            go_wp2
            go_roundw
            case rel => exact ⟨j + 1, by omega, by go_num, by rw [HST.out, HS2.out], hb.trans (hbW.mono (by omega))⟩
            case measure => simp [intOf]; omega
          · obtain rfl : N = j := by omega
            go_wp2
            go_roundw
            case rel => exact ⟨m + 1, by omega, by go_num, by rw [fm_row], hb⟩
            case measure => simp [intOf]; omega
    · obtain rfl : N = m := by omega
      go_wp2
      go_ret
      exact ⟨rfl, (by repeat' (first | (with_reducible exact Below.refl _ _) | (with_reducible refine Below.setCell ?_ (by first | exact Nat.le_refl _ | omega | (simp only [World.size_alloc, World.size_setCell, World.heap_drewN]; omega) | (simp; omega)) _) | (with_reducible refine Below.alloc ?_ (by first | exact Nat.le_refl _ | omega | (simp only [World.size_alloc, World.size_setCell, World.heap_drewN]; omega) | (simp; omega)) _) | (with_reducible refine below_drewN ?_ _) | (with_reducible refine Below.drew ?_) | (with_reducible refine Below.trans ?_ (hb.mono (by first | exact Nat.le_refl _ | omega | (simp only [World.size_alloc, World.size_setCell, World.heap_drewN]; omega) | (simp; omega))))))⟩
set_option maxRecDepth 100000 in
theorem l3Pair_any {B : Nat} (p : Int) (N n k ku kv : Nat) (A Au Av : Option Addr) (df u v : List Int) (w : World) (h : RdI w B A n df) (hu : RdI w B Au N u) (hv : RdI w B Av N v) (hB : B ≤ w.heap.size) (hl : n = N * N) (hN : N ≤ 100) (hp1 : 2 ≤ p) (hp2 : p ≤ 10007) (hr : resB df p = true) (hru : ∀ j, 0 ≤ gI u j ∧ gI u j < p) (hrv : ∀ j, 0 ≤ gI v j ∧ gI v j < p) :
    Calls Try.prog 148 #[.agg #[.int .i64 p, .int .i64 N, .int .i64 N, .slice A n k], .slice Au N ku, .slice Av N kv] w (Rv (.int .i64 (fmV N p (matF df N) u v)) w) := by
  have HL := Lib.hid hl
  have HR := Lib.hid (show ∀ i, 0 ≤ gI df i ∧ gI df i < p from fun i => gI_res (by omega) hr i)
  have HU := Lib.hid hru
  have HV := Lib.hid hrv
  have hpe : (p == 0) = false := by simp; omega
  have hx0 := Box.new w #[.int .i64 p, .int .i64 N, .int .i64 N, .slice A n k] 53
  have ha0 := h.alloc hB (.cells #[.int .i64 p, .int .i64 N, .int .i64 N, .slice A n k] 53)
  have hu0 := hu.alloc hB (.cells #[.int .i64 p, .int .i64 N, .int .i64 N, .slice A n k] 53)
  have hv0 := hv.alloc hB (.cells #[.int .i64 p, .int .i64 N, .int .i64 N, .slice A n k] 53)
  clear hl hr hru hrv h hu hv
  go_enter Try.func148, Try.ntmps148
  go_wp2_with fail
  go_loopw [7, 8] (fun s i wr => ∃ m : Nat, m ≤ N ∧ i = .int .i64 m ∧ s = .int .i64 (fmS N (matF df N) u v m % p) ∧ Below (w.heap.size + 1) (w.alloc (.cells #[.int .i64 p, .int .i64 N, .int .i64 N, .slice A n k] 53)) wr) (fun _ i _ => N - (intOf i).toNat)
  case atStart => exact ⟨0, by omega, rfl, by simp [fmS, sI], Below.refl _ _⟩
  case round =>
    obtain ⟨m, hm, rfl, rfl, hb⟩ := hrel
    have hsz := hb.size
    rw [World.size_alloc] at hsz
    have hx := hx0.below hb (by omega)
    obtain ⟨x0, x1, x2, x3⟩ := hx.four
    by_cases hlt : m < N
    · obtain ⟨bU, oU, rfl⟩ := hu0.addr (by omega)
      have hue := (hu0.below hb (by omega)).at_ hlt
      have huv := HU.out m
      by_cases hz : gI u m = 0
      · have hz' : (gI u m != 0) = false := by simpa using hz
        have HS := Lib.hid (fm_skip (N := N) (F := matF df N) (v := v) hz)
        have HB := Lib.hid hb
        clear hz hb
        go_wp2_with fail
        go_loop [7, 9] (fun s j => s = .int .i64 (fmS N (matF df N) u v m % p) ∧ j = .int .i64 0) (fun _ _ => 0)
        case atStart => exact ⟨rfl, rfl⟩
        case round =>
          obtain ⟨rfl, rfl⟩ := hrel
          go_wp2
          go_roundw
          case rel => exact ⟨m + 1, by omega, by go_num, by rw [HS.out], HB.out⟩
          case measure => simp [intOf]; omega
      · have hz' : (gI u m != 0) = true := by simpa using hz
        have HZ := Lib.hid hz'
        clear hz
        go_wp2_with fail
        clear hue hz' x0 x1 x2 x3 hx hsz
        obtain ⟨wo, rfl⟩ : ∃ wo : World, wo = wr := ⟨_, rfl⟩
        go_loopw [7, 9] (fun s i wr => ∃ j : Nat, j ≤ N ∧ i = .int .i64 j ∧ s = .int .i64 ((fmS N (matF df N) u v m + fmR (matF df N) u v m j) % p) ∧ Below (w.heap.size + 1) (w.alloc (.cells #[.int .i64 p, .int .i64 N, .int .i64 N, .slice A n k] 53)) wr) (fun _ i _ => N - (intOf i).toNat)
        case atStart => exact ⟨0, by omega, rfl, by rw [fm_zero], hb⟩
        case round =>
          clear hb
          obtain ⟨j, hj, rfl, rfl, hb⟩ := hrel
          have hsz := hb.size
          rw [World.size_alloc] at hsz
          have hx := hx0.below hb (by omega)
          obtain ⟨x0, x1, x2, x3⟩ := hx.four
          have hue := (hu0.below hb (by omega)).at_ hlt
          by_cases hlj : j < N
          · obtain ⟨bV, oV, rfl⟩ := hv0.addr (by omega)
            have hz' := HZ.out
            have hin : m * N + j < n := by rw [HL.out]; exact idx_lt hlt hlj
            have hn1 : n ≤ 1073741824 := by
              have h2 : N * N ≤ 100 * 100 := Nat.mul_le_mul hN hN
              rw [HL.out]; omega
            have har := ha0.below hb (by omega)
            have hve := (hv0.below hb (by omega)).at_ hlj
            have hvv := HV.out j
            have hfv := HR.out (m * N + j)
            have HST := Lib.hid (fm_step N p (matF df N) u v m j)
            have hsb := mod_bd (x := fmS N (matF df N) u v m + fmR (matF df N) u v m j) (p := p) (by omega)
            have cA : ∀ d' os, Calls Try.prog 117 #[.agg #[.int .i64 p, .int .i64 N, .int .i64 N, .slice A n k], .int .i64 m, .int .i64 j] (grow (redrawn wr d') os) fun e w'' => e = .returned (.int .i64 (matF df N m j)) ∧ ∃ p : Regrown, w'' = grow (redrawn wr p.d) p.os :=
              fun d' os => Calls.regrown_of (l1At_any (B := B) p N N m j n k A df _ (har.below (below_regrown wr d' os) (by omega)) (by have := (below_regrown wr d' os).size; omega) hin hn1)
            have HFE := Lib.hid (show gI df (m * N + j) = matF df N m j from rfl)
            rw [HFE.out] at hfv
            generalize hS : (fmS N (matF df N) u v m + fmR (matF df N) u v m j) % p = S at *
            generalize hS2 : (fmS N (matF df N) u v m + fmR (matF df N) u v m (j + 1)) % p = S2 at *
            generalize matF df N m j = f at *
            have m1 : 0 ≤ gI u m * gI v j := Int.mul_nonneg huv.1 hvv.1
            have m2 : gI u m * gI v j ≤ 10007 * 10007 := Int.mul_le_mul (by omega) (by omega) hvv.1 (by omega)
            have mb := mod_bd (x := gI u m * gI v j) (p := p) (by omega)
            have m3 : 0 ≤ gI u m * gI v j % p * f := Int.mul_nonneg mb.1 hfv.1
            have m4 : gI u m * gI v j % p * f ≤ 10007 * 10007 := Int.mul_le_mul (by omega) (by omega) hfv.1 (by omega)
            have w1 : IntKind.i64.wrap (gI u m * gI v j) = gI u m * gI v j := IntWalk.i64_in _ (by omega)
            have w2 : IntKind.i64.wrap (gI u m * gI v j % p) = gI u m * gI v j % p := IntWalk.i64_in _ (by omega)
            have w3 : IntKind.i64.wrap (gI u m * gI v j % p * f) = gI u m * gI v j % p * f := IntWalk.i64_in _ (by omega)
            have w4 : IntKind.i64.wrap (S + gI u m * gI v j % p * f) = S + gI u m * gI v j % p * f := IntWalk.i64_in _ (by omega)
            have mb2 := mod_bd (x := S + gI u m * gI v j % p * f) (p := p) (by omega)
            have w7 : IntKind.i64.wrap ((S + gI u m * gI v j % p * f) % p) = (S + gI u m * gI v j % p * f) % p := IntWalk.i64_in _ (by omega)
            have t1 : (gI u m * gI v j).tmod p = gI u m * gI v j % p := Int.tmod_eq_emod_of_nonneg m1
            have t2 : (S + gI u m * gI v j % p * f).tmod p = (S + gI u m * gI v j % p * f) % p := Int.tmod_eq_emod_of_nonneg (by omega)
            have q0 := cell_regrown x0
            have q1 := cell_regrown x1
            have q2 := cell_regrown x2
            have q3 := cell_regrown x3
            have q4 := cell_regrown hue
            have q5 := cell_regrown hve
            have HS2 := Lib.hid hS2
            clear HFE hS hS2 har
            go_wp2_with fail
            clear x0 x1 x2 x3 hue hve
            (refine wp_region_quiet_below (w := wr) (by kernel_rfl) (by kernel_rfl) ?_; (repeat (go_big_quiet_step (with_reducible exact cA _ _))); refine wpQuiet_nil ?_; rintro W ⟨pp, hW⟩; have hbW : Below wr.heap.size wr W := hW ▸ below_regrown _ _ _; clear hW)
            clear w1 w2 w3 w4 w7 t1 t2 q0 q1 q2 q3 q4 q5 cA
            go_wp2
            go_roundw
            case rel => exact ⟨j + 1, by omega, by go_num, by rw [HST.out, HS2.out], hb.trans (hbW.mono (by omega))⟩
            case measure => simp [intOf]; omega
          · obtain rfl : N = j := by omega
            go_wp2
            go_roundw
            case rel => exact ⟨m + 1, by omega, by go_num, by rw [fm_row], hb⟩
            case measure => simp [intOf]; omega
    · obtain rfl : N = m := by omega
      go_wp2
      go_ret
      exact ⟨rfl, (by repeat' (first | (with_reducible exact Below.refl _ _) | (with_reducible refine Below.setCell ?_ (by first | exact Nat.le_refl _ | omega | (simp only [World.size_alloc, World.size_setCell, World.heap_drewN]; omega) | (simp; omega)) _) | (with_reducible refine Below.alloc ?_ (by first | exact Nat.le_refl _ | omega | (simp only [World.size_alloc, World.size_setCell, World.heap_drewN]; omega) | (simp; omega)) _) | (with_reducible refine below_drewN ?_ _) | (with_reducible refine Below.drew ?_) | (with_reducible refine Below.trans ?_ (hb.mono (by first | exact Nat.le_refl _ | omega | (simp only [World.size_alloc, World.size_setCell, World.heap_drewN]; omega) | (simp; omega))))))⟩
end Go.Proofs.Yticebbkmakpkjaa
