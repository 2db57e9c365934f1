/- What FnSolved asks of a system: the rank, the pivots, the solution; and what a vector becomes under a matrix. No program in sight. -/
import Derived.Test.YtfiganobjjjloaaSpa
import Derived.Test.YtfiganobjjjloaaKdm
import Derived.Test.YtfiganobjjjloaaRowW
import Derived.Test.YtfiganobjjjloaaMulW
import Derived.Deep.RegionHeld3
import Derived.Deep.DeepCutAuto
import Derived.Outline
namespace Go.Proofs.Ytfiganobjjjloaa
set_option linter.unusedVariables false
set_option linter.unusedSimpArgs false
set_option maxRecDepth 20000
open Go.RowKit
/-- a vector under a matrix, number j, the first rows -/
def undS (C : Nat) (d x : List Int) (p : Int) (j : Nat) : Nat → Int
  | 0 => 0
  | i + 1 => (undS C d x p j i + gI x i * gI d (i * C + j)) % p
def undD (R C : Nat) (d x : List Int) (p : Int) : List Int := (List.range C).map fun j => undS C d x p j R
theorem undS_bd {C : Nat} {d x : List Int} {p : Int} {j : Nat} (hp : 1 ≤ p) (m : Nat) : 0 ≤ undS C d x p j m ∧ undS C d x p j m < p := by
  cases m with
  | zero => exact ⟨Int.le_refl _, by show (0 : Int) < p; omega⟩
  | succ m => exact ⟨Int.emod_nonneg _ (by omega), Int.emod_lt_of_pos _ (by omega)⟩
theorem undD_len (R C : Nat) (d x : List Int) (p : Int) : (undD R C d x p).length = C := by simp [undD]
theorem undD_get {R C : Nat} {d x : List Int} {p : Int} {j : Nat} (hj : j < C) : gI (undD R C d x p) j = undS C d x p j R := by
  rw [gI_lt (by rw [undD_len]; exact hj)]; simp [undD]
section
variable {n : Nat} [NeZero n]
theorem undS_ph {C : Nat} {d x : List Int} {j : Nat} (m : Nat) : ph n (undS C d x n j m) = sm m fun t => ph n (gI x t) * ph n (gI d (t * C + j)) := by
  induction m with
  | zero => exact ph_zero
  | succ m ih => rw [undS, ph_mod, ph_add, ph_mul, ih]; rfl
theorem und_eq {R C : Nat} {d x v : List Int} (hp : isP n = true) (hv : v.length = C) (hr : resB v n = true) (h : ∀ j, j < C → (sm R fun t => ph n (gI x t) * ph n (gI d (t * C + j))) = ph n (gI v j)) : undD R C d x n = v := by
  have hb := isP_bd hp
  refine ext_gI (by rw [undD_len, hv]) fun j hj => ?_
  rw [undD_len] at hj
  rw [undD_get hj]
  refine ph_inj (n := n) ?_ (undS_bd (by omega) _) (gI_res (by omega) hr _)
  rw [undS_ph]
  exact h j hj
end
theorem svd_facts {p : Int} {R C : Nat} {d v : List Int} (hp : isP p = true) (hr : resB d p = true) (hv : v.length = R) (hvr : resB v p = true) :
    (solB (rr R p (augF (matF d C) v C) (C + 1)) C = true ↔ (rr R p (augF (matF d C) v C) (C + 1)).rk = (rr R p (matF d C) C).rk) ∧
    (∀ j, j < (solX (rr R p (augF (matF d C) v C) (C + 1)) C).length → j ∉ (rr R p (matF d C) C).pv → gI (solX (rr R p (augF (matF d C) v C) (C + 1)) C) j = 0) ∧
    (solB (rr R p (augF (matF d C) v C) (C + 1)) C = true → (solX (rr R p (augF (matF d C) v C) (C + 1)) C).length = C ∧ undD C R (trD R C d) (solX (rr R p (augF (matF d C) v C) (C + 1)) C) p = v) := by
  have hb := isP_bd hp
  obtain ⟨n, rfl⟩ := Int.eq_ofNat_of_zero_le (show 0 ≤ p by omega)
  haveI : NeZero n := ⟨by omega⟩
  have hF : ResF (augF (matF d C) v C) n := augF_res (by omega) (matF_res (by omega) hr) hvr
  obtain ⟨e1, _, e3, _⟩ := rr_congr (R := R) (C := C) (p := n) (f := augF (matF d C) v C) (g := matF d C) (fun i j _ hj => augF_lt hj) C (Nat.le_refl _)
  have hpv := rr_pv R n (augF (matF d C) v C) C
  have hS := rr_red hp R (C + 1) hF
  have hN := rr_nl hp R (C + 1) hF
  have hSr := rr_res (R := R) (by omega) hF (C + 1)
  have hst : (rr R n (augF (matF d C) v C) (C + 1)).pv = (rr R n (matF d C) C).pv ++ [C] ∧ (rr R n (augF (matF d C) v C) (C + 1)).rk = (rr R n (matF d C) C).rk + 1 ∨
      (rr R n (augF (matF d C) v C) (C + 1)).pv = (rr R n (matF d C) C).pv ∧ (rr R n (augF (matF d C) v C) (C + 1)).rk = (rr R n (matF d C) C).rk := by
    rw [rr, rstep]
    split
    · left
      exact ⟨by rw [← e3], by rw [← e1]⟩
    · right
      exact ⟨e3, e1⟩
  rw [e3] at hpv
  generalize hs : rr R (n : Int) (augF (matF d C) v C) (C + 1) = S at *
  have hnm : solB S C = true ↔ C ∉ S.pv := by unfold solB; simp
  have hrk : C ∉ S.pv ↔ S.rk = (rr R n (matF d C) C).rk := by
    rcases hst with ⟨h1, h2⟩ | ⟨h1, h2⟩
    · rw [h1, h2]; simp
    · rw [h1]
      exact ⟨fun _ => h2, fun _ hm => by have := hpv C hm; omega⟩
  have hx : C ∉ S.pv → solX S C = (List.range C).map (solP S C S.pv.length) := fun h => by unfold solX; rw [if_neg (by simpa using h)]
  have hx0 : C ∈ S.pv → solX S C = [] := fun h => by unfold solX; rw [if_pos (by simpa using h)]
  refine ⟨hnm.trans hrk, fun j hj hjp => ?_, fun hok => ?_⟩
  · by_cases hm : C ∈ S.pv
    · rw [hx0 hm] at hj; simp at hj
    · have hpe : S.pv = (rr R n (matF d C) C).pv := by
        rcases hst with ⟨h1, _⟩ | ⟨h1, _⟩
        · exact absurd (by rw [h1]; simp) hm
        · exact h1
      rw [hx hm] at hj ⊢
      rw [gI_lt hj]
      simp only [List.getElem_map, List.getElem_range]
      unfold solP
      rw [if_neg]
      rw [List.idxOf_lt_length_iff, hpe]
      exact hjp
  · have hm := hnm.1 hok
    have hxe := hx hm
    have hxl : (solX S C).length = C := by rw [hxe]; simp
    refine ⟨hxl, und_eq hp hv hvr fun i hi => ?_⟩
    have h1 := (hN _).1 (hS.fv_nl (Nat.lt_succ_self C) hm) i hi
    unfold dt at h1
    rw [sm] at h1
    have h3 : fv (phT n S.f) S.pv C C = 1 := by simp [fv]
    have h4 : phT n (augF (matF d C) v C) i C = ph n (gI v i) := by unfold phT; rw [augF_at]
    rw [h3, h4] at h1
    have h5 : ∀ t, t < C → ph n (gI (solX S C) t) = 0 - fv (phT n S.f) S.pv C t := fun t ht => by
      rw [hxe, gI_lt (by simpa using ht)]
      simp only [List.getElem_map, List.getElem_range]
      unfold solP fv
      rw [if_neg (show ¬ t = C by omega)]
      by_cases hm : t ∈ S.pv
      · rw [if_pos (List.idxOf_lt_length_iff.2 hm), if_pos hm]
        unfold phT; grind
      · rw [if_neg (fun h => hm (List.idxOf_lt_length_iff.1 h)), if_neg hm, ph_zero]; grind
    rw [sm_congr (g := fun t => (0 : Fin n) - phT n (augF (matF d C) v C) i t * fv (phT n S.f) S.pv C t) fun t ht => by
      have h6 : ph n (gI (trD R C d) (t * R + i)) = phT n (augF (matF d C) v C) i t := by
        unfold phT
        rw [augF_lt ht, ← matF_tr ht hi]; rfl
      rw [h5 t ht, h6]; grind]
    rw [sm_sub, show sm C (fun _ => (0 : Fin n)) = 0 from sm_zero fun _ _ => rfl]
    grind
end Go.Proofs.Ytfiganobjjjloaa
namespace Go.Proofs.Ytfiganobjjjloaa
set_option linter.unusedVariables false
set_option linter.unusedSimpArgs false
set_option maxRecDepth 20000
open Go.RowKit Go.Sort
set_option maxHeartbeats 4000000
/-- a row of a matrix, where it lies: the value does not hang on the world -/
theorem lrow_any {p r : Int} {R C i n k : Nat} {A : Option Addr} (hd : Hd A n k) (hl : n = R * C) (hi : i < R) (hR : R ≤ 100000) (hC : C ≤ 100000) (hn : n ≤ 1073741824) :
    ∃ A' k', Hd A' C k' ∧ (∀ (w : World) (B : Nat) (d : List Int), RdI w B A n d → RdI w B A' C (sub d (i * C) C)) ∧
      ∀ w, Calls Try.prog 22 #[.agg #[.int .i64 p, .int .i64 r, .int .i64 C, .slice A n k], .int .i64 i] w (Rv (.slice A' C k') w) := by
  obtain ⟨e1, e2, e3, e4, e5, e6⟩ := row_bd (C := C) hi
  have hle : i * C + C ≤ n := by rw [hl]; exact e6
  have hnn : (R : Int) * C = n := by rw [hl, Int.natCast_mul]
  obtain ⟨A', hd', hp', hrun⟩ := part_run (A := A) (n := n) (k := k) (lo := i * C) (hi := i * C + C) ((i : Int) * C) (((i : Int) + 1) * C) (by rw [Int.natCast_mul]) (by rw [← e2, Int.natCast_add, Int.natCast_mul]) hd (by omega) hle
  rw [show i * C + C - i * C = C by omega] at hd' hp' hrun
  refine ⟨A', _, hd', hp', fun w => ?_⟩
  clear hp' hd' hl
  go_enter Try.func22, Try.ntmps22
  go_wp2
  go_ret
  exact ⟨rfl, (by repeat' (first | (with_reducible exact Below.refl _ _) | (with_reducible refine Below.setCell ?_ (by first | exact Nat.le_refl _ | omega | (simp only [World.size_alloc, World.size_setCell, World.heap_drewN]; omega) | (simp; omega)) _) | (with_reducible refine Below.alloc ?_ (by first | exact Nat.le_refl _ | omega | (simp only [World.size_alloc, World.size_setCell, World.heap_drewN]; omega) | (simp; omega)) _) | (with_reducible refine below_drewN ?_ _) | (with_reducible refine Below.drew ?_)))⟩
/-- how far a number of the sum has come -/
def ucnt (i j y : Nat) : Nat := if y < j then i + 1 else i
theorem undD_of {R C : Nat} {d x D : List Int} {p : Int} (hl : D.length = C) (h : ∀ y, y < C → gI D y = undS C d x p y R) : D = undD R C d x p :=
  ext_gI (by rw [hl, undD_len]) fun y hy => by rw [undD_get (by omega)]; exact h y (by omega)
theorem lunder_any {B Bv : Nat} (p : Int) (R C n k : Nat) (A : Option Addr) (d : List Int) (Av : Option Addr) (kv : Nat) (v : List Int) (w : World) (h : RdI w B A n d) (hB : B ≤ w.heap.size) (hv : RdI w Bv Av R v) (hBv : Bv ≤ w.heap.size) (hl : n = R * C) (hR : R ≤ 100) (hC : C ≤ 100) (hp1 : 1 ≤ p) (hp2 : p ≤ 10007) (hr : resB d p = true) (hvr : resB v p = true) :
    Calls Try.prog 26 #[.slice Av R kv, .agg #[.int .i64 p, .int .i64 R, .int .i64 C, .slice A n k]] w (RetI (undD R C d v p) w) := by
  have hle : n ≤ 10000 := by rw [hl]; exact Nat.mul_le_mul hR hC
  have HL := Lib.hid hl
  have HR1 := Lib.hid (show ∀ j, j < n → 0 ≤ gI d j ∧ gI d j < p from fun j hj => resB_get hr (by rw [h.1]; exact hj))
  have HR2 := Lib.hid (show ∀ j, j < R → 0 ≤ gI v j ∧ gI v j < p from fun j hj => resB_get hvr (by rw [hv.1]; exact hj))
  have hmk := mkI_run (C : Int) C rfl (by omega)
  have hq0 : Below w.heap.size w ((w.alloc (.cells #[.int .i64 p, .int .i64 R, .int .i64 C, .slice A n k] 26)).alloc (.cells (zrow C) 3)) := (by repeat' (first | (with_reducible exact Below.refl _ _) | (with_reducible refine Below.setCell ?_ (by first | exact Nat.le_refl _ | omega | (simp only [World.size_alloc, World.size_setCell, World.heap_drewN]; omega) | (simp; omega)) _) | (with_reducible refine Below.alloc ?_ (by first | exact Nat.le_refl _ | omega | (simp only [World.size_alloc, World.size_setCell, World.heap_drewN]; omega) | (simp; omega)) _) | (with_reducible refine below_drewN ?_ _) | (with_reducible refine Below.drew ?_)))
  have hx0 := (Box.new w #[.int .i64 p, .int .i64 R, .int .i64 C, .slice A n k] 26).alloc (.cells (zrow C) 3)
  have ho0 := OwI.zrow (w.alloc (.cells #[.int .i64 p, .int .i64 R, .int .i64 C, .slice A n k] 26)) C 3 (by omega)
  have ha0 := h.below hq0 hB
  have hv0 := hv.below hq0 hBv
  simp only [World.size_alloc] at ho0
  clear hl hr hvr h hv
  go_enter Try.func26, Try.ntmps26
  obtain ⟨x0, x1, x2, x3⟩ := (Box.new w #[.int .i64 p, .int .i64 R, .int .i64 C, .slice A n k] 26).four
  go_wp2_with fail
  clear x0 x1 x2 x3 hmk
  have hsw : ((w.alloc (.cells #[.int .i64 p, .int .i64 R, .int .i64 C, .slice A n k] 26)).alloc (.cells (zrow C) 3)).heap.size = w.heap.size + 2 := by simp
  generalize (w.alloc (.cells #[.int .i64 p, .int .i64 R, .int .i64 C, .slice A n k] 26)).alloc (.cells (zrow C) 3) = W0 at *
  go_loopw [6] (fun ii wr => ∃ i : Nat, i ≤ R ∧ ii = .int .i64 i ∧ Chg (w.heap.size + 1) (w.heap.size + 2) W0 wr ∧ ∃ D, OwI wr (w.heap.size + 1) (w.heap.size + 2) (some ⟨w.heap.size + 1, 0, none⟩) C D ∧ Hid (∀ y, y < C → gI D y = undS C d v p y i)) (fun ii _ => R - (intOf ii).toNat)
  case atStart => exact ⟨0, by omega, rfl, Chg.refl _ _ _, _, ho0, fun y hy => by rw [gI_rep]; rfl⟩
  case round =>
    clear ho0
    obtain ⟨i, hi, rfl, hch, D, ho, hP⟩ := hrel
    have hx := hx0.chg hch (.inl (by omega))
    obtain ⟨x0, x1, x2, x3⟩ := hx.four
    by_cases hlt : i < R
    · go_wp2_with fail
      go_loopw [7] (fun jj wr => ∃ j : Nat, j ≤ C ∧ jj = .int .i64 j ∧ Chg (w.heap.size + 1) (w.heap.size + 2) W0 wr ∧ ∃ D, OwI wr (w.heap.size + 1) (w.heap.size + 2) (some ⟨w.heap.size + 1, 0, none⟩) C D ∧ Hid (∀ y, y < C → gI D y = undS C d v p y (ucnt i j y))) (fun jj _ => C - (intOf jj).toNat)
      case atStart => exact ⟨0, by omega, rfl, hch, D, ho, fun y hy => by rw [hP.out y hy]; rfl⟩
      case round =>
        clear hch ho hP hx x0 x1 x2 x3
        obtain ⟨j, hj, rfl, hch, D', ho, hP⟩ := hrel
        have hsz := hch.size
        have hx := hx0.chg hch (.inl (by omega))
        obtain ⟨x0, x1, x2, x3⟩ := hx.four
        by_cases hlt2 : j < C
        · have hin : i * C + j < n := by rw [HL.out]; exact idx_lt hlt hlt2
          obtain ⟨v1, v2⟩ := HR1.out _ hin
          obtain ⟨u1, u2⟩ := HR2.out _ hlt
          have hbl : Below w.heap.size W0 wr := (hch.below (by omega)).mono (by omega)
          have har := ha0.below hbl hB
          have hvr := hv0.below hbl hBv
          obtain ⟨ba, oa, rfl⟩ := har.addr (by omega)
          obtain ⟨bv, ov, rfl⟩ := hvr.addr (by omega)
          have hca := har.at_ hin
          have hcv := hvr.at_ hlt
          have hDv : gI D' j = undS C d v p j i := by rw [hP.out j hlt2]; unfold ucnt; rw [if_neg (by omega)]
          have t1 := undS_bd (C := C) (d := d) (x := v) (j := j) hp1 i
          have g1 : 0 ≤ gI D' j := by rw [hDv]; exact t1.1
          have g2 : gI D' j < p := by rw [hDv]; exact t1.2
          have HD := Lib.hid hDv
          clear hDv t1
          have hk1 : 0 ≤ (i : Int) * (C : Int) := Int.mul_nonneg (by omega) (by omega)
          have hk2 : (i : Int) * (C : Int) + (j : Int) < (n : Int) := by
            rw [← Int.natCast_mul, ← Int.natCast_add]; omega
          have hk3 : 0 ≤ (i : Int) * (C : Int) + (j : Int) := by omega
          have m1 : 0 ≤ gI v i * gI d (i * C + j) := Int.mul_nonneg u1 v1
          have m2 : gI v i * gI d (i * C + j) ≤ 10007 * 10007 := Int.mul_le_mul (by omega) (by omega) v1 (by omega)
          have m3 : 0 ≤ gI D' j + gI v i * gI d (i * C + j) := by omega
          have hcd := (ho.at_ hlt2).1
          rw [Nat.zero_add] at hcd
          have hwr1 : IntKind.i64.wrap ((i : Int) * (C : Int)) = (i : Int) * (C : Int) := IntWalk.i64_in _ (by omega)
          have hwr2 : IntKind.i64.wrap ((i : Int) * (C : Int) + (j : Int)) = (i : Int) * (C : Int) + (j : Int) := IntWalk.i64_in _ (by omega)
          have hwr3 : IntKind.i64.wrap (gI v i * gI d (i * C + j)) = gI v i * gI d (i * C + j) := IntWalk.i64_in _ (by omega)
          have hwr4 : IntKind.i64.wrap (gI D' j + gI v i * gI d (i * C + j)) = gI D' j + gI v i * gI d (i * C + j) := IntWalk.i64_in _ (by omega)
          have hpe : (p == 0) = false := by simp; omega
          have htm : (gI D' j + gI v i * gI d (i * C + j)).tmod p = (gI D' j + gI v i * gI d (i * C + j)) % p := Int.tmod_eq_emod_of_nonneg m3
          have hwr5 : IntKind.i64.wrap ((gI D' j + gI v i * gI d (i * C + j)) % p) = (gI D' j + gI v i * gI d (i * C + j)) % p := by
            have q1 := Int.emod_nonneg (gI D' j + gI v i * gI d (i * C + j)) (show p ≠ 0 by omega)
            have q2 := Int.emod_lt_of_pos (gI D' j + gI v i * gI d (i * C + j)) (show 0 < p by omega)
            exact IntWalk.i64_in _ (by omega)
          have htn : ((i : Int) * (C : Int) + (j : Int)).toNat = i * C + j := by rw [← Int.natCast_mul, ← Int.natCast_add]; rfl
          go_wp2_with fail
          (refine wp_region_quiet_last (C := fun w' => ∃ nn, w' = wr.drewN nn) 26 (by kernel_rfl) (by kernel_rfl) (by kernel_rfl) (by kernel_rfl) (by kernel_rfl) (by kernel_rfl) (by kernel_rfl) (by kernel_rfl) ⟨1, rfl⟩ ?_; simp only [List.take_succ_cons, List.take_zero, List.drop_succ_cons, List.drop_zero]; (repeat (go_big_quiet_step (fail))); refine wpQuiet_nil ?_; rintro W ⟨nq, rfl⟩)
          have ho6 : OwI (wr.drewN nq) (w.heap.size + 1) (w.heap.size + 2) (some ⟨w.heap.size + 1, 0, none⟩) C D' := ho.drewN nq
          obtain ⟨hcl6, hfr6⟩ := ho6.at_ hlt2
          have hs6 := fun u => ho6.store (v := u) hlt2
          rw [Nat.zero_add] at hcl6 hfr6
          simp only [Nat.zero_add] at hs6
          have HS6 := Lib.hid hs6
          clear hs6
          clear hca hcv hcd
          go_wp2
          go_roundw
          case rel => exact ⟨j + 1, by omega, by go_num, (hch.drewN nq).setCell (by exact Nat.le_refl _) (by show w.heap.size + 1 < w.heap.size + 2; omega) _, _, HS6.out _, fun y hy => by
            rw [gI_set _ _ _ _ (by rw [ho6.1]; exact hlt2)]
            by_cases e : y = j
            · subst e
              rw [if_pos rfl, HD.out]
              unfold ucnt
              rw [if_pos (by omega)]
              rfl
            · rw [if_neg e, hP.out y hy]
              unfold ucnt
              by_cases e2 : y < j
              · rw [if_pos e2, if_pos (by omega)]
              · rw [if_neg e2, if_neg (by omega)]⟩
          case measure => simp [intOf]; omega
        · obtain rfl : j = C := by omega
          go_wp2
          go_roundw
          case rel => exact ⟨i + 1, by omega, by go_num, hch, D', ho, fun y hy => by rw [hP.out y hy]; unfold ucnt; rw [if_pos hy]⟩
          case measure => simp [intOf]; omega
    · obtain rfl : i = R := by omega
      have hsz := hch.size
      have hD := undD_of ho.1 hP.out
      subst hD
      go_wp2
      go_ret
      exact ⟨_, _, _, rfl, Hd.self (by unfold maxLen; omega), hq0.trans ((hch.below (by omega)).mono (by omega)), (ho.down (by omega)).up (by omega)⟩
/-- the rows of one number -/
def colL (x : List Int) (m : Nat) : List (List Int) := (List.range m).map fun i => [gI x i]
theorem colL_succ (x : List Int) (m : Nat) : colL x (m + 1) = colL x m ++ [[gI x m]] := by simp [colL, List.range_succ]
theorem colL_flat (x : List Int) : (colL x x.length).flatten = x := by
  have : ∀ m, m ≤ x.length → (colL x m).flatten = x.take m := fun m => by
    induction m with
    | zero => intro _; rfl
    | succ m ih => intro h; rw [colL_succ, List.flatten_append, ih (by omega), take_gI (by omega)]; simp
  rw [this _ (Nat.le_refl _), List.take_length]
theorem OwI.one (w : World) (x : Int) (T : TypeId) : OwI (w.alloc (.cells #[.int .i64 x] T)) w.heap.size (w.heap.size + 1) (some ⟨w.heap.size, 0, none⟩) 1 [x] := by
  refine ⟨rfl, by unfold maxLen; omega, fun _ => ⟨_, 0, rfl, Nat.le_refl _, Nat.lt_succ_self _, fun j hj => ?_⟩⟩
  obtain rfl : j = 0 := by omega
  exact ⟨(Box.new w #[.int .i64 x] T).cell rfl, (Box.new w #[.int .i64 x] T).fz 0⟩
theorem l12Column_any {B : Nat} (A : Option Addr) (n k : Nat) (x : List Int) (w : World) (h : RdI w B A n x) (hB : B ≤ w.heap.size) (hn : n ≤ 1000) :
    Calls Try.prog 81 #[.slice A n k] w (RetT (colL x n) w) := by
  have hG := GrwT.start w 22 rfl
  have hq0 : Below w.heap.size w (w.alloc (.cells #[] 22)) := (by repeat' (first | (with_reducible exact Below.refl _ _) | (with_reducible refine Below.setCell ?_ (by first | exact Nat.le_refl _ | omega | (simp only [World.size_alloc, World.size_setCell, World.heap_drewN]; omega) | (simp; omega)) _) | (with_reducible refine Below.alloc ?_ (by first | exact Nat.le_refl _ | omega | (simp only [World.size_alloc, World.size_setCell, World.heap_drewN]; omega) | (simp; omega)) _) | (with_reducible refine below_drewN ?_ _) | (with_reducible refine Below.drew ?_)))
  have ha0 := h.below hq0 hB
  clear h
  go_enter Try.func81, Try.ntmps81
  go_wp2_with fail
  go_loopw [3, 4] (fun v i wr => ∃ j : Nat, j ≤ n ∧ i = .int .i64 j ∧ GrwT w.heap.size (w.alloc (.cells #[] 22)) wr v j (colL x j)) (fun _ i _ => n - (intOf i).toNat)
  case atStart => exact ⟨0, by omega, rfl, hG⟩
  case round =>
    clear hG
    obtain ⟨j, hj, rfl, hG⟩ := hrel
    have hsz := hG.size
    simp only [World.size_alloc] at hsz
    have hbl := hG.below
    have ha := ha0.below hbl hB
    have hq := hq0.trans hbl
    clear hbl
    by_cases hlt : j < n
    · obtain ⟨hst, hhl, how, hi', hOT, hhi'⟩ := hG.tbl
      obtain ⟨ba, oa, rfl⟩ := ha.addr (by omega)
      have hca := ha.at_ hlt
      have HS := Lib.hid (colL_succ x j)
      have hcn : j ≤ 1073741824 := by omega
      have hb34 : Below wr.heap.size wr (wr.alloc (.cells #[.int .i64 (gI x j)] 3)) := (Below.refl _ _).alloc (Nat.le_refl _) _
      have hOT4 := hOT.below hb34 hhi'
      have ho4 := OwI.one wr (gI x j) 3
      have hs4 : (wr.alloc (.cells #[.int .i64 (gI x j)] 3)).heap.size = wr.heap.size + 1 := by simp
      have hcl := (Box.new (wr.alloc (.cells #[.int .i64 (gI x j)] 3)) #[.slice (some ⟨wr.heap.size, 0, none⟩) 1 1] 22).one
      rw [World.size_alloc] at hcl
      go_wp2_with (at_builtin; refine wpList_apT (v := u3) (w := (wr.alloc (.cells #[.int .i64 (gI x j)] 3)).alloc (.cells #[.slice (some ⟨wr.heap.size, 0, none⟩) 1 1] 22)) (lo := w.heap.size) (b := wr.heap.size + 1) (u := .slice (some ⟨wr.heap.size, 0, none⟩) 1 1) rfl (.tmp 12) (.tmp 18) rfl rfl (hOT4.alloc (by omega) _).tbl rfl hcl rfl hcn (by simp only [World.size_alloc]; omega) ?_; intro v5 w5 ho5 hg5 hv5)
      have hG := hG.push hOT hhi' hb34 (by rw [hs4]; exact ho4) (Nat.le_refl _) (Hd.self (by unfold maxLen; omega)) ho5 hg5 hv5
      clear hOT hOT4 how ho4 ho5 hg5 hv5 hb34 hca
      go_wp2
      go_roundw
      case rel => exact ⟨j + 1, by omega, by go_num, by rw [HS.out]; exact hG⟩
      case measure => simp [intOf]; omega
    · obtain rfl : n = j := by omega
      obtain ⟨A7, c7, rfl, hd7, hst7, hT7⟩ := hG.ret
      clear hG
      go_wp2
      go_ret
      exact ⟨_, _, _, rfl, hd7, hq, _, hT7⟩
end Go.Proofs.Ytfiganobjjjloaa
