/- newLie, pair, right; l2Row, l2Get. No condition but what each theorem names. -/
import Derived.Test.YtgpejighomohlaaAlg
import Derived.Test.YtgpejighomohlaaRedW
import Derived.Test.YtgpejighomohlaaTail
namespace Go.Proofs.Ytgpejighomohlaa
set_option linter.unusedVariables false
set_option linter.unusedSimpArgs false
set_option maxRecDepth 20000
open Go.RowKit Go.Sort
set_option maxHeartbeats 2000000
theorem bel_ofDrew {w w' : World} (h : Below w.drew.heap.size w.drew w') : Below w.heap.size w w' := ⟨h.os, h.tape, h.output, h.size, h.block⟩
theorem newLie_any (p n : Int) (A : Option Addr) (l k : Nat) (w : World) :
    Calls Try.prog 77 #[.agg #[.int .i64 p, .int .i64 n, .slice A l k]] w (Rv (.agg #[.int .i64 p, .int .i64 n, .slice A l k]) w) := by
  go_enter Try.func77, Try.ntmps77
  go_wp2
  exact bodyPost_ret (v := .agg #[.int .i64 p, .int .i64 n, .slice A l k]) (by simp [results, Try.results77, go_sem]) rfl ⟨rfl, (by repeat' (first | (with_reducible exact Below.refl _ _) | (with_reducible refine Below.setCell ?_ (by first | exact Nat.le_refl _ | omega | (simp only [World.size_alloc, World.size_setCell, World.heap_drewN]; omega) | (simp; omega)) _) | (with_reducible refine Below.alloc ?_ (by first | exact Nat.le_refl _ | omega | (simp only [World.size_alloc, World.size_setCell, World.heap_drewN]; omega) | (simp; omega)) _) | (with_reducible refine below_drewN ?_ _) | (with_reducible refine Below.drew ?_)))⟩
theorem pr_bd {n i j : Nat} (hi : i < n) (hj : j < n) (hn : n ≤ 100) : 0 ≤ (i : Int) * n ∧ (i : Int) * n + j ≤ 10000 ∧ 0 ≤ ((i : Int) * n + j) * n ∧ ((i : Int) * n + j) * n + n ≤ 1000000 ∧ ((i : Int) * n + j) * n = (((i * n + j) * n : Nat) : Int) ∧ ((i : Int) * n + j) * n + n = ((((i * n + j) * n + n : Nat)) : Int) ∧ ((i : Int) * n + j + 1) * n = ((i : Int) * n + j) * n + n := by
  have h1 : i * n + j + 1 ≤ n * n := idx_lt hi hj
  have h2 : n * n ≤ 100 * 100 := Nat.mul_le_mul hn hn
  have h3 := pr_le hi hj
  have h4 : n * n * n ≤ 10000 * 100 := Nat.mul_le_mul h2 hn
  have e1 : (i : Int) * n = ((i * n : Nat) : Int) := by rw [Int.natCast_mul]
  have e2 : ((i : Int) * n + j) * n = (((i * n + j) * n : Nat) : Int) := by rw [Int.natCast_mul, Int.natCast_add, Int.natCast_mul]
  have e3 : ((i : Int) * n + j + 1) * n = ((i : Int) * n + j) * n + n := by rw [Int.add_mul _ 1 _, Int.one_mul]
  refine ⟨by omega, by omega, by omega, by omega, e2, by omega, e3⟩
/-- a part of the table, where it lies: the value does not hang on the world -/
theorem pair_any {p : Int} {n i j l k : Nat} {A : Option Addr} (hd : Hd A l k) (hl : l = n * n * n) (hi : i < n) (hj : j < n) (hn : n ≤ 100) :
    ∃ A' k', Hd A' n k' ∧ (∀ (w : World) (B : Nat) (d : List Int), RdI w B A l d → RdI w B A' n (prV n d i j)) ∧
      ∀ w, Calls Try.prog 140 #[.agg #[.int .i64 p, .int .i64 n, .slice A l k], .int .i64 i, .int .i64 j] w (Rv (.slice A' n k') w) := by
  obtain ⟨b1, b2, b3, b4, b5, b6, b7⟩ := pr_bd hi hj hn
  obtain ⟨A', hd', hp', hrun⟩ := part_run (A := A) (n := l) (k := k) (lo := (i * n + j) * n) (hi := (i * n + j) * n + n) (((i : Int) * n + j) * n) (((i : Int) * n + j) * n + n) b5 b6 hd (by omega) (by rw [hl]; exact pr_le hi hj)
  rw [show (i * n + j) * n + n - (i * n + j) * n = n by omega] at hd' hp' hrun
  refine ⟨A', _, hd', hp', fun w => ?_⟩
  clear hp' hd' b5 b6 b7 hl
  go_enter Try.func140, Try.ntmps140
  go_wp2
  go_ret
  exact ⟨rfl, (by repeat' (first | (with_reducible exact Below.refl _ _) | (with_reducible refine Below.setCell ?_ (by first | exact Nat.le_refl _ | omega | (simp only [World.size_alloc, World.size_setCell, World.heap_drewN]; omega) | (simp; omega)) _) | (with_reducible refine Below.alloc ?_ (by first | exact Nat.le_refl _ | omega | (simp only [World.size_alloc, World.size_setCell, World.heap_drewN]; omega) | (simp; omega)) _) | (with_reducible refine below_drewN ?_ _) | (with_reducible refine Below.drew ?_)))⟩
theorem l2Row_any {p : Int} {n i j l k : Nat} {A : Option Addr} (hd : Hd A l k) (hl : l = n * n * n) (hi : i < n) (hj : j < n) (hn : n ≤ 100) :
    ∃ A' k', Hd A' n k' ∧ (∀ (w : World) (B : Nat) (d : List Int), RdI w B A l d → RdI w B A' n (prV n d i j)) ∧
      ∀ w, Calls Try.prog 144 #[.agg #[.int .i64 p, .int .i64 n, .slice A l k], .int .i64 i, .int .i64 j] w (Rv (.slice A' n k') w) := by
  obtain ⟨b1, b2, b3, b4, b5, b6, b7⟩ := pr_bd hi hj hn
  obtain ⟨A', hd', hp', hrun⟩ := part_run (A := A) (n := l) (k := k) (lo := (i * n + j) * n) (hi := (i * n + j) * n + n) (((i : Int) * n + j) * n) (((i : Int) * n + j + 1) * n) b5 (by rw [b7]; exact b6) hd (by omega) (by rw [hl]; exact pr_le hi hj)
  rw [show (i * n + j) * n + n - (i * n + j) * n = n by omega] at hd' hp' hrun
  refine ⟨A', _, hd', hp', fun w => ?_⟩
  have c1 : 0 ≤ ((i : Int) * n + j + 1) * n := by omega
  have c2 : ((i : Int) * n + j + 1) * n ≤ 1000000 := by omega
  clear hp' hd' b5 b6 b7 hl
  go_enter Try.func144, Try.ntmps144
  go_wp2
  go_ret
  exact ⟨rfl, (by repeat' (first | (with_reducible exact Below.refl _ _) | (with_reducible refine Below.setCell ?_ (by first | exact Nat.le_refl _ | omega | (simp only [World.size_alloc, World.size_setCell, World.heap_drewN]; omega) | (simp; omega)) _) | (with_reducible refine Below.alloc ?_ (by first | exact Nat.le_refl _ | omega | (simp only [World.size_alloc, World.size_setCell, World.heap_drewN]; omega) | (simp; omega)) _) | (with_reducible refine below_drewN ?_ _) | (with_reducible refine Below.drew ?_)))⟩
theorem l2Get_any {B : Nat} {p : Int} {n i j t l k : Nat} {A : Option Addr} {d : List Int} (w : World) (h : RdI w B A l d) (hB : B ≤ w.heap.size) (hl : l = n * n * n) (hi : i < n) (hj : j < n) (ht : t < n) (hn : n ≤ 100) :
    Calls Try.prog 151 #[.agg #[.int .i64 p, .int .i64 n, .slice A l k], .int .i64 i, .int .i64 j, .int .i64 t] w (Rv (.int .i64 (tA n d i j t)) w) := by
  obtain ⟨b1, b2, b3, b4, b5, b6, b7⟩ := pr_bd hi hj hn
  have hlt : (i * n + j) * n + t < l := by rw [hl]; exact tA_lt hi hj ht
  obtain ⟨b, o, rfl⟩ := h.addr (by omega)
  have hc := (h.alloc hB (.cells #[.int .i64 p, .int .i64 n, .slice (some ⟨b, o, none⟩) l k] 27)).at_ hlt
  have c1 : ((i : Int) * n + j) * n + t < l := by rw [b5]; omega
  have c2 : (((i : Int) * n + j) * n + t).toNat = (i * n + j) * n + t := by rw [b5]; omega
  have c3 : 0 ≤ ((i : Int) * n + j) * n + t := by omega
  have HT := Lib.hid (show gI d ((i * n + j) * n + t) = tA n d i j t from rfl)
  clear b5 b6 b7 hl
  go_enter Try.func151, Try.ntmps151
  go_wp2
  go_ret
  exact ⟨by rw [← HT.out]; rfl, (by repeat' (first | (with_reducible exact Below.refl _ _) | (with_reducible refine Below.setCell ?_ (by first | exact Nat.le_refl _ | omega | (simp only [World.size_alloc, World.size_setCell, World.heap_drewN]; omega) | (simp; omega)) _) | (with_reducible refine Below.alloc ?_ (by first | exact Nat.le_refl _ | omega | (simp only [World.size_alloc, World.size_setCell, World.heap_drewN]; omega) | (simp; omega)) _) | (with_reducible refine below_drewN ?_ _) | (with_reducible refine Below.drew ?_)))⟩
theorem right_any {B : Nat} (p : Int) (n j l k ku : Nat) (A Au : Option Addr) (d u : List Int) (w : World) (h : RdI w B A l d) (hd : Hd A l k) (hu : RdI w B Au n u) (hB : B ≤ w.heap.size) (hl : l = n * n * n) (hj : j < n) (hn : n ≤ 100) (hp1 : 2 ≤ p) (hp2 : p ≤ 10007) (hr : resB d p = true) (hru : resB u p = true) :
    Calls Try.prog 99 #[.agg #[.int .i64 p, .int .i64 n, .slice A l k], .slice Au n ku, .int .i64 j] w (RetI (rgV n p d u j n) w) := by
  have HL := Lib.hid hl
  have HR := Lib.hid (show ∀ i j k, 0 ≤ tA n d i j k ∧ tA n d i j k < p from tA_bd (by omega) hr)
  have HU := Lib.hid (show ∀ j, 0 ≤ gI u j ∧ gI u j < p from fun j => gI_res (by omega) hru j)
  have HB := Lib.hid (show ∀ m k, 0 ≤ gI (rgV n p d u j m) k ∧ gI (rgV n p d u j m) k < p from fun m k => rgV_bd (by omega) d u j m k)
  have HZ0 := Lib.hid (rgV_zero n p d u j)
  clear hl hr hru
  go_enter Try.func99, Try.ntmps99
  go_wp2_with (at_make; refine wpList_mkI _ rfl _ _ 22 rfl 3 Try.underlying22 Try.infoI .i64 .i64 _ _ n rfl rfl (by omega) (by omega) (by omega) ?_; intro w1 ho hb hs1)
  rw [World.size_alloc] at *
  have hx1 := ((Box.new w _ _).below hb (by simp) : Box w1 w.heap.size #[.int .i64 p, .int .i64 n, .slice A l k])
  have hq1 : Below w.heap.size w w1 := (by repeat' (first | (with_reducible exact Below.refl _ _) | (with_reducible refine Below.setCell ?_ (by first | exact Nat.le_refl _ | omega | (simp only [World.size_alloc, World.size_setCell, World.heap_drewN]; omega) | (simp; omega)) _) | (with_reducible refine Below.alloc ?_ (by first | exact Nat.le_refl _ | omega | (simp only [World.size_alloc, World.size_setCell, World.heap_drewN]; omega) | (simp; omega)) _) | (with_reducible refine below_drewN ?_ _) | (with_reducible refine Below.drew ?_) | (with_reducible refine Below.trans ?_ (hb.mono (by first | exact Nat.le_refl _ | omega | (simp only [World.size_alloc, World.size_setCell, World.heap_drewN]; omega) | (simp; omega))))))
  have ha1 := h.below hq1 hB
  have hu1 := hu.below hq1 hB
  have hsz1 := hb.size
  rw [← HZ0.out] at ho
  clear hb h hu
  go_wp2_with fail
  go_loopw [15] (fun i wr => ∃ m : Nat, m ≤ n ∧ i = .int .i64 m ∧ Chg (w.heap.size + 1) (w.heap.size + 1 + 1) w1 wr ∧ OwI wr (w.heap.size + 1) (w.heap.size + 1 + 1) (some ⟨w.heap.size + 1, 0, none⟩) n (rgV n p d u j m)) (fun i _ => n - (intOf i).toNat)
  case atStart => exact ⟨0, by omega, rfl, Chg.refl _ _ _, ho.tight⟩
  case round =>
    clear ho
    obtain ⟨m, hm, rfl, hch, ho⟩ := hrel
    have hsz := hch.size
    by_cases hlt : m < n
    · have hbw : Below (w.heap.size + 1) w1 wr := hch.below (by omega)
      have hxr := hx1.below hbw (by omega)
      have har := ha1.below hbw (by omega)
      have hur := hu1.below hbw (by omega)
      obtain ⟨bU, oU, rfl⟩ := hur.addr (by omega)
      have hue := hur.at_ hlt
      have huv := HU.out m
      obtain ⟨x0, x1, x2⟩ := hxr.three
      by_cases hz : gI u m = 0
      · have hz' : (gI u m != 0) = false := by simpa using hz
        have HS := Lib.hid (rgV_skip (n := n) (p := p) (d := d) (j := j) hz)
        clear hz
        go_wp2
        go_roundw
        case rel => exact ⟨m + 1, by omega, by go_num, hch, by rw [HS.out]; exact ho⟩
        case measure => simp [intOf]; omega
      · have hz' : (gI u m != 0) = true := by simpa using hz
        clear hz
        obtain ⟨A', k', hd', hp', hpair⟩ := pair_any (p := p) (k := k) hd HL.out hlt hj hn
        have hpr := hp' _ _ _ har
        have HS := Lib.hid (rgV_step (n := n) (p := p) (d := d) (u := u) (j := j) (m := m))
        have q0 := cell_regrown x0
        have q1 := cell_regrown x1
        have q2 := cell_regrown x2
        have cP : ∀ d' os, Calls Try.prog 140 #[.agg #[.int .i64 p, .int .i64 n, .slice A l k], .int .i64 m, .int .i64 j] (grow (redrawn wr d') os) fun e w'' => e = .returned (.slice A' n k') ∧ ∃ p : Regrown, w'' = grow (redrawn wr p.d) p.os :=
          fun d' os => Calls.regrown_of (hpair _)
        clear hp'
        go_wp2_with fail
        (refine wp_region_quiet_last (C := fun w' => ∃ p : Regrown, w' = grow (redrawn wr p.d) p.os) 8 (by kernel_rfl) (by kernel_rfl) (by kernel_rfl) (by kernel_rfl) (by kernel_rfl) (by kernel_rfl) (by kernel_rfl) (by kernel_rfl) ⟨⟨wr.drawn + 1, #[]⟩, by rw [grow_empty]; rfl⟩ ?_; simp only [List.take_succ_cons, List.take_zero, List.drop_succ_cons, List.drop_zero]; (repeat (go_big_quiet_step (exact cP _ _))); refine wpQuiet_nil ?_; rintro W ⟨pp, hW⟩; have hbW : Below wr.heap.size wr W := hW ▸ below_regrown _ _ _; clear hW)
        have hsW := hbW.size
        have hpW := hpr.below hbW (by omega)
        have hoW := ho.below hbW (by omega)
        have hdis : 0 < n → ∀ b2 o2, A' = some ⟨b2, o2, none⟩ → b2 ≠ w.heap.size + 1 := by
          intro h0 b2 o2 e
          obtain ⟨b', o', e', hb', _⟩ := hpW.2.2 h0
          rw [e] at e'; injection e' with e'; injection e' with e1 e2; omega
        clear q0 q1 q2 cP x0 x1 x2
        go_wp2_with fail
        refine (addTo_z (B0 := w.heap.size + 1) (B := w.heap.size + 1 + 1) (w.heap.size + 1) n 0 n n (rgV n p d u j m) (gI u m) A' n k' (prV n d m j) p _ hoW (by omega) hpW (by omega) hdis (Nat.le_refl _) (by omega) hp2 (by omega) (by omega) (fun t ht => by rw [prV_get ht]; exact HR.out _ _ _) (fun t _ => HB.out m _)).mono ?_
        rintro e w6 ⟨rfl, hs6, hc6, ho6⟩
        have hc7 := (hch.trans (Chg.ofBelow hbW (Nat.le_refl _))).trans hc6
        go_wp2
        go_roundw
        case rel => exact ⟨m + 1, by omega, by go_num, hc7, by rw [HS.out]; exact ho6⟩
        case measure => simp [intOf]; omega
    · obtain rfl : n = m := by omega
      have hq3 : Below w.heap.size w wr := hq1.trans ((hch.below (by omega)).mono (by omega))
      go_wp2
      go_ret
      exact ⟨_, _, _, rfl, Hd.self (by unfold maxLen; omega), hq3, (ho.down (by omega)).up (by omega)⟩
end Go.Proofs.Ytgpejighomohlaa
