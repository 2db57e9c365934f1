/- newLie, pair, right; l2Row, l2Get. No condition but what each theorem names. -/
import Derived.Test.YtnkcjekfjlbcdaaGreatDoorAlg
import Derived.Test.YtnkcjekfjlbcdaaGreatDoorRedW
import Derived.Test.YtnkcjekfjlbcdaaGreatDoorLawK
import Derived.Test.YtnkcjekfjlbcdaaGreatDoorLibW
import Derived.Deep.RegionHeld3
namespace Go.Proofs.YtnkcjekfjlbcdaaGreatDoor
set_option linter.unusedVariables false
set_option linter.unusedSimpArgs false
set_option maxRecDepth 20000
open Go.RowKit Go.Sort
set_option maxHeartbeats 2000000
theorem bel_ofDrew {w w' : World} (h : Below w.drew.heap.size w.drew w') : Below w.heap.size w w' := ⟨h.os, h.tape, h.output, h.size, h.block⟩
theorem newLie_any (p n : Int) (A : Option Addr) (l k : Nat) (w : World) :
    Calls Tryz.prog 35 #[.agg #[.int .i64 p, .int .i64 n, .slice A l k]] w (Rv (.agg #[.int .i64 p, .int .i64 n, .slice A l k]) w) := by
  go_enter Tryz.func35, Tryz.ntmps35
  go_wp2
  exact bodyPost_ret (v := .agg #[.int .i64 p, .int .i64 n, .slice A l k]) (by simp [results, Tryz.results35, go_sem]) rfl ⟨rfl, (by repeat' (first | (with_reducible exact Below.refl _ _) | (with_reducible refine Below.setCell ?_ (by first | exact Nat.le_refl _ | omega | (simp only [World.size_alloc, World.size_setCell, World.heap_drewN]; omega) | (simp; omega)) _) | (with_reducible refine Below.alloc ?_ (by first | exact Nat.le_refl _ | omega | (simp only [World.size_alloc, World.size_setCell, World.heap_drewN]; omega) | (simp; omega)) _) | (with_reducible refine below_drewN ?_ _) | (with_reducible refine Below.drew ?_)))⟩
theorem pr_bd {n i j : Nat} (hi : i < n) (hj : j < n) (hn : n ≤ 100) : 0 ≤ (i : Int) * n ∧ (i : Int) * n + j ≤ 10000 ∧ 0 ≤ ((i : Int) * n + j) * n ∧ ((i : Int) * n + j) * n + n ≤ 1000000 ∧ ((i : Int) * n + j) * n = (((i * n + j) * n : Nat) : Int) ∧ ((i : Int) * n + j) * n + n = ((((i * n + j) * n + n : Nat)) : Int) ∧ ((i : Int) * n + j + 1) * n = ((i : Int) * n + j) * n + n := by
  have h1 : i * n + j + 1 ≤ n * n := idx_lt hi hj
  have h2 : n * n ≤ 100 * 100 := Nat.mul_le_mul hn hn
  have h3 := pr_le hi hj
  have h4 : n * n * n ≤ 10000 * 100 := Nat.mul_le_mul h2 hn
  have e1 : (i : Int) * n = ((i * n : Nat) : Int) := by rw [Int.natCast_mul]
  have e2 : ((i : Int) * n + j) * n = (((i * n + j) * n : Nat) : Int) := by rw [Int.natCast_mul, Int.natCast_add, Int.natCast_mul]
  have e3 : ((i : Int) * n + j + 1) * n = ((i : Int) * n + j) * n + n := by rw [Int.add_mul _ 1 _, Int.one_mul]
  refine ⟨by omega, by omega, by omega, by omega, e2, by omega, e3⟩
/-- a part of the table, where it lies: the value does not hang on the world -/
theorem pair_any {p : Int} {n i j l k : Nat} {A : Option Addr} (hd : Hd A l k) (hl : l = n * n * n) (hi : i < n) (hj : j < n) (hn : n ≤ 100) :
    ∃ A' k', Hd A' n k' ∧ (∀ (w : World) (B : Nat) (d : List Int), RdI w B A l d → RdI w B A' n (prV n d i j)) ∧
      ∀ w, Calls Tryz.prog 36 #[.agg #[.int .i64 p, .int .i64 n, .slice A l k], .int .i64 i, .int .i64 j] w (Rv (.slice A' n k') w) := by
  obtain ⟨b1, b2, b3, b4, b5, b6, b7⟩ := pr_bd hi hj hn
  obtain ⟨A', hd', hp', hrun⟩ := part_run (A := A) (n := l) (k := k) (lo := (i * n + j) * n) (hi := (i * n + j) * n + n) (((i : Int) * n + j) * n) (((i : Int) * n + j) * n + n) b5 b6 hd (by omega) (by rw [hl]; exact pr_le hi hj)
  rw [show (i * n + j) * n + n - (i * n + j) * n = n by omega] at hd' hp' hrun
  refine ⟨A', _, hd', hp', fun w => ?_⟩
  clear hp' hd' b5 b6 b7 hl
  go_enter Tryz.func36, Tryz.ntmps36
  go_wp2
  go_ret
  exact ⟨rfl, (by repeat' (first | (with_reducible exact Below.refl _ _) | (with_reducible refine Below.setCell ?_ (by first | exact Nat.le_refl _ | omega | (simp only [World.size_alloc, World.size_setCell, World.heap_drewN]; omega) | (simp; omega)) _) | (with_reducible refine Below.alloc ?_ (by first | exact Nat.le_refl _ | omega | (simp only [World.size_alloc, World.size_setCell, World.heap_drewN]; omega) | (simp; omega)) _) | (with_reducible refine below_drewN ?_ _) | (with_reducible refine Below.drew ?_)))⟩
theorem l2Row_any {p : Int} {n i j l k : Nat} {A : Option Addr} (hd : Hd A l k) (hl : l = n * n * n) (hi : i < n) (hj : j < n) (hn : n ≤ 100) :
    ∃ A' k', Hd A' n k' ∧ (∀ (w : World) (B : Nat) (d : List Int), RdI w B A l d → RdI w B A' n (prV n d i j)) ∧
      ∀ w, Calls Tryz.prog 52 #[.agg #[.int .i64 p, .int .i64 n, .slice A l k], .int .i64 i, .int .i64 j] w (Rv (.slice A' n k') w) := by
  obtain ⟨b1, b2, b3, b4, b5, b6, b7⟩ := pr_bd hi hj hn
  obtain ⟨A', hd', hp', hrun⟩ := part_run (A := A) (n := l) (k := k) (lo := (i * n + j) * n) (hi := (i * n + j) * n + n) (((i : Int) * n + j) * n) (((i : Int) * n + j + 1) * n) b5 (by rw [b7]; exact b6) hd (by omega) (by rw [hl]; exact pr_le hi hj)
  rw [show (i * n + j) * n + n - (i * n + j) * n = n by omega] at hd' hp' hrun
  refine ⟨A', _, hd', hp', fun w => ?_⟩
  have c1 : 0 ≤ ((i : Int) * n + j + 1) * n := by omega
  have c2 : ((i : Int) * n + j + 1) * n ≤ 1000000 := by omega
  clear hp' hd' b5 b6 b7 hl
  go_enter Tryz.func52, Tryz.ntmps52
  go_wp2
  go_ret
  exact ⟨rfl, (by repeat' (first | (with_reducible exact Below.refl _ _) | (with_reducible refine Below.setCell ?_ (by first | exact Nat.le_refl _ | omega | (simp only [World.size_alloc, World.size_setCell, World.heap_drewN]; omega) | (simp; omega)) _) | (with_reducible refine Below.alloc ?_ (by first | exact Nat.le_refl _ | omega | (simp only [World.size_alloc, World.size_setCell, World.heap_drewN]; omega) | (simp; omega)) _) | (with_reducible refine below_drewN ?_ _) | (with_reducible refine Below.drew ?_)))⟩
theorem l2Get_any {B : Nat} {p : Int} {n i j t l k : Nat} {A : Option Addr} {d : List Int} (w : World) (h : RdI w B A l d) (hB : B ≤ w.heap.size) (hl : l = n * n * n) (hi : i < n) (hj : j < n) (ht : t < n) (hn : n ≤ 100) :
    Calls Tryz.prog 28 #[.agg #[.int .i64 p, .int .i64 n, .slice A l k], .int .i64 i, .int .i64 j, .int .i64 t] w (Rv (.int .i64 (tA n d i j t)) w) := by
  obtain ⟨b1, b2, b3, b4, b5, b6, b7⟩ := pr_bd hi hj hn
  have hlt : (i * n + j) * n + t < l := by rw [hl]; exact tA_lt hi hj ht
  obtain ⟨b, o, rfl⟩ := h.addr (by omega)
  have hc := (h.alloc hB (.cells #[.int .i64 p, .int .i64 n, .slice (some ⟨b, o, none⟩) l k] 24)).at_ hlt
  have c1 : ((i : Int) * n + j) * n + t < l := by rw [b5]; omega
  have c2 : (((i : Int) * n + j) * n + t).toNat = (i * n + j) * n + t := by rw [b5]; omega
  have c3 : 0 ≤ ((i : Int) * n + j) * n + t := by omega
  have HT := Lib.hid (show gI d ((i * n + j) * n + t) = tA n d i j t from rfl)
  clear b5 b6 b7 hl
  go_enter Tryz.func28, Tryz.ntmps28
  go_wp2
  go_ret
  exact ⟨by rw [← HT.out]; rfl, (by repeat' (first | (with_reducible exact Below.refl _ _) | (with_reducible refine Below.setCell ?_ (by first | exact Nat.le_refl _ | omega | (simp only [World.size_alloc, World.size_setCell, World.heap_drewN]; omega) | (simp; omega)) _) | (with_reducible refine Below.alloc ?_ (by first | exact Nat.le_refl _ | omega | (simp only [World.size_alloc, World.size_setCell, World.heap_drewN]; omega) | (simp; omega)) _) | (with_reducible refine below_drewN ?_ _) | (with_reducible refine Below.drew ?_)))⟩
theorem right_any {B : Nat} (p : Int) (n j l k ku : Nat) (A Au : Option Addr) (d u : List Int) (w : World) (h : RdI w B A l d) (hd : Hd A l k) (hu : RdI w B Au n u) (hB : B ≤ w.heap.size) (hl : l = n * n * n) (hj : j < n) (hn : n ≤ 100) (hp1 : 2 ≤ p) (hp2 : p ≤ 10007) (hr : resB d p = true) (hru : resB u p = true) :
    Calls Tryz.prog 49 #[.agg #[.int .i64 p, .int .i64 n, .slice A l k], .slice Au n ku, .int .i64 j] w (RetI (rgV n p d u j n) w) := by
  have HL := Lib.hid hl
  have HR := Lib.hid (show ∀ i j k, 0 ≤ tA n d i j k ∧ tA n d i j k < p from tA_bd (by omega) hr)
  have HU := Lib.hid (show ∀ j, 0 ≤ gI u j ∧ gI u j < p from fun j => gI_res (by omega) hru j)
  have HB := Lib.hid (show ∀ m k, 0 ≤ gI (rgV n p d u j m) k ∧ gI (rgV n p d u j m) k < p from fun m k => rgV_bd (by omega) d u j m k)
  have HZ0 := Lib.hid (rgV_zero n p d u j)
  clear hl hr hru
  go_enter Tryz.func49, Tryz.ntmps49
  go_wp2_with (at_make; refine wpList_mkI _ rfl _ _ 22 rfl 3 Tryz.underlying22 Tryz.infoI .i64 .i64 _ _ n rfl rfl (by omega) (by omega) (by omega) ?_; intro w1 ho hb hs1)
  rw [World.size_alloc] at *
  have hx1 := ((Box.new w _ _).below hb (by simp) : Box w1 w.heap.size #[.int .i64 p, .int .i64 n, .slice A l k])
  have hq1 : Below w.heap.size w w1 := (by repeat' (first | (with_reducible exact Below.refl _ _) | (with_reducible refine Below.setCell ?_ (by first | exact Nat.le_refl _ | omega | (simp only [World.size_alloc, World.size_setCell, World.heap_drewN]; omega) | (simp; omega)) _) | (with_reducible refine Below.alloc ?_ (by first | exact Nat.le_refl _ | omega | (simp only [World.size_alloc, World.size_setCell, World.heap_drewN]; omega) | (simp; omega)) _) | (with_reducible refine below_drewN ?_ _) | (with_reducible refine Below.drew ?_) | (with_reducible refine Below.trans ?_ (hb.mono (by first | exact Nat.le_refl _ | omega | (simp only [World.size_alloc, World.size_setCell, World.heap_drewN]; omega) | (simp; omega))))))
  have ha1 := h.below hq1 hB
  have hu1 := hu.below hq1 hB
  have hsz1 := hb.size
  rw [← HZ0.out] at ho
  clear hb h hu
  go_wp2_with fail
  go_loopw [15] (fun i wr => ∃ m : Nat, m ≤ n ∧ i = .int .i64 m ∧ Chg (w.heap.size + 1) (w.heap.size + 1 + 1) w1 wr ∧ OwI wr (w.heap.size + 1) (w.heap.size + 1 + 1) (some ⟨w.heap.size + 1, 0, none⟩) n (rgV n p d u j m)) (fun i _ => n - (intOf i).toNat)
  case atStart => exact ⟨0, by omega, rfl, Chg.refl _ _ _, ho.tight⟩
  case round =>
    clear ho
    obtain ⟨m, hm, rfl, hch, ho⟩ := hrel
    have hsz := hch.size
    by_cases hlt : m < n
    · have hbw : Below (w.heap.size + 1) w1 wr := hch.below (by omega)
      have hxr := hx1.below hbw (by omega)
      have har := ha1.below hbw (by omega)
      have hur := hu1.below hbw (by omega)
      obtain ⟨bU, oU, rfl⟩ := hur.addr (by omega)
      have hue := hur.at_ hlt
      have huv := HU.out m
      obtain ⟨x0, x1, x2⟩ := hxr.three
      by_cases hz : gI u m = 0
      · have hz' : (gI u m != 0) = false := by simpa using hz
        have HS := Lib.hid (rgV_skip (n := n) (p := p) (d := d) (j := j) hz)
        clear hz
        go_wp2
        go_roundw
        case rel => exact ⟨m + 1, by omega, by go_num, hch, by rw [HS.out]; exact ho⟩
        case measure => simp [intOf]; omega
      · have hz' : (gI u m != 0) = true := by simpa using hz
        clear hz
        obtain ⟨A', k', hd', hp', hpair⟩ := pair_any (p := p) (k := k) hd HL.out hlt hj hn
        have hpr := hp' _ _ _ har
        have HS := Lib.hid (rgV_step (n := n) (p := p) (d := d) (u := u) (j := j) (m := m))
        have q0 := cell_regrown x0
        have q1 := cell_regrown x1
        have q2 := cell_regrown x2
        have cP : ∀ d' os, Calls Tryz.prog 36 #[.agg #[.int .i64 p, .int .i64 n, .slice A l k], .int .i64 m, .int .i64 j] (grow (redrawn wr d') os) fun e w'' => e = .returned (.slice A' n k') ∧ ∃ p : Regrown, w'' = grow (redrawn wr p.d) p.os :=
          fun d' os => Calls.regrown_of (hpair _)
        clear hp'
        go_wp2_with fail
        (refine wp_region_quiet_last (C := fun w' => ∃ p : Regrown, w' = grow (redrawn wr p.d) p.os) 8 (by kernel_rfl) (by kernel_rfl) (by kernel_rfl) (by kernel_rfl) (by kernel_rfl) (by kernel_rfl) (by kernel_rfl) (by kernel_rfl) ⟨⟨wr.drawn + 1, #[]⟩, by rw [grow_empty]; rfl⟩ ?_; simp only [List.take_succ_cons, List.take_zero, List.drop_succ_cons, List.drop_zero]; (repeat (go_big_quiet_step (exact cP _ _))); refine wpQuiet_nil ?_; rintro W ⟨pp, hW⟩; have hbW : Below wr.heap.size wr W := hW ▸ below_regrown _ _ _; clear hW)
        have hsW := hbW.size
        have hpW := hpr.below hbW (by omega)
        have hoW := ho.below hbW (by omega)
        have hdis : 0 < n → ∀ b2 o2, A' = some ⟨b2, o2, none⟩ → b2 ≠ w.heap.size + 1 := by
          intro h0 b2 o2 e
          obtain ⟨b', o', e', hb', _⟩ := hpW.2.2 h0
          rw [e] at e'; injection e' with e'; injection e' with e1 e2; omega
        clear q0 q1 q2 cP x0 x1 x2
        go_wp2_with fail
        refine (addTo_z (B0 := w.heap.size + 1) (B := w.heap.size + 1 + 1) (w.heap.size + 1) n 0 n n (rgV n p d u j m) (gI u m) A' n k' (prV n d m j) p _ hoW (by omega) hpW (by omega) hdis (Nat.le_refl _) (by omega) hp2 (by omega) (by omega) (fun t ht => by rw [prV_get ht]; exact HR.out _ _ _) (fun t _ => HB.out m _)).mono ?_
        rintro e w6 ⟨rfl, hs6, hc6, ho6⟩
        have hc7 := (hch.trans (Chg.ofBelow hbW (Nat.le_refl _))).trans hc6
        go_wp2
        go_roundw
        case rel => exact ⟨m + 1, by omega, by go_num, hc7, by rw [HS.out]; exact ho6⟩
        case measure => simp [intOf]; omega
    · obtain rfl : n = m := by omega
      have hq3 : Below w.heap.size w wr := hq1.trans ((hch.below (by omega)).mono (by omega))
      go_wp2
      go_ret
      exact ⟨_, _, _, rfl, Hd.self (by unfold maxLen; omega), hq3, (ho.down (by omega)).up (by omega)⟩
end Go.Proofs.YtnkcjekfjlbcdaaGreatDoor
namespace Go.Proofs.YtnkcjekfjlbcdaaGreatDoor
set_option linter.unusedVariables false
set_option linter.unusedSimpArgs false
set_option maxRecDepth 20000
open Go.RowKit Go.Sort
set_option maxHeartbeats 2000000
theorem l2Basis_any (n i : Nat) (w : World) (hn : n ≤ 1000000) (hi : i < n) :
    Calls Tryz.prog 53 #[.int .i64 n, .int .i64 i] w (RetI (unitV n i) w) := by
  go_enter Tryz.func53, Tryz.ntmps53
  go_wp2_with (at_make; refine wpList_mkI _ rfl _ _ 22 rfl 3 Tryz.underlying22 Tryz.infoI .i64 .i64 _ _ n rfl rfl (by omega) (by omega) (by omega) ?_; intro w1 ho hb hs; obtain ⟨hcl, hfz⟩ := ho.at_ hi; rw [Nat.zero_add] at hcl hfz)
  go_ret
  exact ⟨_, _, _, rfl, Hd.self (by unfold maxLen; omega), hb.setCell (by simp) _, by have := ho.store (v := 1) hi; unfold unitV; simpa using this⟩
theorem rgV_at (n : Nat) (p : Int) (d u : List Int) (t i k : Nat) (hk : k ≤ n) : ∀ l, l < n → gI (addAt (rgV n p d u t i) 0 (gI u i) (prV n d i t) p k) l = if l < k then gI (rgV n p d u t (i + 1)) l else gI (rgV n p d u t i) l := by
  intro l hl
  rw [rgV_step, addAt_get _ _ _ _ _ _ (by rw [rgV_len]; omega)]
  by_cases h : l < k
  · rw [if_pos ⟨by omega, by omega⟩, if_pos h, addAt_get _ _ _ _ _ _ (by rw [rgV_len]; omega), if_pos ⟨by omega, by omega⟩]
  · rw [if_neg (by omega), if_neg h]
theorem addAt_set {D ys : List Int} {v p : Int} {k : Nat} (hk : k < D.length) : addAt D 0 v ys p (k + 1) = (addAt D 0 v ys p k).set k ((gI (addAt D 0 v ys p k) k + v * gI ys k) % p) := by
  refine ext_gI (by simp [addAt_len]) fun l hl => ?_
  rw [addAt_len] at hl
  rw [gI_set _ _ _ _ (by rw [addAt_len]; exact hk), addAt_get _ _ _ _ _ _ (by omega), addAt_get _ _ _ _ _ _ (by omega), addAt_get _ _ _ _ _ _ (by omega)]
  by_cases e : l = k
  · subst e
    rw [if_pos ⟨by omega, by omega⟩, if_pos rfl, if_neg (by omega), Nat.sub_zero]
  · rw [if_neg e]
    by_cases h : l < k
    · rw [if_pos ⟨by omega, by omega⟩, if_pos ⟨by omega, by omega⟩]
    · rw [if_neg (by omega), if_neg (by omega)]
theorem addAt_bd {D ys : List Int} {v p : Int} {k : Nat} (hp : 1 ≤ p) (hk : k ≤ D.length) (hD : ∀ j, 0 ≤ gI D j ∧ gI D j < p) (j : Nat) : 0 ≤ gI (addAt D 0 v ys p k) j ∧ gI (addAt D 0 v ys p k) j < p := by
  rw [addAt_get _ _ _ _ _ _ (by omega)]
  split
  · exact mod_bd hp
  · exact hD j
set_option maxRecDepth 100000 in
theorem l2Bracket_any {B : Nat} (p : Int) (n t l k kx ky : Nat) (A Ax Ay : Option Addr) (d x : List Int) (w : World) (h : RdI w B A l d) (hd : Hd A l k) (hx : RdI w B Ax n x) (hy : RdI w B Ay n (unitV n t)) (hB : B ≤ w.heap.size) (hl : l = n * n * n) (ht : t < n) (hn : n ≤ 100) (hp1 : 2 ≤ p) (hp2 : p ≤ 10007) (hr : resB d p = true) (hrx : resB x p = true) :
    Calls Tryz.prog 51 #[.agg #[.int .i64 p, .int .i64 n, .slice A l k], .slice Ax n kx, .slice Ay n ky] w (RetI (rgV n p d x t n) w) := by
  have HL := Lib.hid hl
  have HR := Lib.hid (show ∀ i j k, 0 ≤ tA n d i j k ∧ tA n d i j k < p from tA_bd (by omega) hr)
  have HU := Lib.hid (show ∀ j, 0 ≤ gI x j ∧ gI x j < p from fun j => gI_res (by omega) hrx j)
  have HB := Lib.hid (show ∀ m k, 0 ≤ gI (rgV n p d x t m) k ∧ gI (rgV n p d x t m) k < p from fun m k => rgV_bd (by omega) d x t m k)
  have HZ0 := Lib.hid (rgV_zero n p d x t)
  have hpe : (p == 0) = false := by simp; omega
  clear hl hr hrx
  go_enter Tryz.func51, Tryz.ntmps51
  go_wp2_with (at_make; refine wpList_mkI _ rfl _ _ 22 rfl 3 Tryz.underlying22 Tryz.infoI .i64 .i64 _ _ n rfl rfl (by omega) (by omega) (by omega) ?_; intro w1 ho hb hs1)
  rw [World.size_alloc] at *
  have hx1 := ((Box.new w _ _).below hb (by simp) : Box w1 w.heap.size #[.int .i64 p, .int .i64 n, .slice A l k])
  have hq1 : Below w.heap.size w w1 := (by repeat' (first | (with_reducible exact Below.refl _ _) | (with_reducible refine Below.setCell ?_ (by first | exact Nat.le_refl _ | omega | (simp only [World.size_alloc, World.size_setCell, World.heap_drewN]; omega) | (simp; omega)) _) | (with_reducible refine Below.alloc ?_ (by first | exact Nat.le_refl _ | omega | (simp only [World.size_alloc, World.size_setCell, World.heap_drewN]; omega) | (simp; omega)) _) | (with_reducible refine below_drewN ?_ _) | (with_reducible refine Below.drew ?_) | (with_reducible refine Below.trans ?_ (hb.mono (by first | exact Nat.le_refl _ | omega | (simp only [World.size_alloc, World.size_setCell, World.heap_drewN]; omega) | (simp; omega))))))
  have ha1 := h.below hq1 hB
  have hu1 := hx.below hq1 hB
  have hy1 := hy.below hq1 hB
  have hsz1 := hb.size
  rw [← HZ0.out] at ho
  clear hb h hx hy
  go_wp2_with fail
  go_loopw [9] (fun i wr => ∃ m : Nat, m ≤ n ∧ i = .int .i64 m ∧ Chg (w.heap.size + 1) (w.heap.size + 1 + 1) w1 wr ∧ OwI wr (w.heap.size + 1) (w.heap.size + 1 + 1) (some ⟨w.heap.size + 1, 0, none⟩) n (rgV n p d x t m)) (fun i _ => n - (intOf i).toNat)
  case atStart => exact ⟨0, by omega, rfl, Chg.refl _ _ _, ho.tight⟩
  case round =>
    clear ho
    obtain ⟨m, hm, rfl, hch, ho⟩ := hrel
    have hsz := hch.size
    by_cases hlt : m < n
    · have hur := hu1.below (hch.below (by omega)) (by omega)
      obtain ⟨bU, oU, rfl⟩ := hur.addr (by omega)
      have hue := hur.at_ hlt
      have huv := HU.out m
      by_cases hz : gI x m = 0
      · have hz' : (gI x m == 0) = true := by simpa using hz
        have HS := Lib.hid (rgV_skip (n := n) (p := p) (d := d) (j := t) hz)
        clear hz
        go_wp2
        go_roundw
        case rel => exact ⟨m + 1, by omega, by go_num, hch, by rw [HS.out]; exact ho⟩
        case measure => simp [intOf]; omega
      · have hz' : (gI x m == 0) = false := by simpa using hz
        have HZ := Lib.hid hz
        clear hz
        go_wp2_with fail
        obtain ⟨wo, rfl⟩ : ∃ wo : World, wo = wr := ⟨_, rfl⟩
        go_loopw [10] (fun i wr => ∃ j : Nat, j ≤ n ∧ i = .int .i64 j ∧ Chg (w.heap.size + 1) (w.heap.size + 1 + 1) w1 wr ∧ OwI wr (w.heap.size + 1) (w.heap.size + 1 + 1) (some ⟨w.heap.size + 1, 0, none⟩) n (rgV n p d x t (if t < j then m + 1 else m))) (fun i _ => n - (intOf i).toNat)
        case atStart => exact ⟨0, by omega, rfl, hch, by rw [if_neg (by omega)]; exact ho⟩
        case round =>
          clear hch ho hur hue hz' hsz
          obtain ⟨j, hj, rfl, hch, ho⟩ := hrel
          have hsz := hch.size
          have hxr := hx1.below (hch.below (by omega)) (by omega)
          have hur := hu1.below (hch.below (by omega)) (by omega)
          have hyr := hy1.below (hch.below (by omega)) (by omega)
          have hue := hur.at_ hlt
          obtain ⟨x0, x1, x2⟩ := hxr.three
          by_cases hlj : j < n
          · obtain ⟨bY, oY, rfl⟩ := hyr.addr (by omega)
            have hye := hyr.at_ hlj
            rw [unitV_get ht] at hye
            by_cases hjt : j = t
            · rw [if_pos hjt] at hye
              obtain rfl : t = j := hjt.symm
              rw [if_neg (by omega)] at ho
              have hz2 : (gI x m != 0) = true := by simpa using HZ.out
              have huv := HU.out m
              have ht1 : (gI x m).tmod p = gI x m := Int.tmod_eq_of_lt huv.1 huv.2
              have ht2 : gI x m % p = gI x m := Int.emod_eq_of_lt huv.1 huv.2
              go_wp2_with fail
              go_quiet (fail)
              clear ht1 ht2 hye hue x0 x1 x2
              go_wp2_with fail
              obtain ⟨w2, hw2⟩ : ∃ w2 : World, w2 = wr := ⟨_, rfl⟩
              go_loopw [12] (fun i wr => ∃ k' : Nat, k' ≤ n ∧ i = .int .i64 k' ∧ Chg (w.heap.size + 1) (w.heap.size + 1 + 1) w1 wr ∧ OwI wr (w.heap.size + 1) (w.heap.size + 1 + 1) (some ⟨w.heap.size + 1, 0, none⟩) n (addAt (rgV n p d x t m) 0 (gI x m) (prV n d m t) p k')) (fun i _ => n - (intOf i).toNat)
              case atStart => exact ⟨0, by omega, rfl, hch.drewN _, ho⟩
              case round =>
                clear hch ho hxr hur hyr hsz
                obtain ⟨k', hk', rfl, hch, ho⟩ := hrel
                have hsz := hch.size
                have hxr := hx1.below (hch.below (by omega)) (by omega)
                have har := ha1.below (hch.below (by omega)) (by omega)
                obtain ⟨x0, x1, x2⟩ := hxr.three
                by_cases hlk : k' < n
                · obtain ⟨hcd, hfd⟩ := ho.at_ hlk
                  rw [Nat.zero_add] at hcd hfd
                  have hDb := addAt_bd (D := rgV n p d x t m) (ys := prV n d m t) (v := gI x m) (p := p) (k := k') (by omega) (by rw [rgV_len]; exact hk') (HB.out m) k'
                  have HS := Lib.hid (show addAt (rgV n p d x t m) 0 (gI x m) (prV n d m t) p (k' + 1) = (addAt (rgV n p d x t m) 0 (gI x m) (prV n d m t) p k').set k' ((gI (addAt (rgV n p d x t m) 0 (gI x m) (prV n d m t) p k') k' + gI x m * tA n d m t k') % p) by rw [addAt_set (by rw [rgV_len]; exact hlk), prV_get hlk])
                  have htb := HR.out m t k'
                  generalize addAt (rgV n p d x t m) 0 (gI x m) (prV n d m t) p k' = D at *
                  have m1 : 0 ≤ gI x m * tA n d m t k' := Int.mul_nonneg huv.1 htb.1
                  have m2 : gI x m * tA n d m t k' ≤ 10007 * 10007 := Int.mul_le_mul (by omega) (by omega) htb.1 (by omega)
                  have hwr3 : IntKind.i64.wrap (gI x m * tA n d m t k') = gI x m * tA n d m t k' := IntWalk.i64_in _ (by omega)
                  have hwr4 : IntKind.i64.wrap (gI D k' + gI x m * tA n d m t k') = gI D k' + gI x m * tA n d m t k' := IntWalk.i64_in _ (by omega)
                  have htm : (gI D k' + gI x m * tA n d m t k').tmod p = (gI D k' + gI x m * tA n d m t k') % p := Int.tmod_eq_emod_of_nonneg (by omega)
                  have hmb := mod_bd (x := gI D k' + gI x m * tA n d m t k') (p := p) (by omega)
                  have hwr5 : IntKind.i64.wrap ((gI D k' + gI x m * tA n d m t k') % p) = (gI D k' + gI x m * tA n d m t k') % p := IntWalk.i64_in _ (by omega)
                  have q0 := cell_regrown x0
                  have q1 := cell_regrown x1
                  have q2 := cell_regrown x2
                  have q3 := cell_regrown hcd
                  have cG : ∀ d' os, Calls Tryz.prog 28 #[.agg #[.int .i64 p, .int .i64 n, .slice A l k], .int .i64 m, .int .i64 t, .int .i64 k'] (grow (redrawn wr d') os) fun e w'' => e = .returned (.int .i64 (tA n d m t k')) ∧ ∃ p : Regrown, w'' = grow (redrawn wr p.d) p.os :=
                    fun d' os => Calls.regrown_of (l2Get_any (B := B) _ (har.below (below_regrown wr d' os) (by omega)) (by have := (below_regrown wr d' os).size; omega) HL.out hlt ht hlk hn)
                  clear x0 x1 x2
                  go_wp2_with fail
                  (refine wp_region_quiet_last (C := fun w' => ∃ p : Regrown, w' = grow (redrawn wr p.d) p.os) 18 (by kernel_rfl) (by kernel_rfl) (by kernel_rfl) (by kernel_rfl) (by kernel_rfl) (by kernel_rfl) (by kernel_rfl) (by kernel_rfl) ⟨⟨wr.drawn + 1, #[]⟩, by rw [grow_empty]; rfl⟩ ?_; simp only [List.take_succ_cons, List.take_zero, List.drop_succ_cons, List.drop_zero]; (repeat (go_big_quiet_step (exact cG _ _))); refine wpQuiet_nil ?_; rintro W ⟨pp, hW⟩; have hbW : Below wr.heap.size wr W := hW ▸ below_regrown _ _ _; clear hW)
                  have hor6 := ho.below hbW (by omega)
                  obtain ⟨hcl6, hfr6⟩ := hor6.at_ hlk
                  rw [Nat.zero_add] at hcl6 hfr6
                  have hs6 := hbW.size
                  have hst := hor6.store (v := (gI D k' + gI x m * tA n d m t k') % p) hlk
                  rw [Nat.zero_add] at hst
                  clear q0 q1 q2 q3 cG
                  go_wp2
                  go_roundw
                  case rel => exact ⟨k' + 1, by omega, by go_num, (hch.trans (Chg.ofBelow hbW (Nat.le_refl _))).setCell (by simp) (by simp) _, by rw [HS.out]; exact hst⟩
                  case measure => simp [intOf]; omega
                · obtain rfl : n = k' := by omega
                  rw [← rgV_step] at ho
                  go_wp2
                  go_roundw
                  case rel => exact ⟨t + 1, by omega, by go_num, hch, by rw [if_pos (by omega)]; exact ho⟩
                  case measure => simp [intOf]; omega
            · rw [if_neg hjt] at hye
              have hif : (if t < j then m + 1 else m) = (if t < j + 1 then m + 1 else m) := by
                by_cases h : t < j
                · rw [if_pos h, if_pos (by omega)]
                · rw [if_neg h, if_neg (by omega)]
              rw [hif] at ho
              have HIF := Lib.hid hif
              clear hif
              go_wp2_with fail
              go_quiet (fail)
              clear hye hue x0 x1 x2
              go_wp2_with fail
              have HCH := Lib.hid (hch.drewN nq)
              have HO := Lib.hid (ho.drewN nq)
              go_loop [12] (fun k => k = .int .i64 0) (fun _ => 0)
              case atStart => rfl
              case round =>
                obtain rfl := hrel
                go_wp2
                go_roundw
                case rel => exact ⟨j + 1, by omega, by go_num, HCH.out, HO.out⟩
                case measure => simp [intOf]; omega
          · obtain rfl : n = j := by omega
            rw [if_pos ht] at ho
            go_wp2
            go_roundw
            case rel => exact ⟨m + 1, by omega, by go_num, hch, ho⟩
            case measure => simp [intOf]; omega
    · obtain rfl : n = m := by omega
      have hq3 : Below w.heap.size w wr := hq1.trans ((hch.below (by omega)).mono (by omega))
      go_wp2
      go_ret
      exact ⟨_, _, _, rfl, Hd.self (by unfold maxLen; omega), hq3, (ho.down (by omega)).up (by omega)⟩
/-- the first m sums -/
def plP (n : Nat) (p : Int) (x y : List Int) (m : Nat) : List Int := (List.range n).map fun i => if i < m then (gI x i + gI y i) % p else 0
def plV (n : Nat) (p : Int) (x y : List Int) : List Int := (List.range n).map fun i => (gI x i + gI y i) % p
theorem plP_len (n : Nat) (p : Int) (x y : List Int) (m : Nat) : (plP n p x y m).length = n := by simp [plP]
theorem plP_zero (n : Nat) (p : Int) (x y : List Int) : plP n p x y 0 = List.replicate n 0 := by
  refine ext_gI (by simp [plP]) fun k hk => ?_
  rw [plP_len] at hk
  unfold plP
  rw [map_get hk, gI_rep]; simp
theorem plP_full (n : Nat) (p : Int) (x y : List Int) : plP n p x y n = plV n p x y := by
  refine List.map_congr_left fun i hi => ?_
  rw [if_pos (by simpa using hi)]
theorem plP_succ {n : Nat} {p : Int} {x y : List Int} {m : Nat} (hm : m < n) : plP n p x y (m + 1) = (plP n p x y m).set m ((gI x m + gI y m) % p) := by
  refine ext_gI (by simp [plP]) fun l hl => ?_
  rw [plP_len] at hl
  rw [gI_set _ _ _ _ (by rw [plP_len]; exact hm)]
  unfold plP
  rw [map_get hl, map_get hl]
  by_cases e : l = m
  · subst e; rw [if_pos (by omega), if_pos rfl]
  · rw [if_neg e]
    by_cases h : l < m
    · rw [if_pos h, if_pos (by omega)]
    · rw [if_neg h, if_neg (by omega)]
theorem plV_bd {n : Nat} {p : Int} (hp : 1 ≤ p) (x y : List Int) (k : Nat) : 0 ≤ gI (plV n p x y) k ∧ gI (plV n p x y) k < p := by
  rcases Nat.lt_or_ge k n with h | h
  · unfold plV; rw [map_get h]; exact mod_bd hp
  · rw [gI_ge (by simpa [plV] using h)]; omega
theorem l2Plus_any {B : Nat} (p : Int) (n kx ky : Nat) (Ax Ay : Option Addr) (x y : List Int) (w : World) (hx : RdI w B Ax n x) (hy : RdI w B Ay n y) (hB : B ≤ w.heap.size) (hn : n ≤ 1000000) (hp1 : 2 ≤ p) (hp2 : p ≤ 10007) (hrx : ∀ j, 0 ≤ gI x j ∧ gI x j < p) (hry : ∀ j, 0 ≤ gI y j ∧ gI y j < p) :
    Calls Tryz.prog 54 #[.int .i64 p, .slice Ax n kx, .slice Ay n ky] w (RetI (plV n p x y) w) := by
  have HX := Lib.hid hrx
  have HY := Lib.hid hry
  have HZ0 := Lib.hid (plP_zero n p x y)
  have HF := Lib.hid (plP_full n p x y)
  have hpe : (p == 0) = false := by simp; omega
  clear hrx hry
  go_enter Tryz.func54, Tryz.ntmps54
  go_wp2_with (at_make; refine wpList_mkI _ rfl _ _ 22 rfl 3 Tryz.underlying22 Tryz.infoI .i64 .i64 _ _ n rfl rfl (by omega) (by omega) (by omega) ?_; intro w1 ho hb hs1)
  have hx1 := hx.below hb hB
  have hy1 := hy.below hb hB
  have hsz1 := hb.size
  rw [← HZ0.out] at ho
  clear hx hy
  go_wp2_with fail
  go_loopw [8] (fun i wr => ∃ m : Nat, m ≤ n ∧ i = .int .i64 m ∧ Chg w.heap.size (w.heap.size + 1) w1 wr ∧ OwI wr w.heap.size (w.heap.size + 1) (some ⟨w.heap.size, 0, none⟩) n (plP n p x y m)) (fun i _ => n - (intOf i).toNat)
  case atStart => exact ⟨0, by omega, rfl, Chg.refl _ _ _, ho.tight⟩
  case round =>
    clear ho
    obtain ⟨m, hm, rfl, hch, ho⟩ := hrel
    have hsz := hch.size
    by_cases hlt : m < n
    · have hxr := hx1.below (hch.below (by omega)) (by omega)
      have hyr := hy1.below (hch.below (by omega)) (by omega)
      obtain ⟨bX, oX, rfl⟩ := hxr.addr (by omega)
      obtain ⟨bY, oY, rfl⟩ := hyr.addr (by omega)
      have hxe := hxr.at_ hlt
      have hye := hyr.at_ hlt
      have hxv := HX.out m
      have hyv := HY.out m
      have HS := Lib.hid (plP_succ (p := p) (x := x) (y := y) hlt)
      have hwr4 : IntKind.i64.wrap (gI x m + gI y m) = gI x m + gI y m := IntWalk.i64_in _ (by omega)
      have htm : (gI x m + gI y m).tmod p = (gI x m + gI y m) % p := Int.tmod_eq_emod_of_nonneg (by omega)
      have hmb := mod_bd (x := gI x m + gI y m) (p := p) (by omega)
      have hwr5 : IntKind.i64.wrap ((gI x m + gI y m) % p) = (gI x m + gI y m) % p := IntWalk.i64_in _ (by omega)
      obtain ⟨hcl, hfr⟩ := ho.at_ hlt
      rw [Nat.zero_add] at hcl hfr
      have hst := ho.store (v := (gI x m + gI y m) % p) hlt
      rw [Nat.zero_add] at hst
      go_wp2_with fail
      (refine wp_region_quiet_last (C := fun w' => ∃ nn, w' = wr.drewN nn) 14 (by kernel_rfl) (by kernel_rfl) (by kernel_rfl) (by kernel_rfl) (by kernel_rfl) (by kernel_rfl) (by kernel_rfl) (by kernel_rfl) ⟨1, rfl⟩ ?_; simp only [List.take_succ_cons, List.take_zero, List.drop_succ_cons, List.drop_zero]; (repeat (go_big_quiet_step (fail))); refine wpQuiet_nil ?_; rintro W ⟨nq, rfl⟩)
      have hst := (ho.drewN nq).store (v := (gI x m + gI y m) % p) hlt
      rw [Nat.zero_add] at hst
      go_wp2
      go_roundw
      case rel => exact ⟨m + 1, by omega, by go_num, (hch.drewN nq).setCell (by simp) (by simp) _, by rw [HS.out]; exact hst⟩
      case measure => simp [intOf]; omega
    · obtain rfl : n = m := by omega
      rw [HF.out] at ho
      have hq3 : Below w.heap.size w wr := hb.trans (hch.below (by omega))
      go_wp2
      go_ret
      exact ⟨_, _, _, rfl, Hd.self (by unfold maxLen; omega), hq3, ho.up (by omega)⟩
end Go.Proofs.YtnkcjekfjlbcdaaGreatDoor
namespace Go.Proofs.YtnkcjekfjlbcdaaGreatDoor
set_option linter.unusedVariables false
set_option linter.unusedSimpArgs false
set_option maxRecDepth 20000
open Go.RowKit
set_option maxHeartbeats 4000000
theorem plV_get {n : Nat} {p : Int} {x y : List Int} {k : Nat} (hk : k < n) : gI (plV n p x y) k = (gI x k + gI y k) % p := by unfold plV; rw [map_get hk]
theorem rgV_get {n : Nat} {p : Int} {d u : List Int} {j m k : Nat} (hk : k < n) : gI (rgV n p d u j m) k = rgS n d u j k m % p := by unfold rgV; rw [map_get hk]
theorem plV_add {n : Nat} {p : Int} {x y : List Int} (hx : x.length = n) : addAt x 0 1 y p n = plV n p x y := by
  refine ext_gI (by rw [addAt_len, hx]; simp [plV]) fun k hk => ?_
  rw [addAt_len, hx] at hk
  rw [addAt_get _ _ _ _ _ _ (by omega), if_pos ⟨by omega, by omega⟩, plV_get hk, Int.one_mul, Nat.sub_zero]
/-- the sum of the three double brackets, as it is reckoned -/
def jaV (n : Nat) (p : Int) (d : List Int) (i j k : Nat) : List Int := plV n p (plV n p (rgV n p d (prV n d i j) k n) (rgV n p d (prV n d j k) i n)) (rgV n p d (prV n d k i) j n)
theorem jaV_zero {n : Nat} {p : Int} {d : List Int} {i j k : Nat} : zeroB (jaV n p d i j k) = jac1 n p d i j k := by
  have hl : (jaV n p d i j k).length = n := by simp [jaV, plV]
  have e : ∀ l, l < n → gI (jaV n p d i j k) l = jaS n p d i j k l := by
    intro l hl
    unfold jaV jaS
    rw [plV_get hl, plV_get hl, rgV_get hl, rgV_get hl, rgV_get hl, ← Int.add_emod, Int.add_assoc, mod_add, Int.add_left_comm, mod_add]
    congr 1; omega
  rw [Bool.eq_iff_iff]
  unfold jac1
  rw [decide_eq_true_eq]
  constructor
  · intro h l hl2
    rw [← e l hl2]
    by_cases h0 : gI (jaV n p d i j k) l = 0
    · exact h0
    · rw [zeroB_false (by rw [hl]; exact hl2) h0] at h; cases h
  · intro h
    exact zeroB_true fun l hl2 => by rw [hl] at hl2; rw [e l hl2]; exact h l hl2
theorem jac_no {n : Nat} {p : Int} {d : List Int} {i j k : Nat} (hk : k < n) (hij : i < j) (hjk : j < k) (h : jac1 n p d i j k = false) : jacB n p d = false := by
  unfold jacB
  rw [decide_eq_false_iff_not]
  intro hA
  rw [hA i (by omega) j (by omega) k hk ⟨hij, hjk⟩] at h
  cases h
theorem jac_yes {n : Nat} {p : Int} {d : List Int} (h : ∀ i, i < n → ∀ j, j < n → ∀ k, k < n → i < j → j < k → jac1 n p d i j k = true) : jacB n p d = true := by
  unfold jacB
  rw [decide_eq_true_eq]
  exact fun i hi j hj k hk ⟨h1, h2⟩ => h i hi j hj k hk h1 h2
set_option maxRecDepth 100000 in
theorem l2Jacobi_any {B : Nat} (p : Int) (n l k : Nat) (A : Option Addr) (d : List Int) (w : World) (h : RdI w B A l d) (hd : Hd A l k) (hB : B ≤ w.heap.size) (hl : l = n * n * n) (hn : n ≤ 100) (hp1 : 2 ≤ p) (hp2 : p ≤ 10007) (hr : resB d p = true) :
    Calls Tryz.prog 38 #[.agg #[.int .i64 p, .int .i64 n, .slice A l k]] w (Rv (.bool (jacB n p d)) w) := by
  have HL := Lib.hid hl
  have HR := Lib.hid hr
  have HRG := Lib.hid (show ∀ u t m j, 0 ≤ gI (rgV n p d u t m) j ∧ gI (rgV n p d u t m) j < p from fun u t m j => rgV_bd (by omega) d u t m j)
  have HPL := Lib.hid (show ∀ x y j, 0 ≤ gI (plV n p x y) j ∧ gI (plV n p x y) j < p from fun x y j => plV_bd (by omega) x y j)
  have HRP := Lib.hid (show ∀ i j, i < n → j < n → resB (prV n d i j) p = true from fun i j hi hj => resB_true fun t ht => by
    rw [prV_len (by rw [h.1]; exact hl) hi hj] at ht
    rw [prV_get ht]; exact tA_bd (by omega) hr i j t)
  have hb0 := h.alloc hB (.cells #[.int .i64 p, .int .i64 n, .slice A l k] 24)
  have hx0 := Box.new w #[.int .i64 p, .int .i64 n, .slice A l k] 24
  clear hl hr h
  go_enter Tryz.func38, Tryz.ntmps38
  go_wp2_with fail
  go_loopw [4] (fun i wr => ∃ i' : Nat, i' ≤ n ∧ i = .int .i64 i' ∧ Below (w.heap.size + 1) (w.alloc (.cells #[.int .i64 p, .int .i64 n, .slice A l k] 24)) wr ∧ Hid (∀ a, a < i' → ∀ b, b < n → ∀ c, c < n → a < b → b < c → jac1 n p d a b c = true)) (fun i _ => n - (intOf i).toNat)
  case atStart => exact ⟨0, by omega, rfl, Below.refl _ _, fun a h => absurd h (by omega)⟩
  case round =>
    obtain ⟨i, hi, rfl, hb, hA⟩ := hrel
    by_cases hlt : i < n
    · go_wp2_with fail
      obtain ⟨wo, rfl⟩ : ∃ wo : World, wo = wr := ⟨_, rfl⟩
      go_loopw [5] (fun j wr => ∃ j' : Nat, j' ≤ n ∧ i < j' ∧ j = .int .i64 j' ∧ Below (w.heap.size + 1) (w.alloc (.cells #[.int .i64 p, .int .i64 n, .slice A l k] 24)) wr ∧ Hid (∀ b, b < j' → ∀ c, c < n → i < b → b < c → jac1 n p d i b c = true)) (fun j _ => n - (intOf j).toNat)
      case atStart => exact ⟨i + 1, by omega, by omega, by go_num, hb, fun b h1 c h2 h3 => absurd h1 (by omega)⟩
      case round =>
        clear hb
        obtain ⟨j, hj, hij, rfl, hb, hA2⟩ := hrel
        by_cases hltj : j < n
        · go_wp2_with fail
          obtain ⟨wo2, rfl⟩ : ∃ wo2 : World, wo2 = wr := ⟨_, rfl⟩
          go_loopw [6] (fun c wr => ∃ c' : Nat, c' ≤ n ∧ j < c' ∧ c = .int .i64 c' ∧ Below (w.heap.size + 1) (w.alloc (.cells #[.int .i64 p, .int .i64 n, .slice A l k] 24)) wr ∧ Hid (∀ c, c < c' → j < c → jac1 n p d i j c = true)) (fun c _ => n - (intOf c).toNat)
          case atStart => exact ⟨j + 1, by omega, by omega, by go_num, hb, fun c h1 h2 => absurd h1 (by omega)⟩
          case round =>
            clear hb
            obtain ⟨c, hc, hjc, rfl, hb, hA3⟩ := hrel
            have hsz := hb.size
            rw [World.size_alloc] at hsz
            by_cases hltc : c < n
            · have hx := hx0.below hb (by omega)
              have ha := hb0.below hb (by omega)
              have hbc := Below.refl wr.heap.size wr
              have hBc : B ≤ wr.heap.size := by omega
              obtain ⟨wc, hwc⟩ : ∃ wc : World, wc = wr := ⟨_, rfl⟩
              have hx : Box wc w.heap.size _ := hwc ▸ hx
              have ha : RdI wc B A l d := hwc ▸ ha
              have hbc : Below wr.heap.size wr wc := hwc ▸ hbc
              have hBc : B ≤ wc.heap.size := hwc ▸ hBc
              obtain ⟨A0, k0, hd0, hpp0, hrow0⟩ := l2Row_any (p := p) (k := k) hd HL.out hlt hltj hn
              obtain ⟨A1, k1, hd1, hpp1, hrow1⟩ := l2Row_any (p := p) (k := k) hd HL.out hltj hltc hn
              obtain ⟨A2, k2, hd2, hpp2, hrow2⟩ := l2Row_any (p := p) (k := k) hd HL.out hltc hlt hn
              have HJ := Lib.hid (show zeroB (plV n p (plV n p (rgV n p d (prV n d i j) c n) (rgV n p d (prV n d j c) i n)) (rgV n p d (prV n d c i) j n)) = jac1 n p d i j c from jaV_zero)
              rcases hz : jac1 n p d i j c with _ | _
              all_goals
                rw [hz] at HJ
                have HZ := Lib.hid hz
                clear hz
                rw [← hwc]
                clear hwc
                go_wp2_with fail
                go_region_held3 (fun w' => w'.cell? ⟨w.heap.size, 0, none⟩ = some (.int .i64 p) ∧ w'.cell? ⟨w.heap.size, 1, none⟩ = some (.int .i64 n) ∧ w'.cell? ⟨w.heap.size, 2, none⟩ = some (.slice A l k)) (exact hx.three)
                  (first
                    | (go_at_call 52; refine (hrow0 _).mono ?_; rintro e wc ⟨rfl, hb2⟩; have hb2 := (by first | with_reducible exact bel_ofDrew hb2 | exact hb2 : Below _ _ wc); have hsz2 := hb2.size; have hx := hx.step hb2; have ha := ha.below hb2 hBc; have hbc := hbc.trans (hb2.mono hbc.size); have hBc : B ≤ wc.heap.size := (by omega); (try (have hpr := hpr.below hb2 (Nat.le_refl _); have hpr := hpr.up hsz2)); (try (have hy := hy.below hb2 (Nat.le_refl _); have hy := hy.up hsz2)); (try (have hv := hv.below hb2 (Nat.le_refl _); have hv := hv.up hsz2)); have hpr := (hpp0 _ _ _ ha).up hBc)
                    | (go_at_call 53; refine (l2Basis_any n c _ (by omega) hltc).mono ?_; rintro e wc ⟨Ay, ny, cy, rfl, hdy, hb2, hoy⟩; have hb2 := (by first | with_reducible exact bel_ofDrew hb2 | exact hb2 : Below _ _ wc); have hsz2 := hb2.size; have hx := hx.step hb2; have ha := ha.below hb2 hBc; have hbc := hbc.trans (hb2.mono hbc.size); have hBc : B ≤ wc.heap.size := (by omega); (try (have hpr := hpr.below hb2 (Nat.le_refl _); have hpr := hpr.up hsz2)); (try (have hy := hy.below hb2 (Nat.le_refl _); have hy := hy.up hsz2)); (try (have hv := hv.below hb2 (Nat.le_refl _); have hv := hv.up hsz2)); obtain rfl : n = ny := (by have := hoy.1; rw [unitV_len] at this; exact this); have hy := hoy.rd; clear hoy)
                    | (go_at_call 51; refine (l2Bracket_any p n c l k k0 cy A A0 Ay d (prV n d i j) _ (B := wc.heap.size) (ha.up hBc) hd hpr hy (Nat.le_refl _) HL.out hltc hn hp1 hp2 HR.out (HRP.out _ _ hlt hltj)).mono ?_; clear hpr hy; rintro e wc ⟨Az, nz, cz, rfl, hdz, hb2, hoz⟩; have hsz2 := hb2.size; have hx := hx.step hb2; have ha := ha.below hb2 hBc; have hbc := hbc.trans (hb2.mono hbc.size); have hBc : B ≤ wc.heap.size := (by omega); (try (have hpr := hpr.below hb2 (Nat.le_refl _); have hpr := hpr.up hsz2)); (try (have hy := hy.below hb2 (Nat.le_refl _); have hy := hy.up hsz2)); (try (have hv := hv.below hb2 (Nat.le_refl _); have hv := hv.up hsz2)); obtain rfl : n = nz := (by have := hoz.1; rw [rgV_len] at this; exact this); have hg := hoz.rd; clear hoz))
                have hv := hg
                clear hg
                obtain ⟨Av, hAv⟩ : ∃ Av, Av = Az := ⟨_, rfl⟩
                obtain ⟨cv, hcv⟩ : ∃ cv, cv = cz := ⟨_, rfl⟩
                rw [← hAv] at hv ⊢
                rw [← hcv]
                clear hAv hcv
                all_goals go_wp2_with fail
                go_region_held3 (fun w' => w'.cell? ⟨w.heap.size, 0, none⟩ = some (.int .i64 p) ∧ w'.cell? ⟨w.heap.size, 1, none⟩ = some (.int .i64 n) ∧ w'.cell? ⟨w.heap.size, 2, none⟩ = some (.slice A l k)) (exact hx.three)
                  (first
                    | (go_at_call 52; refine (hrow1 _).mono ?_; rintro e wc ⟨rfl, hb2⟩; have hb2 := (by first | with_reducible exact bel_ofDrew hb2 | exact hb2 : Below _ _ wc); have hsz2 := hb2.size; have hx := hx.step hb2; have ha := ha.below hb2 hBc; have hbc := hbc.trans (hb2.mono hbc.size); have hBc : B ≤ wc.heap.size := (by omega); (try (have hpr := hpr.below hb2 (Nat.le_refl _); have hpr := hpr.up hsz2)); (try (have hy := hy.below hb2 (Nat.le_refl _); have hy := hy.up hsz2)); (try (have hv := hv.below hb2 (Nat.le_refl _); have hv := hv.up hsz2)); have hpr := (hpp1 _ _ _ ha).up hBc)
                    | (go_at_call 53; refine (l2Basis_any n i _ (by omega) hlt).mono ?_; rintro e wc ⟨Ay, ny, cy, rfl, hdy, hb2, hoy⟩; have hb2 := (by first | with_reducible exact bel_ofDrew hb2 | exact hb2 : Below _ _ wc); have hsz2 := hb2.size; have hx := hx.step hb2; have ha := ha.below hb2 hBc; have hbc := hbc.trans (hb2.mono hbc.size); have hBc : B ≤ wc.heap.size := (by omega); (try (have hpr := hpr.below hb2 (Nat.le_refl _); have hpr := hpr.up hsz2)); (try (have hy := hy.below hb2 (Nat.le_refl _); have hy := hy.up hsz2)); (try (have hv := hv.below hb2 (Nat.le_refl _); have hv := hv.up hsz2)); obtain rfl : n = ny := (by have := hoy.1; rw [unitV_len] at this; exact this); have hy := hoy.rd; clear hoy)
                    | (go_at_call 51; refine (l2Bracket_any p n i l k k1 cy A A1 Ay d (prV n d j c) _ (B := wc.heap.size) (ha.up hBc) hd hpr hy (Nat.le_refl _) HL.out hlt hn hp1 hp2 HR.out (HRP.out _ _ hltj hltc)).mono ?_; clear hpr hy; rintro e wc ⟨Az, nz, cz, rfl, hdz, hb2, hoz⟩; have hsz2 := hb2.size; have hx := hx.step hb2; have ha := ha.below hb2 hBc; have hbc := hbc.trans (hb2.mono hbc.size); have hBc : B ≤ wc.heap.size := (by omega); (try (have hpr := hpr.below hb2 (Nat.le_refl _); have hpr := hpr.up hsz2)); (try (have hy := hy.below hb2 (Nat.le_refl _); have hy := hy.up hsz2)); (try (have hv := hv.below hb2 (Nat.le_refl _); have hv := hv.up hsz2)); obtain rfl : n = nz := (by have := hoz.1; rw [rgV_len] at this; exact this); have hg := hoz.rd; clear hoz)
                    | (go_at_call 54; refine (l2Plus_any p n cv cz Av Az (rgV n p d (prV n d i j) c n) _ _ (B := wc.heap.size) hv hg (Nat.le_refl _) (by omega) hp1 hp2 (HRG.out _ _ _) (HRG.out _ _ _)).mono ?_; clear hv hg; rintro e wc ⟨Av, nv, cv, rfl, hdv, hb2, hov⟩; have hsz2 := hb2.size; have hx := hx.step hb2; have ha := ha.below hb2 hBc; have hbc := hbc.trans (hb2.mono hbc.size); have hBc : B ≤ wc.heap.size := (by omega); (try (have hpr := hpr.below hb2 (Nat.le_refl _); have hpr := hpr.up hsz2)); (try (have hy := hy.below hb2 (Nat.le_refl _); have hy := hy.up hsz2)); (try (have hv := hv.below hb2 (Nat.le_refl _); have hv := hv.up hsz2)); obtain rfl : n = nv := (by have := hov.1; simp [plV] at this; exact this); have hv := hov.rd; clear hov))
                all_goals go_wp2_with fail
                go_region_held3 (fun w' => w'.cell? ⟨w.heap.size, 0, none⟩ = some (.int .i64 p) ∧ w'.cell? ⟨w.heap.size, 1, none⟩ = some (.int .i64 n) ∧ w'.cell? ⟨w.heap.size, 2, none⟩ = some (.slice A l k)) (exact hx.three)
                  (first
                    | (go_at_call 52; refine (hrow2 _).mono ?_; rintro e wc ⟨rfl, hb2⟩; have hb2 := (by first | with_reducible exact bel_ofDrew hb2 | exact hb2 : Below _ _ wc); have hsz2 := hb2.size; have hx := hx.step hb2; have ha := ha.below hb2 hBc; have hbc := hbc.trans (hb2.mono hbc.size); have hBc : B ≤ wc.heap.size := (by omega); (try (have hpr := hpr.below hb2 (Nat.le_refl _); have hpr := hpr.up hsz2)); (try (have hy := hy.below hb2 (Nat.le_refl _); have hy := hy.up hsz2)); (try (have hv := hv.below hb2 (Nat.le_refl _); have hv := hv.up hsz2)); have hpr := (hpp2 _ _ _ ha).up hBc)
                    | (go_at_call 53; refine (l2Basis_any n j _ (by omega) hltj).mono ?_; rintro e wc ⟨Ay, ny, cy, rfl, hdy, hb2, hoy⟩; have hb2 := (by first | with_reducible exact bel_ofDrew hb2 | exact hb2 : Below _ _ wc); have hsz2 := hb2.size; have hx := hx.step hb2; have ha := ha.below hb2 hBc; have hbc := hbc.trans (hb2.mono hbc.size); have hBc : B ≤ wc.heap.size := (by omega); (try (have hpr := hpr.below hb2 (Nat.le_refl _); have hpr := hpr.up hsz2)); (try (have hy := hy.below hb2 (Nat.le_refl _); have hy := hy.up hsz2)); (try (have hv := hv.below hb2 (Nat.le_refl _); have hv := hv.up hsz2)); obtain rfl : n = ny := (by have := hoy.1; rw [unitV_len] at this; exact this); have hy := hoy.rd; clear hoy)
                    | (go_at_call 51; refine (l2Bracket_any p n j l k k2 cy A A2 Ay d (prV n d c i) _ (B := wc.heap.size) (ha.up hBc) hd hpr hy (Nat.le_refl _) HL.out hltj hn hp1 hp2 HR.out (HRP.out _ _ hltc hlt)).mono ?_; clear hpr hy; rintro e wc ⟨Az, nz, cz, rfl, hdz, hb2, hoz⟩; have hsz2 := hb2.size; have hx := hx.step hb2; have ha := ha.below hb2 hBc; have hbc := hbc.trans (hb2.mono hbc.size); have hBc : B ≤ wc.heap.size := (by omega); (try (have hpr := hpr.below hb2 (Nat.le_refl _); have hpr := hpr.up hsz2)); (try (have hy := hy.below hb2 (Nat.le_refl _); have hy := hy.up hsz2)); (try (have hv := hv.below hb2 (Nat.le_refl _); have hv := hv.up hsz2)); obtain rfl : n = nz := (by have := hoz.1; rw [rgV_len] at this; exact this); have hg := hoz.rd; clear hoz)
                    | (go_at_call 54; refine (l2Plus_any p n cv cz Av Az (plV n p (rgV n p d (prV n d i j) c n) (rgV n p d (prV n d j c) i n)) _ _ (B := wc.heap.size) hv hg (Nat.le_refl _) (by omega) hp1 hp2 (HPL.out _ _) (HRG.out _ _ _)).mono ?_; clear hv hg; rintro e wc ⟨Av, nv, cv, rfl, hdv, hb2, hov⟩; have hsz2 := hb2.size; have hx := hx.step hb2; have ha := ha.below hb2 hBc; have hbc := hbc.trans (hb2.mono hbc.size); have hBc : B ≤ wc.heap.size := (by omega); (try (have hpr := hpr.below hb2 (Nat.le_refl _); have hpr := hpr.up hsz2)); (try (have hy := hy.below hb2 (Nat.le_refl _); have hy := hy.up hsz2)); (try (have hv := hv.below hb2 (Nat.le_refl _); have hv := hv.up hsz2)); obtain rfl : n = nv := (by have := hov.1; simp [plV] at this; exact this); have hv := hov.rd; clear hov))
                all_goals go_wp2_with fail
                refine (l1IsZero_any Av n cv _ _ (B := wc.heap.size) hv).mono ?_
                rintro e w9 hqt
                obtain ⟨rfl, hb9⟩ := hqt.rv
                rw [HJ.out]
                have hbA : Below wr.heap.size wr w9 := hbc.trans (hb9.mono hbc.size)
                clear hx ha hbc hBc hv hb9 hqt
              · go_wp2
                go_ret
                exact ⟨by rw [jac_no hltc hij hjc HZ.out]; rfl, (by repeat' (first | (with_reducible exact Below.refl _ _) | (with_reducible refine Below.setCell ?_ (by first | exact Nat.le_refl _ | omega | (simp only [World.size_alloc, World.size_setCell, World.heap_drewN]; omega) | (simp; omega)) _) | (with_reducible refine Below.alloc ?_ (by first | exact Nat.le_refl _ | omega | (simp only [World.size_alloc, World.size_setCell, World.heap_drewN]; omega) | (simp; omega)) _) | (with_reducible refine below_drewN ?_ _) | (with_reducible refine Below.drew ?_) | (with_reducible refine Below.trans ?_ (hbA.mono (by first | exact Nat.le_refl _ | omega | (simp only [World.size_alloc, World.size_setCell, World.heap_drewN]; omega) | (simp; omega)))) | (with_reducible refine Below.trans ?_ (hb.mono (by first | exact Nat.le_refl _ | omega | (simp only [World.size_alloc, World.size_setCell, World.heap_drewN]; omega) | (simp; omega))))))⟩
              · go_wp2
                go_roundw
                case rel => exact ⟨c + 1, by omega, by omega, by go_num, hb.trans (hbA.mono (by omega)), fun c' h1 h2 => by
                  rcases Nat.lt_or_ge c' c with h | h
                  · exact hA3.out c' h h2
                  · obtain rfl : c' = c := by omega
                    exact HZ.out⟩
                case measure => simp [intOf]; omega
            · obtain rfl : n = c := by omega
              have hx := hx0.below hb (by omega)
              obtain ⟨x0, x1, x2⟩ := hx.three
              go_wp2
              go_roundw
              case rel => exact ⟨j + 1, by omega, by omega, by go_num, hb, fun b h1 c h2 h3 h4 => by
                rcases Nat.lt_or_ge b j with h | h
                · exact hA2.out b h c h2 h3 h4
                · obtain rfl : b = j := by omega
                  exact hA3.out c h2 h4⟩
              case measure => simp [intOf]; omega
        · obtain rfl : n = j := by omega
          go_wp2
          go_roundw
          case rel => exact ⟨i + 1, by omega, by go_num, hb, fun a h1 b h2 c h3 h4 h5 => by
            rcases Nat.lt_or_ge a i with h | h
            · exact hA.out a h b h2 c h3 h4 h5
            · obtain rfl : a = i := by omega
              exact hA2.out b h2 c h3 h4 h5⟩
          case measure => simp [intOf]; omega
    · obtain rfl : n = i := by omega
      go_wp2
      go_ret
      exact ⟨by rw [jac_yes hA.out]; rfl, (by repeat' (first | (with_reducible exact Below.refl _ _) | (with_reducible refine Below.setCell ?_ (by first | exact Nat.le_refl _ | omega | (simp only [World.size_alloc, World.size_setCell, World.heap_drewN]; omega) | (simp; omega)) _) | (with_reducible refine Below.alloc ?_ (by first | exact Nat.le_refl _ | omega | (simp only [World.size_alloc, World.size_setCell, World.heap_drewN]; omega) | (simp; omega)) _) | (with_reducible refine below_drewN ?_ _) | (with_reducible refine Below.drew ?_) | (with_reducible refine Below.trans ?_ (hb.mono (by first | exact Nat.le_refl _ | omega | (simp only [World.size_alloc, World.size_setCell, World.heap_drewN]; omega) | (simp; omega))))))⟩
end Go.Proofs.YtnkcjekfjlbcdaaGreatDoor
