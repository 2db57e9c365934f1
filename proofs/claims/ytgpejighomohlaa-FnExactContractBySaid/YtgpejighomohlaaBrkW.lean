/- l2Basis, l2Bracket with a basis element, l2Plus. No condition but what each theorem names. -/
import Derived.Test.YtgpejighomohlaaLieW
import Derived.Test.YtgpejighomohlaaLibW
namespace Go.Proofs.Ytgpejighomohlaa
set_option linter.unusedVariables false
set_option linter.unusedSimpArgs false
set_option maxRecDepth 20000
open Go.RowKit Go.Sort
set_option maxHeartbeats 2000000
theorem l2Basis_any (n i : Nat) (w : World) (hn : n ≤ 1000000) (hi : i < n) :
    Calls Try.prog 95 #[.int .i64 n, .int .i64 i] w (RetI (unitV n i) w) := by
  go_enter Try.func95, Try.ntmps95
  go_wp2_with (at_make; refine wpList_mkI _ rfl _ _ 22 rfl 3 Try.underlying22 Try.infoI .i64 .i64 _ _ n rfl rfl (by omega) (by omega) (by omega) ?_; intro w1 ho hb hs; obtain ⟨hcl, hfz⟩ := ho.at_ hi; rw [Nat.zero_add] at hcl hfz)
  go_ret
  exact ⟨_, _, _, rfl, Hd.self (by unfold maxLen; omega), hb.setCell (by simp) _, by have := ho.store (v := 1) hi; unfold unitV; simpa using this⟩
theorem rgV_at (n : Nat) (p : Int) (d u : List Int) (t i k : Nat) (hk : k ≤ n) : ∀ l, l < n → gI (addAt (rgV n p d u t i) 0 (gI u i) (prV n d i t) p k) l = if l < k then gI (rgV n p d u t (i + 1)) l else gI (rgV n p d u t i) l := by
  intro l hl
  rw [rgV_step, addAt_get _ _ _ _ _ _ (by rw [rgV_len]; omega)]
  by_cases h : l < k
  · rw [if_pos ⟨by omega, by omega⟩, if_pos h, addAt_get _ _ _ _ _ _ (by rw [rgV_len]; omega), if_pos ⟨by omega, by omega⟩]
  · rw [if_neg (by omega), if_neg h]
theorem addAt_set {D ys : List Int} {v p : Int} {k : Nat} (hk : k < D.length) : addAt D 0 v ys p (k + 1) = (addAt D 0 v ys p k).set k ((gI (addAt D 0 v ys p k) k + v * gI ys k) % p) := by
  refine ext_gI (by simp [addAt_len]) fun l hl => ?_
  rw [addAt_len] at hl
  rw [gI_set _ _ _ _ (by rw [addAt_len]; exact hk), addAt_get _ _ _ _ _ _ (by omega), addAt_get _ _ _ _ _ _ (by omega), addAt_get _ _ _ _ _ _ (by omega)]
  by_cases e : l = k
  · subst e
    rw [if_pos ⟨by omega, by omega⟩, if_pos rfl, if_neg (by omega), Nat.sub_zero]
  · rw [if_neg e]
    by_cases h : l < k
    · rw [if_pos ⟨by omega, by omega⟩, if_pos ⟨by omega, by omega⟩]
    · rw [if_neg (by omega), if_neg (by omega)]
theorem addAt_bd {D ys : List Int} {v p : Int} {k : Nat} (hp : 1 ≤ p) (hk : k ≤ D.length) (hD : ∀ j, 0 ≤ gI D j ∧ gI D j < p) (j : Nat) : 0 ≤ gI (addAt D 0 v ys p k) j ∧ gI (addAt D 0 v ys p k) j < p := by
  rw [addAt_get _ _ _ _ _ _ (by omega)]
  split
  · exact mod_bd hp
  · exact hD j
set_option maxRecDepth 100000 in
theorem l2Bracket_any {B : Nat} (p : Int) (n t l k kx ky : Nat) (A Ax Ay : Option Addr) (d x : List Int) (w : World) (h : RdI w B A l d) (hd : Hd A l k) (hx : RdI w B Ax n x) (hy : RdI w B Ay n (unitV n t)) (hB : B ≤ w.heap.size) (hl : l = n * n * n) (ht : t < n) (hn : n ≤ 100) (hp1 : 2 ≤ p) (hp2 : p ≤ 10007) (hr : resB d p = true) (hrx : resB x p = true) :
    Calls Try.prog 94 #[.agg #[.int .i64 p, .int .i64 n, .slice A l k], .slice Ax n kx, .slice Ay n ky] w (RetI (rgV n p d x t n) w) := by
  have HL := Lib.hid hl
  have HR := Lib.hid (show ∀ i j k, 0 ≤ tA n d i j k ∧ tA n d i j k < p from tA_bd (by omega) hr)
  have HU := Lib.hid (show ∀ j, 0 ≤ gI x j ∧ gI x j < p from fun j => gI_res (by omega) hrx j)
  have HB := Lib.hid (show ∀ m k, 0 ≤ gI (rgV n p d x t m) k ∧ gI (rgV n p d x t m) k < p from fun m k => rgV_bd (by omega) d x t m k)
  have HZ0 := Lib.hid (rgV_zero n p d x t)
  have hpe : (p == 0) = false := by simp; omega
  clear hl hr hrx
  go_enter Try.func94, Try.ntmps94
  go_wp2_with (at_make; refine wpList_mkI _ rfl _ _ 22 rfl 3 Try.underlying22 Try.infoI .i64 .i64 _ _ n rfl rfl (by omega) (by omega) (by omega) ?_; intro w1 ho hb hs1)
  rw [World.size_alloc] at *
  have hx1 := ((Box.new w _ _).below hb (by simp) : Box w1 w.heap.size #[.int .i64 p, .int .i64 n, .slice A l k])
  have hq1 : Below w.heap.size w w1 := (by repeat' (first | (with_reducible exact Below.refl _ _) | (with_reducible refine Below.setCell ?_ (by first | exact Nat.le_refl _ | omega | (simp only [World.size_alloc, World.size_setCell, World.heap_drewN]; omega) | (simp; omega)) _) | (with_reducible refine Below.alloc ?_ (by first | exact Nat.le_refl _ | omega | (simp only [World.size_alloc, World.size_setCell, World.heap_drewN]; omega) | (simp; omega)) _) | (with_reducible refine below_drewN ?_ _) | (with_reducible refine Below.drew ?_) | (with_reducible refine Below.trans ?_ (hb.mono (by first | exact Nat.le_refl _ | omega | (simp only [World.size_alloc, World.size_setCell, World.heap_drewN]; omega) | (simp; omega))))))
  have ha1 := h.below hq1 hB
  have hu1 := hx.below hq1 hB
  have hy1 := hy.below hq1 hB
  have hsz1 := hb.size
  rw [← HZ0.out] at ho
  clear hb h hx hy
  go_wp2_with fail
  go_loopw [9] (fun i wr => ∃ m : Nat, m ≤ n ∧ i = .int .i64 m ∧ Chg (w.heap.size + 1) (w.heap.size + 1 + 1) w1 wr ∧ OwI wr (w.heap.size + 1) (w.heap.size + 1 + 1) (some ⟨w.heap.size + 1, 0, none⟩) n (rgV n p d x t m)) (fun i _ => n - (intOf i).toNat)
  case atStart => exact ⟨0, by omega, rfl, Chg.refl _ _ _, ho.tight⟩
  case round =>
    clear ho
    obtain ⟨m, hm, rfl, hch, ho⟩ := hrel
    have hsz := hch.size
    by_cases hlt : m < n
    · have hur := hu1.below (hch.below (by omega)) (by omega)
      obtain ⟨bU, oU, rfl⟩ := hur.addr (by omega)
      have hue := hur.at_ hlt
      have huv := HU.out m
      by_cases hz : gI x m = 0
      · have hz' : (gI x m == 0) = true := by simpa using hz
        have HS := Lib.hid (rgV_skip (n := n) (p := p) (d := d) (j := t) hz)
        clear hz
        go_wp2
        go_roundw
        case rel => exact ⟨m + 1, by omega, by go_num, hch, by rw [HS.out]; exact ho⟩
        case measure => simp [intOf]; omega
      · have hz' : (gI x m == 0) = false := by simpa using hz
        have HZ := Lib.hid hz
        clear hz
        go_wp2_with fail
        obtain ⟨wo, rfl⟩ : ∃ wo : World, wo = wr := ⟨_, rfl⟩
        go_loopw [10] (fun i wr => ∃ j : Nat, j ≤ n ∧ i = .int .i64 j ∧ Chg (w.heap.size + 1) (w.heap.size + 1 + 1) w1 wr ∧ OwI wr (w.heap.size + 1) (w.heap.size + 1 + 1) (some ⟨w.heap.size + 1, 0, none⟩) n (rgV n p d x t (if t < j then m + 1 else m))) (fun i _ => n - (intOf i).toNat)
        case atStart => exact ⟨0, by omega, rfl, hch, by rw [if_neg (by omega)]; exact ho⟩
        case round =>
          clear hch ho hur hue hz' hsz
          obtain ⟨j, hj, rfl, hch, ho⟩ := hrel
          have hsz := hch.size
          have hxr := hx1.below (hch.below (by omega)) (by omega)
          have hur := hu1.below (hch.below (by omega)) (by omega)
          have hyr := hy1.below (hch.below (by omega)) (by omega)
          have hue := hur.at_ hlt
          obtain ⟨x0, x1, x2⟩ := hxr.three
          by_cases hlj : j < n
          · obtain ⟨bY, oY, rfl⟩ := hyr.addr (by omega)
            have hye := hyr.at_ hlj
            rw [unitV_get ht] at hye
            by_cases hjt : j = t
            · rw [if_pos hjt] at hye
              obtain rfl : t = j := hjt.symm
              rw [if_neg (by omega)] at ho
              have hz2 : (gI x m != 0) = true := by simpa using HZ.out
              have huv := HU.out m
              have ht1 : (gI x m).tmod p = gI x m := Int.tmod_eq_of_lt huv.1 huv.2
              have ht2 : gI x m % p = gI x m := Int.emod_eq_of_lt huv.1 huv.2
              go_wp2_with fail
              go_quiet (fail)
              clear ht1 ht2 hye hue x0 x1 x2
              go_wp2_with fail
              obtain ⟨w2, hw2⟩ : ∃ w2 : World, w2 = wr := ⟨_, rfl⟩
              go_loopw [12] (fun i wr => ∃ k' : Nat, k' ≤ n ∧ i = .int .i64 k' ∧ Chg (w.heap.size + 1) (w.heap.size + 1 + 1) w1 wr ∧ OwI wr (w.heap.size + 1) (w.heap.size + 1 + 1) (some ⟨w.heap.size + 1, 0, none⟩) n (addAt (rgV n p d x t m) 0 (gI x m) (prV n d m t) p k')) (fun i _ => n - (intOf i).toNat)
              case atStart => exact ⟨0, by omega, rfl, hch.drewN _, ho⟩
              case round =>
                clear hch ho hxr hur hyr hsz
                obtain ⟨k', hk', rfl, hch, ho⟩ := hrel
                have hsz := hch.size
                have hxr := hx1.below (hch.below (by omega)) (by omega)
                have har := ha1.below (hch.below (by omega)) (by omega)
                obtain ⟨x0, x1, x2⟩ := hxr.three
                by_cases hlk : k' < n
                · obtain ⟨hcd, hfd⟩ := ho.at_ hlk
                  rw [Nat.zero_add] at hcd hfd
                  have hDb := addAt_bd (D := rgV n p d x t m) (ys := prV n d m t) (v := gI x m) (p := p) (k := k') (by omega) (by rw [rgV_len]; exact hk') (HB.out m) k'
                  have HS := Lib.hid (show addAt (rgV n p d x t m) 0 (gI x m) (prV n d m t) p (k' + 1) = (addAt (rgV n p d x t m) 0 (gI x m) (prV n d m t) p k').set k' ((gI (addAt (rgV n p d x t m) 0 (gI x m) (prV n d m t) p k') k' + gI x m * tA n d m t k') % p) by rw [addAt_set (by rw [rgV_len]; exact hlk), prV_get hlk])
                  have htb := HR.out m t k'
                  generalize addAt (rgV n p d x t m) 0 (gI x m) (prV n d m t) p k' = D at *
                  have m1 : 0 ≤ gI x m * tA n d m t k' := Int.mul_nonneg huv.1 htb.1
                  have m2 : gI x m * tA n d m t k' ≤ 10007 * 10007 := Int.mul_le_mul (by omega) (by omega) htb.1 (by omega)
                  have hwr3 : IntKind.i64.wrap (gI x m * tA n d m t k') = gI x m * tA n d m t k' := IntWalk.i64_in _ (by omega)
                  have hwr4 : IntKind.i64.wrap (gI D k' + gI x m * tA n d m t k') = gI D k' + gI x m * tA n d m t k' := IntWalk.i64_in _ (by omega)
                  have htm : (gI D k' + gI x m * tA n d m t k').tmod p = (gI D k' + gI x m * tA n d m t k') % p := Int.tmod_eq_emod_of_nonneg (by omega)
                  have hmb := mod_bd (x := gI D k' + gI x m * tA n d m t k') (p := p) (by omega)
                  have hwr5 : IntKind.i64.wrap ((gI D k' + gI x m * tA n d m t k') % p) = (gI D k' + gI x m * tA n d m t k') % p := IntWalk.i64_in _ (by omega)
                  have q0 := cell_regrown x0
                  have q1 := cell_regrown x1
                  have q2 := cell_regrown x2
                  have q3 := cell_regrown hcd
                  have cG : ∀ d' os, Calls Try.prog 151 #[.agg #[.int .i64 p, .int .i64 n, .slice A l k], .int .i64 m, .int .i64 t, .int .i64 k'] (grow (redrawn wr d') os) fun e w'' => e = .returned (.int .i64 (tA n d m t k')) ∧ ∃ p : Regrown, w'' = grow (redrawn wr p.d) p.os :=
                    fun d' os => Calls.regrown_of (l2Get_any (B := B) _ (har.below (below_regrown wr d' os) (by omega)) (by have := (below_regrown wr d' os).size; omega) HL.out hlt ht hlk hn)
                  clear x0 x1 x2
                  go_wp2_with fail
                  (refine wp_region_quiet_last (C := fun w' => ∃ p : Regrown, w' = grow (redrawn wr p.d) p.os) 18 (by kernel_rfl) (by kernel_rfl) (by kernel_rfl) (by kernel_rfl) (by kernel_rfl) (by kernel_rfl) (by kernel_rfl) (by kernel_rfl) ⟨⟨wr.drawn + 1, #[]⟩, by rw [grow_empty]; rfl⟩ ?_; simp only [List.take_succ_cons, List.take_zero, List.drop_succ_cons, List.drop_zero]; (repeat (go_big_quiet_step (exact cG _ _))); refine wpQuiet_nil ?_; rintro W ⟨pp, hW⟩; have hbW : Below wr.heap.size wr W := hW ▸ below_regrown _ _ _; clear hW)
                  have hor6 := ho.below hbW (by omega)
                  obtain ⟨hcl6, hfr6⟩ := hor6.at_ hlk
                  rw [Nat.zero_add] at hcl6 hfr6
                  have hs6 := hbW.size
                  have hst := hor6.store (v := (gI D k' + gI x m * tA n d m t k') % p) hlk
                  rw [Nat.zero_add] at hst
                  clear q0 q1 q2 q3 cG
                  go_wp2
                  go_roundw
                  case rel => exact ⟨k' + 1, by omega, by go_num, (hch.trans (Chg.ofBelow hbW (Nat.le_refl _))).setCell (by simp) (by simp) _, by rw [HS.out]; exact hst⟩
                  case measure => simp [intOf]; omega
                · obtain rfl : n = k' := by omega
                  rw [← rgV_step] at ho
                  go_wp2
                  go_roundw
                  case rel => exact ⟨t + 1, by omega, by go_num, hch, by rw [if_pos (by omega)]; exact ho⟩
                  case measure => simp [intOf]; omega
            · rw [if_neg hjt] at hye
              have hif : (if t < j then m + 1 else m) = (if t < j + 1 then m + 1 else m) := by
                by_cases h : t < j
                · rw [if_pos h, if_pos (by omega)]
                · rw [if_neg h, if_neg (by omega)]
              rw [hif] at ho
              have HIF := Lib.hid hif
              clear hif
              go_wp2_with fail
              go_quiet (fail)
              clear hye hue x0 x1 x2
              go_wp2_with fail
              have HCH := Lib.hid (hch.drewN nq)
              have HO := Lib.hid (ho.drewN nq)
              go_loop [12] (fun k => k = .int .i64 0) (fun _ => 0)
              case atStart => rfl
              case round =>
                obtain rfl := hrel
                go_wp2
                go_roundw
                case rel => exact ⟨j + 1, by omega, by go_num, HCH.out, HO.out⟩
                case measure => simp [intOf]; omega
          · obtain rfl : n = j := by omega
            rw [if_pos ht] at ho
            go_wp2
            go_roundw
            case rel => exact ⟨m + 1, by omega, by go_num, hch, ho⟩
            case measure => simp [intOf]; omega
    · obtain rfl : n = m := by omega
      have hq3 : Below w.heap.size w wr := hq1.trans ((hch.below (by omega)).mono (by omega))
      go_wp2
      go_ret
      exact ⟨_, _, _, rfl, Hd.self (by unfold maxLen; omega), hq3, (ho.down (by omega)).up (by omega)⟩
/-- the first m sums -/
def plP (n : Nat) (p : Int) (x y : List Int) (m : Nat) : List Int := (List.range n).map fun i => if i < m then (gI x i + gI y i) % p else 0
def plV (n : Nat) (p : Int) (x y : List Int) : List Int := (List.range n).map fun i => (gI x i + gI y i) % p
theorem plP_len (n : Nat) (p : Int) (x y : List Int) (m : Nat) : (plP n p x y m).length = n := by simp [plP]
theorem plP_zero (n : Nat) (p : Int) (x y : List Int) : plP n p x y 0 = List.replicate n 0 := by
  refine ext_gI (by simp [plP]) fun k hk => ?_
  rw [plP_len] at hk
  unfold plP
  rw [map_get hk, gI_rep]; simp
theorem plP_full (n : Nat) (p : Int) (x y : List Int) : plP n p x y n = plV n p x y := by
  refine List.map_congr_left fun i hi => ?_
  rw [if_pos (by simpa using hi)]
theorem plP_succ {n : Nat} {p : Int} {x y : List Int} {m : Nat} (hm : m < n) : plP n p x y (m + 1) = (plP n p x y m).set m ((gI x m + gI y m) % p) := by
  refine ext_gI (by simp [plP]) fun l hl => ?_
  rw [plP_len] at hl
  rw [gI_set _ _ _ _ (by rw [plP_len]; exact hm)]
  unfold plP
  rw [map_get hl, map_get hl]
  by_cases e : l = m
  · subst e; rw [if_pos (by omega), if_pos rfl]
  · rw [if_neg e]
    by_cases h : l < m
    · rw [if_pos h, if_pos (by omega)]
    · rw [if_neg h, if_neg (by omega)]
theorem plV_bd {n : Nat} {p : Int} (hp : 1 ≤ p) (x y : List Int) (k : Nat) : 0 ≤ gI (plV n p x y) k ∧ gI (plV n p x y) k < p := by
  rcases Nat.lt_or_ge k n with h | h
  · unfold plV; rw [map_get h]; exact mod_bd hp
  · rw [gI_ge (by simpa [plV] using h)]; omega
theorem l2Plus_any {B : Nat} (p : Int) (n kx ky : Nat) (Ax Ay : Option Addr) (x y : List Int) (w : World) (hx : RdI w B Ax n x) (hy : RdI w B Ay n y) (hB : B ≤ w.heap.size) (hn : n ≤ 1000000) (hp1 : 2 ≤ p) (hp2 : p ≤ 10007) (hrx : ∀ j, 0 ≤ gI x j ∧ gI x j < p) (hry : ∀ j, 0 ≤ gI y j ∧ gI y j < p) :
    Calls Try.prog 165 #[.int .i64 p, .slice Ax n kx, .slice Ay n ky] w (RetI (plV n p x y) w) := by
  have HX := Lib.hid hrx
  have HY := Lib.hid hry
  have HZ0 := Lib.hid (plP_zero n p x y)
  have HF := Lib.hid (plP_full n p x y)
  have hpe : (p == 0) = false := by simp; omega
  clear hrx hry
  go_enter Try.func165, Try.ntmps165
  go_wp2_with (at_make; refine wpList_mkI _ rfl _ _ 22 rfl 3 Try.underlying22 Try.infoI .i64 .i64 _ _ n rfl rfl (by omega) (by omega) (by omega) ?_; intro w1 ho hb hs1)
  have hx1 := hx.below hb hB
  have hy1 := hy.below hb hB
  have hsz1 := hb.size
  rw [← HZ0.out] at ho
  clear hx hy
  go_wp2_with fail
  go_loopw [8] (fun i wr => ∃ m : Nat, m ≤ n ∧ i = .int .i64 m ∧ Chg w.heap.size (w.heap.size + 1) w1 wr ∧ OwI wr w.heap.size (w.heap.size + 1) (some ⟨w.heap.size, 0, none⟩) n (plP n p x y m)) (fun i _ => n - (intOf i).toNat)
  case atStart => exact ⟨0, by omega, rfl, Chg.refl _ _ _, ho.tight⟩
  case round =>
    clear ho
    obtain ⟨m, hm, rfl, hch, ho⟩ := hrel
    have hsz := hch.size
    by_cases hlt : m < n
    · have hxr := hx1.below (hch.below (by omega)) (by omega)
      have hyr := hy1.below (hch.below (by omega)) (by omega)
      obtain ⟨bX, oX, rfl⟩ := hxr.addr (by omega)
      obtain ⟨bY, oY, rfl⟩ := hyr.addr (by omega)
      have hxe := hxr.at_ hlt
      have hye := hyr.at_ hlt
      have hxv := HX.out m
      have hyv := HY.out m
      have HS := Lib.hid (plP_succ (p := p) (x := x) (y := y) hlt)
      have hwr4 : IntKind.i64.wrap (gI x m + gI y m) = gI x m + gI y m := IntWalk.i64_in _ (by omega)
      have htm : (gI x m + gI y m).tmod p = (gI x m + gI y m) % p := Int.tmod_eq_emod_of_nonneg (by omega)
      have hmb := mod_bd (x := gI x m + gI y m) (p := p) (by omega)
      have hwr5 : IntKind.i64.wrap ((gI x m + gI y m) % p) = (gI x m + gI y m) % p := IntWalk.i64_in _ (by omega)
      obtain ⟨hcl, hfr⟩ := ho.at_ hlt
      rw [Nat.zero_add] at hcl hfr
      have hst := ho.store (v := (gI x m + gI y m) % p) hlt
      rw [Nat.zero_add] at hst
      go_wp2_with fail
      (refine wp_region_quiet_last (C := fun w' => ∃ nn, w' = wr.drewN nn) 14 (by kernel_rfl) (by kernel_rfl) (by kernel_rfl) (by kernel_rfl) (by kernel_rfl) (by kernel_rfl) (by kernel_rfl) (by kernel_rfl) ⟨1, rfl⟩ ?_; simp only [List.take_succ_cons, List.take_zero, List.drop_succ_cons, List.drop_zero]; (repeat (go_big_quiet_step (fail))); refine wpQuiet_nil ?_; rintro W ⟨nq, rfl⟩)
      have hst := (ho.drewN nq).store (v := (gI x m + gI y m) % p) hlt
      rw [Nat.zero_add] at hst
      go_wp2
      go_roundw
      case rel => exact ⟨m + 1, by omega, by go_num, (hch.drewN nq).setCell (by simp) (by simp) _, by rw [HS.out]; exact hst⟩
      case measure => simp [intOf]; omega
    · obtain rfl : n = m := by omega
      rw [HF.out] at ho
      have hq3 : Below w.heap.size w wr := hb.trans (hch.below (by omega))
      go_wp2
      go_ret
      exact ⟨_, _, _, rfl, Hd.self (by unfold maxLen; omega), hq3, ho.up (by omega)⟩
end Go.Proofs.Ytgpejighomohlaa
