/- valueFor, l4First. No condition but what each theorem names. -/
import Derived.Test.YtgpejighomohlaaValW
import Derived.Test.YtgpejighomohlaaAlg
import Derived.Test.YtgpejighomohlaaJacW
import Derived.Deep.RegionHeld3
namespace Go.Proofs.Ytgpejighomohlaa
set_option linter.unusedVariables false
set_option linter.unusedSimpArgs false
set_option maxRecDepth 20000
open Go.RowKit Go.Sort
set_option maxHeartbeats 4000000
/-- the value of a cochain at an element and basis elements: the first m numbers -/
def vfS (N : Nat) (p : Int) (v u l : List Int) (m : Nat) : Int := sI m fun i => gI u i * valV N p v ((i : Int) :: l)
def vfV (N : Nat) (p : Int) (v u l : List Int) : Int := vfS N p v u l N % p
theorem vfS_step (N : Nat) (p : Int) (v u l : List Int) (m : Nat) : (vfS N p v u l m % p + gI u m * valV N p v ((m : Int) :: l)) % p = vfS N p v u l (m + 1) % p := by rw [mod_add]; rfl
theorem vfS_skip {N : Nat} {p : Int} {v u l : List Int} {m : Nat} (h : gI u m = 0) : vfS N p v u l (m + 1) = vfS N p v u l m := by
  show vfS N p v u l m + gI u m * _ = _
  rw [h]; simp
theorem vfV_bd {N : Nat} {p : Int} (hp : 1 ≤ p) (v u l : List Int) : 0 ≤ vfV N p v u l ∧ vfV N p v u l < p := mod_bd hp
set_option maxRecDepth 100000 in
theorem valueFor_any {B : Nat} (p : Int) (N n k m km ku q kq : Nat) (A Av Au Al : Option Addr) (v u l : List Int) (w : World) (hv : RdI w B Av m v) (hu : RdI w B Au N u) (hl : RdI w B Al q l) (hdl : Hd Al q kq) (hB : B ≤ w.heap.size) (hN : N ≤ 7) (hq : q + 1 ≤ 8) (hm : m = (subs N (q + 1) 0).length) (hp1 : 2 ≤ p) (hp2 : p ≤ 10007) (hrv : ∀ j, 0 ≤ gI v j ∧ gI v j < p) (hru : ∀ j, 0 ≤ gI u j ∧ gI u j < p) (hrl : ∀ x ∈ l, 0 ≤ x ∧ x < N) :
    Calls Try.prog 79 #[.agg #[.int .i64 p, .int .i64 N, .slice A n k], .slice Av m km, .slice Au N ku, .slice Al q kq] w (Rv (.int .i64 (vfV N p v u l)) w) := by
  have HRV := Lib.hid hrv
  have HRU := Lib.hid hru
  have HRL := Lib.hid hrl
  have HM := Lib.hid (show m = (subs N (1 + q) 0).length by rw [Nat.add_comm]; exact hm)
  have hpe : (p == 0) = false := by simp; omega
  have hpn : p ≠ 0 := by omega
  have hx0 := Box.new w #[.int .i64 p, .int .i64 N, .slice A n k] 82
  have hv0 := hv.alloc hB (.cells #[.int .i64 p, .int .i64 N, .slice A n k] 82)
  have hu0 := hu.alloc hB (.cells #[.int .i64 p, .int .i64 N, .slice A n k] 82)
  have hl0 := hl.alloc hB (.cells #[.int .i64 p, .int .i64 N, .slice A n k] 82)
  clear hrv hru hrl hm hv hu hl
  go_enter Try.func79, Try.ntmps79
  go_wp2_with fail
  go_loopw [9, 14] (fun s i wr => ∃ m : Nat, m ≤ N ∧ i = .int .i64 m ∧ s = .int .i64 (vfS N p v u l m % p) ∧ Below (w.heap.size + 1) (w.alloc (.cells #[.int .i64 p, .int .i64 N, .slice A n k] 82)) wr) (fun _ i _ => N - (intOf i).toNat)
  case atStart => exact ⟨0, by omega, rfl, by simp [vfS, sI], Below.refl _ _⟩
  case round =>
    obtain ⟨t, ht, rfl, rfl, hb⟩ := hrel
    have hsz := hb.size
    rw [World.size_alloc] at hsz
    have hx := hx0.below hb (by omega)
    obtain ⟨x0, x1, x2⟩ := hx.three
    by_cases hlt : t < N
    · have hvr := hv0.below hb (by omega)
      have hur := hu0.below hb (by omega)
      have hlr := hl0.below hb (by omega)
      obtain ⟨bU, oU, rfl⟩ := hur.addr (by omega)
      have hue := hur.at_ hlt
      by_cases hz : gI u t = 0
      · have hz' : (gI u t != 0) = false := by simpa using hz
        have HS := Lib.hid (vfS_skip (N := N) (p := p) (v := v) (l := l) hz)
        clear hz
        go_wp2
        go_roundw
        case rel => exact ⟨t + 1, by omega, by go_num, by rw [HS.out], hb⟩
        case measure => simp [intOf]; omega
      · have hz' : (gI u t != 0) = true := by simpa using hz
        clear hz
        have hub := HRU.out t
        have HST := Lib.hid (vfS_step N p v u l t)
        have hvb := valV_bd (n := N) (p := p) (by omega) v ((t : Int) :: l)
        have hsb := mod_bd (x := vfS N p v u l t) (p := p) (by omega)
        obtain ⟨y, hy⟩ : ∃ y, y = valV N p v ((t : Int) :: l) := ⟨_, rfl⟩
        have HY := Lib.hid (show valV N p v ((t : Int) :: l) = y from hy.symm)
        rw [← hy] at HST hvb
        obtain ⟨S, hS⟩ : ∃ S, S = vfS N p v u l t % p := ⟨_, rfl⟩
        rw [← hS] at HST hsb ⊢
        obtain ⟨x, hxx⟩ : ∃ x, x = gI u t := ⟨_, rfl⟩
        have HCX := Lib.hid (show ∀ w' : World, RdI w' B (some ⟨bU, oU, none⟩) N u → w'.cell? ⟨bU, oU + t, none⟩ = some (.int .i64 x) from fun w' h => by rw [hxx]; exact h.at_ hlt)
        rw [← hxx] at HST hub hue hz'
        clear hy hS hxx
        have m1 : 0 ≤ x * y := Int.mul_nonneg hub.1 hvb.1
        have m2 : x * y ≤ 10007 * 10007 := Int.mul_le_mul (by omega) (by omega) hvb.1 (by omega)
        have w1 : IntKind.i64.wrap (x * y) = x * y := IntWalk.i64_in _ (by omega)
        obtain ⟨z, hzz⟩ : ∃ z, z = S + x * y := ⟨_, rfl⟩
        have w2 : IntKind.i64.wrap (S + x * y) = z := by rw [hzz]; exact IntWalk.i64_in _ (by omega)
        rw [← hzz] at HST
        have hz0 : 0 ≤ z := by omega
        obtain ⟨r, hr⟩ : ∃ r, r = z % p := ⟨_, rfl⟩
        have w3 : z.tmod p = r := by rw [hr]; exact Int.tmod_eq_emod_of_nonneg hz0
        have mb : 0 ≤ r ∧ r < p := hr ▸ mod_bd (x := z) (p := p) (by omega)
        rw [← hr] at HST
        have w4 : IntKind.i64.wrap r = r := IntWalk.i64_in _ (by omega)
        have HIR := Lib.hid (show ∀ e ∈ (t : Int) :: l, 0 ≤ e ∧ e < N from fun e he => by
          rcases List.mem_cons.1 he with h | h
          · omega
          · exact HRL.out e h)
        have hown := World.ownsRow_lit (base := wr.heap.size) (e := 3) (size := 1) wr.drew #[.int .i64 (t : Int)] 1 (by exact Nat.le_refl _) (by unfold maxLen; omega) rfl
        have HOWN := Lib.hid hown
        clear hzz hr hown m1 m2
        go_wp2_with fail
        clear x0 x1 x2
        have hueH := Lib.hid hue
        go_region_held3 (fun w' => w'.cell? ⟨w.heap.size, 0, none⟩ = some (.int .i64 p) ∧ w'.cell? ⟨w.heap.size, 1, none⟩ = some (.int .i64 N) ∧ w'.cell? ⟨w.heap.size, 2, none⟩ = some (.slice A n k)) (first | exact hx.three | exact (hx.alloc _).three)
          (first
            | (refine step_apI (v := .slice (some ⟨wr.heap.size, 0, none⟩) 1 1) (w := wr.drew.alloc (.cells #[.int .i64 (t : Int)] 3)) (lo := wr.heap.size) (n := 1) (xs := [(t : Int)]) (ys := l) (B := B) rfl (.tmp 26) (.tmp 27) rfl rfl HOWN.out rfl ((hlr.below (Below.drew1 _ (Below.refl B wr)) (Nat.le_refl _)).alloc (by rw [size_drew]; omega) _) hdl (by omega) (by simp [size_drew]) ?_; intro v2 w5 ho2 hg2 hv2; obtain ⟨A2, c2, rfl, hd2⟩ := own_hd ho2; have hr2 := ofOwn' ho2 (by unfold maxLen; omega); have hb5 : Below wr.heap.size wr w5 := ((Below.drew1 _ (Below.refl wr.heap.size wr)).alloc (by rw [size_drew]; exact Nat.le_refl _) _).grown hg2 (by simp [size_drew]) (fun q e => by injection e with e; have e' : wr.heap.size = q := e; omega); have hs5 := hb5.size; have hx : Box w5 w.heap.size _ := hx.below hb5 (by omega); have hueH := Lib.hid (HCX.out _ (hur.below hb5 (by omega))))
            | (go_at_call 92; refine (value_any (B := w5.heap.size) p N n k m km (1 + q) c2 A Av A2 v ((t : Int) :: l) _ ((hvr.below hb5 (by omega)).up (by omega)) hr2.rd hd2 (Nat.le_refl _) hN (by omega) HM.out hp1 hp2 HRV.out HIR.out).mono ?_; rw [HY.out]; rintro e w6 ⟨rfl, hb6⟩; have hs6 := hb6.size; have hb56 : Below wr.heap.size wr w6 := hb5.trans (hb6.mono hs5); have hx : Box w6 w.heap.size _ := hx.below hb6 (by omega); have hueH := Lib.hid (HCX.out _ (hur.below hb56 (by omega)))))
        clear hx hue ho2 hg2 hv2 hr2 hb5 hb6 w1 w2 w3 w4 hueH
        go_wp2
        go_roundw
        case rel => exact ⟨t + 1, by omega, by go_num, by rw [HST.out], hb.trans (hb56.mono (by omega))⟩
        case measure => simp [intOf]; omega
    · obtain rfl : N = t := by omega
      go_wp2
      go_ret
      exact ⟨rfl, (by repeat' (first | (with_reducible exact Below.refl _ _) | (with_reducible refine Below.setCell ?_ (by first | exact Nat.le_refl _ | omega | (simp only [World.size_alloc, World.size_setCell, World.heap_drewN]; omega) | (simp; omega)) _) | (with_reducible refine Below.alloc ?_ (by first | exact Nat.le_refl _ | omega | (simp only [World.size_alloc, World.size_setCell, World.heap_drewN]; omega) | (simp; omega)) _) | (with_reducible refine below_drewN ?_ _) | (with_reducible refine Below.drew ?_) | (with_reducible refine Below.trans ?_ (hb.mono (by first | exact Nat.le_refl _ | omega | (simp only [World.size_alloc, World.size_setCell, World.heap_drewN]; omega) | (simp; omega))))))⟩
set_option maxRecDepth 100000 in
theorem l4First_any {B : Nat} (p : Int) (N n k m km ku q kq : Nat) (A Av Au Al : Option Addr) (v u l : List Int) (w : World) (hv : RdI w B Av m v) (hu : RdI w B Au N u) (hl : RdI w B Al q l) (hdl : Hd Al q kq) (hB : B ≤ w.heap.size) (hN : N ≤ 7) (hq : q + 1 ≤ 8) (hm : m = (subs N (q + 1) 0).length) (hp1 : 2 ≤ p) (hp2 : p ≤ 10007) (hrv : ∀ j, 0 ≤ gI v j ∧ gI v j < p) (hru : ∀ j, 0 ≤ gI u j ∧ gI u j < p) (hrl : ∀ x ∈ l, 0 ≤ x ∧ x < N) :
    Calls Try.prog 75 #[.agg #[.int .i64 p, .int .i64 N, .slice A n k], .slice Av m km, .slice Au N ku, .slice Al q kq] w (Rv (.int .i64 (vfV N p v u l)) w) := by
  have HRV := Lib.hid hrv
  have HRU := Lib.hid hru
  have HRL := Lib.hid hrl
  have HM := Lib.hid (show m = (subs N (1 + q) 0).length by rw [Nat.add_comm]; exact hm)
  have hpe : (p == 0) = false := by simp; omega
  have hpn : p ≠ 0 := by omega
  have hx0 := Box.new w #[.int .i64 p, .int .i64 N, .slice A n k] 27
  have hv0 := hv.alloc hB (.cells #[.int .i64 p, .int .i64 N, .slice A n k] 27)
  have hu0 := hu.alloc hB (.cells #[.int .i64 p, .int .i64 N, .slice A n k] 27)
  have hl0 := hl.alloc hB (.cells #[.int .i64 p, .int .i64 N, .slice A n k] 27)
  clear hrv hru hrl hm hv hu hl
  go_enter Try.func75, Try.ntmps75
  go_wp2_with fail
  go_loopw [9, 10] (fun s i wr => ∃ m : Nat, m ≤ N ∧ i = .int .i64 m ∧ s = .int .i64 (vfS N p v u l m % p) ∧ Below (w.heap.size + 1) (w.alloc (.cells #[.int .i64 p, .int .i64 N, .slice A n k] 27)) wr) (fun _ i _ => N - (intOf i).toNat)
  case atStart => exact ⟨0, by omega, rfl, by simp [vfS, sI], Below.refl _ _⟩
  case round =>
    obtain ⟨t, ht, rfl, rfl, hb⟩ := hrel
    have hsz := hb.size
    rw [World.size_alloc] at hsz
    have hx := hx0.below hb (by omega)
    obtain ⟨x0, x1, x2⟩ := hx.three
    by_cases hlt : t < N
    · have hvr := hv0.below hb (by omega)
      have hur := hu0.below hb (by omega)
      have hlr := hl0.below hb (by omega)
      obtain ⟨bU, oU, rfl⟩ := hur.addr (by omega)
      have hue := hur.at_ hlt
      by_cases hz : gI u t = 0
      · have hz' : (gI u t != 0) = false := by simpa using hz
        have HS := Lib.hid (vfS_skip (N := N) (p := p) (v := v) (l := l) hz)
        clear hz
        go_wp2
        go_roundw
        case rel => exact ⟨t + 1, by omega, by go_num, by rw [HS.out], hb⟩
        case measure => simp [intOf]; omega
      · have hz' : (gI u t != 0) = true := by simpa using hz
        clear hz
        have hub := HRU.out t
        have HST := Lib.hid (vfS_step N p v u l t)
        have hvb := valV_bd (n := N) (p := p) (by omega) v ((t : Int) :: l)
        have hsb := mod_bd (x := vfS N p v u l t) (p := p) (by omega)
        obtain ⟨y, hy⟩ : ∃ y, y = valV N p v ((t : Int) :: l) := ⟨_, rfl⟩
        have HY := Lib.hid (show valV N p v ((t : Int) :: l) = y from hy.symm)
        rw [← hy] at HST hvb
        obtain ⟨S, hS⟩ : ∃ S, S = vfS N p v u l t % p := ⟨_, rfl⟩
        rw [← hS] at HST hsb ⊢
        obtain ⟨x, hxx⟩ : ∃ x, x = gI u t := ⟨_, rfl⟩
        have HCX := Lib.hid (show ∀ w' : World, RdI w' B (some ⟨bU, oU, none⟩) N u → w'.cell? ⟨bU, oU + t, none⟩ = some (.int .i64 x) from fun w' h => by rw [hxx]; exact h.at_ hlt)
        rw [← hxx] at HST hub hue hz'
        clear hy hS hxx
        have m1 : 0 ≤ x * y := Int.mul_nonneg hub.1 hvb.1
        have m2 : x * y ≤ 10007 * 10007 := Int.mul_le_mul (by omega) (by omega) hvb.1 (by omega)
        have w1 : IntKind.i64.wrap (x * y) = x * y := IntWalk.i64_in _ (by omega)
        obtain ⟨z, hzz⟩ : ∃ z, z = S + x * y := ⟨_, rfl⟩
        have w2 : IntKind.i64.wrap (S + x * y) = z := by rw [hzz]; exact IntWalk.i64_in _ (by omega)
        rw [← hzz] at HST
        have hz0 : 0 ≤ z := by omega
        obtain ⟨r, hr⟩ : ∃ r, r = z % p := ⟨_, rfl⟩
        have w3 : z.tmod p = r := by rw [hr]; exact Int.tmod_eq_emod_of_nonneg hz0
        have mb : 0 ≤ r ∧ r < p := hr ▸ mod_bd (x := z) (p := p) (by omega)
        rw [← hr] at HST
        have w4 : IntKind.i64.wrap r = r := IntWalk.i64_in _ (by omega)
        have HIR := Lib.hid (show ∀ e ∈ (t : Int) :: l, 0 ≤ e ∧ e < N from fun e he => by
          rcases List.mem_cons.1 he with h | h
          · omega
          · exact HRL.out e h)
        have hown := World.ownsRow_lit (base := wr.heap.size) (e := 3) (size := 1) wr.drew #[.int .i64 (t : Int)] 1 (by exact Nat.le_refl _) (by unfold maxLen; omega) rfl
        have HOWN := Lib.hid hown
        clear hzz hr hown m1 m2
        go_wp2_with fail
        clear x0 x1 x2
        have hueH := Lib.hid hue
        go_region_held3 (fun w' => (w'.cell? ⟨w.heap.size, 0, none⟩ = some (.int .i64 p) ∧ w'.cell? ⟨w.heap.size, 1, none⟩ = some (.int .i64 N) ∧ w'.cell? ⟨w.heap.size, 2, none⟩ = some (.slice A n k)) ∧ w'.cell? ⟨bU, oU + t, none⟩ = some (.int .i64 x)) (first | exact ⟨hx.three, hueH.out⟩ | exact ⟨(hx.alloc (.cells #[.int .i64 (t : Int)] 3)).three, HCX.out _ (hur.alloc (by omega) (.cells #[.int .i64 (t : Int)] 3))⟩)
          (first
            | (refine step_apI (v := .slice (some ⟨wr.heap.size, 0, none⟩) 1 1) (w := wr.drew.alloc (.cells #[.int .i64 (t : Int)] 3)) (lo := wr.heap.size) (n := 1) (xs := [(t : Int)]) (ys := l) (B := B) rfl (.tmp 30) (.tmp 31) rfl rfl HOWN.out rfl ((hlr.below (Below.drew1 _ (Below.refl B wr)) (Nat.le_refl _)).alloc (by rw [size_drew]; omega) _) hdl (by omega) (by simp [size_drew]) ?_; intro v2 w5 ho2 hg2 hv2; obtain ⟨A2, c2, rfl, hd2⟩ := own_hd ho2; have hr2 := ofOwn' ho2 (by unfold maxLen; omega); have hb5 : Below wr.heap.size wr w5 := ((Below.drew1 _ (Below.refl wr.heap.size wr)).alloc (by rw [size_drew]; exact Nat.le_refl _) _).grown hg2 (by simp [size_drew]) (fun q e => by injection e with e; have e' : wr.heap.size = q := e; omega); have hs5 := hb5.size; have hx : Box w5 w.heap.size _ := hx.below hb5 (by omega); have hueH := Lib.hid (HCX.out _ (hur.below hb5 (by omega))))
            | (go_at_call 87; refine (l4Value_any (B := w5.heap.size) p N n k m km (1 + q) c2 A Av A2 v ((t : Int) :: l) _ ((hvr.below hb5 (by omega)).up (by omega)) hr2.rd hd2 (Nat.le_refl _) hN (by omega) HM.out hp1 hp2 HRV.out HIR.out).mono ?_; rw [HY.out]; rintro e w6 ⟨rfl, hb6⟩; have hs6 := hb6.size; have hb56 : Below wr.heap.size wr w6 := hb5.trans (hb6.mono hs5); have hx : Box w6 w.heap.size _ := hx.below hb6 (by omega); have hueH := Lib.hid (HCX.out _ (hur.below hb56 (by omega)))))
        clear hx hue ho2 hg2 hv2 hr2 hb5 hb6 w1 w2 w3 w4 hueH
        go_wp2
        go_roundw
        case rel => exact ⟨t + 1, by omega, by go_num, by rw [HST.out], hb.trans (hb56.mono (by omega))⟩
        case measure => simp [intOf]; omega
    · obtain rfl : N = t := by omega
      go_wp2
      go_ret
      exact ⟨rfl, (by repeat' (first | (with_reducible exact Below.refl _ _) | (with_reducible refine Below.setCell ?_ (by first | exact Nat.le_refl _ | omega | (simp only [World.size_alloc, World.size_setCell, World.heap_drewN]; omega) | (simp; omega)) _) | (with_reducible refine Below.alloc ?_ (by first | exact Nat.le_refl _ | omega | (simp only [World.size_alloc, World.size_setCell, World.heap_drewN]; omega) | (simp; omega)) _) | (with_reducible refine below_drewN ?_ _) | (with_reducible refine Below.drew ?_) | (with_reducible refine Below.trans ?_ (hb.mono (by first | exact Nat.le_refl _ | omega | (simp only [World.size_alloc, World.size_setCell, World.heap_drewN]; omega) | (simp; omega))))))⟩
end Go.Proofs.Ytgpejighomohlaa
