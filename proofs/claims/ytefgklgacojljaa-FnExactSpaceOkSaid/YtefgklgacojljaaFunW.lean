/- slices.IndexFunc, ContainsFunc at []int with any closure that only reads; residues, isZero. No condition but what each theorem names. -/
import Derived.Test.YtefgklgacojljaaArrW
namespace Go.Proofs.Ytefgklgacojljaa
set_option linter.unusedVariables false
set_option linter.unusedSimpArgs false
open Go.RowKit
set_option maxHeartbeats 400000
/-- the first place at which f holds, else -1 -/
def idxI (f : Int → Bool) (xs : List Int) : Int := if (xs.findIdx f) < xs.length then (xs.findIdx f : Int) else -1
theorem idxI_hit {f : Int → Bool} {xs : List Int} {k : Nat} (hk : k < xs.length) (hf : f (gI xs k) = true) (hb : ∀ j, j < k → f (gI xs j) = false) : idxI f xs = k := by
  have : xs.findIdx f = k := by
    rw [List.findIdx_eq hk]
    refine ⟨by rw [← gI_lt hk]; exact hf, fun j hj => ?_⟩
    have := hb j hj
    rwa [gI_lt (by omega)] at this
  unfold idxI
  rw [this, if_pos hk]
theorem idxI_miss {f : Int → Bool} {xs : List Int} (hb : ∀ j, j < xs.length → f (gI xs j) = false) : idxI f xs = -1 := by
  have : xs.findIdx f = xs.length := by
    rw [List.findIdx_eq_length]
    intro x hx
    obtain ⟨k, hk, rfl⟩ := List.mem_iff_getElem.1 hx
    have := hb k hk
    rwa [gI_lt hk] at this
  unfold idxI
  rw [this, if_neg (by omega)]

theorem idx_any {B : Nat} (A : Option Addr) (n c : Nat) (F : FuncId) (cap : Array Value) (f : Int → Bool) (xs : List Int) (w : World) (h : RdI w B A n xs)
    (hcf : ∀ (args : Array Value) (w : World), Sem.run Try.prog (callFunc F args) w = .ok (.enter F args) w)
    (hf : Hid (∀ x w', SameD w w' → Calls Try.prog F (#[.int .i64 x] ++ cap) w' (Qt (.bool (f x)) w'))) :
    Calls Try.prog 102 #[.slice A n c, .func (.func F) #[] cap] w (Qt (.int .i64 (idxI f xs)) w) := by
  obtain ⟨hl1, hm1, hc1⟩ := h
  unfold maxLen at hm1
  rcases Nat.eq_zero_or_pos n with h0 | hpos
  · subst h0
    have hx : xs = [] := List.eq_nil_of_length_eq_zero hl1
    subst hx
    have HT := Lib.hid (show idxI f [] = -1 from rfl)
    go_enter Try.func102, Try.ntmps102
    go_wp2
    go_loop [8] (fun i => i = .int .i64 0) (fun _ => 0)
    case atStart => rfl
    case round =>
      obtain rfl := hrel
      go_wp2
      go_ret
      exact ⟨by rw [HT.out]; rfl, SameD.refl _⟩
  · obtain ⟨b, o, rfl, _, hx⟩ := hc1 hpos
    have HL := Lib.hid hl1
    clear hc1 hl1
    go_enter Try.func102, Try.ntmps102
    go_wp2
    go_loopw [8] (fun i wr => ∃ k : Nat, k ≤ n ∧ i = .int .i64 k ∧ Hid (∀ j, j < k → f (gI xs j) = false) ∧ SameD w wr) (fun i _ => n - (intOf i).toNat)
    case atStart => exact ⟨0, by omega, rfl, fun j hj => by omega, SameD.refl _⟩
    case round =>
      obtain ⟨k, hk, rfl, he, d, rfl⟩ := hrel
      by_cases hlt : k < n
      · have hxk := hx k hlt
        have hL : k < xs.length := by have := HL.out; omega
        clear hx
        by_cases hfx : f (gI xs k) = true
        · have HI := Lib.hid (idxI_hit hL hfx he.out)
          go_wp2_with fail
          refine (hf.out _ _ ⟨d, rfl⟩).mono ?_
          rintro e w' ⟨rfl, d', rfl⟩
          go_wp2
          go_ret
          exact ⟨by rw [HI.out]; rfl, (by first | exact SameD.refl _ | exact ⟨_, rfl⟩ | exact SameD.two _ _ _ | exact (SameD.two _ _ _).drewN _)⟩
        · have hfx' : f (gI xs k) = false := by simpa using hfx
          have HF := Lib.hid hfx'
          clear hfx
          go_wp2_with fail
          refine (hf.out _ _ ⟨d, rfl⟩).mono ?_
          rintro e w' ⟨rfl, d', rfl⟩
          go_wp2
          go_roundw
          case rel => exact ⟨k + 1, by omega, by go_num, fun j hj => by
            by_cases hjk : j = k
            · subst hjk; exact HF.out
            · exact he.out j (by omega), (by first | exact SameD.refl _ | exact ⟨_, rfl⟩ | exact SameD.two _ _ _ | exact (SameD.two _ _ _).drewN _)⟩
          case measure => simp [intOf]; omega
      · have HT := Lib.hid (idxI_miss (f := f) (xs := xs) (fun j hj => he.out j (by have := HL.out; omega)))
        clear hx
        go_wp2
        go_ret
        exact ⟨by rw [HT.out]; rfl, (by first | exact SameD.refl _ | exact ⟨_, rfl⟩ | exact SameD.two _ _ _ | exact (SameD.two _ _ _).drewN _)⟩

theorem idxI_neg {f : Int → Bool} {xs : List Int} : decide (0 ≤ idxI f xs) = xs.any f := by
  unfold idxI
  by_cases h : xs.findIdx f < xs.length
  · rw [if_pos h]
    have : xs.any f = true := by
      rw [List.any_eq_true]
      exact ⟨_, List.getElem_mem h, List.findIdx_getElem (w := h)⟩
    rw [this]; simp
  · rw [if_neg h]
    have : xs.any f = false := by
      rw [List.any_eq_false]
      intro x hx hfx
      exact h (List.findIdx_lt_length_of_exists ⟨x, hx, hfx⟩)
    rw [this]; rfl

theorem con_any {B : Nat} (A : Option Addr) (n c : Nat) (F : FuncId) (cap : Array Value) (f : Int → Bool) (xs : List Int) (w : World) (h : RdI w B A n xs)
    (hcf : ∀ (args : Array Value) (w : World), Sem.run Try.prog (callFunc F args) w = .ok (.enter F args) w)
    (hf : Hid (∀ x w', SameD w w' → Calls Try.prog F (#[.int .i64 x] ++ cap) w' (Qt (.bool (f x)) w'))) :
    Calls Try.prog 94 #[.slice A n c, .func (.func F) #[] cap] w (Qt (.bool (xs.any f)) w) := by
  have HI := Lib.hid (idxI_neg (f := f) (xs := xs))
  have HC := Lib.hid hcf
  clear hcf
  go_enter Try.func94, Try.ntmps94
  go_wp2_with fail
  refine (idx_any A n c F cap f xs w h HC.out hf).mono ?_
  rintro e w' ⟨rfl, d', rfl⟩
  go_wp2
  go_ret
  exact ⟨by rw [← HI.out]; rfl, (by first | exact SameD.refl _ | exact ⟨_, rfl⟩ | exact SameD.two _ _ _ | exact (SameD.two _ _ _).drewN _)⟩

theorem resC_any (x p : Int) (g : Addr) (w : World) (hg : w.cell? g = some (.int .i64 p)) (hp0 : 0 ≤ p) (hp1 : p ≤ 1000000000000) :
    Calls Try.prog 95 #[.int .i64 x, .pointer (some g)] w (Qt (.bool (!(decide (0 ≤ x) && decide (x < p)))) w) := by
  have HE := Lib.hid (show decide (x ≤ p - 1) = decide (x < p) by rw [decide_eq_decide]; omega)
  obtain ⟨b, o, s⟩ := g
  go_enter Try.func95, Try.ntmps95
  go_wp2_with (go_at_call 87; refine (inside_any _ _ _ _).mono ?_; rintro e w' ⟨rfl, rfl⟩)
  go_ret
  exact ⟨by rw [← HE.out]; simp, (by first | exact SameD.refl _ | exact ⟨_, rfl⟩ | exact SameD.two _ _ _ | exact (SameD.two _ _ _).drewN _)⟩

theorem any_resB (xs : List Int) (p : Int) : (!(xs.any fun x => !(decide (0 ≤ x) && decide (x < p)))) = resB xs p := by
  unfold resB
  rw [List.all_eq_not_any_not]
theorem any_zeroB (xs : List Int) : (!(xs.any fun x => x != 0)) = zeroB xs := by
  unfold zeroB
  rw [List.all_eq_not_any_not]
  simp only [bne]

theorem residues_any {B : Nat} (A : Option Addr) (n c : Nat) (p : Int) (xs : List Int) (w : World) (h : RdI w B A n xs) (hB : B ≤ w.heap.size) (hp0 : 0 ≤ p) (hp1 : p ≤ 1000000000000) :
    Calls Try.prog 63 #[.slice A n c, .int .i64 p] w fun e w' => e = .returned (.bool (resB xs p)) ∧ Below w.heap.size w w' := by
  have HR := Lib.hid (any_resB xs p)
  go_enter Try.func63, Try.ntmps63
  go_wp2_with fail
  refine (con_any A n c 95 #[.pointer (some ⟨w.heap.size, 0, none⟩)] (fun x => !(decide (0 ≤ x) && decide (x < p))) xs _ (h.alloc hB _) (fun a w => by kernel_rfl) ?_).mono ?_
  · rintro x w' ⟨d, rfl⟩
    exact resC_any x p _ _ (by simp) hp0 hp1
  rintro e w' ⟨rfl, d', rfl⟩
  go_wp2
  go_ret
  refine ⟨by rw [← HR.out]; simp, ?_⟩
  exact below_drewN ((Below.refl _ _).alloc (Nat.le_refl _) _) _

theorem zerC_any (x : Int) (w : World) :
    Calls Try.prog 100 #[.int .i64 x] w (Qt (.bool (x != 0)) w) := by
  go_enter Try.func100, Try.ntmps100
  go_wp2
  go_ret
  exact ⟨rfl, (by first | exact SameD.refl _ | exact ⟨_, rfl⟩ | exact SameD.two _ _ _ | exact (SameD.two _ _ _).drewN _)⟩

theorem isZero_any {B : Nat} (A : Option Addr) (n c : Nat) (xs : List Int) (w : World) (h : RdI w B A n xs) :
    Calls Try.prog 74 #[.slice A n c] w (Qt (.bool (zeroB xs)) w) := by
  have HR := Lib.hid (any_zeroB xs)
  go_enter Try.func74, Try.ntmps74
  go_wp2_with fail
  refine (con_any A n c 100 #[] (fun x => x != 0) xs _ h (fun a w => by kernel_rfl) ?_).mono ?_
  · rintro x w' ⟨d, rfl⟩
    exact zerC_any x _
  rintro e w' ⟨rfl, d', rfl⟩
  go_wp2
  go_ret
  exact ⟨by rw [← HR.out]; rfl, (by first | exact SameD.refl _ | exact ⟨_, rfl⟩ | exact SameD.two _ _ _ | exact (SameD.two _ _ _).drewN _)⟩
end Go.Proofs.Ytefgklgacojljaa
