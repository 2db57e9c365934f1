/- slices.IndexFunc, ContainsFunc at []int with any closure that only reads; residues, isZero. No condition but what each theorem names. -/
import Derived.Test.YtgpejighomohlaaArrW
namespace Go.Proofs.Ytgpejighomohlaa
set_option linter.unusedVariables false
set_option linter.unusedSimpArgs false
set_option maxRecDepth 20000
open Go.RowKit
set_option maxHeartbeats 400000
/-- the first place at which f holds, else -1 -/
def idxI (f : Int → Bool) (xs : List Int) : Int := if (xs.findIdx f) < xs.length then (xs.findIdx f : Int) else -1
theorem idxI_hit {f : Int → Bool} {xs : List Int} {k : Nat} (hk : k < xs.length) (hf : f (gI xs k) = true) (hb : ∀ j, j < k → f (gI xs j) = false) : idxI f xs = k := by
  have : xs.findIdx f = k := by
    rw [List.findIdx_eq hk]
    refine ⟨by rw [← gI_lt hk]; exact hf, fun j hj => ?_⟩
    have := hb j hj
    rwa [gI_lt (by omega)] at this
  unfold idxI
  rw [this, if_pos hk]
theorem idxI_miss {f : Int → Bool} {xs : List Int} (hb : ∀ j, j < xs.length → f (gI xs j) = false) : idxI f xs = -1 := by
  have : xs.findIdx f = xs.length := by
    rw [List.findIdx_eq_length]
    intro x hx
    obtain ⟨k, hk, rfl⟩ := List.mem_iff_getElem.1 hx
    have := hb k hk
    rwa [gI_lt hk] at this
  unfold idxI
  rw [this, if_neg (by omega)]

theorem idx_any {B : Nat} (A : Option Addr) (n c : Nat) (F : FuncId) (cap : Array Value) (f : Int → Bool) (xs : List Int) (w : World) (h : RdI w B A n xs)
    (hcf : ∀ (args : Array Value) (w : World), Sem.run Try.prog (callFunc F args) w = .ok (.enter F args) w)
    (hf : Hid (∀ x w', SameD w w' → Calls Try.prog F (#[.int .i64 x] ++ cap) w' (Qt (.bool (f x)) w'))) :
    Calls Try.prog 160 #[.slice A n c, .func (.func F) #[] cap] w (Qt (.int .i64 (idxI f xs)) w) := by
  obtain ⟨hl1, hm1, hc1⟩ := h
  unfold maxLen at hm1
  rcases Nat.eq_zero_or_pos n with h0 | hpos
  · subst h0
    have hx : xs = [] := List.eq_nil_of_length_eq_zero hl1
    subst hx
    have HT := Lib.hid (show idxI f [] = -1 from rfl)
    go_enter Try.func160, Try.ntmps160
    go_wp2
    go_loop [8] (fun i => i = .int .i64 0) (fun _ => 0)
    case atStart => rfl
    case round =>
      obtain rfl := hrel
      go_wp2
      go_ret
      exact ⟨by rw [HT.out]; rfl, SameD.refl _⟩
  · obtain ⟨b, o, rfl, _, hx⟩ := hc1 hpos
    have HL := Lib.hid hl1
    clear hc1 hl1
    go_enter Try.func160, Try.ntmps160
    go_wp2
    go_loopw [8] (fun i wr => ∃ k : Nat, k ≤ n ∧ i = .int .i64 k ∧ Hid (∀ j, j < k → f (gI xs j) = false) ∧ SameD w wr) (fun i _ => n - (intOf i).toNat)
    case atStart => exact ⟨0, by omega, rfl, fun j hj => by omega, SameD.refl _⟩
    case round =>
      obtain ⟨k, hk, rfl, he, d, rfl⟩ := hrel
      by_cases hlt : k < n
      · have hxk := hx k hlt
        have hL : k < xs.length := by have := HL.out; omega
        clear hx
        by_cases hfx : f (gI xs k) = true
        · have HI := Lib.hid (idxI_hit hL hfx he.out)
          go_wp2_with fail
          refine (hf.out _ _ ⟨d, rfl⟩).mono ?_
          rintro e w' ⟨rfl, d', rfl⟩
          go_wp2
          go_ret
          exact ⟨by rw [HI.out]; rfl, (by first | exact SameD.refl _ | exact ⟨_, rfl⟩ | exact SameD.two _ _ _ | exact (SameD.two _ _ _).drewN _)⟩
        · have hfx' : f (gI xs k) = false := by simpa using hfx
          have HF := Lib.hid hfx'
          clear hfx
          go_wp2_with fail
          refine (hf.out _ _ ⟨d, rfl⟩).mono ?_
          rintro e w' ⟨rfl, d', rfl⟩
          go_wp2
          go_roundw
          case rel => exact ⟨k + 1, by omega, by go_num, fun j hj => by
            by_cases hjk : j = k
            · subst hjk; exact HF.out
            · exact he.out j (by omega), (by first | exact SameD.refl _ | exact ⟨_, rfl⟩ | exact SameD.two _ _ _ | exact (SameD.two _ _ _).drewN _)⟩
          case measure => simp [intOf]; omega
      · have HT := Lib.hid (idxI_miss (f := f) (xs := xs) (fun j hj => he.out j (by have := HL.out; omega)))
        clear hx
        go_wp2
        go_ret
        exact ⟨by rw [HT.out]; rfl, (by first | exact SameD.refl _ | exact ⟨_, rfl⟩ | exact SameD.two _ _ _ | exact (SameD.two _ _ _).drewN _)⟩

theorem idxI_neg {f : Int → Bool} {xs : List Int} : decide (0 ≤ idxI f xs) = xs.any f := by
  unfold idxI
  by_cases h : xs.findIdx f < xs.length
  · rw [if_pos h]
    have : xs.any f = true := by
      rw [List.any_eq_true]
      exact ⟨_, List.getElem_mem h, List.findIdx_getElem (w := h)⟩
    rw [this]; simp
  · rw [if_neg h]
    have : xs.any f = false := by
      rw [List.any_eq_false]
      intro x hx hfx
      exact h (List.findIdx_lt_length_of_exists ⟨x, hx, hfx⟩)
    rw [this]; rfl

theorem con_any {B : Nat} (A : Option Addr) (n c : Nat) (F : FuncId) (cap : Array Value) (f : Int → Bool) (xs : List Int) (w : World) (h : RdI w B A n xs)
    (hcf : ∀ (args : Array Value) (w : World), Sem.run Try.prog (callFunc F args) w = .ok (.enter F args) w)
    (hf : Hid (∀ x w', SameD w w' → Calls Try.prog F (#[.int .i64 x] ++ cap) w' (Qt (.bool (f x)) w'))) :
    Calls Try.prog 142 #[.slice A n c, .func (.func F) #[] cap] w (Qt (.bool (xs.any f)) w) := by
  have HI := Lib.hid (idxI_neg (f := f) (xs := xs))
  have HC := Lib.hid hcf
  clear hcf
  go_enter Try.func142, Try.ntmps142
  go_wp2_with fail
  refine (idx_any A n c F cap f xs w h HC.out hf).mono ?_
  rintro e w' ⟨rfl, d', rfl⟩
  go_wp2
  go_ret
  exact ⟨by rw [← HI.out]; rfl, (by first | exact SameD.refl _ | exact ⟨_, rfl⟩ | exact SameD.two _ _ _ | exact (SameD.two _ _ _).drewN _)⟩

theorem resC_any (x p : Int) (g : Addr) (w : World) (hg : w.cell? g = some (.int .i64 p)) (hp0 : 0 ≤ p) (hp1 : p ≤ 1000000000000) :
    Calls Try.prog 143 #[.int .i64 x, .pointer (some g)] w (Qt (.bool (!(decide (0 ≤ x) && decide (x < p)))) w) := by
  have HE := Lib.hid (show decide (x ≤ p - 1) = decide (x < p) by rw [decide_eq_decide]; omega)
  obtain ⟨b, o, s⟩ := g
  go_enter Try.func143, Try.ntmps143
  go_wp2_with (go_at_call 71; refine (inside_any _ _ _ _).mono ?_; rintro e w' ⟨rfl, rfl⟩)
  go_ret
  exact ⟨by rw [← HE.out]; simp, (by first | exact SameD.refl _ | exact ⟨_, rfl⟩ | exact SameD.two _ _ _ | exact (SameD.two _ _ _).drewN _)⟩

theorem any_resB (xs : List Int) (p : Int) : (!(xs.any fun x => !(decide (0 ≤ x) && decide (x < p)))) = resB xs p := by
  unfold resB
  rw [List.all_eq_not_any_not]
theorem any_zeroB (xs : List Int) : (!(xs.any fun x => x != 0)) = zeroB xs := by
  unfold zeroB
  rw [List.all_eq_not_any_not]
  simp only [bne]

theorem residues_any {B : Nat} (A : Option Addr) (n c : Nat) (p : Int) (xs : List Int) (w : World) (h : RdI w B A n xs) (hB : B ≤ w.heap.size) (hp0 : 0 ≤ p) (hp1 : p ≤ 1000000000000) :
    Calls Try.prog 73 #[.slice A n c, .int .i64 p] w fun e w' => e = .returned (.bool (resB xs p)) ∧ Below w.heap.size w w' := by
  have HR := Lib.hid (any_resB xs p)
  go_enter Try.func73, Try.ntmps73
  go_wp2_with fail
  refine (con_any A n c 143 #[.pointer (some ⟨w.heap.size, 0, none⟩)] (fun x => !(decide (0 ≤ x) && decide (x < p))) xs _ (h.alloc hB _) (fun a w => by kernel_rfl) ?_).mono ?_
  · rintro x w' ⟨d, rfl⟩
    exact resC_any x p _ _ (by simp) hp0 hp1
  rintro e w' ⟨rfl, d', rfl⟩
  go_wp2
  go_ret
  refine ⟨by rw [← HR.out]; simp, ?_⟩
  exact below_drewN ((Below.refl _ _).alloc (Nat.le_refl _) _) _

theorem zerC_any (x : Int) (w : World) :
    Calls Try.prog 145 #[.int .i64 x] w (Qt (.bool (x != 0)) w) := by
  go_enter Try.func145, Try.ntmps145
  go_wp2
  go_ret
  exact ⟨rfl, (by first | exact SameD.refl _ | exact ⟨_, rfl⟩ | exact SameD.two _ _ _ | exact (SameD.two _ _ _).drewN _)⟩

theorem isZero_any {B : Nat} (A : Option Addr) (n c : Nat) (xs : List Int) (w : World) (h : RdI w B A n xs) :
    Calls Try.prog 82 #[.slice A n c] w (Qt (.bool (zeroB xs)) w) := by
  have HR := Lib.hid (any_zeroB xs)
  go_enter Try.func82, Try.ntmps82
  go_wp2_with fail
  refine (con_any A n c 145 #[] (fun x => x != 0) xs _ h (fun a w => by kernel_rfl) ?_).mono ?_
  · rintro x w' ⟨d, rfl⟩
    exact zerC_any x _
  rintro e w' ⟨rfl, d', rfl⟩
  go_wp2
  go_ret
  exact ⟨by rw [← HR.out]; rfl, (by first | exact SameD.refl _ | exact ⟨_, rfl⟩ | exact SameD.two _ _ _ | exact (SameD.two _ _ _).drewN _)⟩
end Go.Proofs.Ytgpejighomohlaa
namespace Go.Proofs.Ytgpejighomohlaa
set_option linter.unusedVariables false
set_option linter.unusedSimpArgs false
set_option maxRecDepth 20000
open Go.RowKit
set_option maxHeartbeats 400000
theorem l1Zero_any (p r c : Int) (w : World) (hr0 : 0 ≤ r) (hr1 : r ≤ 100) (hc0 : 0 ≤ c) (hc1 : c ≤ 100) :
    Calls Try.prog 108 #[.int .i64 p, .int .i64 r, .int .i64 c] w (RetM p r c (List.replicate (r * c).toNat 0) w) := by
  have hm0 : 0 ≤ r * c := Int.mul_nonneg hr0 hc0
  have hm1 : r * c ≤ 100 * 100 := Int.mul_le_mul hr1 hc1 hc0 (by omega)
  go_enter Try.func108, Try.ntmps108
  go_wp2_with (at_make; refine wpList_mkI _ rfl _ _ 22 rfl 3 Try.underlying22 Try.infoI .i64 .i64 _ _ (r * c).toNat rfl rfl (by omega) (by omega) (by omega) ?_; intro w1 ho hb hs; obtain ⟨hcb, hfb⟩ := bcell hb)
  simp only [World.size_alloc] at ho hs
  refine bodyPost_ret (v := .agg #[.int .i64 p, .int .i64 r, .int .i64 c, .slice (some ⟨w.heap.size + 1, 0, none⟩) (r * c).toNat (r * c).toNat]) (by simp [results, Try.results108, go_sem, hcb]) rfl ⟨_, _, _, rfl, (by first | assumption | exact Hd.nil | exact Hd.self (by first | omega | (unfold maxLen; omega))), (by repeat' (first | (with_reducible exact Below.refl _ _) | (with_reducible refine Below.setCell ?_ (by first | exact Nat.le_refl _ | omega | (simp only [World.size_alloc, World.size_setCell, World.heap_drewN]; omega) | (simp; omega)) _) | (with_reducible refine Below.alloc ?_ (by first | exact Nat.le_refl _ | omega | (simp only [World.size_alloc, World.size_setCell, World.heap_drewN]; omega) | (simp; omega)) _) | (with_reducible refine below_drewN ?_ _) | (with_reducible refine Below.drew ?_) | (with_reducible refine Below.trans ?_ (hb.mono (by first | exact Nat.le_refl _ | omega | (simp only [World.size_alloc, World.size_setCell, World.heap_drewN]; omega) | (simp; omega)))))), ?_⟩
  simp only [World.size_setCell]
  exact (((((ho.setLow (by simp) _).setLow (by simp) _).setLow (by simp) _).setLow (by simp) _)).down (by omega)

/-- the arguments at which a matrix of zeros is made -/
def okZ (p r c : Int) : Prop := isP p = true ∧ (0 ≤ r ∧ r ≤ 40) ∧ (0 ≤ c ∧ c ≤ 40)
theorem iZero_ok (p r c : Int) (w : World) (h : okZ p r c) :
    Calls Try.prog 133 #[.int .i64 p, .int .i64 r, .int .i64 c] w (RetM p r c (List.replicate (r * c).toNat 0) w) := by
  obtain ⟨hp, ⟨hr0, hr1⟩, hc0, hc1⟩ := h
  have hm0 : 0 ≤ r * c := Int.mul_nonneg hr0 hc0
  have hm1 : r * c ≤ 40 * 40 := Int.mul_le_mul hr1 hc1 hc0 (by omega)
  have e1 : (decide (0 ≤ r) && decide (r ≤ 40)) = true := by simp; omega
  have e2 : (decide (0 ≤ c) && decide (c ≤ 40)) = true := by simp; omega
  go_enter Try.func133, Try.ntmps133
  go_wp2_with (first | (go_at_call 139; refine (ip_any _ _).mono ?_; rintro e w' ⟨rfl, rfl⟩) | (go_at_call 71; refine (inside_any _ _ _ _).mono ?_; rintro e w' ⟨rfl, rfl⟩) | (at_make; refine wpList_mkI _ rfl _ _ 22 rfl 3 Try.underlying22 Try.infoI .i64 .i64 _ _ (r * c).toNat rfl rfl (by omega) (by omega) (by omega) ?_; intro w1 ho hb hs; obtain ⟨hcb, hfb⟩ := bcell hb))
  simp only [World.size_alloc] at ho hs
  refine bodyPost_ret (v := .agg #[.int .i64 p, .int .i64 r, .int .i64 c, .slice (some ⟨w.heap.size + 1, 0, none⟩) (r * c).toNat (r * c).toNat]) (by simp [results, Try.results133, go_sem, hcb]) rfl ⟨_, _, _, rfl, (by first | assumption | exact Hd.nil | exact Hd.self (by first | omega | (unfold maxLen; omega))), (by repeat' (first | (with_reducible exact Below.refl _ _) | (with_reducible refine Below.setCell ?_ (by first | exact Nat.le_refl _ | omega | (simp only [World.size_alloc, World.size_setCell, World.heap_drewN]; omega) | (simp; omega)) _) | (with_reducible refine Below.alloc ?_ (by first | exact Nat.le_refl _ | omega | (simp only [World.size_alloc, World.size_setCell, World.heap_drewN]; omega) | (simp; omega)) _) | (with_reducible refine below_drewN ?_ _) | (with_reducible refine Below.drew ?_) | (with_reducible refine Below.trans ?_ (hb.mono (by first | exact Nat.le_refl _ | omega | (simp only [World.size_alloc, World.size_setCell, World.heap_drewN]; omega) | (simp; omega)))))), ?_⟩
  simp only [World.size_setCell]
  exact (((((ho.setLow (by simp) _).setLow (by simp) _).setLow (by simp) _).setLow (by simp) _)).down (by omega)

theorem okZ_cases {p r c : Int} (h : ¬ okZ p r c) : isP p = false ∨ (isP p = true ∧ (decide (0 ≤ r) && decide (r ≤ 40)) = false) ∨ (isP p = true ∧ (decide (0 ≤ r) && decide (r ≤ 40)) = true ∧ (decide (0 ≤ c) && decide (c ≤ 40)) = false) := by
  unfold okZ at h
  rcases hp : isP p with _ | _
  · exact .inl rfl
  · rcases hr : (decide (0 ≤ r) && decide (r ≤ 40)) with _ | _
    · exact .inr (.inl ⟨rfl, rfl⟩)
    · refine .inr (.inr ⟨rfl, rfl, ?_⟩)
      rcases hc : (decide (0 ≤ c) && decide (c ≤ 40)) with _ | _
      · rfl
      · exfalso; apply h
        simp at hr hc
        exact ⟨hp, hr, hc⟩
theorem iZero_bad (p r c : Int) (w : World) (h : ¬ okZ p r c) :
    Calls Try.prog 133 #[.int .i64 p, .int .i64 r, .int .i64 c] w (RetM 0 0 0 [] w) := by
  rcases okZ_cases h with hp | ⟨hp, e1⟩ | ⟨hp, e1, e2⟩
  all_goals
    clear h
    go_enter Try.func133, Try.ntmps133
    go_wp2_with (first | (go_at_call 139; refine (ip_any _ _).mono ?_; rintro e w' ⟨rfl, rfl⟩) | (go_at_call 71; refine (inside_any _ _ _ _).mono ?_; rintro e w' ⟨rfl, rfl⟩))
    refine bodyPost_ret (v := .agg #[.int .i64 0, .int .i64 0, .int .i64 0, .slice none 0 0]) (by simp [results, Try.results133, go_sem]) rfl ⟨_, _, _, rfl, (by first | assumption | exact Hd.nil | exact Hd.self (by first | omega | (unfold maxLen; omega))), (by repeat' (first | (with_reducible exact Below.refl _ _) | (with_reducible refine Below.setCell ?_ (by first | exact Nat.le_refl _ | omega | (simp only [World.size_alloc, World.size_setCell, World.heap_drewN]; omega) | (simp; omega)) _) | (with_reducible refine Below.alloc ?_ (by first | exact Nat.le_refl _ | omega | (simp only [World.size_alloc, World.size_setCell, World.heap_drewN]; omega) | (simp; omega)) _) | (with_reducible refine below_drewN ?_ _) | (with_reducible refine Below.drew ?_))), OwI.emp _ _ _ _⟩

/-! ### the laws' helpers -/
theorem szMatrix_any (p r c : Int) (A : Option Addr) (n cap : Nat) (l : Int) (w : World) (hn : n ≤ maxLen) (h0 : 0 ≤ l) (h1 : l ≤ 1048576) :
    Calls Try.prog 44 #[.agg #[.int .i64 p, .int .i64 r, .int .i64 c, .slice A n cap], .int .i64 l] w (Rv (.int .i64 (if (n : Int) ≤ l then l - n else -1)) w) := by
  by_cases h : (n : Int) ≤ l
  · rw [if_pos h]
    have h2 : ¬ l - (n : Int) < 0 := by omega
    have Hi := Lib.hid (show (if (n : Int) ≤ l then l - n else -1) = l - n from if_pos h)
    go_enter Try.func44, Try.ntmps44
    go_wp2_with (go_at_call 65; refine (szIntS_any _ _ _ _ _ hn h0 h1).mono ?_; rintro e w' ⟨rfl, rfl⟩; rw [Hi.out])
    go_ret
    exact ⟨rfl, (by repeat' (first | (with_reducible exact Below.refl _ _) | (with_reducible refine Below.setCell ?_ (by first | exact Nat.le_refl _ | omega | (simp only [World.size_alloc, World.size_setCell, World.heap_drewN]; omega) | (simp; omega)) _) | (with_reducible refine Below.alloc ?_ (by first | exact Nat.le_refl _ | omega | (simp only [World.size_alloc, World.size_setCell, World.heap_drewN]; omega) | (simp; omega)) _) | (with_reducible refine below_drewN ?_ _) | (with_reducible refine Below.drew ?_)))⟩
  · rw [if_neg h]
    have Hi := Lib.hid (show (if (n : Int) ≤ l then l - n else -1) = -1 from if_neg h)
    go_enter Try.func44, Try.ntmps44
    go_wp2_with (go_at_call 65; refine (szIntS_any _ _ _ _ _ hn h0 h1).mono ?_; rintro e w' ⟨rfl, rfl⟩; rw [Hi.out])
    go_ret
    exact ⟨rfl, (by repeat' (first | (with_reducible exact Below.refl _ _) | (with_reducible refine Below.setCell ?_ (by first | exact Nat.le_refl _ | omega | (simp only [World.size_alloc, World.size_setCell, World.heap_drewN]; omega) | (simp; omega)) _) | (with_reducible refine Below.alloc ?_ (by first | exact Nat.le_refl _ | omega | (simp only [World.size_alloc, World.size_setCell, World.heap_drewN]; omega) | (simp; omega)) _) | (with_reducible refine below_drewN ?_ _) | (with_reducible refine Below.drew ?_)))⟩

end Go.Proofs.Ytgpejighomohlaa
namespace Go.Proofs.Ytgpejighomohlaa
set_option linter.unusedVariables false
set_option linter.unusedSimpArgs false
set_option maxRecDepth 20000
open Go.RowKit
set_option maxHeartbeats 400000
theorem toMatrix_any {B : Nat} (p r c : Int) (A : Option Addr) (n cap : Nat) (d : List Int) (w : World) (h : RdI w B A n d) (hB : B ≤ w.heap.size) (hn : n ≤ 1073741824) :
    Calls Try.prog 46 #[.agg #[.int .i64 p, .int .i64 r, .int .i64 c, .slice A n cap]] w (RetM p r c d w) := by
  go_enter Try.func46, Try.ntmps46
  go_wp2_with (go_at_call 18; refine (toIntS_any A n cap d _ (B := B) (by exact h.below ((by repeat' (first | (with_reducible exact Below.refl _ _) | (with_reducible refine Below.setCell ?_ (by first | exact Nat.le_refl _ | omega | (simp only [World.size_alloc, World.size_setCell, World.heap_drewN]; omega) | (simp; omega)) _) | (with_reducible refine Below.alloc ?_ (by first | exact Nat.le_refl _ | omega | (simp only [World.size_alloc, World.size_setCell, World.heap_drewN]; omega) | (simp; omega)) _) | (with_reducible refine below_drewN ?_ _) | (with_reducible refine Below.drew ?_))) : Below w.heap.size w _) hB) (by first | exact Nat.le_refl _ | omega | (simp only [World.size_alloc, World.size_setCell, World.heap_drewN]; omega) | (simp; omega)) hn).mono ?_; rintro e w1 ⟨A', n', c', rfl, hdA_, hb, ho⟩; obtain ⟨hcb, hfb⟩ := bcell hb)
  simp only [World.size_alloc] at ho
  have hs := hb.size
  simp only [World.size_alloc] at hs
  refine bodyPost_ret (v := .agg #[.int .i64 p, .int .i64 r, .int .i64 c, .slice A' n' c']) (by simp [results, Try.results46, go_sem, hcb]) rfl ⟨_, _, _, rfl, (by first | assumption | exact Hd.nil | exact Hd.self (by first | omega | (unfold maxLen; omega))), (by repeat' (first | (with_reducible exact Below.refl _ _) | (with_reducible refine Below.setCell ?_ (by first | exact Nat.le_refl _ | omega | (simp only [World.size_alloc, World.size_setCell, World.heap_drewN]; omega) | (simp; omega)) _) | (with_reducible refine Below.alloc ?_ (by first | exact Nat.le_refl _ | omega | (simp only [World.size_alloc, World.size_setCell, World.heap_drewN]; omega) | (simp; omega)) _) | (with_reducible refine below_drewN ?_ _) | (with_reducible refine Below.drew ?_) | (with_reducible refine Below.trans ?_ (hb.mono (by first | exact Nat.le_refl _ | omega | (simp only [World.size_alloc, World.size_setCell, World.heap_drewN]; omega) | (simp; omega)))))), ?_⟩
  simp only [World.size_setCell]
  exact ((((((ho.setLow (by simp) _).setLow (by simp) _).setLow (by simp) _).setLow (by simp) _).setLow (by simp) _)).down (by omega)

theorem eqMatrix_any {B1 B2 : Nat} (p1 r1 c1 : Int) (A1 : Option Addr) (n1 k1 : Nat) (d1 : List Int) (p2 r2 c2 : Int) (A2 : Option Addr) (n2 k2 : Nat) (d2 : List Int) (w : World)
    (h1 : RdI w B1 A1 n1 d1) (hB1 : B1 ≤ w.heap.size) (h2 : RdI w B2 A2 n2 d2) (hB2 : B2 ≤ w.heap.size) :
    Calls Try.prog 48 #[.agg #[.int .i64 p1, .int .i64 r1, .int .i64 c1, .slice A1 n1 k1], .agg #[.int .i64 p2, .int .i64 r2, .int .i64 c2, .slice A2 n2 k2]] w (Rv (.bool (p1 == p2 && r1 == r2 && c1 == c2 && d1 == d2)) w) := by
  by_cases e1 : p1 = p2
  · have f1 : (p1 != p2) = false := by simpa using e1
    by_cases e2 : r1 = r2
    · have f2 : (r1 != r2) = false := by simpa using e2
      by_cases e3 : c1 = c2
      · have f3 : (c1 != c2) = false := by simpa using e3
        have HE := Lib.hid (show (p1 == p2 && r1 == r2 && c1 == c2 && d1 == d2) = (d1 == d2) by rw [e1, e2, e3]; simp)
        clear e1 e2 e3
        go_enter Try.func48, Try.ntmps48
        rcases Bool.eq_false_or_eq_true (d1 == d2) with hd | hd
        all_goals
          have Hd := Lib.hid hd
          clear hd
          go_wp2_with (go_at_call 21; refine (eqIntS_any A1 A2 n1 k1 n2 k2 d1 d2 _ (B1 := B1) (B2 := B2) (by exact h1.below ((by repeat' (first | (with_reducible exact Below.refl _ _) | (with_reducible refine Below.setCell ?_ (by first | exact Nat.le_refl _ | omega | (simp only [World.size_alloc, World.size_setCell, World.heap_drewN]; omega) | (simp; omega)) _) | (with_reducible refine Below.alloc ?_ (by first | exact Nat.le_refl _ | omega | (simp only [World.size_alloc, World.size_setCell, World.heap_drewN]; omega) | (simp; omega)) _) | (with_reducible refine below_drewN ?_ _) | (with_reducible refine Below.drew ?_))) : Below w.heap.size w _) hB1) (by exact h2.below ((by repeat' (first | (with_reducible exact Below.refl _ _) | (with_reducible refine Below.setCell ?_ (by first | exact Nat.le_refl _ | omega | (simp only [World.size_alloc, World.size_setCell, World.heap_drewN]; omega) | (simp; omega)) _) | (with_reducible refine Below.alloc ?_ (by first | exact Nat.le_refl _ | omega | (simp only [World.size_alloc, World.size_setCell, World.heap_drewN]; omega) | (simp; omega)) _) | (with_reducible refine below_drewN ?_ _) | (with_reducible refine Below.drew ?_))) : Below w.heap.size w _) hB2)).mono ?_; rintro e w1 ⟨rfl, q, rfl⟩; rw [Hd.out])
          go_ret
          exact ⟨by rw [HE.out, Hd.out]; rfl, (by repeat' (first | (with_reducible exact Below.refl _ _) | (with_reducible refine Below.setCell ?_ (by first | exact Nat.le_refl _ | omega | (simp only [World.size_alloc, World.size_setCell, World.heap_drewN]; omega) | (simp; omega)) _) | (with_reducible refine Below.alloc ?_ (by first | exact Nat.le_refl _ | omega | (simp only [World.size_alloc, World.size_setCell, World.heap_drewN]; omega) | (simp; omega)) _) | (with_reducible refine below_drewN ?_ _) | (with_reducible refine Below.drew ?_)))⟩
      · have f3 : (c1 != c2) = true := by simpa using e3
        have HE := Lib.hid (show (p1 == p2 && r1 == r2 && c1 == c2 && d1 == d2) = false by simp [e3])
        clear e1 e2 e3
        go_enter Try.func48, Try.ntmps48
        go_wp2
        go_ret
        exact ⟨by rw [HE.out]; rfl, (by repeat' (first | (with_reducible exact Below.refl _ _) | (with_reducible refine Below.setCell ?_ (by first | exact Nat.le_refl _ | omega | (simp only [World.size_alloc, World.size_setCell, World.heap_drewN]; omega) | (simp; omega)) _) | (with_reducible refine Below.alloc ?_ (by first | exact Nat.le_refl _ | omega | (simp only [World.size_alloc, World.size_setCell, World.heap_drewN]; omega) | (simp; omega)) _) | (with_reducible refine below_drewN ?_ _) | (with_reducible refine Below.drew ?_)))⟩
    · have f2 : (r1 != r2) = true := by simpa using e2
      have HE := Lib.hid (show (p1 == p2 && r1 == r2 && c1 == c2 && d1 == d2) = false by simp [e2])
      clear e1 e2
      go_enter Try.func48, Try.ntmps48
      go_wp2
      go_ret
      exact ⟨by rw [HE.out]; rfl, (by repeat' (first | (with_reducible exact Below.refl _ _) | (with_reducible refine Below.setCell ?_ (by first | exact Nat.le_refl _ | omega | (simp only [World.size_alloc, World.size_setCell, World.heap_drewN]; omega) | (simp; omega)) _) | (with_reducible refine Below.alloc ?_ (by first | exact Nat.le_refl _ | omega | (simp only [World.size_alloc, World.size_setCell, World.heap_drewN]; omega) | (simp; omega)) _) | (with_reducible refine below_drewN ?_ _) | (with_reducible refine Below.drew ?_)))⟩
  · have f1 : (p1 != p2) = true := by simpa using e1
    have HE := Lib.hid (show (p1 == p2 && r1 == r2 && c1 == c2 && d1 == d2) = false by simp [e1])
    clear e1
    go_enter Try.func48, Try.ntmps48
    go_wp2
    go_ret
    exact ⟨by rw [HE.out]; rfl, (by repeat' (first | (with_reducible exact Below.refl _ _) | (with_reducible refine Below.setCell ?_ (by first | exact Nat.le_refl _ | omega | (simp only [World.size_alloc, World.size_setCell, World.heap_drewN]; omega) | (simp; omega)) _) | (with_reducible refine Below.alloc ?_ (by first | exact Nat.le_refl _ | omega | (simp only [World.size_alloc, World.size_setCell, World.heap_drewN]; omega) | (simp; omega)) _) | (with_reducible refine below_drewN ?_ _) | (with_reducible refine Below.drew ?_)))⟩

theorem markMatrix_any {B0 B : Nat} (p r c : Int) (A : Option Addr) (n cap : Nat) (d : List Int) (k : Int) (w : World) (h : OwI w B0 B A n d) (hB : B ≤ w.heap.size) (hk0 : 0 ≤ k) (hk1 : k + n ≤ 1000000000000) :
    Calls Try.prog 49 #[.agg #[.int .i64 p, .int .i64 r, .int .i64 c, .slice A n cap], .int .i64 k] w (RetMark B0 B A n k w) := by
  go_enter Try.func49, Try.ntmps49
  go_wp2_with (go_at_call 25; refine (markIntS_any A n cap k d _ (B0 := B0) (B := B) (by exact h.below ((by repeat' (first | (with_reducible exact Below.refl _ _) | (with_reducible refine Below.setCell ?_ (by first | exact Nat.le_refl _ | omega | (simp only [World.size_alloc, World.size_setCell, World.heap_drewN]; omega) | (simp; omega)) _) | (with_reducible refine Below.alloc ?_ (by first | exact Nat.le_refl _ | omega | (simp only [World.size_alloc, World.size_setCell, World.heap_drewN]; omega) | (simp; omega)) _) | (with_reducible refine below_drewN ?_ _) | (with_reducible refine Below.drew ?_))) : Below w.heap.size w _) hB) hk0 hk1).mono ?_; rintro e w1 ⟨rfl, hb, ho⟩)
  go_ret
  exact ⟨rfl, ((Chg.refl _ _ _).alloc _).trans hb, ho⟩
theorem heldMatrix_any {B : Nat} (p r c : Int) (A : Option Addr) (n cap : Nat) (k : Int) (w : World) (h : RdI w B A n (mkI k n)) (hB : B ≤ w.heap.size) (hk0 : 0 ≤ k) (hk1 : k + n ≤ 1000000000000) :
    Calls Try.prog 50 #[.agg #[.int .i64 p, .int .i64 r, .int .i64 c, .slice A n cap], .int .i64 k] w (Rv (.int .i64 (k + n)) w) := by
  have hk : ¬ (k + (n : Int)) < 0 := by omega
  go_enter Try.func50, Try.ntmps50
  go_wp2_with (go_at_call 26; refine (heldIntS_any A n cap k _ (B := B) (by exact h.below ((by repeat' (first | (with_reducible exact Below.refl _ _) | (with_reducible refine Below.setCell ?_ (by first | exact Nat.le_refl _ | omega | (simp only [World.size_alloc, World.size_setCell, World.heap_drewN]; omega) | (simp; omega)) _) | (with_reducible refine Below.alloc ?_ (by first | exact Nat.le_refl _ | omega | (simp only [World.size_alloc, World.size_setCell, World.heap_drewN]; omega) | (simp; omega)) _) | (with_reducible refine below_drewN ?_ _) | (with_reducible refine Below.drew ?_))) : Below w.heap.size w _) hB) hk0 hk1).mono ?_; rintro e w1 ⟨rfl, rfl⟩)
  go_ret
  exact ⟨rfl, (by repeat' (first | (with_reducible exact Below.refl _ _) | (with_reducible refine Below.setCell ?_ (by first | exact Nat.le_refl _ | omega | (simp only [World.size_alloc, World.size_setCell, World.heap_drewN]; omega) | (simp; omega)) _) | (with_reducible refine Below.alloc ?_ (by first | exact Nat.le_refl _ | omega | (simp only [World.size_alloc, World.size_setCell, World.heap_drewN]; omega) | (simp; omega)) _) | (with_reducible refine below_drewN ?_ _) | (with_reducible refine Below.drew ?_)))⟩
end Go.Proofs.Ytgpejighomohlaa
namespace Go.Proofs.Ytgpejighomohlaa
set_option linter.unusedVariables false
set_option linter.unusedSimpArgs false
set_option maxRecDepth 20000
open Go.RowKit
set_option maxHeartbeats 400000
theorem eqAlgebra_any {B1 B2 : Nat} (p1 r1 : Int) (A1 : Option Addr) (n1 k1 : Nat) (d1 : List Int) (p2 r2 : Int) (A2 : Option Addr) (n2 k2 : Nat) (d2 : List Int) (w : World)
    (h1 : RdI w B1 A1 n1 d1) (hB1 : B1 ≤ w.heap.size) (h2 : RdI w B2 A2 n2 d2) (hB2 : B2 ≤ w.heap.size) :
    Calls Try.prog 20 #[.agg #[.int .i64 p1, .int .i64 r1, .slice A1 n1 k1], .agg #[.int .i64 p2, .int .i64 r2, .slice A2 n2 k2]] w (Rv (.bool (p1 == p2 && r1 == r2 && d1 == d2)) w) := by
  by_cases e1 : p1 = p2
  · have f1 : (p1 != p2) = false := by simpa using e1
    by_cases e2 : r1 = r2
    · have f2 : (r1 != r2) = false := by simpa using e2
      have HE := Lib.hid (show (p1 == p2 && r1 == r2 && d1 == d2) = (d1 == d2) by rw [e1, e2]; simp)
      clear e1 e2
      go_enter Try.func20, Try.ntmps20
      rcases Bool.eq_false_or_eq_true (d1 == d2) with hd | hd
      all_goals
        have Hd := Lib.hid hd
        clear hd
        go_wp2_with (go_at_call 21; refine (eqIntS_any A1 A2 n1 k1 n2 k2 d1 d2 _ (B1 := B1) (B2 := B2) (by exact h1.below ((by repeat' (first | (with_reducible exact Below.refl _ _) | (with_reducible refine Below.setCell ?_ (by first | exact Nat.le_refl _ | omega | (simp only [World.size_alloc, World.size_setCell, World.heap_drewN]; omega) | (simp; omega)) _) | (with_reducible refine Below.alloc ?_ (by first | exact Nat.le_refl _ | omega | (simp only [World.size_alloc, World.size_setCell, World.heap_drewN]; omega) | (simp; omega)) _) | (with_reducible refine below_drewN ?_ _) | (with_reducible refine Below.drew ?_))) : Below w.heap.size w _) hB1) (by exact h2.below ((by repeat' (first | (with_reducible exact Below.refl _ _) | (with_reducible refine Below.setCell ?_ (by first | exact Nat.le_refl _ | omega | (simp only [World.size_alloc, World.size_setCell, World.heap_drewN]; omega) | (simp; omega)) _) | (with_reducible refine Below.alloc ?_ (by first | exact Nat.le_refl _ | omega | (simp only [World.size_alloc, World.size_setCell, World.heap_drewN]; omega) | (simp; omega)) _) | (with_reducible refine below_drewN ?_ _) | (with_reducible refine Below.drew ?_))) : Below w.heap.size w _) hB2)).mono ?_; rintro e w1 ⟨rfl, q, rfl⟩; rw [Hd.out])
        go_ret
        exact ⟨by rw [HE.out, Hd.out]; rfl, (by repeat' (first | (with_reducible exact Below.refl _ _) | (with_reducible refine Below.setCell ?_ (by first | exact Nat.le_refl _ | omega | (simp only [World.size_alloc, World.size_setCell, World.heap_drewN]; omega) | (simp; omega)) _) | (with_reducible refine Below.alloc ?_ (by first | exact Nat.le_refl _ | omega | (simp only [World.size_alloc, World.size_setCell, World.heap_drewN]; omega) | (simp; omega)) _) | (with_reducible refine below_drewN ?_ _) | (with_reducible refine Below.drew ?_)))⟩
    · have f2 : (r1 != r2) = true := by simpa using e2
      have HE := Lib.hid (show (p1 == p2 && r1 == r2 && d1 == d2) = false by simp [e2])
      clear e1 e2
      go_enter Try.func20, Try.ntmps20
      go_wp2
      go_ret
      exact ⟨by rw [HE.out]; rfl, (by repeat' (first | (with_reducible exact Below.refl _ _) | (with_reducible refine Below.setCell ?_ (by first | exact Nat.le_refl _ | omega | (simp only [World.size_alloc, World.size_setCell, World.heap_drewN]; omega) | (simp; omega)) _) | (with_reducible refine Below.alloc ?_ (by first | exact Nat.le_refl _ | omega | (simp only [World.size_alloc, World.size_setCell, World.heap_drewN]; omega) | (simp; omega)) _) | (with_reducible refine below_drewN ?_ _) | (with_reducible refine Below.drew ?_)))⟩
  · have f1 : (p1 != p2) = true := by simpa using e1
    have HE := Lib.hid (show (p1 == p2 && r1 == r2 && d1 == d2) = false by simp [e1])
    clear e1
    go_enter Try.func20, Try.ntmps20
    go_wp2
    go_ret
    exact ⟨by rw [HE.out]; rfl, (by repeat' (first | (with_reducible exact Below.refl _ _) | (with_reducible refine Below.setCell ?_ (by first | exact Nat.le_refl _ | omega | (simp only [World.size_alloc, World.size_setCell, World.heap_drewN]; omega) | (simp; omega)) _) | (with_reducible refine Below.alloc ?_ (by first | exact Nat.le_refl _ | omega | (simp only [World.size_alloc, World.size_setCell, World.heap_drewN]; omega) | (simp; omega)) _) | (with_reducible refine below_drewN ?_ _) | (with_reducible refine Below.drew ?_)))⟩
theorem markAlgebra_any {B0 B : Nat} (p r : Int) (A : Option Addr) (n cap : Nat) (d : List Int) (k : Int) (w : World) (h : OwI w B0 B A n d) (hB : B ≤ w.heap.size) (hk0 : 0 ≤ k) (hk1 : k + n ≤ 1000000000000) :
    Calls Try.prog 24 #[.agg #[.int .i64 p, .int .i64 r, .slice A n cap], .int .i64 k] w (RetMark B0 B A n k w) := by
  go_enter Try.func24, Try.ntmps24
  go_wp2_with (go_at_call 25; refine (markIntS_any A n cap k d _ (B0 := B0) (B := B) (by exact h.below ((by repeat' (first | (with_reducible exact Below.refl _ _) | (with_reducible refine Below.setCell ?_ (by first | exact Nat.le_refl _ | omega | (simp only [World.size_alloc, World.size_setCell, World.heap_drewN]; omega) | (simp; omega)) _) | (with_reducible refine Below.alloc ?_ (by first | exact Nat.le_refl _ | omega | (simp only [World.size_alloc, World.size_setCell, World.heap_drewN]; omega) | (simp; omega)) _) | (with_reducible refine below_drewN ?_ _) | (with_reducible refine Below.drew ?_))) : Below w.heap.size w _) hB) hk0 hk1).mono ?_; rintro e w1 ⟨rfl, hb, ho⟩)
  go_ret
  exact ⟨rfl, ((Chg.refl _ _ _).alloc _).trans hb, ho⟩
def okAb (p n : Int) : Prop := isP p = true ∧ (0 ≤ n ∧ n ≤ 28)
theorem okAb_cases {p n : Int} (h : ¬ okAb p n) : isP p = false ∨ (isP p = true ∧ (decide (0 ≤ n) && decide (n ≤ 28)) = false) := by
  unfold okAb at h
  rcases hp : isP p with _ | _
  · exact .inl rfl
  · refine .inr ⟨rfl, ?_⟩
    rcases hr : (decide (0 ≤ n) && decide (n ≤ 28)) with _ | _
    · rfl
    · exfalso; apply h
      simp at hr
      exact ⟨hp, hr⟩
end Go.Proofs.Ytgpejighomohlaa
