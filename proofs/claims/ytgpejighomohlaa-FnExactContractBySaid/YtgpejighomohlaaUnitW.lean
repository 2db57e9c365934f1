/- l1Unit, UnitMatrix of both packages. No condition but what each theorem names. -/
import Derived.Test.YtgpejighomohlaaAlgW
namespace Go.Proofs.Ytgpejighomohlaa
set_option linter.unusedVariables false
set_option linter.unusedSimpArgs false
set_option maxRecDepth 20000
open Go.RowKit
set_option maxHeartbeats 400000
/-- the unit matrix's numbers as the texts fill them in: k ones -/
def unitD (n : Nat) : Nat → List Int
  | 0 => List.replicate (n * n) 0
  | k + 1 => (unitD n k).set (k * n + k) 1
theorem unitD_len (n k : Nat) : (unitD n k).length = n * n := by
  induction k with
  | zero => simp [unitD]
  | succ k ih => simp [unitD, ih]
theorem diag_lt {n k : Nat} (h : k < n) : k * n + k < n * n := by
  calc k * n + k < k * n + n := by omega
    _ = (k + 1) * n := by rw [Nat.add_mul]; omega
    _ ≤ n * n := Nat.mul_le_mul_right _ (by omega)
theorem natsq (n : Nat) : ((n : Int) * (n : Int)).toNat = n * n := by rw [← Int.natCast_mul]; rfl

theorem l1Unit_any (p : Int) (n : Nat) (w : World) (hn : n ≤ 100) :
    Calls Try.prog 106 #[.int .i64 p, .int .i64 n] w (RetM p n n (unitD n n) w) := by
  go_enter Try.func106, Try.ntmps106
  go_wp2_with fail
  refine (l1Zero_any p n n _ (by omega) (by omega) (by omega) (by omega)).mono ?_
  rintro e w1 ⟨A, n0, cap, rfl, hdA, hb, ho⟩
  obtain ⟨hc1, hf1⟩ := bcell hb
  have hs1 := hb.size
  simp only [World.size_alloc] at hs1 ho
  have hz1 : w.heap.size < w1.heap.size := by omega
  rw [natsq] at ho
  have hn0 := ho.size
  rw [List.length_replicate] at hn0
  have HN := Lib.hid hn0
  clear hn0
  rcases Nat.eq_zero_or_pos n with h0 | hpos
  · subst h0
    go_wp2_with fail
    go_loop [6] (fun i => i = .int .i64 0) (fun _ => 0)
    case atStart => rfl
    case round =>
      obtain rfl := hrel
      go_wp2
      refine bodyPost_ret (v := .agg #[.int .i64 p, .int .i64 0, .int .i64 0, .slice A n0 cap]) (by simp [results, Try.results106, go_sem, hz1, hc1]) rfl ⟨_, _, _, rfl, (by first | assumption | exact Hd.nil | exact Hd.self (by first | omega | (unfold maxLen; omega))), (by repeat' (first | (with_reducible exact Below.refl _ _) | (with_reducible refine Below.setCell ?_ (by first | exact Nat.le_refl _ | omega | (simp only [World.size_alloc, World.size_setCell, World.heap_drewN]; omega) | (simp; omega)) _) | (with_reducible refine Below.alloc ?_ (by first | exact Nat.le_refl _ | omega | (simp only [World.size_alloc, World.size_setCell, World.heap_drewN]; omega) | (simp; omega)) _) | (with_reducible refine below_drewN ?_ _) | (with_reducible refine Below.drew ?_) | (with_reducible refine Below.trans ?_ (hb.mono (by first | exact Nat.le_refl _ | omega | (simp only [World.size_alloc, World.size_setCell, World.heap_drewN]; omega) | (simp; omega)))))), ?_⟩
      have : n0 = 0 := by have := HN.out; omega
      subst this
      exact OwI.emp _ _ _ _
  · have hnn : 0 < n0 := by rw [← HN.out]; exact Nat.mul_pos hpos hpos
    obtain ⟨b, o, rfl⟩ := ho.addr hnn
    obtain ⟨hb0, hb1⟩ := ho.blk hnn
    go_wp2_with fail
    go_loopw [6] (fun i wr => ∃ k : Nat, k ≤ n ∧ i = .int .i64 k ∧ Chg (w.heap.size + 1) w1.heap.size (w1.alloc (.cells #[.int .i64 p, .int .i64 n, .int .i64 n, .slice (some ⟨b, o, none⟩) n0 cap] 52)) wr ∧ OwI wr (w.heap.size + 1) w1.heap.size (some ⟨b, o, none⟩) n0 (unitD n k)) (fun i _ => n - (intOf i).toNat)
    case atStart => exact ⟨0, by omega, rfl, Chg.refl _ _ _, ho.alloc (Nat.le_refl _) _⟩
    case round =>
      obtain ⟨k, hk, rfl, hch, hor⟩ := hrel
      have hm1 : ∀ o, wr.cell? ⟨w1.heap.size, o, none⟩ = _ := fun o => hch.cell _ _ (.inr (Nat.le_refl _)) (by simp)
      by_cases hlt : k < n
      · have hlt2 : k * n + k < n0 := by rw [← HN.out]; exact diag_lt hlt
        obtain ⟨hcl, hfz⟩ := hor.at_ hlt2
        have hle2 : n0 ≤ 10000 := by
          rw [← HN.out]; exact Nat.mul_le_mul hn hn
        have hk1 : 0 ≤ (k : Int) * (n : Int) := Int.mul_nonneg (by omega) (by omega)
        have hk2 : (k : Int) * (n : Int) + (k : Int) < (n0 : Int) := by
          rw [← Int.natCast_mul, ← Int.natCast_add]; omega
        have HS := Lib.hid (hor.store (k := k * n + k) (v := 1) hlt2)
        clear hor
        go_wp2
        go_roundw
        case rel => exact ⟨k + 1, by omega, by go_num, hch.setCell hb0 hb1 _, HS⟩
        case measure => simp [intOf]; omega
      · have hkn : k = n := by omega
        subst hkn
        have hm2 : ∀ o, wr.cell? ⟨w.heap.size, o, none⟩ = _ := fun o => hch.cell _ _ (.inl (by omega)) (by simp; omega)
        have hm3 : ∀ o, wr.frozen? ⟨w.heap.size, o, none⟩ = _ := fun o => hch.frozen _ _ (.inl (by omega)) (by simp; omega)
        have hss := hch.size
        simp only [World.size_alloc] at hss
        go_wp2
        refine bodyPost_ret (v := .agg #[.int .i64 p, .int .i64 k, .int .i64 k, .slice (some ⟨b, o, none⟩) n0 cap]) (by simp [results, Try.results106, go_sem, hm2, hz1, hc1]) rfl ⟨_, _, _, rfl, (by first | assumption | exact Hd.nil | exact Hd.self (by first | omega | (unfold maxLen; omega))), ?_, ?_⟩
        · have h1 : Below w.heap.size w w1 := (by repeat' (first | (with_reducible exact Below.refl _ _) | (with_reducible refine Below.setCell ?_ (by first | exact Nat.le_refl _ | omega | (simp only [World.size_alloc, World.size_setCell, World.heap_drewN]; omega) | (simp; omega)) _) | (with_reducible refine Below.alloc ?_ (by first | exact Nat.le_refl _ | omega | (simp only [World.size_alloc, World.size_setCell, World.heap_drewN]; omega) | (simp; omega)) _) | (with_reducible refine below_drewN ?_ _) | (with_reducible refine Below.drew ?_) | (with_reducible refine Below.trans ?_ (hb.mono (by first | exact Nat.le_refl _ | omega | (simp only [World.size_alloc, World.size_setCell, World.heap_drewN]; omega) | (simp; omega))))))
          have h2 : Below w.heap.size w wr := (h1.alloc (by omega) _).trans ((hch.below (by simp; omega)).mono (by omega))
          exact (by repeat' (first | (with_reducible exact Below.refl _ _) | (with_reducible refine Below.setCell ?_ (by first | exact Nat.le_refl _ | omega | (simp only [World.size_alloc, World.size_setCell, World.heap_drewN]; omega) | (simp; omega)) _) | (with_reducible refine Below.alloc ?_ (by first | exact Nat.le_refl _ | omega | (simp only [World.size_alloc, World.size_setCell, World.heap_drewN]; omega) | (simp; omega)) _) | (with_reducible refine below_drewN ?_ _) | (with_reducible refine Below.drew ?_) | (with_reducible refine Below.trans ?_ (h2.mono (by first | exact Nat.le_refl _ | omega | (simp only [World.size_alloc, World.size_setCell, World.heap_drewN]; omega) | (simp; omega))))))
        · simp only [World.size_setCell]
          exact ((((((hor.setLow (by simp) _).setLow (by simp) _).setLow (by simp) _).setLow (by simp) _)).down (by omega)).up (by omega)

theorem iUnit_ok (p : Int) (n : Nat) (w : World) (hz : okZ p n n) :
    Calls Try.prog 115 #[.int .i64 p, .int .i64 n] w (RetM p n n (unitD n n) w) := by
  have hn : n ≤ 100 := by have := hz.2.1; omega
  have HZ := Lib.hid hz
  clear hz
  go_enter Try.func115, Try.ntmps115
  go_wp2_with fail
  refine (iZero_ok p n n _ HZ.out).mono ?_
  rintro e w1 ⟨A, n0, cap, rfl, hdA, hb, ho⟩
  obtain ⟨hc1, hf1⟩ := bcell hb
  have hs1 := hb.size
  simp only [World.size_alloc] at hs1 ho
  have hz1 : w.heap.size < w1.heap.size := by omega
  rw [natsq] at ho
  have hn0 := ho.size
  rw [List.length_replicate] at hn0
  have HN := Lib.hid hn0
  clear hn0
  rcases Nat.eq_zero_or_pos n with h0 | hpos
  · subst h0
    go_wp2_with fail
    go_loop [13] (fun i => i = .int .i64 0) (fun _ => 0)
    case atStart => rfl
    case round =>
      obtain rfl := hrel
      go_wp2
      refine bodyPost_ret (v := .agg #[.int .i64 p, .int .i64 0, .int .i64 0, .slice A n0 cap]) (by simp [results, Try.results115, go_sem, hz1, hc1]) rfl ⟨_, _, _, rfl, (by first | assumption | exact Hd.nil | exact Hd.self (by first | omega | (unfold maxLen; omega))), (by repeat' (first | (with_reducible exact Below.refl _ _) | (with_reducible refine Below.setCell ?_ (by first | exact Nat.le_refl _ | omega | (simp only [World.size_alloc, World.size_setCell, World.heap_drewN]; omega) | (simp; omega)) _) | (with_reducible refine Below.alloc ?_ (by first | exact Nat.le_refl _ | omega | (simp only [World.size_alloc, World.size_setCell, World.heap_drewN]; omega) | (simp; omega)) _) | (with_reducible refine below_drewN ?_ _) | (with_reducible refine Below.drew ?_) | (with_reducible refine Below.trans ?_ (hb.mono (by first | exact Nat.le_refl _ | omega | (simp only [World.size_alloc, World.size_setCell, World.heap_drewN]; omega) | (simp; omega)))))), ?_⟩
      have : n0 = 0 := by have := HN.out; omega
      subst this
      exact OwI.emp _ _ _ _
  · have hnn : 0 < n0 := by rw [← HN.out]; exact Nat.mul_pos hpos hpos
    obtain ⟨b, o, rfl⟩ := ho.addr hnn
    obtain ⟨hb0, hb1⟩ := ho.blk hnn
    go_wp2_with fail
    go_loopw [13] (fun i wr => ∃ k : Nat, k ≤ n ∧ i = .int .i64 k ∧ Chg (w.heap.size + 1) w1.heap.size (w1.alloc (.cells #[.int .i64 p, .int .i64 n, .int .i64 n, .slice (some ⟨b, o, none⟩) n0 cap] 52)) wr ∧ OwI wr (w.heap.size + 1) w1.heap.size (some ⟨b, o, none⟩) n0 (unitD n k)) (fun i _ => n - (intOf i).toNat)
    case atStart => exact ⟨0, by omega, rfl, Chg.refl _ _ _, ho.alloc (Nat.le_refl _) _⟩
    case round =>
      obtain ⟨k, hk, rfl, hch, hor⟩ := hrel
      have hm1 : ∀ o, wr.cell? ⟨w1.heap.size, o, none⟩ = _ := fun o => hch.cell _ _ (.inr (Nat.le_refl _)) (by simp)
      by_cases hlt : k < n
      · have hlt2 : k * n + k < n0 := by rw [← HN.out]; exact diag_lt hlt
        obtain ⟨hcl, hfz⟩ := hor.at_ hlt2
        have hle2 : n0 ≤ 10000 := by
          rw [← HN.out]; exact Nat.mul_le_mul hn hn
        have hk1 : 0 ≤ (k : Int) * (n : Int) := Int.mul_nonneg (by omega) (by omega)
        have hk2 : (k : Int) * (n : Int) + (k : Int) < (n0 : Int) := by
          rw [← Int.natCast_mul, ← Int.natCast_add]; omega
        have HS := Lib.hid (hor.store (k := k * n + k) (v := 1) hlt2)
        clear hor
        go_wp2
        go_roundw
        case rel => exact ⟨k + 1, by omega, by go_num, hch.setCell hb0 hb1 _, HS⟩
        case measure => simp [intOf]; omega
      · have hkn : k = n := by omega
        subst hkn
        have hm2 : ∀ o, wr.cell? ⟨w.heap.size, o, none⟩ = _ := fun o => hch.cell _ _ (.inl (by omega)) (by simp; omega)
        have hm3 : ∀ o, wr.frozen? ⟨w.heap.size, o, none⟩ = _ := fun o => hch.frozen _ _ (.inl (by omega)) (by simp; omega)
        have hss := hch.size
        simp only [World.size_alloc] at hss
        go_wp2
        refine bodyPost_ret (v := .agg #[.int .i64 p, .int .i64 k, .int .i64 k, .slice (some ⟨b, o, none⟩) n0 cap]) (by simp [results, Try.results115, go_sem, hm2, hz1, hc1]) rfl ⟨_, _, _, rfl, (by first | assumption | exact Hd.nil | exact Hd.self (by first | omega | (unfold maxLen; omega))), ?_, ?_⟩
        · have h1 : Below w.heap.size w w1 := (by repeat' (first | (with_reducible exact Below.refl _ _) | (with_reducible refine Below.setCell ?_ (by first | exact Nat.le_refl _ | omega | (simp only [World.size_alloc, World.size_setCell, World.heap_drewN]; omega) | (simp; omega)) _) | (with_reducible refine Below.alloc ?_ (by first | exact Nat.le_refl _ | omega | (simp only [World.size_alloc, World.size_setCell, World.heap_drewN]; omega) | (simp; omega)) _) | (with_reducible refine below_drewN ?_ _) | (with_reducible refine Below.drew ?_) | (with_reducible refine Below.trans ?_ (hb.mono (by first | exact Nat.le_refl _ | omega | (simp only [World.size_alloc, World.size_setCell, World.heap_drewN]; omega) | (simp; omega))))))
          have h2 : Below w.heap.size w wr := (h1.alloc (by omega) _).trans ((hch.below (by simp; omega)).mono (by omega))
          exact (by repeat' (first | (with_reducible exact Below.refl _ _) | (with_reducible refine Below.setCell ?_ (by first | exact Nat.le_refl _ | omega | (simp only [World.size_alloc, World.size_setCell, World.heap_drewN]; omega) | (simp; omega)) _) | (with_reducible refine Below.alloc ?_ (by first | exact Nat.le_refl _ | omega | (simp only [World.size_alloc, World.size_setCell, World.heap_drewN]; omega) | (simp; omega)) _) | (with_reducible refine below_drewN ?_ _) | (with_reducible refine Below.drew ?_) | (with_reducible refine Below.trans ?_ (h2.mono (by first | exact Nat.le_refl _ | omega | (simp only [World.size_alloc, World.size_setCell, World.heap_drewN]; omega) | (simp; omega))))))
        · simp only [World.size_setCell]
          exact ((((((hor.setLow (by simp) _).setLow (by simp) _).setLow (by simp) _).setLow (by simp) _)).down (by omega)).up (by omega)

theorem sUnit_ok (p : Int) (n : Nat) (w : World) (h : okZ p n n) :
    Calls Try.prog 62 #[.int .i64 p, .int .i64 n] w (RetM p n n (unitD n n) w) := by
  obtain ⟨hp, ⟨hr0, hr1⟩, hc0, hc1⟩ := h
  have e1 : (decide (0 ≤ (n : Int)) && decide ((n : Int) ≤ 40)) = true := by simp; omega
  go_enter Try.func62, Try.ntmps62
  go_wp2_with (first | (go_at_call 136; refine (sp_any _ _).mono ?_; rintro e w' ⟨rfl, rfl⟩) | (go_at_call 67; refine (l1In_any _ _ _ _).mono ?_; rintro e w' ⟨rfl, rfl⟩) | (go_at_call 106; refine (l1Unit_any _ _ _ (by omega)).mono ?_; rintro e w1 ⟨A, n0, cap, rfl, hdA, hb, ho⟩; obtain ⟨hcb, hfb⟩ := bcell hb))
  simp only [World.size_alloc] at ho
  have hs := hb.size
  simp only [World.size_alloc] at hs
  refine bodyPost_ret (v := .agg #[.int .i64 p, .int .i64 n, .int .i64 n, .slice A n0 cap]) (by simp [results, Try.results62, go_sem, hcb]) rfl ⟨_, _, _, rfl, (by first | assumption | exact Hd.nil | exact Hd.self (by first | omega | (unfold maxLen; omega))), (by repeat' (first | (with_reducible exact Below.refl _ _) | (with_reducible refine Below.setCell ?_ (by first | exact Nat.le_refl _ | omega | (simp only [World.size_alloc, World.size_setCell, World.heap_drewN]; omega) | (simp; omega)) _) | (with_reducible refine Below.alloc ?_ (by first | exact Nat.le_refl _ | omega | (simp only [World.size_alloc, World.size_setCell, World.heap_drewN]; omega) | (simp; omega)) _) | (with_reducible refine below_drewN ?_ _) | (with_reducible refine Below.drew ?_) | (with_reducible refine Below.trans ?_ (hb.mono (by first | exact Nat.le_refl _ | omega | (simp only [World.size_alloc, World.size_setCell, World.heap_drewN]; omega) | (simp; omega)))))), ?_⟩
  simp only [World.size_setCell]
  exact (((((ho.setLow (by simp) _).setLow (by simp) _).setLow (by simp) _).setLow (by simp) _)).down (by omega)
theorem okU_cases {p n : Int} (h : ¬ okZ p n n) : isP p = false ∨ (isP p = true ∧ (decide (0 ≤ n) && decide (n ≤ 40)) = false) := by
  rcases okZ_cases h with h | h | ⟨_, h1, h2⟩
  · exact .inl h
  · exact .inr h
  · rw [h1] at h2; cases h2
theorem sUnit_bad (p n : Int) (w : World) (h : ¬ okZ p n n) :
    Calls Try.prog 62 #[.int .i64 p, .int .i64 n] w (RetM 0 0 0 [] w) := by
  rcases okU_cases h with hp | ⟨hp, e1⟩
  all_goals
    clear h
    go_enter Try.func62, Try.ntmps62
    go_wp2_with (first | (go_at_call 136; refine (sp_any _ _).mono ?_; rintro e w' ⟨rfl, rfl⟩) | (go_at_call 67; refine (l1In_any _ _ _ _).mono ?_; rintro e w' ⟨rfl, rfl⟩))
    refine bodyPost_ret (v := .agg #[.int .i64 0, .int .i64 0, .int .i64 0, .slice none 0 0]) (by simp [results, Try.results62, go_sem]) rfl ⟨_, _, _, rfl, (by first | assumption | exact Hd.nil | exact Hd.self (by first | omega | (unfold maxLen; omega))), (by repeat' (first | (with_reducible exact Below.refl _ _) | (with_reducible refine Below.setCell ?_ (by first | exact Nat.le_refl _ | omega | (simp only [World.size_alloc, World.size_setCell, World.heap_drewN]; omega) | (simp; omega)) _) | (with_reducible refine Below.alloc ?_ (by first | exact Nat.le_refl _ | omega | (simp only [World.size_alloc, World.size_setCell, World.heap_drewN]; omega) | (simp; omega)) _) | (with_reducible refine below_drewN ?_ _) | (with_reducible refine Below.drew ?_))), OwI.emp _ _ _ _⟩
theorem iUnit_bad (p n : Int) (w : World) (h : ¬ okZ p n n) :
    Calls Try.prog 115 #[.int .i64 p, .int .i64 n] w (RetM 0 0 0 [] w) := by
  have HZ := Lib.hid h
  clear h
  go_enter Try.func115, Try.ntmps115
  go_wp2_with fail
  refine (iZero_bad p n n _ HZ.out).mono ?_
  rintro e w1 ⟨A, n0, cap, rfl, hdA, hb, ho⟩
  obtain ⟨hc1, hf1⟩ := bcell hb
  have hs1 := hb.size
  simp only [World.size_alloc] at hs1 ho
  have hz1 : w.heap.size < w1.heap.size := by omega
  go_wp2_with fail
  go_loop [13] (fun i => i = .int .i64 0) (fun _ => 0)
  case atStart => rfl
  case round =>
    obtain rfl := hrel
    go_wp2
    refine bodyPost_ret (v := .agg #[.int .i64 0, .int .i64 0, .int .i64 0, .slice A n0 cap]) (by simp [results, Try.results115, go_sem, hz1, hc1]) rfl ⟨_, _, _, rfl, (by first | assumption | exact Hd.nil | exact Hd.self (by first | omega | (unfold maxLen; omega))), (by repeat' (first | (with_reducible exact Below.refl _ _) | (with_reducible refine Below.setCell ?_ (by first | exact Nat.le_refl _ | omega | (simp only [World.size_alloc, World.size_setCell, World.heap_drewN]; omega) | (simp; omega)) _) | (with_reducible refine Below.alloc ?_ (by first | exact Nat.le_refl _ | omega | (simp only [World.size_alloc, World.size_setCell, World.heap_drewN]; omega) | (simp; omega)) _) | (with_reducible refine below_drewN ?_ _) | (with_reducible refine Below.drew ?_) | (with_reducible refine Below.trans ?_ (hb.mono (by first | exact Nat.le_refl _ | omega | (simp only [World.size_alloc, World.size_setCell, World.heap_drewN]; omega) | (simp; omega)))))), ?_⟩
    have : n0 = 0 := by have := ho.size; simpa using this.symm
    subst this
    exact OwI.emp _ _ _ _
end Go.Proofs.Ytgpejighomohlaa
