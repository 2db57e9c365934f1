/- l1Unit, UnitMatrix of both packages. No condition but what each theorem names. -/
import Derived.Test.YteepnimmbofmlaaAlgW
namespace Go.Proofs.Yteepnimmbofmlaa
set_option linter.unusedVariables false
set_option linter.unusedSimpArgs false
set_option maxRecDepth 20000
open Go.RowKit
set_option maxHeartbeats 400000
/-- the unit matrix's numbers as the texts fill them in: k ones -/
def unitD (n : Nat) : Nat → List Int
  | 0 => List.replicate (n * n) 0
  | k + 1 => (unitD n k).set (k * n + k) 1
theorem unitD_len (n k : Nat) : (unitD n k).length = n * n := by
  induction k with
  | zero => simp [unitD]
  | succ k ih => simp [unitD, ih]
theorem diag_lt {n k : Nat} (h : k < n) : k * n + k < n * n := by
  calc k * n + k < k * n + n := by omega
    _ = (k + 1) * n := by rw [Nat.add_mul]; omega
    _ ≤ n * n := Nat.mul_le_mul_right _ (by omega)
theorem natsq (n : Nat) : ((n : Int) * (n : Int)).toNat = n * n := by rw [← Int.natCast_mul]; rfl

theorem l1Unit_any (p : Int) (n : Nat) (w : World) (hn : n ≤ 100) :
    Calls Try.prog 31 #[.int .i64 p, .int .i64 n] w (RetM p n n (unitD n n) w) := by
  go_enter Try.func31, Try.ntmps31
  go_wp2_with fail
  refine (l1Zero_any p n n _ (by omega) (by omega) (by omega) (by omega)).mono ?_
  rintro e w1 ⟨A, n0, cap, rfl, hdA, hb, ho⟩
  obtain ⟨hc1, hf1⟩ := bcell hb
  have hs1 := hb.size
  simp only [World.size_alloc] at hs1 ho
  have hz1 : w.heap.size < w1.heap.size := by omega
  rw [natsq] at ho
  have hn0 := ho.size
  rw [List.length_replicate] at hn0
  have HN := Lib.hid hn0
  clear hn0
  rcases Nat.eq_zero_or_pos n with h0 | hpos
  · subst h0
    go_wp2_with fail
    go_loop [6] (fun i => i = .int .i64 0) (fun _ => 0)
    case atStart => rfl
    case round =>
      obtain rfl := hrel
      go_wp2
      refine bodyPost_ret (v := .agg #[.int .i64 p, .int .i64 0, .int .i64 0, .slice A n0 cap]) (by simp [results, Try.results31, go_sem, hz1, hc1]) rfl ⟨_, _, _, rfl, (by first | assumption | exact Hd.nil | exact Hd.self (by first | omega | (unfold maxLen; omega))), (by repeat' (first | (with_reducible exact Below.refl _ _) | (with_reducible refine Below.setCell ?_ (by first | exact Nat.le_refl _ | omega | (simp only [World.size_alloc, World.size_setCell, World.heap_drewN]; omega) | (simp; omega)) _) | (with_reducible refine Below.alloc ?_ (by first | exact Nat.le_refl _ | omega | (simp only [World.size_alloc, World.size_setCell, World.heap_drewN]; omega) | (simp; omega)) _) | (with_reducible refine below_drewN ?_ _) | (with_reducible refine Below.drew ?_) | (with_reducible refine Below.trans ?_ (hb.mono (by first | exact Nat.le_refl _ | omega | (simp only [World.size_alloc, World.size_setCell, World.heap_drewN]; omega) | (simp; omega)))))), ?_⟩
      have : n0 = 0 := by have := HN.out; omega
      subst this
      exact OwI.emp _ _ _ _
  · have hnn : 0 < n0 := by rw [← HN.out]; exact Nat.mul_pos hpos hpos
    obtain ⟨b, o, rfl⟩ := ho.addr hnn
    obtain ⟨hb0, hb1⟩ := ho.blk hnn
    go_wp2_with fail
    go_loopw [6] (fun i wr => ∃ k : Nat, k ≤ n ∧ i = .int .i64 k ∧ Chg (w.heap.size + 1) w1.heap.size (w1.alloc (.cells #[.int .i64 p, .int .i64 n, .int .i64 n, .slice (some ⟨b, o, none⟩) n0 cap] 27)) wr ∧ OwI wr (w.heap.size + 1) w1.heap.size (some ⟨b, o, none⟩) n0 (unitD n k)) (fun i _ => n - (intOf i).toNat)
    case atStart => exact ⟨0, by omega, rfl, Chg.refl _ _ _, ho.alloc (Nat.le_refl _) _⟩
    case round =>
      obtain ⟨k, hk, rfl, hch, hor⟩ := hrel
      have hm1 : ∀ o, wr.cell? ⟨w1.heap.size, o, none⟩ = _ := fun o => hch.cell _ _ (.inr (Nat.le_refl _)) (by simp)
      by_cases hlt : k < n
      · have hlt2 : k * n + k < n0 := by rw [← HN.out]; exact diag_lt hlt
        obtain ⟨hcl, hfz⟩ := hor.at_ hlt2
        have hle2 : n0 ≤ 10000 := by
          rw [← HN.out]; exact Nat.mul_le_mul hn hn
        have hk1 : 0 ≤ (k : Int) * (n : Int) := Int.mul_nonneg (by omega) (by omega)
        have hk2 : (k : Int) * (n : Int) + (k : Int) < (n0 : Int) := by
          rw [← Int.natCast_mul, ← Int.natCast_add]; omega
        have HS := Lib.hid (hor.store (k := k * n + k) (v := 1) hlt2)
        clear hor
        go_wp2
        go_roundw
        case rel => exact ⟨k + 1, by omega, by go_num, hch.setCell hb0 hb1 _, HS⟩
        case measure => simp [intOf]; omega
      · have hkn : k = n := by omega
        subst hkn
        have hm2 : ∀ o, wr.cell? ⟨w.heap.size, o, none⟩ = _ := fun o => hch.cell _ _ (.inl (by omega)) (by simp; omega)
        have hm3 : ∀ o, wr.frozen? ⟨w.heap.size, o, none⟩ = _ := fun o => hch.frozen _ _ (.inl (by omega)) (by simp; omega)
        have hss := hch.size
        simp only [World.size_alloc] at hss
        go_wp2
        refine bodyPost_ret (v := .agg #[.int .i64 p, .int .i64 k, .int .i64 k, .slice (some ⟨b, o, none⟩) n0 cap]) (by simp [results, Try.results31, go_sem, hm2, hz1, hc1]) rfl ⟨_, _, _, rfl, (by first | assumption | exact Hd.nil | exact Hd.self (by first | omega | (unfold maxLen; omega))), ?_, ?_⟩
        · have h1 : Below w.heap.size w w1 := (by repeat' (first | (with_reducible exact Below.refl _ _) | (with_reducible refine Below.setCell ?_ (by first | exact Nat.le_refl _ | omega | (simp only [World.size_alloc, World.size_setCell, World.heap_drewN]; omega) | (simp; omega)) _) | (with_reducible refine Below.alloc ?_ (by first | exact Nat.le_refl _ | omega | (simp only [World.size_alloc, World.size_setCell, World.heap_drewN]; omega) | (simp; omega)) _) | (with_reducible refine below_drewN ?_ _) | (with_reducible refine Below.drew ?_) | (with_reducible refine Below.trans ?_ (hb.mono (by first | exact Nat.le_refl _ | omega | (simp only [World.size_alloc, World.size_setCell, World.heap_drewN]; omega) | (simp; omega))))))
          have h2 : Below w.heap.size w wr := (h1.alloc (by omega) _).trans ((hch.below (by simp; omega)).mono (by omega))
          exact (by repeat' (first | (with_reducible exact Below.refl _ _) | (with_reducible refine Below.setCell ?_ (by first | exact Nat.le_refl _ | omega | (simp only [World.size_alloc, World.size_setCell, World.heap_drewN]; omega) | (simp; omega)) _) | (with_reducible refine Below.alloc ?_ (by first | exact Nat.le_refl _ | omega | (simp only [World.size_alloc, World.size_setCell, World.heap_drewN]; omega) | (simp; omega)) _) | (with_reducible refine below_drewN ?_ _) | (with_reducible refine Below.drew ?_) | (with_reducible refine Below.trans ?_ (h2.mono (by first | exact Nat.le_refl _ | omega | (simp only [World.size_alloc, World.size_setCell, World.heap_drewN]; omega) | (simp; omega))))))
        · simp only [World.size_setCell]
          exact ((((((hor.setLow (by simp) _).setLow (by simp) _).setLow (by simp) _).setLow (by simp) _)).down (by omega)).up (by omega)

theorem iUnit_ok (p : Int) (n : Nat) (w : World) (hz : okZ p n n) :
    Calls Try.prog 45 #[.int .i64 p, .int .i64 n] w (RetM p n n (unitD n n) w) := by
  have hn : n ≤ 100 := by have := hz.2.1; omega
  have HZ := Lib.hid hz
  clear hz
  go_enter Try.func45, Try.ntmps45
  go_wp2_with fail
  refine (iZero_ok p n n _ HZ.out).mono ?_
  rintro e w1 ⟨A, n0, cap, rfl, hdA, hb, ho⟩
  obtain ⟨hc1, hf1⟩ := bcell hb
  have hs1 := hb.size
  simp only [World.size_alloc] at hs1 ho
  have hz1 : w.heap.size < w1.heap.size := by omega
  rw [natsq] at ho
  have hn0 := ho.size
  rw [List.length_replicate] at hn0
  have HN := Lib.hid hn0
  clear hn0
  rcases Nat.eq_zero_or_pos n with h0 | hpos
  · subst h0
    go_wp2_with fail
    go_loop [13] (fun i => i = .int .i64 0) (fun _ => 0)
    case atStart => rfl
    case round =>
      obtain rfl := hrel
      go_wp2
      refine bodyPost_ret (v := .agg #[.int .i64 p, .int .i64 0, .int .i64 0, .slice A n0 cap]) (by simp [results, Try.results45, go_sem, hz1, hc1]) rfl ⟨_, _, _, rfl, (by first | assumption | exact Hd.nil | exact Hd.self (by first | omega | (unfold maxLen; omega))), (by repeat' (first | (with_reducible exact Below.refl _ _) | (with_reducible refine Below.setCell ?_ (by first | exact Nat.le_refl _ | omega | (simp only [World.size_alloc, World.size_setCell, World.heap_drewN]; omega) | (simp; omega)) _) | (with_reducible refine Below.alloc ?_ (by first | exact Nat.le_refl _ | omega | (simp only [World.size_alloc, World.size_setCell, World.heap_drewN]; omega) | (simp; omega)) _) | (with_reducible refine below_drewN ?_ _) | (with_reducible refine Below.drew ?_) | (with_reducible refine Below.trans ?_ (hb.mono (by first | exact Nat.le_refl _ | omega | (simp only [World.size_alloc, World.size_setCell, World.heap_drewN]; omega) | (simp; omega)))))), ?_⟩
      have : n0 = 0 := by have := HN.out; omega
      subst this
      exact OwI.emp _ _ _ _
  · have hnn : 0 < n0 := by rw [← HN.out]; exact Nat.mul_pos hpos hpos
    obtain ⟨b, o, rfl⟩ := ho.addr hnn
    obtain ⟨hb0, hb1⟩ := ho.blk hnn
    go_wp2_with fail
    go_loopw [13] (fun i wr => ∃ k : Nat, k ≤ n ∧ i = .int .i64 k ∧ Chg (w.heap.size + 1) w1.heap.size (w1.alloc (.cells #[.int .i64 p, .int .i64 n, .int .i64 n, .slice (some ⟨b, o, none⟩) n0 cap] 27)) wr ∧ OwI wr (w.heap.size + 1) w1.heap.size (some ⟨b, o, none⟩) n0 (unitD n k)) (fun i _ => n - (intOf i).toNat)
    case atStart => exact ⟨0, by omega, rfl, Chg.refl _ _ _, ho.alloc (Nat.le_refl _) _⟩
    case round =>
      obtain ⟨k, hk, rfl, hch, hor⟩ := hrel
      have hm1 : ∀ o, wr.cell? ⟨w1.heap.size, o, none⟩ = _ := fun o => hch.cell _ _ (.inr (Nat.le_refl _)) (by simp)
      by_cases hlt : k < n
      · have hlt2 : k * n + k < n0 := by rw [← HN.out]; exact diag_lt hlt
        obtain ⟨hcl, hfz⟩ := hor.at_ hlt2
        have hle2 : n0 ≤ 10000 := by
          rw [← HN.out]; exact Nat.mul_le_mul hn hn
        have hk1 : 0 ≤ (k : Int) * (n : Int) := Int.mul_nonneg (by omega) (by omega)
        have hk2 : (k : Int) * (n : Int) + (k : Int) < (n0 : Int) := by
          rw [← Int.natCast_mul, ← Int.natCast_add]; omega
        have HS := Lib.hid (hor.store (k := k * n + k) (v := 1) hlt2)
        clear hor
        go_wp2
        go_roundw
        case rel => exact ⟨k + 1, by omega, by go_num, hch.setCell hb0 hb1 _, HS⟩
        case measure => simp [intOf]; omega
      · have hkn : k = n := by omega
        subst hkn
        have hm2 : ∀ o, wr.cell? ⟨w.heap.size, o, none⟩ = _ := fun o => hch.cell _ _ (.inl (by omega)) (by simp; omega)
        have hm3 : ∀ o, wr.frozen? ⟨w.heap.size, o, none⟩ = _ := fun o => hch.frozen _ _ (.inl (by omega)) (by simp; omega)
        have hss := hch.size
        simp only [World.size_alloc] at hss
        go_wp2
        refine bodyPost_ret (v := .agg #[.int .i64 p, .int .i64 k, .int .i64 k, .slice (some ⟨b, o, none⟩) n0 cap]) (by simp [results, Try.results45, go_sem, hm2, hz1, hc1]) rfl ⟨_, _, _, rfl, (by first | assumption | exact Hd.nil | exact Hd.self (by first | omega | (unfold maxLen; omega))), ?_, ?_⟩
        · have h1 : Below w.heap.size w w1 := (by repeat' (first | (with_reducible exact Below.refl _ _) | (with_reducible refine Below.setCell ?_ (by first | exact Nat.le_refl _ | omega | (simp only [World.size_alloc, World.size_setCell, World.heap_drewN]; omega) | (simp; omega)) _) | (with_reducible refine Below.alloc ?_ (by first | exact Nat.le_refl _ | omega | (simp only [World.size_alloc, World.size_setCell, World.heap_drewN]; omega) | (simp; omega)) _) | (with_reducible refine below_drewN ?_ _) | (with_reducible refine Below.drew ?_) | (with_reducible refine Below.trans ?_ (hb.mono (by first | exact Nat.le_refl _ | omega | (simp only [World.size_alloc, World.size_setCell, World.heap_drewN]; omega) | (simp; omega))))))
          have h2 : Below w.heap.size w wr := (h1.alloc (by omega) _).trans ((hch.below (by simp; omega)).mono (by omega))
          exact (by repeat' (first | (with_reducible exact Below.refl _ _) | (with_reducible refine Below.setCell ?_ (by first | exact Nat.le_refl _ | omega | (simp only [World.size_alloc, World.size_setCell, World.heap_drewN]; omega) | (simp; omega)) _) | (with_reducible refine Below.alloc ?_ (by first | exact Nat.le_refl _ | omega | (simp only [World.size_alloc, World.size_setCell, World.heap_drewN]; omega) | (simp; omega)) _) | (with_reducible refine below_drewN ?_ _) | (with_reducible refine Below.drew ?_) | (with_reducible refine Below.trans ?_ (h2.mono (by first | exact Nat.le_refl _ | omega | (simp only [World.size_alloc, World.size_setCell, World.heap_drewN]; omega) | (simp; omega))))))
        · simp only [World.size_setCell]
          exact ((((((hor.setLow (by simp) _).setLow (by simp) _).setLow (by simp) _).setLow (by simp) _)).down (by omega)).up (by omega)

theorem okU_cases {p n : Int} (h : ¬ okZ p n n) : isP p = false ∨ (isP p = true ∧ (decide (0 ≤ n) && decide (n ≤ 40)) = false) := by
  rcases okZ_cases h with h | h | ⟨_, h1, h2⟩
  · exact .inl h
  · exact .inr h
  · rw [h1] at h2; cases h2
theorem iUnit_bad (p n : Int) (w : World) (h : ¬ okZ p n n) :
    Calls Try.prog 45 #[.int .i64 p, .int .i64 n] w (RetM 0 0 0 [] w) := by
  have HZ := Lib.hid h
  clear h
  go_enter Try.func45, Try.ntmps45
  go_wp2_with fail
  refine (iZero_bad p n n _ HZ.out).mono ?_
  rintro e w1 ⟨A, n0, cap, rfl, hdA, hb, ho⟩
  obtain ⟨hc1, hf1⟩ := bcell hb
  have hs1 := hb.size
  simp only [World.size_alloc] at hs1 ho
  have hz1 : w.heap.size < w1.heap.size := by omega
  go_wp2_with fail
  go_loop [13] (fun i => i = .int .i64 0) (fun _ => 0)
  case atStart => rfl
  case round =>
    obtain rfl := hrel
    go_wp2
    refine bodyPost_ret (v := .agg #[.int .i64 0, .int .i64 0, .int .i64 0, .slice A n0 cap]) (by simp [results, Try.results45, go_sem, hz1, hc1]) rfl ⟨_, _, _, rfl, (by first | assumption | exact Hd.nil | exact Hd.self (by first | omega | (unfold maxLen; omega))), (by repeat' (first | (with_reducible exact Below.refl _ _) | (with_reducible refine Below.setCell ?_ (by first | exact Nat.le_refl _ | omega | (simp only [World.size_alloc, World.size_setCell, World.heap_drewN]; omega) | (simp; omega)) _) | (with_reducible refine Below.alloc ?_ (by first | exact Nat.le_refl _ | omega | (simp only [World.size_alloc, World.size_setCell, World.heap_drewN]; omega) | (simp; omega)) _) | (with_reducible refine below_drewN ?_ _) | (with_reducible refine Below.drew ?_) | (with_reducible refine Below.trans ?_ (hb.mono (by first | exact Nat.le_refl _ | omega | (simp only [World.size_alloc, World.size_setCell, World.heap_drewN]; omega) | (simp; omega)))))), ?_⟩
    have : n0 = 0 := by have := ho.size; simpa using this.symm
    subst this
    exact OwI.emp _ _ _ _
end Go.Proofs.Yteepnimmbofmlaa
namespace Go.Proofs.Yteepnimmbofmlaa
set_option linter.unusedVariables false
set_option linter.unusedSimpArgs false
set_option maxRecDepth 20000
open Go.RowKit
set_option maxHeartbeats 400000
/-- what MatrixOk tells -/
def okM (p r c : Int) (d : List Int) : Bool := isP p && (decide (0 ≤ r) && decide (r ≤ 40)) && (decide (0 ≤ c) && decide (c ≤ 40)) && ((d.length : Int) == r * c) && resB d p
theorem okM_cases (p r c : Int) (d : List Int) :
    (isP p = false ∧ okM p r c d = false) ∨
    (isP p = true ∧ (decide (0 ≤ r) && decide (r ≤ 40)) = false ∧ okM p r c d = false) ∨
    (isP p = true ∧ (decide (0 ≤ r) && decide (r ≤ 40)) = true ∧ (decide (0 ≤ c) && decide (c ≤ 40)) = false ∧ okM p r c d = false) ∨
    (isP p = true ∧ (decide (0 ≤ r) && decide (r ≤ 40)) = true ∧ (decide (0 ≤ c) && decide (c ≤ 40)) = true ∧ ((d.length : Int) == r * c) = false ∧ okM p r c d = false) ∨
    (isP p = true ∧ (decide (0 ≤ r) && decide (r ≤ 40)) = true ∧ (decide (0 ≤ c) && decide (c ≤ 40)) = true ∧ ((d.length : Int) == r * c) = true ∧ okM p r c d = resB d p) := by
  unfold okM
  rcases isP p with _ | _ <;> rcases (decide (0 ≤ r) && decide (r ≤ 40)) with _ | _ <;> rcases (decide (0 ≤ c) && decide (c ≤ 40)) with _ | _ <;> rcases ((d.length : Int) == r * c) with _ | _ <;> simp
theorem okM_bd {p r c : Int} {d : List Int} (h : okM p r c d = true) : isP p = true ∧ (0 ≤ r ∧ r ≤ 40) ∧ (0 ≤ c ∧ c ≤ 40) ∧ (d.length : Int) = r * c ∧ resB d p = true := by
  unfold okM at h
  simp only [Bool.and_eq_true, decide_eq_true_eq, beq_iff_eq] at h
  obtain ⟨⟨⟨⟨h1, h2⟩, h3⟩, h4⟩, h5⟩ := h
  exact ⟨h1, h2, h3, h4, h5⟩
theorem mul_bd {r c : Int} (e1 : (decide (0 ≤ r) && decide (r ≤ 40)) = true) (e2 : (decide (0 ≤ c) && decide (c ≤ 40)) = true) : 0 ≤ r * c ∧ r * c ≤ 1600 := by
  simp at e1 e2
  exact ⟨Int.mul_nonneg e1.1 e2.1, Int.mul_le_mul e1.2 e2.2 e2.1 (by omega)⟩

theorem iOkM_any {B : Nat} (p r c : Int) (A : Option Addr) (n cap : Nat) (d : List Int) (w : World) (h : RdI w B A n d) (hB : B ≤ w.heap.size) :
    Calls Try.prog 87 #[.agg #[.int .i64 p, .int .i64 r, .int .i64 c, .slice A n cap]] w (Rv (.bool (okM p r c d)) w) := by
  have hn : n = d.length := h.1.symm
  subst hn
  rcases okM_cases p r c d with ⟨hp, hR⟩ | ⟨hp, e1, hR⟩ | ⟨hp, e1, e2, hR⟩ | ⟨hp, e1, e2, e3, hR⟩ | ⟨hp, e1, e2, e3, hR⟩
  · have HR := Lib.hid hR
    clear hR
    go_enter Try.func87, Try.ntmps87
    go_wp2_with (first | (go_at_call 57; refine (ip_any _ _).mono ?_; rintro e w' ⟨rfl, rfl⟩) | (go_at_call 41; refine (inside_any _ _ _ _).mono ?_; rintro e w' ⟨rfl, rfl⟩))
    go_ret
    exact ⟨by rw [HR.out]; rfl, (by repeat' (first | (with_reducible exact Below.refl _ _) | (with_reducible refine Below.setCell ?_ (by first | exact Nat.le_refl _ | omega | (simp only [World.size_alloc, World.size_setCell, World.heap_drewN]; omega) | (simp; omega)) _) | (with_reducible refine Below.alloc ?_ (by first | exact Nat.le_refl _ | omega | (simp only [World.size_alloc, World.size_setCell, World.heap_drewN]; omega) | (simp; omega)) _) | (with_reducible refine below_drewN ?_ _) | (with_reducible refine Below.drew ?_)))⟩
  · have HR := Lib.hid hR
    clear hR
    go_enter Try.func87, Try.ntmps87
    go_wp2_with (first | (go_at_call 57; refine (ip_any _ _).mono ?_; rintro e w' ⟨rfl, rfl⟩) | (go_at_call 41; refine (inside_any _ _ _ _).mono ?_; rintro e w' ⟨rfl, rfl⟩))
    go_ret
    exact ⟨by rw [HR.out]; rfl, (by repeat' (first | (with_reducible exact Below.refl _ _) | (with_reducible refine Below.setCell ?_ (by first | exact Nat.le_refl _ | omega | (simp only [World.size_alloc, World.size_setCell, World.heap_drewN]; omega) | (simp; omega)) _) | (with_reducible refine Below.alloc ?_ (by first | exact Nat.le_refl _ | omega | (simp only [World.size_alloc, World.size_setCell, World.heap_drewN]; omega) | (simp; omega)) _) | (with_reducible refine below_drewN ?_ _) | (with_reducible refine Below.drew ?_)))⟩
  · have HR := Lib.hid hR
    clear hR
    go_enter Try.func87, Try.ntmps87
    go_wp2_with (first | (go_at_call 57; refine (ip_any _ _).mono ?_; rintro e w' ⟨rfl, rfl⟩) | (go_at_call 41; refine (inside_any _ _ _ _).mono ?_; rintro e w' ⟨rfl, rfl⟩))
    go_ret
    exact ⟨by rw [HR.out]; rfl, (by repeat' (first | (with_reducible exact Below.refl _ _) | (with_reducible refine Below.setCell ?_ (by first | exact Nat.le_refl _ | omega | (simp only [World.size_alloc, World.size_setCell, World.heap_drewN]; omega) | (simp; omega)) _) | (with_reducible refine Below.alloc ?_ (by first | exact Nat.le_refl _ | omega | (simp only [World.size_alloc, World.size_setCell, World.heap_drewN]; omega) | (simp; omega)) _) | (with_reducible refine below_drewN ?_ _) | (with_reducible refine Below.drew ?_)))⟩
  · have HR := Lib.hid hR
    obtain ⟨m1, m2⟩ := mul_bd e1 e2
    have e4 : ((d.length : Int) != r * c) = true := by rw [bne, e3]; rfl
    clear hR e3
    go_enter Try.func87, Try.ntmps87
    go_wp2_with (first | (go_at_call 57; refine (ip_any _ _).mono ?_; rintro e w' ⟨rfl, rfl⟩) | (go_at_call 41; refine (inside_any _ _ _ _).mono ?_; rintro e w' ⟨rfl, rfl⟩))
    go_ret
    exact ⟨by rw [HR.out]; rfl, (by repeat' (first | (with_reducible exact Below.refl _ _) | (with_reducible refine Below.setCell ?_ (by first | exact Nat.le_refl _ | omega | (simp only [World.size_alloc, World.size_setCell, World.heap_drewN]; omega) | (simp; omega)) _) | (with_reducible refine Below.alloc ?_ (by first | exact Nat.le_refl _ | omega | (simp only [World.size_alloc, World.size_setCell, World.heap_drewN]; omega) | (simp; omega)) _) | (with_reducible refine below_drewN ?_ _) | (with_reducible refine Below.drew ?_)))⟩
  · have HR := Lib.hid hR
    obtain ⟨m1, m2⟩ := mul_bd e1 e2
    obtain ⟨hp1, hp2⟩ := isP_bd hp
    have e4 : ((d.length : Int) != r * c) = false := by rw [bne, e3]; rfl
    clear hR e3
    go_enter Try.func87, Try.ntmps87
    go_wp2_with (first | (go_at_call 57; refine (ip_any _ _).mono ?_; rintro e w' ⟨rfl, rfl⟩) | (go_at_call 41; refine (inside_any _ _ _ _).mono ?_; rintro e w' ⟨rfl, rfl⟩) | (go_at_call 58; refine (residues_any A _ cap p d _ (B := B) (by exact h.below ((by repeat' (first | (with_reducible exact Below.refl _ _) | (with_reducible refine Below.setCell ?_ (by first | exact Nat.le_refl _ | omega | (simp only [World.size_alloc, World.size_setCell, World.heap_drewN]; omega) | (simp; omega)) _) | (with_reducible refine Below.alloc ?_ (by first | exact Nat.le_refl _ | omega | (simp only [World.size_alloc, World.size_setCell, World.heap_drewN]; omega) | (simp; omega)) _) | (with_reducible refine below_drewN ?_ _) | (with_reducible refine Below.drew ?_))) : Below w.heap.size w _) hB) (by first | exact Nat.le_refl _ | omega | (simp only [World.size_alloc, World.size_setCell, World.heap_drewN]; omega) | (simp; omega)) (by omega) (by omega)).mono ?_; rintro e w1 ⟨rfl, hb⟩))
    go_ret
    exact ⟨by rw [HR.out]; rfl, (by repeat' (first | (with_reducible exact Below.refl _ _) | (with_reducible refine Below.setCell ?_ (by first | exact Nat.le_refl _ | omega | (simp only [World.size_alloc, World.size_setCell, World.heap_drewN]; omega) | (simp; omega)) _) | (with_reducible refine Below.alloc ?_ (by first | exact Nat.le_refl _ | omega | (simp only [World.size_alloc, World.size_setCell, World.heap_drewN]; omega) | (simp; omega)) _) | (with_reducible refine below_drewN ?_ _) | (with_reducible refine Below.drew ?_) | (with_reducible refine Below.trans ?_ (hb.mono (by first | exact Nat.le_refl _ | omega | (simp only [World.size_alloc, World.size_setCell, World.heap_drewN]; omega) | (simp; omega))))))⟩
end Go.Proofs.Yteepnimmbofmlaa
namespace Go.Proofs.Yteepnimmbofmlaa
set_option linter.unusedVariables false
set_option linter.unusedSimpArgs false
set_option maxRecDepth 20000
open Go.RowKit
set_option maxHeartbeats 400000
theorem l1At_any {B : Nat} (p r : Int) (C i j n k : Nat) (A : Option Addr) (d : List Int) (w : World) (h : RdI w B A n d) (hB : B ≤ w.heap.size) (hij : i * C + j < n) (hn : n ≤ 1073741824) :
    Calls Try.prog 72 #[.agg #[.int .i64 p, .int .i64 r, .int .i64 C, .slice A n k], .int .i64 i, .int .i64 j] w (Rv (.int .i64 (gI d (i * C + j))) w) := by
  obtain ⟨b, o, rfl⟩ := h.addr (by omega)
  have hc := (h.alloc hB (.cells #[.int .i64 p, .int .i64 r, .int .i64 C, .slice (some ⟨b, o, none⟩) n k] 27)).at_ hij
  have hk1 : 0 ≤ (i : Int) * (C : Int) := Int.mul_nonneg (by omega) (by omega)
  have hk2 : (i : Int) * (C : Int) + (j : Int) < (n : Int) := by
    rw [← Int.natCast_mul, ← Int.natCast_add]; omega
  go_enter Try.func72, Try.ntmps72
  go_wp2
  go_ret
  exact ⟨rfl, (by repeat' (first | (with_reducible exact Below.refl _ _) | (with_reducible refine Below.setCell ?_ (by first | exact Nat.le_refl _ | omega | (simp only [World.size_alloc, World.size_setCell, World.heap_drewN]; omega) | (simp; omega)) _) | (with_reducible refine Below.alloc ?_ (by first | exact Nat.le_refl _ | omega | (simp only [World.size_alloc, World.size_setCell, World.heap_drewN]; omega) | (simp; omega)) _) | (with_reducible refine below_drewN ?_ _) | (with_reducible refine Below.drew ?_)))⟩

/-- the sum of the first k numbers of the diagonal -/
def trS (d : List Int) (C : Nat) : Nat → Int
  | 0 => 0
  | k + 1 => trS d C k + gI d (k * C + k)
theorem trS_bd {d : List Int} {C k : Nat} {p : Int} (hd : resB d p = true) (hp : p ≤ 10007) (hl : d.length = C * C) (hk : k ≤ C) : 0 ≤ trS d C k ∧ trS d C k ≤ k * 10007 := by
  induction k with
  | zero => simp [trS]
  | succ k ih =>
    have := ih (by omega)
    have h2 := resB_get hd (k := k * C + k) (by rw [hl]; exact diag_lt (by omega))
    simp only [trS]
    have e : ((k + 1 : Nat) : Int) * 10007 = (k : Int) * 10007 + 10007 := by rw [Int.natCast_add]; omega
    omega

theorem l1Trace_any {B : Nat} (p : Int) (C n k : Nat) (A : Option Addr) (d : List Int) (w : World) (h : RdI w B A n d) (hB : B ≤ w.heap.size) (hp1 : 1 ≤ p) (hp : p ≤ 10007) (hC : C ≤ 40) (hl : n = C * C) (hd : resB d p = true) :
    Calls Try.prog 55 #[.agg #[.int .i64 p, .int .i64 C, .int .i64 C, .slice A n k]] w (Rv (.int .i64 (trS d C C % p)) w) := by
  have HL := Lib.hid hl
  have HD := Lib.hid hd
  have hle : n ≤ 1600 := by rw [hl]; exact Nat.mul_le_mul hC hC
  clear hl hd
  go_enter Try.func55, Try.ntmps55
  go_wp2_with fail
  go_loopw [3, 4] (fun s i wr => ∃ j : Nat, j ≤ C ∧ i = .int .i64 j ∧ s = .int .i64 (trS d C j) ∧ Below (w.heap.size + 1) (w.alloc (.cells #[.int .i64 p, .int .i64 C, .int .i64 C, .slice A n k] 27)) wr) (fun _ i _ => C - (intOf i).toNat)
  case atStart => exact ⟨0, by omega, rfl, rfl, Below.refl _ _⟩
  case round =>
    obtain ⟨j, hj, rfl, rfl, hbr⟩ := hrel
    have hx0 : wr.cell? ⟨w.heap.size, 0, none⟩ = some (.int .i64 p) := (hbr.cell (by simp)).trans (by simp)
    have hx1 : wr.cell? ⟨w.heap.size, 1, none⟩ = some (.int .i64 C) := (hbr.cell (by simp)).trans (by simp)
    have hx2 : wr.cell? ⟨w.heap.size, 2, none⟩ = some (.int .i64 C) := (hbr.cell (by simp)).trans (by simp)
    have hx3 : wr.cell? ⟨w.heap.size, 3, none⟩ = some (.slice A n k) := (hbr.cell (by simp)).trans (by simp)
    have hsz := hbr.size
    simp only [World.size_alloc] at hsz
    have hrd := (h.alloc hB (.cells #[.int .i64 p, .int .i64 C, .int .i64 C, .slice A n k] 27)).below hbr (by omega)
    by_cases hlt : j < C
    · have hdl : d.length = C * C := by rw [h.1]; exact HL.out
      have hb1 := trS_bd (k := j) HD.out hp hdl hj
      have hb2 := trS_bd (k := j + 1) HD.out hp hdl (by omega)
      have hin : j * C + j < n := by rw [HL.out]; exact diag_lt hlt
      simp only [trS] at hb2
      have hb3 : (j : Int) * 10007 ≤ 40 * 10007 := by omega
      have hb4 : ((j + 1 : Nat) : Int) * 10007 ≤ 40 * 10007 := by omega
      clear hdl
      go_wp2_with fail
      refine (l1At_any p C C j j n k A d _ (B := B) hrd (by omega) hin (by omega)).mono ?_
      rintro e w2 ⟨rfl, hb⟩
      go_wp2
      go_roundw
      case rel => exact ⟨j + 1, by omega, by go_num, rfl, hbr.trans (hb.mono (by omega))⟩
      case measure => simp [intOf]; omega
    · have hjC : j = C := by omega
      subst hjC
      have hb1 := trS_bd (k := j) HD.out hp (by rw [h.1]; exact HL.out) hj
      go_wp2
      go_ret
      exact ⟨rfl, (by repeat' (first | (with_reducible exact Below.refl _ _) | (with_reducible refine Below.setCell ?_ (by first | exact Nat.le_refl _ | omega | (simp only [World.size_alloc, World.size_setCell, World.heap_drewN]; omega) | (simp; omega)) _) | (with_reducible refine Below.alloc ?_ (by first | exact Nat.le_refl _ | omega | (simp only [World.size_alloc, World.size_setCell, World.heap_drewN]; omega) | (simp; omega)) _) | (with_reducible refine below_drewN ?_ _) | (with_reducible refine Below.drew ?_) | (with_reducible refine Below.trans ?_ (hbr.mono (by first | exact Nat.le_refl _ | omega | (simp only [World.size_alloc, World.size_setCell, World.heap_drewN]; omega) | (simp; omega))))))⟩
end Go.Proofs.Yteepnimmbofmlaa
namespace Go.Proofs.Yteepnimmbofmlaa
set_option linter.unusedVariables false
set_option linter.unusedSimpArgs false
set_option maxRecDepth 20000
open Go.RowKit
set_option maxHeartbeats 400000
/-- D, from place off on m numbers raised by k times those of ys, modulo p -/
def addAt (D : List Int) (off : Nat) (k : Int) (ys : List Int) (p : Int) : Nat → List Int
  | 0 => D
  | m + 1 => (addAt D off k ys p m).set (off + m) ((gI D (off + m) + k * gI ys m) % p)
theorem addAt_len (D : List Int) (off : Nat) (k : Int) (ys : List Int) (p : Int) (m : Nat) : (addAt D off k ys p m).length = D.length := by
  induction m with
  | zero => rfl
  | succ m ih => simp [addAt, ih]
theorem addAt_get (D : List Int) (off : Nat) (k : Int) (ys : List Int) (p : Int) (m : Nat) (h : off + m ≤ D.length) (t : Nat) :
    gI (addAt D off k ys p m) t = if off ≤ t ∧ t < off + m then (gI D t + k * gI ys (t - off)) % p else gI D t := by
  induction m with
  | zero => rw [if_neg (by omega)]; rfl
  | succ m ih =>
    have ih := ih (by omega)
    simp only [addAt]
    rw [gI_set _ _ _ _ (by rw [addAt_len]; omega), ih]
    by_cases h1 : t = off + m
    · subst h1
      rw [if_pos rfl, if_pos (by omega), show off + m - off = m by omega]
    · rw [if_neg h1]
      by_cases h2 : off ≤ t ∧ t < off + m
      · rw [if_pos h2, if_pos (by omega)]
      · rw [if_neg h2, if_neg (by omega)]

/-- what addTo leaves: the row's block has turned, no other -/
def RetAdd (B0 B b o N : Nat) (D : List Int) (w : World) (e : Ending) (w' : World) : Prop :=
  e = .returned (.tuple #[]) ∧ w'.heap.size = w.heap.size ∧ Chg b (b + 1) w w' ∧ OwI w' B0 B (some ⟨b, o, none⟩) N D

theorem addTo_any {B0 B B2 : Nat} (b o N off n1 c1 : Nat) (D : List Int) (k : Int) (A2 : Option Addr) (n2 c2 : Nat) (ys : List Int) (p : Int) (w : World)
    (hO : OwI w B0 B (some ⟨b, o, none⟩) N D) (hoff : off + n1 ≤ N) (hR : RdI w B2 A2 n2 ys) (hB2 : B2 ≤ w.heap.size) (hdis : 0 < n2 → ∀ b2 o2, A2 = some ⟨b2, o2, none⟩ → b2 ≠ b) (hn : n2 ≤ n1)
    (hp0 : 1 ≤ p) (hp1 : p ≤ 10007) (hk0 : 0 ≤ k) (hk1 : k ≤ p) (hys : ∀ j, j < n2 → 0 ≤ gI ys j ∧ gI ys j < p) (hD : ∀ j, j < n2 → 0 ≤ gI D (off + j) ∧ gI D (off + j) < p) :
    Calls Try.prog 61 #[.slice (some ⟨b, o + off, none⟩) n1 c1, .int .i64 k, .slice A2 n2 c2, .int .i64 p] w (RetAdd B0 B b o N (addAt D off k ys p n2) w) := by
  have hN := hO.2.1
  have hm2 := hR.2.1
  unfold maxLen at hN hm2
  have HO := Lib.hid hO
  have HY := Lib.hid hys
  have HD := Lib.hid hD
  have HL := Lib.hid hO.1
  rcases Nat.eq_zero_or_pos n2 with h0 | hpos
  · subst h0
    clear hO hR hys hD hdis
    go_enter Try.func61, Try.ntmps61
    go_wp2
    go_loop [12] (fun i => i = .int .i64 0) (fun _ => 0)
    case atStart => rfl
    case round =>
      obtain rfl := hrel
      go_wp2
      go_end0
      exact ⟨rfl, rfl, Chg.refl _ _ _, HO.out⟩
  · obtain ⟨b2, o2, rfl⟩ := hR.addr hpos
    have hne := hdis hpos b2 o2 rfl
    have hb2 : b2 < w.heap.size := by
      obtain ⟨b', o', e, hb, _⟩ := hR.2.2 hpos
      injection e with e; injection e with e1 e2; omega
    obtain ⟨hb0, hb1⟩ := hO.blk (by omega)
    clear hO hys hD hdis
    go_enter Try.func61, Try.ntmps61
    go_wp2
    go_loopw [12] (fun i wr => ∃ j : Nat, j ≤ n2 ∧ i = .int .i64 j ∧ wr.heap.size = w.heap.size ∧ Chg b (b + 1) w wr ∧ OwI wr B0 B (some ⟨b, o, none⟩) N (addAt D off k ys p j)) (fun i _ => n2 - (intOf i).toNat)
    case atStart => exact ⟨0, by omega, rfl, rfl, Chg.refl _ _ _, HO.out⟩
    case round =>
      obtain ⟨j, hj, rfl, hsz, hch, hor⟩ := hrel
      have HS := Lib.hid hsz
      clear hsz
      by_cases hlt : j < n2
      · have hy := (hch.cell b2 (o2 + j) (by omega) hb2).trans (hR.at_ hlt)
        obtain ⟨hcl, hfz⟩ := hor.at_ (j := off + j) (by omega)
        have hg : gI (addAt D off k ys p j) (off + j) = gI D (off + j) := by
          rw [addAt_get _ _ _ _ _ _ (by rw [HL.out]; omega), if_neg (by omega)]
        rw [hg] at hcl
        rw [← Nat.add_assoc] at hcl hfz
        obtain ⟨y1, y2⟩ := HY.out j hlt
        obtain ⟨d1, d2⟩ := HD.out j hlt
        have m1 : 0 ≤ k * gI ys j := Int.mul_nonneg hk0 y1
        have m2 : k * gI ys j ≤ 10007 * 10007 := Int.mul_le_mul (by omega) (by omega) y1 (by omega)
        have Hst := Lib.hid (hor.store (k := off + j) (v := (gI D (off + j) + k * gI ys j) % p) (by omega))
        clear hg hor
        go_wp2
        go_roundw
        case rel => exact ⟨j + 1, by omega, by go_num, by rw [World.size_setCell]; exact HS.out, hch.setCell (Nat.le_refl _) (by show b < b + 1; omega) _, by
          have := Hst.out
          rw [← Nat.add_assoc] at this
          exact this⟩
        case measure => simp [intOf]; omega
      · have hjn : j = n2 := by omega
        subst hjn
        go_wp2
        go_end0
        exact ⟨rfl, HS.out, hch, hor⟩
theorem addTo_z {B0 B B2 : Nat} (b N off n1 c1 : Nat) (D : List Int) (k : Int) (A2 : Option Addr) (n2 c2 : Nat) (ys : List Int) (p : Int) (w : World)
    (hO : OwI w B0 B (some ⟨b, 0, none⟩) N D) (hoff : off + n1 ≤ N) (hR : RdI w B2 A2 n2 ys) (hB2 : B2 ≤ w.heap.size) (hdis : 0 < n2 → ∀ b2 o2, A2 = some ⟨b2, o2, none⟩ → b2 ≠ b) (hn : n2 ≤ n1)
    (hp0 : 1 ≤ p) (hp1 : p ≤ 10007) (hk0 : 0 ≤ k) (hk1 : k ≤ p) (hys : ∀ j, j < n2 → 0 ≤ gI ys j ∧ gI ys j < p) (hD : ∀ j, j < n2 → 0 ≤ gI D (off + j) ∧ gI D (off + j) < p) :
    Calls Try.prog 61 #[.slice (some ⟨b, off, none⟩) n1 c1, .int .i64 k, .slice A2 n2 c2, .int .i64 p] w (RetAdd B0 B b 0 N (addAt D off k ys p n2) w) := by
  have := addTo_any b 0 N off n1 c1 D k A2 n2 c2 ys p w hO hoff hR hB2 hdis hn hp0 hp1 hk0 hk1 hys hD
  rwa [Nat.zero_add] at this
end Go.Proofs.Yteepnimmbofmlaa
