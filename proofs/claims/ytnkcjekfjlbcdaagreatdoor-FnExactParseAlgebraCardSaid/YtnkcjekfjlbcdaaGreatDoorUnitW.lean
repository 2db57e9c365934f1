/- l1Unit, UnitMatrix of both packages. No condition but what each theorem names. -/
import Derived.Test.YtnkcjekfjlbcdaaGreatDoorAlgW
namespace Go.Proofs.YtnkcjekfjlbcdaaGreatDoor
set_option linter.unusedVariables false
set_option linter.unusedSimpArgs false
set_option maxRecDepth 20000
open Go.RowKit
set_option maxHeartbeats 400000
/-- the unit matrix's numbers as the texts fill them in: k ones -/
def unitD (n : Nat) : Nat → List Int
  | 0 => List.replicate (n * n) 0
  | k + 1 => (unitD n k).set (k * n + k) 1
theorem unitD_len (n k : Nat) : (unitD n k).length = n * n := by
  induction k with
  | zero => simp [unitD]
  | succ k ih => simp [unitD, ih]
theorem diag_lt {n k : Nat} (h : k < n) : k * n + k < n * n := by
  calc k * n + k < k * n + n := by omega
    _ = (k + 1) * n := by rw [Nat.add_mul]; omega
    _ ≤ n * n := Nat.mul_le_mul_right _ (by omega)
theorem natsq (n : Nat) : ((n : Int) * (n : Int)).toNat = n * n := by rw [← Int.natCast_mul]; rfl

theorem okU_cases {p n : Int} (h : ¬ okZ p n n) : isP p = false ∨ (isP p = true ∧ (decide (0 ≤ n) && decide (n ≤ 40)) = false) := by
  rcases okZ_cases h with h | h | ⟨_, h1, h2⟩
  · exact .inl h
  · exact .inr h
  · rw [h1] at h2; cases h2
end Go.Proofs.YtnkcjekfjlbcdaaGreatDoor
namespace Go.Proofs.YtnkcjekfjlbcdaaGreatDoor
set_option linter.unusedVariables false
set_option linter.unusedSimpArgs false
set_option maxRecDepth 20000
open Go.RowKit
set_option maxHeartbeats 400000
/-- what MatrixOk tells -/
def okM (p r c : Int) (d : List Int) : Bool := isP p && (decide (0 ≤ r) && decide (r ≤ 40)) && (decide (0 ≤ c) && decide (c ≤ 40)) && ((d.length : Int) == r * c) && resB d p
theorem okM_cases (p r c : Int) (d : List Int) :
    (isP p = false ∧ okM p r c d = false) ∨
    (isP p = true ∧ (decide (0 ≤ r) && decide (r ≤ 40)) = false ∧ okM p r c d = false) ∨
    (isP p = true ∧ (decide (0 ≤ r) && decide (r ≤ 40)) = true ∧ (decide (0 ≤ c) && decide (c ≤ 40)) = false ∧ okM p r c d = false) ∨
    (isP p = true ∧ (decide (0 ≤ r) && decide (r ≤ 40)) = true ∧ (decide (0 ≤ c) && decide (c ≤ 40)) = true ∧ ((d.length : Int) == r * c) = false ∧ okM p r c d = false) ∨
    (isP p = true ∧ (decide (0 ≤ r) && decide (r ≤ 40)) = true ∧ (decide (0 ≤ c) && decide (c ≤ 40)) = true ∧ ((d.length : Int) == r * c) = true ∧ okM p r c d = resB d p) := by
  unfold okM
  rcases isP p with _ | _ <;> rcases (decide (0 ≤ r) && decide (r ≤ 40)) with _ | _ <;> rcases (decide (0 ≤ c) && decide (c ≤ 40)) with _ | _ <;> rcases ((d.length : Int) == r * c) with _ | _ <;> simp
theorem okM_bd {p r c : Int} {d : List Int} (h : okM p r c d = true) : isP p = true ∧ (0 ≤ r ∧ r ≤ 40) ∧ (0 ≤ c ∧ c ≤ 40) ∧ (d.length : Int) = r * c ∧ resB d p = true := by
  unfold okM at h
  simp only [Bool.and_eq_true, decide_eq_true_eq, beq_iff_eq] at h
  obtain ⟨⟨⟨⟨h1, h2⟩, h3⟩, h4⟩, h5⟩ := h
  exact ⟨h1, h2, h3, h4, h5⟩
theorem mul_bd {r c : Int} (e1 : (decide (0 ≤ r) && decide (r ≤ 40)) = true) (e2 : (decide (0 ≤ c) && decide (c ≤ 40)) = true) : 0 ≤ r * c ∧ r * c ≤ 1600 := by
  simp at e1 e2
  exact ⟨Int.mul_nonneg e1.1 e2.1, Int.mul_le_mul e1.2 e2.2 e2.1 (by omega)⟩

end Go.Proofs.YtnkcjekfjlbcdaaGreatDoor
namespace Go.Proofs.YtnkcjekfjlbcdaaGreatDoor
set_option linter.unusedVariables false
set_option linter.unusedSimpArgs false
set_option maxRecDepth 20000
open Go.RowKit
set_option maxHeartbeats 400000
/-- the sum of the first k numbers of the diagonal -/
def trS (d : List Int) (C : Nat) : Nat → Int
  | 0 => 0
  | k + 1 => trS d C k + gI d (k * C + k)
theorem trS_bd {d : List Int} {C k : Nat} {p : Int} (hd : resB d p = true) (hp : p ≤ 10007) (hl : d.length = C * C) (hk : k ≤ C) : 0 ≤ trS d C k ∧ trS d C k ≤ k * 10007 := by
  induction k with
  | zero => simp [trS]
  | succ k ih =>
    have := ih (by omega)
    have h2 := resB_get hd (k := k * C + k) (by rw [hl]; exact diag_lt (by omega))
    simp only [trS]
    have e : ((k + 1 : Nat) : Int) * 10007 = (k : Int) * 10007 + 10007 := by rw [Int.natCast_add]; omega
    omega

end Go.Proofs.YtnkcjekfjlbcdaaGreatDoor
namespace Go.Proofs.YtnkcjekfjlbcdaaGreatDoor
set_option linter.unusedVariables false
set_option linter.unusedSimpArgs false
set_option maxRecDepth 20000
open Go.RowKit
set_option maxHeartbeats 400000
/-- D, from place off on m numbers raised by k times those of ys, modulo p -/
def addAt (D : List Int) (off : Nat) (k : Int) (ys : List Int) (p : Int) : Nat → List Int
  | 0 => D
  | m + 1 => (addAt D off k ys p m).set (off + m) ((gI D (off + m) + k * gI ys m) % p)
theorem addAt_len (D : List Int) (off : Nat) (k : Int) (ys : List Int) (p : Int) (m : Nat) : (addAt D off k ys p m).length = D.length := by
  induction m with
  | zero => rfl
  | succ m ih => simp [addAt, ih]
theorem addAt_get (D : List Int) (off : Nat) (k : Int) (ys : List Int) (p : Int) (m : Nat) (h : off + m ≤ D.length) (t : Nat) :
    gI (addAt D off k ys p m) t = if off ≤ t ∧ t < off + m then (gI D t + k * gI ys (t - off)) % p else gI D t := by
  induction m with
  | zero => rw [if_neg (by omega)]; rfl
  | succ m ih =>
    have ih := ih (by omega)
    simp only [addAt]
    rw [gI_set _ _ _ _ (by rw [addAt_len]; omega), ih]
    by_cases h1 : t = off + m
    · subst h1
      rw [if_pos rfl, if_pos (by omega), show off + m - off = m by omega]
    · rw [if_neg h1]
      by_cases h2 : off ≤ t ∧ t < off + m
      · rw [if_pos h2, if_pos (by omega)]
      · rw [if_neg h2, if_neg (by omega)]

/-- what addTo leaves: the row's block has turned, no other -/
def RetAdd (B0 B b o N : Nat) (D : List Int) (w : World) (e : Ending) (w' : World) : Prop :=
  e = .returned (.tuple #[]) ∧ w'.heap.size = w.heap.size ∧ Chg b (b + 1) w w' ∧ OwI w' B0 B (some ⟨b, o, none⟩) N D

theorem addTo_any {B0 B B2 : Nat} (b o N off n1 c1 : Nat) (D : List Int) (k : Int) (A2 : Option Addr) (n2 c2 : Nat) (ys : List Int) (p : Int) (w : World)
    (hO : OwI w B0 B (some ⟨b, o, none⟩) N D) (hoff : off + n1 ≤ N) (hR : RdI w B2 A2 n2 ys) (hB2 : B2 ≤ w.heap.size) (hdis : 0 < n2 → ∀ b2 o2, A2 = some ⟨b2, o2, none⟩ → b2 ≠ b) (hn : n2 ≤ n1)
    (hp0 : 1 ≤ p) (hp1 : p ≤ 10007) (hk0 : 0 ≤ k) (hk1 : k ≤ p) (hys : ∀ j, j < n2 → 0 ≤ gI ys j ∧ gI ys j < p) (hD : ∀ j, j < n2 → 0 ≤ gI D (off + j) ∧ gI D (off + j) < p) :
    Calls Tryz.prog 47 #[.slice (some ⟨b, o + off, none⟩) n1 c1, .int .i64 k, .slice A2 n2 c2, .int .i64 p] w (RetAdd B0 B b o N (addAt D off k ys p n2) w) := by
  have hN := hO.2.1
  have hm2 := hR.2.1
  unfold maxLen at hN hm2
  have HO := Lib.hid hO
  have HY := Lib.hid hys
  have HD := Lib.hid hD
  have HL := Lib.hid hO.1
  rcases Nat.eq_zero_or_pos n2 with h0 | hpos
  · subst h0
    clear hO hR hys hD hdis
    go_enter Tryz.func47, Tryz.ntmps47
    go_wp2
    go_loop [12] (fun i => i = .int .i64 0) (fun _ => 0)
    case atStart => rfl
    case round =>
      obtain rfl := hrel
      go_wp2
      go_end0
      exact ⟨rfl, rfl, Chg.refl _ _ _, HO.out⟩
  · obtain ⟨b2, o2, rfl⟩ := hR.addr hpos
    have hne := hdis hpos b2 o2 rfl
    have hb2 : b2 < w.heap.size := by
      obtain ⟨b', o', e, hb, _⟩ := hR.2.2 hpos
      injection e with e; injection e with e1 e2; omega
    obtain ⟨hb0, hb1⟩ := hO.blk (by omega)
    clear hO hys hD hdis
    go_enter Tryz.func47, Tryz.ntmps47
    go_wp2
    go_loopw [12] (fun i wr => ∃ j : Nat, j ≤ n2 ∧ i = .int .i64 j ∧ wr.heap.size = w.heap.size ∧ Chg b (b + 1) w wr ∧ OwI wr B0 B (some ⟨b, o, none⟩) N (addAt D off k ys p j)) (fun i _ => n2 - (intOf i).toNat)
    case atStart => exact ⟨0, by omega, rfl, rfl, Chg.refl _ _ _, HO.out⟩
    case round =>
      obtain ⟨j, hj, rfl, hsz, hch, hor⟩ := hrel
      have HS := Lib.hid hsz
      clear hsz
      by_cases hlt : j < n2
      · have hy := (hch.cell b2 (o2 + j) (by omega) hb2).trans (hR.at_ hlt)
        obtain ⟨hcl, hfz⟩ := hor.at_ (j := off + j) (by omega)
        have hg : gI (addAt D off k ys p j) (off + j) = gI D (off + j) := by
          rw [addAt_get _ _ _ _ _ _ (by rw [HL.out]; omega), if_neg (by omega)]
        rw [hg] at hcl
        rw [← Nat.add_assoc] at hcl hfz
        obtain ⟨y1, y2⟩ := HY.out j hlt
        obtain ⟨d1, d2⟩ := HD.out j hlt
        have m1 : 0 ≤ k * gI ys j := Int.mul_nonneg hk0 y1
        have m2 : k * gI ys j ≤ 10007 * 10007 := Int.mul_le_mul (by omega) (by omega) y1 (by omega)
        have Hst := Lib.hid (hor.store (k := off + j) (v := (gI D (off + j) + k * gI ys j) % p) (by omega))
        clear hg hor
        go_wp2
        go_roundw
        case rel => exact ⟨j + 1, by omega, by go_num, by rw [World.size_setCell]; exact HS.out, hch.setCell (Nat.le_refl _) (by show b < b + 1; omega) _, by
          have := Hst.out
          rw [← Nat.add_assoc] at this
          exact this⟩
        case measure => simp [intOf]; omega
      · have hjn : j = n2 := by omega
        subst hjn
        go_wp2
        go_end0
        exact ⟨rfl, HS.out, hch, hor⟩
theorem addTo_z {B0 B B2 : Nat} (b N off n1 c1 : Nat) (D : List Int) (k : Int) (A2 : Option Addr) (n2 c2 : Nat) (ys : List Int) (p : Int) (w : World)
    (hO : OwI w B0 B (some ⟨b, 0, none⟩) N D) (hoff : off + n1 ≤ N) (hR : RdI w B2 A2 n2 ys) (hB2 : B2 ≤ w.heap.size) (hdis : 0 < n2 → ∀ b2 o2, A2 = some ⟨b2, o2, none⟩ → b2 ≠ b) (hn : n2 ≤ n1)
    (hp0 : 1 ≤ p) (hp1 : p ≤ 10007) (hk0 : 0 ≤ k) (hk1 : k ≤ p) (hys : ∀ j, j < n2 → 0 ≤ gI ys j ∧ gI ys j < p) (hD : ∀ j, j < n2 → 0 ≤ gI D (off + j) ∧ gI D (off + j) < p) :
    Calls Tryz.prog 47 #[.slice (some ⟨b, off, none⟩) n1 c1, .int .i64 k, .slice A2 n2 c2, .int .i64 p] w (RetAdd B0 B b 0 N (addAt D off k ys p n2) w) := by
  have := addTo_any b 0 N off n1 c1 D k A2 n2 c2 ys p w hO hoff hR hB2 hdis hn hp0 hp1 hk0 hk1 hys hD
  rwa [Nat.zero_add] at this
end Go.Proofs.YtnkcjekfjlbcdaaGreatDoor
