/- addTo: a row of the call's own and k times another row, modulo p. No condition but what the theorem names. -/
import Derived.Test.YtgpejighomohlaaOkW
namespace Go.Proofs.Ytgpejighomohlaa
set_option linter.unusedVariables false
set_option linter.unusedSimpArgs false
set_option maxRecDepth 20000
open Go.RowKit
set_option maxHeartbeats 400000
/-- D, from place off on m numbers raised by k times those of ys, modulo p -/
def addAt (D : List Int) (off : Nat) (k : Int) (ys : List Int) (p : Int) : Nat → List Int
  | 0 => D
  | m + 1 => (addAt D off k ys p m).set (off + m) ((gI D (off + m) + k * gI ys m) % p)
theorem addAt_len (D : List Int) (off : Nat) (k : Int) (ys : List Int) (p : Int) (m : Nat) : (addAt D off k ys p m).length = D.length := by
  induction m with
  | zero => rfl
  | succ m ih => simp [addAt, ih]
theorem addAt_get (D : List Int) (off : Nat) (k : Int) (ys : List Int) (p : Int) (m : Nat) (h : off + m ≤ D.length) (t : Nat) :
    gI (addAt D off k ys p m) t = if off ≤ t ∧ t < off + m then (gI D t + k * gI ys (t - off)) % p else gI D t := by
  induction m with
  | zero => rw [if_neg (by omega)]; rfl
  | succ m ih =>
    have ih := ih (by omega)
    simp only [addAt]
    rw [gI_set _ _ _ _ (by rw [addAt_len]; omega), ih]
    by_cases h1 : t = off + m
    · subst h1
      rw [if_pos rfl, if_pos (by omega), show off + m - off = m by omega]
    · rw [if_neg h1]
      by_cases h2 : off ≤ t ∧ t < off + m
      · rw [if_pos h2, if_pos (by omega)]
      · rw [if_neg h2, if_neg (by omega)]

/-- what addTo leaves: the row's block has turned, no other -/
def RetAdd (B0 B b o N : Nat) (D : List Int) (w : World) (e : Ending) (w' : World) : Prop :=
  e = .returned (.tuple #[]) ∧ w'.heap.size = w.heap.size ∧ Chg b (b + 1) w w' ∧ OwI w' B0 B (some ⟨b, o, none⟩) N D

theorem addTo_any {B0 B B2 : Nat} (b o N off n1 c1 : Nat) (D : List Int) (k : Int) (A2 : Option Addr) (n2 c2 : Nat) (ys : List Int) (p : Int) (w : World)
    (hO : OwI w B0 B (some ⟨b, o, none⟩) N D) (hoff : off + n1 ≤ N) (hR : RdI w B2 A2 n2 ys) (hB2 : B2 ≤ w.heap.size) (hdis : 0 < n2 → ∀ b2 o2, A2 = some ⟨b2, o2, none⟩ → b2 ≠ b) (hn : n2 ≤ n1)
    (hp0 : 1 ≤ p) (hp1 : p ≤ 10007) (hk0 : 0 ≤ k) (hk1 : k ≤ p) (hys : ∀ j, j < n2 → 0 ≤ gI ys j ∧ gI ys j < p) (hD : ∀ j, j < n2 → 0 ≤ gI D (off + j) ∧ gI D (off + j) < p) :
    Calls Try.prog 141 #[.slice (some ⟨b, o + off, none⟩) n1 c1, .int .i64 k, .slice A2 n2 c2, .int .i64 p] w (RetAdd B0 B b o N (addAt D off k ys p n2) w) := by
  have hN := hO.2.1
  have hm2 := hR.2.1
  unfold maxLen at hN hm2
  have HO := Lib.hid hO
  have HY := Lib.hid hys
  have HD := Lib.hid hD
  have HL := Lib.hid hO.1
  rcases Nat.eq_zero_or_pos n2 with h0 | hpos
  · subst h0
    clear hO hR hys hD hdis
    go_enter Try.func141, Try.ntmps141
    go_wp2
    go_loop [12] (fun i => i = .int .i64 0) (fun _ => 0)
    case atStart => rfl
    case round =>
      obtain rfl := hrel
      go_wp2
      go_end0
      exact ⟨rfl, rfl, Chg.refl _ _ _, HO.out⟩
  · obtain ⟨b2, o2, rfl⟩ := hR.addr hpos
    have hne := hdis hpos b2 o2 rfl
    have hb2 : b2 < w.heap.size := by
      obtain ⟨b', o', e, hb, _⟩ := hR.2.2 hpos
      injection e with e; injection e with e1 e2; omega
    obtain ⟨hb0, hb1⟩ := hO.blk (by omega)
    clear hO hys hD hdis
    go_enter Try.func141, Try.ntmps141
    go_wp2
    go_loopw [12] (fun i wr => ∃ j : Nat, j ≤ n2 ∧ i = .int .i64 j ∧ wr.heap.size = w.heap.size ∧ Chg b (b + 1) w wr ∧ OwI wr B0 B (some ⟨b, o, none⟩) N (addAt D off k ys p j)) (fun i _ => n2 - (intOf i).toNat)
    case atStart => exact ⟨0, by omega, rfl, rfl, Chg.refl _ _ _, HO.out⟩
    case round =>
      obtain ⟨j, hj, rfl, hsz, hch, hor⟩ := hrel
      have HS := Lib.hid hsz
      clear hsz
      by_cases hlt : j < n2
      · have hy := (hch.cell b2 (o2 + j) (by omega) hb2).trans (hR.at_ hlt)
        obtain ⟨hcl, hfz⟩ := hor.at_ (j := off + j) (by omega)
        have hg : gI (addAt D off k ys p j) (off + j) = gI D (off + j) := by
          rw [addAt_get _ _ _ _ _ _ (by rw [HL.out]; omega), if_neg (by omega)]
        rw [hg] at hcl
        rw [← Nat.add_assoc] at hcl hfz
        obtain ⟨y1, y2⟩ := HY.out j hlt
        obtain ⟨d1, d2⟩ := HD.out j hlt
        have m1 : 0 ≤ k * gI ys j := Int.mul_nonneg hk0 y1
        have m2 : k * gI ys j ≤ 10007 * 10007 := Int.mul_le_mul (by omega) (by omega) y1 (by omega)
        have Hst := Lib.hid (hor.store (k := off + j) (v := (gI D (off + j) + k * gI ys j) % p) (by omega))
        clear hg hor
        go_wp2
        go_roundw
        case rel => exact ⟨j + 1, by omega, by go_num, by rw [World.size_setCell]; exact HS.out, hch.setCell (Nat.le_refl _) (by show b < b + 1; omega) _, by
          have := Hst.out
          rw [← Nat.add_assoc] at this
          exact this⟩
        case measure => simp [intOf]; omega
      · have hjn : j = n2 := by omega
        subst hjn
        go_wp2
        go_end0
        exact ⟨rfl, HS.out, hch, hor⟩
theorem addTo_z {B0 B B2 : Nat} (b N off n1 c1 : Nat) (D : List Int) (k : Int) (A2 : Option Addr) (n2 c2 : Nat) (ys : List Int) (p : Int) (w : World)
    (hO : OwI w B0 B (some ⟨b, 0, none⟩) N D) (hoff : off + n1 ≤ N) (hR : RdI w B2 A2 n2 ys) (hB2 : B2 ≤ w.heap.size) (hdis : 0 < n2 → ∀ b2 o2, A2 = some ⟨b2, o2, none⟩ → b2 ≠ b) (hn : n2 ≤ n1)
    (hp0 : 1 ≤ p) (hp1 : p ≤ 10007) (hk0 : 0 ≤ k) (hk1 : k ≤ p) (hys : ∀ j, j < n2 → 0 ≤ gI ys j ∧ gI ys j < p) (hD : ∀ j, j < n2 → 0 ≤ gI D (off + j) ∧ gI D (off + j) < p) :
    Calls Try.prog 141 #[.slice (some ⟨b, off, none⟩) n1 c1, .int .i64 k, .slice A2 n2 c2, .int .i64 p] w (RetAdd B0 B b 0 N (addAt D off k ys p n2) w) := by
  have := addTo_any b 0 N off n1 c1 D k A2 n2 c2 ys p w hO hoff hR hB2 hdis hn hp0 hp1 hk0 hk1 hys hD
  rwa [Nat.zero_add] at this
end Go.Proofs.Ytgpejighomohlaa
