/- The cursor of the draws: what a call that draws from it hands back, and what it leaves. No condition but what each theorem names. -/
import Derived.Test.YtfhijaldecbahaaDoorLawK
import Derived.Test.YtfhijaldecbahaaDoorGrwT
import Derived.Test.YtfhijaldecbahaaDoorRedW
import Derived.Outline
namespace Go.Proofs.YtfhijaldecbahaaDoor
set_option linter.unusedVariables false
set_option linter.unusedSimpArgs false
set_option maxRecDepth 20000
open Go.RowKit
set_option maxHeartbeats 4000000
theorem band_bd (x : Int) (m : Nat) (hm : m < 4611686018427387904) : 0 ≤ bits .and .i64 x (m : Int) ∧ bits .and .i64 x (m : Int) ≤ (m : Int) := by
  have h : (BitVec.ofInt 64 x &&& BitVec.ofInt 64 (m : Int)).toNat ≤ m := by
    rw [BitVec.toNat_and]
    refine Nat.le_trans Nat.and_le_right ?_
    rw [BitVec.toNat_ofInt]
    omega
  have e : bits .and .i64 x (m : Int) = IntKind.i64.wrap ((BitVec.ofInt 64 x &&& BitVec.ofInt 64 (m : Int)).toNat : Int) := rfl
  rw [e, IntWalk.i64_in _ (by omega)]
  omega
/-- bytes that are read, below block B -/
def RdB (w : World) (B : Nat) (A : Option Addr) (n : Nat) : Prop := n ≤ maxLen ∧ (0 < n → ∃ b o, A = some ⟨b, o, none⟩ ∧ b < B ∧ ∀ j, j < n → ∃ x : Int, 0 ≤ x ∧ x ≤ 255 ∧ w.cell? ⟨b, o + j, none⟩ = some (.int .u8 x))
section
variable {w w' : World} {B B' g n : Nat} {A : Option Addr}
theorem RdB.keep (h : RdB w B A n) (hk : ∀ b o, b < B → b < w.heap.size → w'.cell? ⟨b, o, none⟩ = w.cell? ⟨b, o, none⟩) : RdB w' B A n :=
  ⟨h.1, fun hn => by
    obtain ⟨b, o, e, hb, hc⟩ := h.2 hn
    refine ⟨b, o, e, hb, fun j hj => ?_⟩
    obtain ⟨x, h0, h1, hx⟩ := hc j hj
    refine ⟨x, h0, h1, ?_⟩
    rw [hk b _ hb ?_]; exact hx
    rcases Nat.lt_or_ge b w.heap.size with h | h
    · exact h
    · simp [World.cell?, Array.getElem?_eq_none h] at hx⟩
theorem RdB.up (h : RdB w B A n) (hB : B ≤ B') : RdB w B' A n := ⟨h.1, fun hn => by obtain ⟨b, o, e, hb, hc⟩ := h.2 hn; exact ⟨b, o, e, by omega, hc⟩⟩
theorem RdB.below (h : RdB w B A n) (hb : Below B' w w') (hB : B ≤ B') : RdB w' B A n := h.keep fun b o hlt _ => hb.cell (p := ⟨b, o, none⟩) (by show b < B'; omega)
theorem RdB.chg {B1 : Nat} (h : RdB w B A n) (hc : Chg B' B1 w w') (hB : B ≤ B') : RdB w' B A n := h.keep fun b o hlt hs => hc.cell b o (.inl (by omega)) hs
theorem RdB.ofRow {len cap : Nat} {zs : List Int} (h : IsRow .u8 w A len cap zs) : RdB w w.heap.size A len := by
  rcases h with ⟨rfl, rfl, rfl, rfl⟩ | ⟨x, rfl, hl, hm, hz, hc, hw⟩
  · exact ⟨by unfold maxLen; omega, fun h => absurd h (by omega)⟩
  · refine ⟨by omega, fun hn => ?_⟩
    obtain ⟨b, o, s⟩ := x
    have h0 := hc 0 (by omega)
    have hs : s = none := by simpa [Addr.add] using World.cell?_spot h0
    subst hs
    refine ⟨b, o, rfl, ?_, fun j hj => ?_⟩
    · rcases Nat.lt_or_ge b w.heap.size with h | h
      · exact h
      · simp [Addr.add, World.cell?, Array.getElem?_eq_none h] at h0
    · have h1 := hc j (by omega)
      have e : (⟨b, o, none⟩ : Addr).add j = ⟨b, o + j, none⟩ := by
        by_cases hj0 : j = 0
        · subst hj0; simp [Addr.add]
        · simp [Addr.add, hj0]
      rw [e] at h1
      have h2 := hw (zs.getD j 0) (by rw [List.getD_eq_getElem?_getD, List.getElem?_eq_getElem (by omega)]; exact List.getElem_mem _)
      simp [Lit.wf, IntKind.min, IntKind.max, IntKind.signed, IntKind.bits] at h2
      exact ⟨_, by simpa using h2.1, by have := h2.2; simp; omega, h1⟩
/-- a cursor in block g -/
def Cur (w : World) (g : Nat) : Prop := ∃ (A : Option Addr) (n k i : Nat) (h : Int), Box w g #[.slice A n k, .int .i64 (i : Int), .int .i64 h] ∧ RdB w g A n ∧ i ≤ n
theorem Cur.lt (h : Cur w g) : g < w.heap.size := by obtain ⟨A, n, k, i, x, hb, _⟩ := h; exact hb.lt
theorem Cur.below (h : Cur w g) (hb : Below B w w') (hB : g < B) : Cur w' g := by
  obtain ⟨A, n, k, i, x, h1, h2, h3⟩ := h
  exact ⟨A, n, k, i, x, h1.below hb hB, h2.below hb (by omega), h3⟩
theorem Cur.alloc (h : Cur w g) (o : Obj) : Cur (w.alloc o) g := h.below ((Below.refl _ w).alloc (Nat.le_refl _) o) h.lt
theorem Cur.setCell (h : Cur w g) {p : Addr} (hp : g < p.block) (v : Value) : Cur (w.setCell p v) g := h.below (B := g + 1) ((Below.refl _ w).setCell (by omega) v) (by omega)
/-- a number that is drawn: what holds of it; the cursor stands further on, nothing else has turned -/
def DrN (g : Nat) (P : Int → Prop) (w : World) (e : Ending) (w' : World) : Prop := ∃ v : Int, P v ∧ e = .returned (.int .i64 v) ∧ Cur w' g ∧ Chg g (g + 1) w w'
end
theorem l1Byte_any {g : Nat} (w : World) (h : Cur w g) : Calls Tryd.prog 51 #[.pointer (some ⟨g, 0, none⟩)] w (DrN g (fun v => 0 ≤ v ∧ v ≤ 255) w) := by
  obtain ⟨A, n, k, i, x, hb, hr, hi⟩ := h
  have hm := hr.1
  unfold maxLen at hm
  obtain ⟨x0, x1, x2⟩ := hb.three
  have xf := hb.fz
  by_cases hlt : i < n
  · obtain ⟨b, o, rfl, hbB, hc⟩ := hr.2 (by omega)
    obtain ⟨y, hy0, hy1, hyc⟩ := hc i hlt
    have hne : ¬ g = b := by omega
    clear hc
    go_enter Tryd.func51, Tryd.ntmps51
    go_wp2
    go_quiet (fail)
    generalize (wrap64 (wrap64 (x * 6364136223846793005) + 1442695040888963407)) = h2
    have hbd : 0 ≤ bits .and .i64 (bits .xor .i64 (h2 / 8589934592) (h2 / 35184372088832)) 255 ∧ bits .and .i64 (bits .xor .i64 (h2 / 8589934592) (h2 / 35184372088832)) 255 ≤ 255 := band_bd _ 255 (by omega)
    generalize (bits .and .i64 (bits .xor .i64 (h2 / 8589934592) (h2 / 35184372088832)) 255) = t at *
    go_wp2
    go_quiet (fail)
    go_wp2
    go_quiet (fail)
    go_wp2
    have hbe : 0 ≤ bits .and .i64 (t + y) 255 ∧ bits .and .i64 (t + y) 255 ≤ 255 := band_bd _ 255 (by omega)
    go_ret
    exact ⟨_, hbe, rfl, ⟨_, _, _, i + 1, h2, (hb.set 2 (.int .i64 h2)).set 1 (.int .i64 ((i : Int) + 1)), hr.chg ((((Chg.refl g (g + 1) w).setCell (Nat.le_refl _) (Nat.lt_succ_self _) _).drewN _).setCell (Nat.le_refl _) (Nat.lt_succ_self _) _) (Nat.le_refl _), by omega⟩, (((Chg.refl g (g + 1) w).setCell (Nat.le_refl _) (Nat.lt_succ_self _) _).drewN _).setCell (Nat.le_refl _) (Nat.lt_succ_self _) _⟩
  · go_enter Tryd.func51, Tryd.ntmps51
    go_wp2
    go_quiet (fail)
    generalize (wrap64 (wrap64 (x * 6364136223846793005) + 1442695040888963407)) = h2
    have hbd : 0 ≤ bits .and .i64 (bits .xor .i64 (h2 / 8589934592) (h2 / 35184372088832)) 255 ∧ bits .and .i64 (bits .xor .i64 (h2 / 8589934592) (h2 / 35184372088832)) 255 ≤ 255 := band_bd _ 255 (by omega)
    generalize (bits .and .i64 (bits .xor .i64 (h2 / 8589934592) (h2 / 35184372088832)) 255) = t at *
    go_wp2
    go_quiet (fail)
    go_wp2
    go_ret
    exact ⟨_, hbd, rfl, ⟨A, n, k, i, h2, hb.set 2 (.int .i64 h2), hr.chg ((((Chg.refl g (g + 1) w).setCell (Nat.le_refl _) (Nat.lt_succ_self _) _).drewN _).drewN _) (Nat.le_refl _), hi⟩, (((Chg.refl g (g + 1) w).setCell (Nat.le_refl _) (Nat.lt_succ_self _) _).drewN _).drewN _⟩
theorem l1Below_any {g : Nat} (n : Int) (w : World) (h : Cur w g) (hn : n ≤ 1000000000) : Calls Tryd.prog 34 #[.pointer (some ⟨g, 0, none⟩), .int .i64 n] w (DrN g (fun v => 0 ≤ v ∧ (1 ≤ n → v < n) ∧ (n ≤ 0 → v = 0)) w) := by
  by_cases h0 : n ≤ 0
  · go_enter Tryd.func34, Tryd.ntmps34
    go_wp2
    go_ret
    exact ⟨0, ⟨by omega, by omega, by omega⟩, rfl, h, Chg.refl _ _ _⟩
  · by_cases h1 : n ≤ 256
    · go_enter Tryd.func34, Tryd.ntmps34
      go_wp2_with fail
      refine (l1Byte_any w h).mono ?_
      rintro e w1 ⟨v, ⟨hv0, hv1⟩, rfl, hc1, hg1⟩
      go_wp2
      go_ret
      have e1 := Int.emod_nonneg v (show n ≠ 0 by omega)
      have e2 := Int.emod_lt_of_pos v (show 0 < n by omega)
      exact ⟨_, ⟨e1, fun _ => e2, fun h => by omega⟩, rfl, hc1, hg1⟩
    · go_enter Tryd.func34, Tryd.ntmps34
      go_wp2_with fail
      refine (l1Byte_any w h).mono ?_
      rintro e w1 ⟨v1, ⟨hv0, hv1⟩, rfl, hc1, hg1⟩
      go_wp2_with fail
      refine (l1Byte_any w1 hc1).mono ?_
      rintro e w2 ⟨v2, ⟨hv2, hv3⟩, rfl, hc2, hg2⟩
      go_wp2_with fail
      refine (l1Byte_any w2 hc2).mono ?_
      rintro e w3 ⟨v3, ⟨hv4, hv5⟩, rfl, hc3, hg3⟩
      go_wp2_with fail
      refine (l1Byte_any w3 hc3).mono ?_
      rintro e w4 ⟨v4, ⟨hv6, hv7⟩, rfl, hc4, hg4⟩
      go_wp2
      go_ret
      have e1 := Int.emod_nonneg (v1 * 16777216 + v2 * 65536 + v3 * 256 + v4) (show n ≠ 0 by omega)
      have e2 := Int.emod_lt_of_pos (v1 * 16777216 + v2 * 65536 + v3 * 256 + v4) (show 0 < n by omega)
      exact ⟨_, ⟨e1, fun _ => e2, fun h => by omega⟩, rfl, hc4, ((hg1.trans hg2).trans hg3).trans hg4⟩
/-- a bool that is drawn -/
def DrB (g : Nat) (w : World) (e : Ending) (w' : World) : Prop := ∃ v : Bool, e = .returned (.bool v) ∧ Cur w' g ∧ Chg g (g + 1) w w'
theorem l1Once_any {g : Nat} (n : Int) (w : World) (h : Cur w g) (hn : n ≤ 1000000000) : Calls Tryd.prog 35 #[.pointer (some ⟨g, 0, none⟩), .int .i64 n] w (DrB g w) := by
  go_enter Tryd.func35, Tryd.ntmps35
  go_wp2_with fail
  refine (l1Below_any n w h hn).mono ?_
  rintro e w1 ⟨v, hv, rfl, hc1, hg1⟩
  go_wp2
  all_goals
    go_ret
    exact ⟨_, rfl, hc1, hg1⟩
theorem l1PickInt_any {g B : Nat} (A : Option Addr) (m k : Nat) (xs : List Int) (w : World) (h : Cur w g) (hr : RdI w B A m xs) (hB : B ≤ g ∨ ∃ b o, A = some ⟨b, o, none⟩ ∧ g < b) (hm0 : 0 < m) (hm : m ≤ 1000) :
    Calls Tryd.prog 36 #[.pointer (some ⟨g, 0, none⟩), .slice A m k] w (DrN g (fun v => ∃ j, j < m ∧ v = gI xs j) w) := by
  go_enter Tryd.func36, Tryd.ntmps36
  go_wp2_with fail
  refine (l1Below_any (m : Int) w h (by omega)).mono ?_
  rintro e w1 ⟨v, ⟨hv0, hv1, _⟩, rfl, hc1, hg1⟩
  obtain ⟨j, rfl⟩ := Int.eq_ofNat_of_zero_le hv0
  have hj : j < m := by have := hv1 (by omega); omega
  obtain ⟨b, o, rfl, hbB, hcc⟩ := hr.2.2 hm0
  have hcl : w1.cell? ⟨b, o + j, none⟩ = some (.int .i64 (gI xs j)) := by
    have hx := hcc j hj
    have hlt : b < w.heap.size := by
      rcases Nat.lt_or_ge b w.heap.size with h | h
      · exact h
      · simp [World.cell?, Array.getElem?_eq_none h] at hx
    rw [hg1.cell b _ (by
      rcases hB with h | ⟨b', o', e, h⟩
      · exact .inl (by omega)
      · injection e with e; injection e with e1 e2; exact .inr (by omega)) hlt]
    exact hx
  clear hcc
  go_wp2
  go_ret
  exact ⟨_, ⟨j, hj, rfl⟩, rfl, hc1, hg1⟩
theorem own_keep {w w' : World} {lo size n : Nat} {e : TypeId} {v : Value} {xs : List Value} (h : w.ownsRow lo e size v n xs) (hk : ∀ b, lo ≤ b → b < w.heap.size → w'.heap[b]? = w.heap[b]?) : w'.ownsRow lo e size v n xs := by
  refine ⟨h.1, ?_⟩
  rcases h.2 with h1 | ⟨g', cap, cur, e1, h0, hg, r⟩
  · exact .inl h1
  · have hlt : g' < w.heap.size := by
      rcases Nat.lt_or_ge g' w.heap.size with h | h
      · exact h
      · rw [Array.getElem?_eq_none h] at hg; cases hg
    exact .inr ⟨g', cap, cur, e1, h0, (hk g' h0 hlt).trans hg, r⟩
theorem own_blk {w : World} {lo size n : Nat} {e : TypeId} {v : Value} {xs : List Value} (h : w.ownsRow lo e size v n xs) : ∀ b, v.ownBlock = some b → lo ≤ b := by
  intro b hb
  rcases h.2 with ⟨rfl, _⟩ | ⟨g', cap, cur, rfl, h0, hg, r⟩
  · cases hb
  · simp [Value.ownBlock] at hb; omega
theorem own_emp (w : World) (T : TypeId) (hT : T = 3) : (w.alloc (.cells #[] T)).ownsRow w.heap.size 3 1 (.slice (some ⟨w.heap.size, 0, none⟩) 0 0) 0 (([] : List Int).map (Value.int .i64)) :=
  (Grw.start w T hT).own
theorem chg_grown {c : Nat} {w0 w1 w3 : World} {o : Obj} {r : Option Nat} (hc : Chg c (c + 1) w0 w1) (hg : (w1.alloc o).grownBy w3 r) (hr : ∀ b, r = some b → w0.heap.size ≤ b) : Chg c (c + 1) w0 w3 := by
  have hs := hg.size
  have h1 := hc.size
  rw [World.size_alloc] at hs
  refine ⟨hg.os.trans hc.os, hg.tape.trans hc.tape, hg.output.trans hc.output, by omega, fun k hk hh => ?_⟩
  rw [hg.block k (by rw [World.size_alloc]; omega) fun e => by have := hr k e.symm; omega, Below.heap_alloc _ _ _ (by omega)]
  exact hc.block k hk hh
/-- a list that is drawn -/
def DrL (g n : Nat) (p : Int) (w : World) (e : Ending) (w' : World) : Prop := ∃ (xs : List Int) (A : Option Addr) (k : Nat), xs.length = n ∧ resB xs p = true ∧ e = .returned (.slice A n k) ∧ Hd A n k ∧ Cur w' g ∧ Chg g (g + 1) w w' ∧ OwI w' w.heap.size w'.heap.size A n xs
theorem resB_snoc {xs : List Int} {p y : Int} (h : resB xs p = true) (h0 : 0 ≤ y) (h1 : y < p) : resB (xs ++ [y]) p = true := by
  unfold resB at h ⊢
  rw [List.all_append, h]
  simp; omega
end Go.Proofs.YtfhijaldecbahaaDoor
