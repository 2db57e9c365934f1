/- combine of the program. No condition but what each theorem names. -/
import Derived.Test.YtefgklgacojljaaMeet
import Derived.Test.YtefgklgacojljaaRedW
namespace Go.Proofs.Ytefgklgacojljaa
set_option linter.unusedVariables false
set_option linter.unusedSimpArgs false
open Go.RowKit
set_option maxHeartbeats 2000000
theorem combine_any {B : Nat} (Ak A : Option Addr) (R kk kt C : Nat) (p : Int) (kl : List Int) (hs : List Hdr) (xss : List (List Int)) (w : World) (hk : RdI w B Ak R kl) (h : RdT w B A R hs xss) (hlen : ∀ j, j < R → (row xss j).length = C) (hB : B ≤ w.heap.size) (hR : R ≤ 100000) (hC : C ≤ 100000) (hp1 : 2 ≤ p) (hp2 : p ≤ 10007)
    (hkr : ∀ j, 0 ≤ gI kl j ∧ gI kl j < p) (hxr : ∀ i j, 0 ≤ gI (row xss i) j ∧ gI (row xss i) j < p) :
    Calls Try.prog 79 #[.slice Ak R kk, .slice A R kt, .int .i64 C, .int .i64 p] w (RetI (cmb C p kl xss R) w) := by
  have HKR := Lib.hid hkr
  have HXR := Lib.hid hxr
  have HLN := Lib.hid hlen
  have HCR := Lib.hid (show ∀ m j, 0 ≤ gI (cmb C p kl xss m) j ∧ gI (cmb C p kl xss m) j < p from fun m => cmb_res (by omega) m)
  clear hkr hxr hlen
  go_enter Try.func79, Try.ntmps79
  go_wp2_with (at_make; refine wpList_mkI _ rfl _ _ 22 rfl 3 Try.underlying22 Try.infoI .i64 .i64 _ _ C rfl rfl (by omega) (by omega) (by omega) ?_; intro w1 ho hb hs1)
  have hsz1 := hb.size
  have hk1 := hk.below hb hB
  have hT1 := h.below hb hB
  clear hk h
  go_loopw [16] (fun i wr => ∃ j : Nat, j ≤ R ∧ i = .int .i64 j ∧ wr.heap.size = w1.heap.size ∧ Chg w.heap.size w1.heap.size w1 wr ∧ OwI wr w.heap.size w1.heap.size (some ⟨w.heap.size, 0, none⟩) C (cmb C p kl xss j)) (fun i _ => R - (intOf i).toNat)
  case atStart => exact ⟨0, by omega, rfl, rfl, Chg.refl _ _ _, ho⟩
  case round =>
    clear ho
    obtain ⟨j, hj, rfl, hsz, hch, ho⟩ := hrel
    have HZ := Lib.hid hsz
    clear hsz
    by_cases hlt : j < R
    · have hbw := hch.below (Nat.le_of_lt hs1)
      have hkr := hk1.below hbw hB
      have hTr := hT1.below hbw hB
      obtain ⟨bT, oT, rfl, hbT, hcT⟩ := hTr.tbl (by omega)
      have hci := hcT j hlt
      unfold slv at hci
      obtain ⟨hr, hdd⟩ := hTr.rows j hlt
      have hrl : (hdr hs j).2.1 = C := by rw [← hr.1]; exact HLN.out j hlt
      rw [hrl] at hr hdd hci
      obtain ⟨bK, oK, rfl⟩ := hkr.addr (by omega)
      have hke := hkr.at_ hlt
      have hkv := HKR.out j
      have hdis : 0 < C → ∀ b2 o2, (hdr hs j).1 = some ⟨b2, o2, none⟩ → b2 ≠ w.heap.size := by
        intro h0 b2 o2 e
        obtain ⟨b', o', e', hb', _⟩ := hr.2.2 h0
        rw [e] at e'; injection e' with e'; injection e' with e1 e2; omega
      have HS := Lib.hid (show cmb C p kl xss (j + 1) = if gI kl j = 0 then cmb C p kl xss j else addAt (cmb C p kl xss j) 0 (gI kl j) (row xss j) p C from rfl)
      clear hcT
      by_cases hz : gI kl j = 0
      · have hz' : (gI kl j != 0) = false := by simpa using hz
        have HZ0 := Lib.hid hz
        clear hz
        go_wp2
        go_roundw
        case rel => exact ⟨j + 1, by omega, by go_num, HZ.out, hch, by rw [HS.out, if_pos HZ0.out]; exact ho⟩
        case measure => simp [intOf]; omega
      · have hz' : (gI kl j != 0) = true := by simpa using hz
        have HZ0 := Lib.hid hz
        clear hz
        go_wp2_with fail
        refine (addTo_z (B0 := w.heap.size) (B := w1.heap.size) w.heap.size C 0 C C (cmb C p kl xss j) (gI kl j) _ C _ (row xss j) p _ (by exact ho) (by omega) (by exact hr) (by have := HZ.out; omega) hdis (Nat.le_refl _) (by omega) hp2 (by omega) (by omega) (fun t ht => HXR.out _ _) (fun t _ => HCR.out j _)).mono ?_
        rintro e w6 ⟨rfl, hs6, hc6, ho6⟩
        have hc7 : Chg w.heap.size w1.heap.size wr w6 := hc6.mono (Nat.le_refl _) (by omega)
        go_wp2
        go_roundw
        case rel => exact ⟨j + 1, by omega, by go_num, hs6.trans HZ.out, hch.trans hc7, by rw [HS.out, if_neg HZ0.out]; exact ho6⟩
        case measure => simp [intOf]; omega
    · obtain rfl : R = j := by omega
      have hq3 : Below w.heap.size w wr := hb.trans (hch.below (by omega))
      have hsz2 := HZ.out
      go_wp2
      go_ret
      exact ⟨_, _, _, rfl, Hd.self (by unfold maxLen; omega), hq3, ho.up (by omega)⟩
end Go.Proofs.Ytefgklgacojljaa
