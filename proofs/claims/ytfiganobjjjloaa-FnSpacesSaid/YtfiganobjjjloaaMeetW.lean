/- combine of the program. No condition but what each theorem names. -/
import Derived.Test.YtfiganobjjjloaaMeet
import Derived.Test.YtfiganobjjjloaaRedW
import Derived.Test.YtfiganobjjjloaaGrwT
import Derived.Test.YtfiganobjjjloaaSumW
import Derived.Test.YtfiganobjjjloaaKeSW
import Derived.Test.YtfiganobjjjloaaKernW
import Derived.Deep.RegionHeld3
namespace Go.Proofs.Ytfiganobjjjloaa
set_option linter.unusedVariables false
set_option linter.unusedSimpArgs false
set_option maxRecDepth 20000
open Go.RowKit
set_option maxHeartbeats 2000000
theorem combine_any {B : Nat} (Ak A : Option Addr) (R kk kt C : Nat) (p : Int) (kl : List Int) (hs : List Hdr) (xss : List (List Int)) (w : World) (hk : RdI w B Ak R kl) (h : RdT w B A R hs xss) (hlen : ∀ j, j < R → (row xss j).length = C) (hB : B ≤ w.heap.size) (hR : R ≤ 100000) (hC : C ≤ 100000) (hp1 : 2 ≤ p) (hp2 : p ≤ 10007)
    (hkr : ∀ j, 0 ≤ gI kl j ∧ gI kl j < p) (hxr : ∀ i j, 0 ≤ gI (row xss i) j ∧ gI (row xss i) j < p) :
    Calls Try.prog 101 #[.slice Ak R kk, .slice A R kt, .int .i64 C, .int .i64 p] w (RetI (cmb C p kl xss R) w) := by
  have HKR := Lib.hid hkr
  have HXR := Lib.hid hxr
  have HLN := Lib.hid hlen
  have HCR := Lib.hid (show ∀ m j, 0 ≤ gI (cmb C p kl xss m) j ∧ gI (cmb C p kl xss m) j < p from fun m => cmb_res (by omega) m)
  clear hkr hxr hlen
  go_enter Try.func101, Try.ntmps101
  go_wp2_with (at_make; refine wpList_mkI _ rfl _ _ 22 rfl 3 Try.underlying22 Try.infoI .i64 .i64 _ _ C rfl rfl (by omega) (by omega) (by omega) ?_; intro w1 ho hb hs1)
  have hsz1 := hb.size
  have hk1 := hk.below hb hB
  have hT1 := h.below hb hB
  clear hk h
  go_loopw [16] (fun i wr => ∃ j : Nat, j ≤ R ∧ i = .int .i64 j ∧ wr.heap.size = w1.heap.size ∧ Chg w.heap.size w1.heap.size w1 wr ∧ OwI wr w.heap.size w1.heap.size (some ⟨w.heap.size, 0, none⟩) C (cmb C p kl xss j)) (fun i _ => R - (intOf i).toNat)
  case atStart => exact ⟨0, by omega, rfl, rfl, Chg.refl _ _ _, ho⟩
  case round =>
    clear ho
    obtain ⟨j, hj, rfl, hsz, hch, ho⟩ := hrel
    have HZ := Lib.hid hsz
    clear hsz
    by_cases hlt : j < R
    · have hbw := hch.below (Nat.le_of_lt hs1)
      have hkr := hk1.below hbw hB
      have hTr := hT1.below hbw hB
      obtain ⟨bT, oT, rfl, hbT, hcT⟩ := hTr.tbl (by omega)
      have hci := hcT j hlt
      unfold slv at hci
      obtain ⟨hr, hdd⟩ := hTr.rows j hlt
      have hrl : (hdr hs j).2.1 = C := by rw [← hr.1]; exact HLN.out j hlt
      rw [hrl] at hr hdd hci
      obtain ⟨bK, oK, rfl⟩ := hkr.addr (by omega)
      have hke := hkr.at_ hlt
      have hkv := HKR.out j
      have hdis : 0 < C → ∀ b2 o2, (hdr hs j).1 = some ⟨b2, o2, none⟩ → b2 ≠ w.heap.size := by
        intro h0 b2 o2 e
        obtain ⟨b', o', e', hb', _⟩ := hr.2.2 h0
        rw [e] at e'; injection e' with e'; injection e' with e1 e2; omega
      have HS := Lib.hid (show cmb C p kl xss (j + 1) = if gI kl j = 0 then cmb C p kl xss j else addAt (cmb C p kl xss j) 0 (gI kl j) (row xss j) p C from rfl)
      clear hcT
      by_cases hz : gI kl j = 0
      · have hz' : (gI kl j != 0) = false := by simpa using hz
        have HZ0 := Lib.hid hz
        clear hz
        go_wp2
        go_roundw
        case rel => exact ⟨j + 1, by omega, by go_num, HZ.out, hch, by rw [HS.out, if_pos HZ0.out]; exact ho⟩
        case measure => simp [intOf]; omega
      · have hz' : (gI kl j != 0) = true := by simpa using hz
        have HZ0 := Lib.hid hz
        clear hz
        go_wp2_with fail
        refine (addTo_z (B0 := w.heap.size) (B := w1.heap.size) w.heap.size C 0 C C (cmb C p kl xss j) (gI kl j) _ C _ (row xss j) p _ (by exact ho) (by omega) (by exact hr) (by have := HZ.out; omega) hdis (Nat.le_refl _) (by omega) hp2 (by omega) (by omega) (fun t ht => HXR.out _ _) (fun t _ => HCR.out j _)).mono ?_
        rintro e w6 ⟨rfl, hs6, hc6, ho6⟩
        have hc7 : Chg w.heap.size w1.heap.size wr w6 := hc6.mono (Nat.le_refl _) (by omega)
        go_wp2
        go_roundw
        case rel => exact ⟨j + 1, by omega, by go_num, hs6.trans HZ.out, hch.trans hc7, by rw [HS.out, if_neg HZ0.out]; exact ho6⟩
        case measure => simp [intOf]; omega
    · obtain rfl : R = j := by omega
      have hq3 : Below w.heap.size w wr := hb.trans (hch.below (by omega))
      have hsz2 := HZ.out
      go_wp2
      go_ret
      exact ⟨_, _, _, rfl, Hd.self (by unfold maxLen; omega), hq3, ho.up (by omega)⟩
end Go.Proofs.Ytfiganobjjjloaa
namespace Go.Proofs.Ytfiganobjjjloaa
set_option linter.unusedVariables false
set_option linter.unusedSimpArgs false
set_option maxRecDepth 20000
open Go.RowKit
set_option maxHeartbeats 4000000
/-- what is left of a's first m rows -/
def lefL (R2 C : Nat) (p : Int) (d1 d2 : List Int) (m : Nat) : List (List Int) := (List.range m).map fun i => rby C d2 p (pg (spv R2 C p d2)) (sub d1 (i * C) C) R2
theorem lefL_succ (R2 C : Nat) (p : Int) (d1 d2 : List Int) (m : Nat) : lefL R2 C p d1 d2 (m + 1) = lefL R2 C p d1 d2 m ++ [rby C d2 p (pg (spv R2 C p d2)) (sub d1 (m * C) C) R2] := by simp [lefL, List.range_succ]
theorem lefL_len (R2 C : Nat) (p : Int) (d1 d2 : List Int) (m : Nat) : (lefL R2 C p d1 d2 m).length = m := by simp [lefL]
theorem lefL_row {R2 C : Nat} {p : Int} {d1 d2 : List Int} {m i : Nat} (h : i < m) : row (lefL R2 C p d1 d2 m) i = rby C d2 p (pg (spv R2 C p d2)) (sub d1 (i * C) C) R2 := by
  rw [row_lt (by rw [lefL_len]; exact h)]; simp [lefL]
/-- the first m numbers of column c of what is left -/
def lefC (R1 R2 C : Nat) (p : Int) (d1 d2 : List Int) (c m : Nat) : List Int := (List.range m).map fun i => lefF R1 R2 C p d1 d2 c i
theorem lefC_succ (R1 R2 C : Nat) (p : Int) (d1 d2 : List Int) (c m : Nat) : lefC R1 R2 C p d1 d2 c (m + 1) = lefC R1 R2 C p d1 d2 c m ++ [lefF R1 R2 C p d1 d2 c m] := by simp [lefC, List.range_succ]
theorem lefC_tab (R1 R2 C : Nat) (p : Int) (d1 d2 : List Int) (m : Nat) : ((List.range m).map fun c => lefC R1 R2 C p d1 d2 c R1) = tabR m R1 (lefF R1 R2 C p d1 d2) := by
  refine ext_row (by rw [tabR_len]; simp) fun i hi => ?_
  have hi' : i < m := by simpa using hi
  rw [row_lt hi]
  refine ext_gI ?_ fun j hj => ?_
  · rw [(tabR_FF m R1 _ i hi').1]; simp [lefC]
  · have hj' : j < R1 := by simpa [lefC] using hj
    rw [(tabR_FF m R1 _ i hi').2 j hj', gI_lt hj]
    simp [lefC]
theorem tabR_succ' (m C : Nat) (f : Tb) : tabR (m + 1) C f = tabR m C f ++ [(List.range C).map (f m)] := by simp [tabR, List.range_succ]
/-- the sums of a's rows that the first m rows of the kernel give -/
def cmbL (R1 C : Nat) (p : Int) (d1 : List Int) (K : Tb) (m : Nat) : List (List Int) := (List.range m).map fun t => cmb C p ((List.range R1).map (K t)) (tabR R1 C (matF d1 C)) R1
theorem cmbL_succ (R1 C : Nat) (p : Int) (d1 : List Int) (K : Tb) (m : Nat) : cmbL R1 C p d1 K (m + 1) = cmbL R1 C p d1 K m ++ [cmb C p ((List.range R1).map (K m)) (tabR R1 C (matF d1 C)) R1] := by simp [cmbL, List.range_succ]
theorem cmbL_FF (R1 C : Nat) (p : Int) (d1 : List Int) (K : Tb) (m : Nat) : FF (cmbL R1 C p d1 K m) m C (cmbF R1 C p d1 K) := by
  intro i hi
  have e : row (cmbL R1 C p d1 K m) i = cmb C p ((List.range R1).map (K i)) (tabR R1 C (matF d1 C)) R1 := by
    rw [row_lt (by simpa [cmbL] using hi)]; simp [cmbL]
  rw [e]
  exact ⟨cmb_len _ _ _ _ _, fun j _ => rfl⟩
set_option maxRecDepth 100000 in
theorem iMeet_ok {B : Nat} (p : Int) (R1 R2 C n1 k1 n2 k2 : Nat) (A1 A2 : Option Addr) (d1 d2 : List Int) (w : World) (h1 : RdI w B A1 n1 d1) (hd1 : Hd A1 n1 k1) (h2 : RdI w B A2 n2 d2) (hd2 : Hd A2 n2 k2) (hB : B ≤ w.heap.size) (hok : bothB p R1 C d1 p R2 C d2 = true) :
    Calls Try.prog 39 #[.agg #[.int .i64 p, .int .i64 R1, .int .i64 C, .slice A1 n1 k1], .agg #[.int .i64 p, .int .i64 R2, .int .i64 C, .slice A2 n2 k2]] w (RetMB p (miS R1 R2 C p d1 d2).rk C (tab (miS R1 R2 C p d1 d2).rk C (miS R1 R2 C p d1 d2).f) true w) := by
  have K1 : Hid (spB p R1 C d1 = true) := Lib.hid (by unfold bothB at hok; simp only [Bool.and_eq_true] at hok; exact hok.1.1.1)
  have K2 : Hid (spB p R2 C d2 = true) := Lib.hid (by unfold bothB at hok; simp only [Bool.and_eq_true] at hok; exact hok.1.1.2)
  obtain ⟨hp, hR1, hC, hl1, hr1, -, -⟩ := space_ok K1.out
  obtain ⟨-, hR2, -, hl2, hr2, -, -⟩ := space_ok K2.out
  obtain ⟨hp1, hp2⟩ := isP_bd hp
  have HPV := Lib.hid (space_piv K2.out)
  have HR2 := Lib.hid hr2
  have HRS := Lib.hid (show ∀ i, resB (sub d1 (i * C) C) p = true from fun i => resB_sub (by omega) hr1)
  have HF1 := Lib.hid (show ResF (matF d1 C) p from matF_res (by omega) hr1)
  have HLF := Lib.hid (show ResF (lefF R1 R2 C p d1 d2) p from lefF_res (by omega) hl1 hr1)
  have HKF := Lib.hid (show ResF (miK R1 R2 C p d1 d2).f p from kerS_res (by omega))
  have HCF := Lib.hid (show ResF (cmbF R1 C p d1 (miK R1 R2 C p d1 d2).f) p from cmbF_res (by omega))
  have HP := Lib.hid hp
  have HL1 := Lib.hid hl1
  have L1 := Lib.hid (show n1 = R1 * C by rw [← hl1]; exact h1.1.symm)
  have L2 := Lib.hid (show n2 = R2 * C by rw [← hl2]; exact h2.1.symm)
  have hn1 : n1 ≤ 1600 := by rw [L1.out]; exact Nat.mul_le_mul hR1 hC
  have hn2 : n2 ≤ 1600 := by rw [L2.out]; exact Nat.mul_le_mul hR2 hC
  have hkrk : (miK R1 R2 C p d1 d2).rk ≤ R1 := Nat.le_trans (rr_rk _ _ _ _).1 (kerL_len _ _ _ _)
  have hsrk : (miS R1 R2 C p d1 d2).rk ≤ (miK R1 R2 C p d1 d2).rk := (rr_rk _ _ _ _).1
  clear hok hr1 hl1 hr2 hl2 hp
  obtain ⟨K, hK⟩ : ∃ K, K = miK R1 R2 C p d1 d2 := ⟨_, rfl⟩
  obtain ⟨s, hs⟩ : ∃ s, s = miS R1 R2 C p d1 d2 := ⟨_, rfl⟩
  rw [← hs] at hsrk ⊢
  rw [← hK] at hkrk hsrk HKF HCF
  have HKK := Lib.hid (show kerS C R1 p (lefF R1 R2 C p d1 d2) = K from hK.symm)
  have HSS := Lib.hid (show rr K.rk p (cmbF R1 C p d1 K.f) C = s by rw [hs, hK]; rfl)
  have hsr : s.rk ≤ 40 := by omega
  have HFL := Lib.hid (flat_tabR s.rk C s.f)
  have hfl2 : s.rk * C ≤ 1600 := Nat.mul_le_mul hsr hC
  clear hs hK
  go_enter Try.func39, Try.ntmps39
  go_wp2_with fail
  refine (iSp_any p R1 C n1 k1 A1 d1 _ (B := B) (by exact h1.below ((by repeat' (first | (with_reducible exact Below.refl _ _) | (with_reducible refine Below.setCell ?_ (by first | exact Nat.le_refl _ | omega | (simp only [World.size_alloc, World.size_setCell, World.heap_drewN]; omega) | (simp; omega)) _) | (with_reducible refine Below.alloc ?_ (by first | exact Nat.le_refl _ | omega | (simp only [World.size_alloc, World.size_setCell, World.heap_drewN]; omega) | (simp; omega)) _) | (with_reducible refine below_drewN ?_ _) | (with_reducible refine Below.drew ?_))) : Below w.heap.size w _) hB) hd1 (by first | exact Nat.le_refl _ | omega | (simp only [World.size_alloc, World.size_setCell, World.heap_drewN]; omega) | (simp; omega))).mono ?_
  rintro e w1 ⟨rfl, hb1⟩
  rw [K1.out]
  have hx := (((Box.new w _ _).alloc _).alloc _).below hb1 (by simp; omega)
  have hy := ((Box.new (w.alloc _) _ _).alloc _).below hb1 (by simp)
  have hz := (Box.new ((w.alloc _).alloc _) _ _).below hb1 (by simp)
  rw [World.size_alloc] at hy
  rw [World.size_alloc, World.size_alloc] at hz
  have hs1 := hb1.size
  simp only [World.size_alloc] at hs1
  have hq := ((by repeat' (first | (with_reducible exact Below.refl _ _) | (with_reducible refine Below.setCell ?_ (by first | exact Nat.le_refl _ | omega | (simp only [World.size_alloc, World.size_setCell, World.heap_drewN]; omega) | (simp; omega)) _) | (with_reducible refine Below.alloc ?_ (by first | exact Nat.le_refl _ | omega | (simp only [World.size_alloc, World.size_setCell, World.heap_drewN]; omega) | (simp; omega)) _) | (with_reducible refine below_drewN ?_ _) | (with_reducible refine Below.drew ?_) | (with_reducible refine Below.trans ?_ (hb1.mono (by first | exact Nat.le_refl _ | omega | (simp only [World.size_alloc, World.size_setCell, World.heap_drewN]; omega) | (simp; omega)))))) : Below w.heap.size w w1)
  have ha1 := h1.below hq hB
  have ha2 := h2.below hq hB
  clear hb1 h1 h2
  obtain ⟨x0, x1, x2, x3⟩ := hx.four
  obtain ⟨y0, y1, y2, y3⟩ := hy.four
  go_wp2_with fail
  refine (iSp_any p R2 C n2 k2 A2 d2 _ (B := B) ha2 hd2 (by omega)).mono ?_
  rintro e wc ⟨rfl, hb⟩
  rw [K2.out]
  have hs2 := hb.size
  have hz := hz.below hb (by omega)
  have hx := hx.below hb (by omega)
  have hy := hy.below hb (by omega)
  have hq := hq.trans (hb.mono (by omega))
  have ha1 := ha1.below hb (by omega)
  have ha2 := ha2.below hb (by omega)
  have hBW : w.heap.size + 3 ≤ wc.heap.size := by omega
  clear x0 x1 x2 x3 y0 y1 y2 y3 hb hs1 hs2
  have hxa := (hx.alloc (.cells #[] 22)).alloc (.cells #[] 22)
  have ha1a := (ha1.alloc (by omega) (.cells #[] 22)).alloc (by simp; omega) (.cells #[] 22)
  obtain ⟨x0, x1, x2, x3⟩ := hx.four
  obtain ⟨y0, y1, y2, y3⟩ := hy.four
  obtain ⟨u0, u1, u2, u3⟩ := hxa.four
  go_wp2_with fail
  refine (rowsOf_any p R1 C n1 k1 A1 d1 ((wc.alloc (.cells #[] 22)).alloc (.cells #[] 22)) (B := B) ha1a hd1 (by simp; omega) (by omega) (by omega) L1.out (by omega)).mono ?_
  rintro e w3 ⟨A3, n3, k3, rfl, hd3, hb, hs3', hT⟩
  obtain rfl : R1 = n3 := by rw [← hT.len, rowsD_len]
  simp only [World.size_alloc] at hb hT
  have hs3 := hb.size
  simp only [World.size_alloc] at hs3
  have hb0 : Below wc.heap.size wc w3 := (by repeat' (first | (with_reducible exact Below.refl _ _) | (with_reducible refine Below.setCell ?_ (by first | exact Nat.le_refl _ | omega | (simp only [World.size_alloc, World.size_setCell, World.heap_drewN]; omega) | (simp; omega)) _) | (with_reducible refine Below.alloc ?_ (by first | exact Nat.le_refl _ | omega | (simp only [World.size_alloc, World.size_setCell, World.heap_drewN]; omega) | (simp; omega)) _) | (with_reducible refine below_drewN ?_ _) | (with_reducible refine Below.drew ?_) | (with_reducible refine Below.trans ?_ (hb.mono (by first | exact Nat.le_refl _ | omega | (simp only [World.size_alloc, World.size_setCell, World.heap_drewN]; omega) | (simp; omega))))))
  have hG := GrwT.start' (wc.alloc (.cells #[] 22)) 22 rfl (by rw [World.size_alloc]; exact hb)
  rw [World.size_alloc] at hG
  have hb6 : Below (wc.heap.size + 1) (wc.alloc (.cells #[] 22)) w3 := ((Below.refl _ _).alloc (by simp) _).trans (hb.mono (by omega))
  have hz := hz.below hb0 (by omega)
  have hx := hx.below hb0 (by omega)
  have hy := hy.below hb0 (by omega)
  have hq := hq.trans (hb0.mono (by omega))
  have ha1 := ha1.below hb0 (by omega)
  have ha2 := ha2.below hb0 (by omega)
  clear x0 x1 x2 x3 y0 y1 y2 y3 u0 u1 u2 u3 hb hb0 hxa ha1a
  go_wp2_with fail
  go_loopw [7, 45] (fun v i wr => ∃ j : Nat, j ≤ R1 ∧ i = .int .i64 j ∧ GrwT (wc.heap.size + 1) w3 wr v j (lefL R2 C p d1 d2 j)) (fun _ i _ => R1 - (intOf i).toNat)
  case atStart => exact ⟨0, by omega, rfl, hG⟩
  case round =>
    clear hG
    obtain ⟨j, hj, rfl, hG⟩ := hrel
    have hsz := hG.size
    by_cases hlt : j < R1
    · have hTr := (hT.chgHi hG.chg (Nat.le_refl _) (Nat.le_refl _)).rd
      obtain ⟨bT, oT, rfl, hbT, hcT⟩ := hTr.tbl (by omega)
      have hci := hcT j hlt
      unfold slv at hci
      obtain ⟨hr, hdd⟩ := hTr.rows j hlt
      rw [rowsD_row hlt] at hr
      have hyr := hy.below hG.below (by omega)
      have ha2r := ha2.below hG.below (by omega)
      obtain ⟨y0, y1, y2, y3⟩ := hyr.four
      have hrl : (Go.Proofs.Ytfiganobjjjloaa.hdr hs3' j).2.1 = C := by
        rw [← hr.1]
        exact sub_len (by rw [HL1.out]; exact (row_bd (C := C) hlt).2.2.2.2.2)
      rw [hrl] at hr hdd hci
      obtain ⟨hst, hhl, how, hi', hOT, hhi'⟩ := hG.tbl
      have HS := Lib.hid (lefL_succ R2 C p d1 d2 j)
      have hcn : j ≤ 1073741824 := by omega
      clear hcT hTr
      go_wp2_with (first | (go_at_call 100; refine (reduceBy_any (B := w3.heap.size) p R2 C n2 k2 _ A2 _ d2 (sub d1 (j * C) C) (pg (spv R2 C p d2)) _ (ha2r.up (by omega)) hd2 hr hdd (by omega) (by omega) (by omega) L2.out hp1 hp2 HR2.out (HRS.out j) HPV.out).mono ?_; rintro e w4 ⟨A4, n4, c4, rfl, hd4, hb4, ho4⟩; have hs4 := hb4.size; have hOT4 := hOT.below hb4 hhi') | (at_builtin; refine wpList_apT (v := u7) (w := w4.alloc (.cells #[.slice A4 n4 c4] 22)) (lo := wc.heap.size + 1) (b := w4.heap.size) (u := .slice A4 n4 c4) rfl (.tmp 49) (.tmp 53) rfl rfl (hOT4.alloc (by omega) _).tbl rfl (Box.new w4 _ _).one rfl hcn (by rw [World.size_alloc]; omega) ?_; intro v5 w5 ho5 hg5 hv5))
      have hG := hG.push hOT hhi' hb4 ho4 (Nat.le_refl _) hd4 ho5 hg5 hv5
      clear hOT hOT4 how ho4 ho5 hg5 hv5 y0 y1 y2 y3 hyr ha2r hci hr
      go_wp2
      go_roundw
      case rel => exact ⟨j + 1, by omega, by go_num, by rw [HS.out]; exact hG⟩
      case measure => simp [intOf]; omega
    · obtain rfl : R1 = j := by omega
      obtain ⟨A7, c7, rfl, hd7, hst7, hT7⟩ := hG.ret
      have hbl := hG.below
      have hx := hx.below hbl (by omega)
      have hz := hz.below hbl (by omega)
      have hq := hq.trans (hbl.mono (by omega))
      have ha1 := ha1.below hbl (by omega)
      have hG6 := GrwT.start' wc 22 rfl (hb6.trans hbl)
      clear hG hT hy ha2 hb6 hbl
      obtain ⟨wl, rfl⟩ : ∃ wl : World, wl = wr := ⟨_, rfl⟩
      obtain ⟨x0, x1, x2, x3⟩ := hx.four
      go_wp2_with fail
      clear x0 x1 x2 x3
      go_loopw [6, 58] (fun v i wr => ∃ c : Nat, c ≤ C ∧ i = .int .i64 c ∧ GrwT wc.heap.size wl wr v c (tabR c R1 (lefF R1 R2 C p d1 d2))) (fun _ i _ => C - (intOf i).toNat)
      case atStart => exact ⟨0, by omega, rfl, hG6⟩
      case round =>
        clear hG6
        obtain ⟨c, hc, rfl, hG⟩ := hrel
        have hsz6 := hG.size
        by_cases hltc : c < C
        · have hT7r := hT7.chgHi hG.chg (Nat.le_refl _) (Nat.le_refl _)
          obtain ⟨wo, rfl⟩ : ∃ wo : World, wo = wr := ⟨_, rfl⟩
          go_wp2_with fail
          go_loopw [11, 64] (fun u i wi => ∃ m : Nat, m ≤ R1 ∧ i = .int .i64 m ∧ Grw wo.heap.size (wo.alloc (.cells #[] 3)) wi u m (lefC R1 R2 C p d1 d2 c m)) (fun _ i _ => R1 - (intOf i).toNat)
          case atStart => exact ⟨0, by omega, rfl, Grw.start wo 3 rfl⟩
          case round =>
            obtain ⟨m, hm, rfl, hGi⟩ := hrel
            have hszi := hGi.size
            rw [World.size_alloc] at hszi
            have hbi : Below wo.heap.size wo wr := ((Below.refl _ _).alloc (Nat.le_refl _) _).trans hGi.below
            by_cases hlt2 : m < R1
            · have hTi := (hT7r.below hbi hsz6).rd
              obtain ⟨b7, o7, rfl, hb7, hc7⟩ := hTi.tbl (by omega)
              have hci := hc7 m hlt2
              unfold slv at hci
              obtain ⟨hr, hdd⟩ := hTi.rows m hlt2
              rw [lefL_row hlt2] at hr
              have hrl : (Go.Proofs.Ytfiganobjjjloaa.hdr hst7 m).2.1 = C := by
                rw [← hr.1, rby_len]
                exact sub_len (by rw [HL1.out]; exact (row_bd (C := C) hlt2).2.2.2.2.2)
              rw [hrl] at hr hci
              obtain ⟨bR, oR, eR⟩ := hr.addr (by omega)
              rw [eR] at hr hci
              have hre := hr.at_ hltc
              have HEL := Lib.hid (show lefC R1 R2 C p d1 d2 c (m + 1) = lefC R1 R2 C p d1 d2 c m ++ [gI (rby C d2 p (pg (spv R2 C p d2)) (sub d1 (m * C) C) R2) c] by rw [lefC_succ]; unfold lefF; rw [if_pos hlt2])
              have hT2 := hGi.own.alloc (.cells #[.int .i64 (gI (rby C d2 p (pg (spv R2 C p d2)) (sub d1 (m * C) C) R2) c)] 3)
              have hRO := RdI.one wr (gI (rby C d2 p (pg (spv R2 C p d2)) (sub d1 (m * C) C) R2) c) 3
              have hcn : m + 1 ≤ 1073741824 := by omega
              clear hc7 hTi hr hbi
              go_wp2_with (at_builtin; refine wpList_apI (v := u11) (w := wr.alloc (.cells #[.int .i64 (gI (rby C d2 p (pg (spv R2 C p d2)) (sub d1 (m * C) C) R2) c)] 3)) (lo := wo.heap.size) (n := m) (xs := lefC R1 R2 C p d1 d2 c m) (ys := [gI (rby C d2 p (pg (spv R2 C p d2)) (sub d1 (m * C) C) R2) c]) (m := 1) rfl (.tmp 68) (.tmp 73) rfl rfl hT2 rfl hRO (Hd.self (by unfold maxLen; omega)) hcn (by simp; omega) ?_; intro v2 w6 ho2 hg2 hv2)
              have hGi := hGi.push ho2 hg2 hv2
              clear ho2 hg2 hv2 hT2 hRO hci hre
              go_wp2
              go_roundw
              case rel => exact ⟨m + 1, by omega, by go_num, by rw [HEL.out]; exact hGi⟩
              case measure => simp [intOf]; omega
            · obtain rfl : R1 = m := by omega
              obtain ⟨Ae, ce, rfl, hde, hoe⟩ := hGi.ret (by omega)
              obtain ⟨hs6, hl6, how6, hi6, hOT6, hhi6⟩ := hG.tbl
              have hOT7 := hOT6.below hbi hhi6
              have HS := Lib.hid (show tabR (c + 1) R1 (lefF R1 R2 C p d1 d2) = tabR c R1 (lefF R1 R2 C p d1 d2) ++ [lefC R1 R2 C p d1 d2 c R1] from tabR_succ' c R1 _)
              have hcn : c ≤ 1073741824 := by omega
              go_wp2_with (at_builtin; refine wpList_apT (v := u6) (w := wr.alloc (.cells #[.slice Ae R1 ce] 22)) (lo := wc.heap.size) (b := wr.heap.size) (u := .slice Ae R1 ce) rfl (.tmp 76) (.tmp 78) rfl rfl (hOT7.alloc (by omega) _).tbl rfl (Box.new wr _ _).one rfl hcn (by rw [World.size_alloc]; omega) ?_; intro v5 w5 ho5 hg5 hv5)
              have hG := hG.push hOT6 hhi6 hbi hoe (Nat.le_refl _) hde ho5 hg5 hv5
              clear ho5 hg5 hv5 hOT6 hOT7 hoe hGi how6 hbi
              go_wp2
              go_roundw
              case rel => exact ⟨c + 1, by omega, by go_num, by rw [HS.out]; exact hG⟩
              case measure => simp [intOf]; omega
        · obtain rfl : C = c := by omega
          obtain ⟨A6, c6, rfl, hd6, hst6, hT6⟩ := hG.ret
          have hbl := hG.below
          have hsm := hbl.size
          have hx := hx.below hbl (by omega)
          have hz := hz.below hbl (by omega)
          have hq := hq.trans (hbl.mono (by omega))
          have ha1 := ha1.below hbl (by omega)
          clear hG hT7 hbl
          obtain ⟨wm, rfl⟩ : ∃ wm : World, wm = wr := ⟨_, rfl⟩
          have hxm := hx.alloc (.cells #[] 22)
          have hT6m := hT6.rd.alloc (Nat.le_refl _) (.cells #[] 22)
          obtain ⟨x0, x1, x2, x3⟩ := hxm.four
          go_wp2_with fail
          refine (kernel_any (B := wm.heap.size) A6 C c6 R1 p (lefF R1 R2 C p d1 d2) hst6 _ (wm.alloc (.cells #[] 22)) hT6m (tabR_FF _ _ _) (by simp) (by omega) (by omega) HP.out HLF.out).mono ?_
          rw [HKK.out]
          rintro e wk ⟨Ak, nk, ck, rfl, hdk, hbk, hstk, hTk⟩
          obtain rfl : K.rk = nk := by rw [← hTk.len, tabR_len]
          rw [World.size_alloc] at hbk hTk
          have hsk := hbk.size
          rw [World.size_alloc] at hsk
          have hG := GrwT.start' wm 22 rfl hbk
          have hb0 : Below wm.heap.size wm wk := (by repeat' (first | (with_reducible exact Below.refl _ _) | (with_reducible refine Below.setCell ?_ (by first | exact Nat.le_refl _ | omega | (simp only [World.size_alloc, World.size_setCell, World.heap_drewN]; omega) | (simp; omega)) _) | (with_reducible refine Below.alloc ?_ (by first | exact Nat.le_refl _ | omega | (simp only [World.size_alloc, World.size_setCell, World.heap_drewN]; omega) | (simp; omega)) _) | (with_reducible refine below_drewN ?_ _) | (with_reducible refine Below.drew ?_) | (with_reducible refine Below.trans ?_ (hbk.mono (by first | exact Nat.le_refl _ | omega | (simp only [World.size_alloc, World.size_setCell, World.heap_drewN]; omega) | (simp; omega))))))
          have hx := hx.below hb0 (by omega)
          have hz := hz.below hb0 (by omega)
          have hq := hq.trans (hb0.mono (by omega))
          have ha1 := ha1.below hb0 (by omega)
          clear x0 x1 x2 x3 hxm hT6m hT6 hbk hb0
          go_wp2_with fail
          go_loopw [14, 89] (fun v i wr => ∃ t : Nat, t ≤ K.rk ∧ i = .int .i64 t ∧ GrwT wm.heap.size wk wr v t (cmbL R1 C p d1 K.f t)) (fun _ i _ => K.rk - (intOf i).toNat)
          case atStart => exact ⟨0, by omega, rfl, hG⟩
          case round =>
            clear hG
            obtain ⟨t, ht, rfl, hG⟩ := hrel
            have hszt := hG.size
            have hxr := hx.below hG.below (by omega)
            have ha1r := ha1.below hG.below (by omega)
            by_cases hlt : t < K.rk
            · have hTkr := (hTk.chgHi hG.chg (Nat.le_refl _) (Nat.le_refl _)).rd
              obtain ⟨bT, oT, rfl, hbT, hcT⟩ := hTkr.tbl (by omega)
              have hci := hcT t hlt
              unfold slv at hci
              obtain ⟨hr, hdd⟩ := hTkr.rows t hlt
              rw [tabR_row hlt] at hr
              have hrl : (Go.Proofs.Ytfiganobjjjloaa.hdr hstk t).2.1 = R1 := by rw [← hr.1]; simp
              rw [hrl] at hr hdd hci
              obtain ⟨hst, hhl, how, hi', hOT, hhi'⟩ := hG.tbl
              have HS := Lib.hid (cmbL_succ R1 C p d1 K.f t)
              have HKR := Lib.hid (show ∀ j, 0 ≤ gI ((List.range R1).map fun j => K.f t j) j ∧ gI ((List.range R1).map fun j => K.f t j) j < p from fun j => by
                rcases Nat.lt_or_ge j R1 with h | h
                · rw [gI_lt (by simpa using h)]; simp; exact HKF.out t j
                · rw [gI_ge (by simpa using h)]; omega)
              have HXR := Lib.hid (show ∀ i j, 0 ≤ gI (row (tabR R1 C (matF d1 C)) i) j ∧ gI (row (tabR R1 C (matF d1 C)) i) j < p from fun i j => by
                rcases Nat.lt_or_ge i R1 with h | h
                · rcases Nat.lt_or_ge j C with h2 | h2
                  · rw [tabR_at h h2]; exact HF1.out i j
                  · rw [gI_ge (by rw [(tabR_FF R1 C _ i h).1]; exact h2)]; omega
                · have e : row (tabR R1 C (matF d1 C)) i = [] := by unfold row; rw [List.getD_eq_getElem?_getD, List.getElem?_eq_none (by rw [tabR_len]; exact h)]; rfl
                  rw [e]; simp [gI]; omega)
              have HXL := Lib.hid (show ∀ j, j < R1 → (row (tabR R1 C (matF d1 C)) j).length = C from fun j hj => (tabR_FF R1 C _ j hj).1)
              have hcn : t ≤ 1073741824 := by omega
              clear hcT hTkr
              go_wp2_with fail
              go_region_held3 (fun w' => w'.cell? ⟨w.heap.size, 0, none⟩ = some (.int .i64 p) ∧ w'.cell? ⟨w.heap.size, 1, none⟩ = some (.int .i64 R1) ∧ w'.cell? ⟨w.heap.size, 2, none⟩ = some (.int .i64 C) ∧ w'.cell? ⟨w.heap.size, 3, none⟩ = some (.slice A1 n1 k1)) (first | exact hxr.four | exact (hxr.alloc _).four)
                (first
                  | (go_at_call 66; refine (rowsOf_any p R1 C n1 k1 A1 d1 wr.drew (B := B) (by exact ha1r) hd1 (by rw [size_drew]; omega) (by omega) (by omega) L1.out (by omega)).mono ?_; rintro e w4 ⟨A4, n4, k4, rfl, hd4, hb4, hs4', hT4⟩; rw [size_drew] at hT4; have hb4 := Below.ofDrew hb4; have hs4 := hb4.size; have hxr := hxr.step hb4; rw [rowsD_tabR (by rw [HL1.out]; exact Nat.le_refl _)] at hT4; obtain rfl : R1 = n4 := (by rw [← hT4.len, tabR_len]))
                  | (go_at_call 101; refine (combine_any (B := w4.heap.size) _ A4 R1 _ k4 C p _ hs4' (tabR R1 C (matF d1 C)) _ ((hr.below hb4 (by omega)).up (by omega)) hT4.rd HXL.out (Nat.le_refl _) (by omega) (by omega) hp1 hp2 HKR.out HXR.out).mono ?_; rintro e w5 ⟨A5, n5, c5, rfl, hd5, hb5, ho5⟩; have hs5 := hb5.size; have hxr := hxr.step hb5; have hb45 := hb4.trans (hb5.mono (by omega)); have hOT5 := hOT.below hb45 hhi')
                  | (refine step_apT (v := u14) (w := w5.alloc (.cells #[.slice A5 n5 c5] 22)) (lo := wm.heap.size) (b := w5.heap.size) (u := .slice A5 n5 c5) rfl (.tmp 93) (.tmp 102) rfl rfl (hOT5.alloc (by omega) _).tbl rfl (Box.new w5 _ _).one rfl hcn (by rw [World.size_alloc]; omega) ?_; intro v6 w6 ho6 hg6 hv6; have hG6 := hG.push hOT hhi' hb45 ho5 (by omega) hd5 ho6 hg6 hv6; have hxr : Box w6 w.heap.size _ := hx.below hG6.below (by omega)))
              have HT := Lib.hid hG6
              clear hG hOT hOT5 how ho5 ho6 hg6 hv6 hT4 hb4 hb5 hb45 hr hci hxr ha1r hG6
              go_wp2
              go_roundw
              case rel => exact ⟨t + 1, by omega, by go_num, by rw [HS.out]; exact HT.out⟩
              case measure => simp [intOf]; omega
            · obtain rfl : K.rk = t := by omega
              obtain ⟨A14, c14, rfl, hd14, hst14, hT14⟩ := hG.ret
              have hzr := hz.below hG.below (by omega)
              have hqr := hq.trans (hG.below.mono (by omega))
              have HFF := Lib.hid (cmbL_FF R1 C p d1 K.f K.rk)
              clear hG hTk
              go_wp2_with fail
              go_region_held3 (fun w' => w'.cell? ⟨w.heap.size, 0, none⟩ = some (.int .i64 p) ∧ w'.cell? ⟨w.heap.size, 1, none⟩ = some (.int .i64 R1) ∧ w'.cell? ⟨w.heap.size, 2, none⟩ = some (.int .i64 C) ∧ w'.cell? ⟨w.heap.size, 3, none⟩ = some (.slice A1 n1 k1)) (first | exact hxr.four | exact (hxr.below (B := w.heap.size + 1 + 1) (((((Below.refl _ _).setCell (by exact Nat.le_refl _) _).setCell (by exact Nat.le_refl _) _).setCell (by exact Nat.le_refl _) _).setCell (by exact Nat.le_refl _) _) (by omega)).four)
                (first
                  | (go_at_call 99; refine (span_any A14 K.rk c14 C p (cmbF R1 C p d1 K.f) hst14 _ wr.drew (B := wr.heap.size) (hT14.rd.below (Below.drew1 _ (Below.refl wr.heap.size wr)) (Nat.le_refl _)) HFF.out (by rw [size_drew]; exact Nat.le_refl _) (by omega) (by omega) HP.out HCF.out).mono ?_; rw [HSS.out]; rintro e w5 ⟨A5, n5, k5, rfl, hd5, hb, hs5, hT5⟩; have hb := Below.ofDrew hb; have hs5 := hb.size; have hxr := hxr.step hb; have hzr := hzr.step hb; have hqr := hqr.trans (hb.mono hqr.size); obtain rfl : s.rk = n5 := (by rw [← hT5.len, tabR_len]))
                  | (go_at_call 69; refine (matrixOf_any p C A5 s.rk k5 _ _ _ hT5.rd (Nat.le_refl _) (by rw [HFL.out, tab_len]; omega)).mono ?_; rintro e w6 ⟨A6, n6, k6, rfl, hd6, hb, ho6⟩; have hs6 := hb.size; have hxr := hxr.step hb; have hzr := hzr.step hb; have hqr := hqr.trans (hb.mono hqr.size); rw [HFL.out] at ho6; obtain ⟨z0, z1, z2, z3⟩ := hzr.four; have zf := hzr.fz))
              go_wp2
              exact bodyPost_ret (v := .tuple #[.agg #[.int .i64 p, .int .i64 s.rk, .int .i64 C, .slice A6 n6 k6], .bool true]) (by simp [results, Try.results39, go_sem, z0, z1, z2, z3]) rfl (retMB4 (R := w.heap.size + 2) hqr ho6 (by omega) (by omega) (Nat.le_refl _) _ _ _ _)
end Go.Proofs.Ytfiganobjjjloaa
