/- ParseAlgebra of the reference. No condition but what each theorem names. -/
import Derived.Test.YtnkcjekfjlbcdaaGreatDoorLnsW
import Derived.Test.YtnkcjekfjlbcdaaGreatDoorLawK
import Derived.Deep.QuietTactic
import Derived.BigQuiet
namespace Go.Proofs.YtnkcjekfjlbcdaaGreatDoor
set_option linter.unusedVariables false
set_option linter.unusedSimpArgs false
set_option maxRecDepth 20000
open Go Go.RowKit
set_option maxHeartbeats 4000000
/-- what a text reads as, handed back -/
def ParR (v : Option (Int × Nat × List Int)) (w : World) (e : Ending) (w' : World) : Prop :=
  match v with
  | none => RetAB 0 0 [] false w e w'
  | some v => RetAB v.1 v.2.1 v.2.2 true w e w'
theorem ParR.no {v : Option (Int × Nat × List Int)} {w w' : World} (h : v = none) (hb : Below w.heap.size w w') : ParR v w (.returned (.tuple #[.agg #[.int .i64 0, .int .i64 0, .slice none 0 0], .bool false])) w' := by
  subst h; exact ⟨_, _, _, rfl, Hd.nil, hb, OwI.emp _ _ _ _⟩
theorem ParR.yes {v : Option (Int × Nat × List Int)} {w w' : World} {p : Int} {N n k : Nat} {A : Option Addr} {d : List Int} (h : v = some (p, N, d)) (hd : Hd A n k) (hb : Below w.heap.size w w') (ho : OwI w' w.heap.size w'.heap.size A n d) : ParR v w (.returned (.tuple #[.agg #[.int .i64 p, .int .i64 N, .slice A n k], .bool true])) w' := by
  subst h; exact ⟨_, _, _, rfl, hd, hb, ho⟩
theorem i3_bdP {n i j k : Nat} (hi : i < n) (hj : j < n) (hk : k < n) (hn : n ≤ 28) : 0 ≤ (i : Int) * n ∧ (i : Int) * n + j ≤ 10000 ∧ 0 ≤ ((i : Int) * n + j) * n ∧ ((i : Int) * n + j) * n + k ≤ 1000000 ∧ ((i : Int) * n + j) * n + k = (((i * n + j) * n + k : Nat) : Int) ∧ (i * n + j) * n + k < n * n * n := by
  have h0 := tA_lt hi hj hk
  have h1 : i * n ≤ 28 * 28 := Nat.mul_le_mul (by omega) hn
  have h2 : (i * n + j) * n ≤ (28 * 28 + 28) * 28 := Nat.mul_le_mul (by omega) hn
  have e1 : (i : Int) * n = ((i * n : Nat) : Int) := by rw [Int.natCast_mul]
  have e2 : ((i : Int) * n + j) * n = (((i * n + j) * n : Nat) : Int) := by rw [Int.natCast_mul, Int.natCast_add, Int.natCast_mul]
  refine ⟨by omega, by omega, by omega, by omega, by omega, h0⟩
theorem valS_no1 {l : List UInt8} (h : (lnF l).2 ≠ []) : valS l = none := by unfold valS; rw [if_neg (fun k => h k.2)]
theorem valS_no2 {l : List UInt8} (h : 60000 < l.length) : valS l = none := by unfold valS; rw [if_neg (fun k => by omega)]
theorem valS_at {l : List UInt8} {D : List (List UInt8)} (h : (lnF l).2 = []) (hl : l.length ≤ 60000) (hD : (lnF l).1 = D) : valS l = back l (rdA strB D) := by unfold valS; rw [if_pos ⟨hl, h⟩, hD]
theorem valI_no {l : List UInt8} (h : 60000 < l.length) : valI l = none := by unfold valI; rw [if_neg (fun k => by omega)]
theorem valI_at {l : List UInt8} {D : List (List UInt8)} (hl : l.length ≤ 60000) (hD : (lnF l).1 = D) : valI l = back l (rdA looB D) := by unfold valI; rw [if_pos hl, hD]
theorem rdA_no {ok : Int → Int → List Int → Bool} {h : List UInt8} {r : List (List UInt8)} (k : ∀ xs, parL h = some xs → hdB xs = false) : rdA ok (h :: r) = none := by
  cases hx : parL h with
  | none => simp only [rdA, hx]
  | some xs => simp only [rdA, hx]; rw [if_neg (by rw [k xs hx]; decide)]
theorem rdA_at {ok : Int → Int → List Int → Bool} {h : List UInt8} {r : List (List UInt8)} {p : Int} {N : Nat} (hx : parL h = some [p, (N : Int)]) (hp : isP p = true) (hN : N ≤ 28) : rdA ok (h :: r) = (rdL (ok p N) p N r (List.replicate (N * N * N) 0)).map fun d => (p, N, d) := by
  simp only [rdA, hx]
  have h0 : hdB [p, (N : Int)] = true := hdB_iff.2 ⟨rfl, by show 0 ≤ (N : Int) ∧ (N : Int) ≤ 28; omega, hp⟩
  rw [if_pos h0]
  rfl
theorem back_none (l : List UInt8) : back l none = none := rfl
theorem back_no {l : List UInt8} {p : Int} {N : Nat} {d : List Int} (h : ¬ (okA p N d = true ∧ fmtA p N d = l)) : back l (some (p, N, d)) = none := by show (if _ then _ else _) = none; rw [if_neg h]
theorem back_yes {l : List UInt8} {p : Int} {N : Nat} {d : List Int} (h : okA p N d = true ∧ fmtA p N d = l) : back l (some (p, N, d)) = some (p, N, d) := by show (if _ then _ else _) = some _; rw [if_pos h]
theorem ln_short {l : List UInt8} {D : List (List UInt8)} (h : (lnF l).1 = D) : ∀ x ∈ D, x.length ≤ l.length := by
  obtain ⟨D', cur, a, e, _, _, hx⟩ := lnF_tail _ l rfl
  rw [e] at h; subst h; exact hx
set_option maxRecDepth 100000 in
set_option maxHeartbeats 60000000 in
theorem sPa_any (l : List UInt8) (s : ByteArray) (w : World) (hs : s.data.toList = l) (hl : l.length ≤ 1048576) :
    Calls Tryz.prog 4 #[.string s] w (ParR (valS l) w) := by
  have hls : s.size = l.length := by rw [← hs]; rfl
  have hz := Box.new w #[.int .i64 0, .int .i64 0, .slice none 0 0] 24
  have HSL := Lib.hid hs
  clear hs
  go_enter Tryz.func4, Tryz.ntmps4
  go_wp2_with fail
  refine (lines_any l s _ HSL.out hl).mono ?_
  rintro e w1 ⟨A, n, k, b, bs, rfl, hd, hb1, hrs, hD, hbl, hn⟩
  have hz1 := hz.below hb1 (by simp)
  have hq1 : Below w.heap.size w w1 := (by repeat' (first | (with_reducible exact Below.refl _ _) | (with_reducible refine Below.setCell ?_ (by first | exact Nat.le_refl _ | omega | (simp only [World.size_alloc, World.size_setCell, World.heap_drewN]; omega) | (simp; omega)) _) | (with_reducible refine Below.alloc ?_ (by first | exact Nat.le_refl _ | omega | (simp only [World.size_alloc, World.size_setCell, World.heap_drewN]; omega) | (simp; omega)) _) | (with_reducible refine below_drewN ?_ _) | (with_reducible refine Below.drew ?_) | (with_reducible refine Below.trans ?_ (hb1.mono (by first | exact Nat.le_refl _ | omega | (simp only [World.size_alloc, World.size_setCell, World.heap_drewN]; omega) | (simp; omega))))))
  have hs1 := hb1.size
  rw [World.size_alloc] at hs1
  have hsn := hrs.1
  have HLS := Lib.hid (ln_short hD)
  have HD := Lib.hid hD
  have HBL := Lib.hid hbl
  clear hb1 hD hz hbl
  cases b with
  | false =>
    have HV := Lib.hid (valS_no1 (fun h => by have := HBL.out.2 h; cases this))
    obtain ⟨z0, z1, z2⟩ := hz1.three
    have zf := hz1.fz
    have zlt := hz1.lt
    go_wp2
    exact bodyPost_ret (v := .tuple #[.agg #[.int .i64 0, .int .i64 0, .slice none 0 0], .bool false]) (by simp [results, Tryz.results4, go_sem, z0, z1, z2]) rfl (ParR.no HV.out ((by repeat' (first | (with_reducible exact Below.refl _ _) | (with_reducible refine Below.setCell ?_ (by first | exact Nat.le_refl _ | omega | (simp only [World.size_alloc, World.size_setCell, World.heap_drewN]; omega) | (simp; omega)) _) | (with_reducible refine Below.alloc ?_ (by first | exact Nat.le_refl _ | omega | (simp only [World.size_alloc, World.size_setCell, World.heap_drewN]; omega) | (simp; omega)) _) | (with_reducible refine below_drewN ?_ _) | (with_reducible refine Below.drew ?_) | (with_reducible refine Below.trans ?_ (hq1.mono (by first | exact Nat.le_refl _ | omega | (simp only [World.size_alloc, World.size_setCell, World.heap_drewN]; omega) | (simp; omega))))))))
  | true =>
    have HL2 := Lib.hid (HBL.out.1 rfl)
    by_cases hbig : 60000 < l.length
    · have hdb : decide ((60000 : Int) < (l.length : Int)) = true := by simp; omega
      have HV := Lib.hid (valS_no2 hbig)
      obtain ⟨z0, z1, z2⟩ := hz1.three
      have zf := hz1.fz
      have zlt := hz1.lt
      go_wp2
      exact bodyPost_ret (v := .tuple #[.agg #[.int .i64 0, .int .i64 0, .slice none 0 0], .bool false]) (by simp [results, Tryz.results4, go_sem, z0, z1, z2]) rfl (ParR.no HV.out ((by repeat' (first | (with_reducible exact Below.refl _ _) | (with_reducible refine Below.setCell ?_ (by first | exact Nat.le_refl _ | omega | (simp only [World.size_alloc, World.size_setCell, World.heap_drewN]; omega) | (simp; omega)) _) | (with_reducible refine Below.alloc ?_ (by first | exact Nat.le_refl _ | omega | (simp only [World.size_alloc, World.size_setCell, World.heap_drewN]; omega) | (simp; omega)) _) | (with_reducible refine below_drewN ?_ _) | (with_reducible refine Below.drew ?_) | (with_reducible refine Below.trans ?_ (hq1.mono (by first | exact Nat.le_refl _ | omega | (simp only [World.size_alloc, World.size_setCell, World.heap_drewN]; omega) | (simp; omega))))))))
    · have hdb : decide ((60000 : Int) < (l.length : Int)) = false := by simp; omega
      by_cases hn0 : n = 0
      · subst hn0
        have HV := Lib.hid (show valS l = none by
          have hbs : bs = [] := List.eq_nil_of_length_eq_zero hsn
          rw [valS_at HL2.out (by omega) HD.out, hbs]; rfl)
        obtain ⟨z0, z1, z2⟩ := hz1.three
        have zf := hz1.fz
        have zlt := hz1.lt
        go_wp2
        exact bodyPost_ret (v := .tuple #[.agg #[.int .i64 0, .int .i64 0, .slice none 0 0], .bool false]) (by simp [results, Tryz.results4, go_sem, z0, z1, z2]) rfl (ParR.no HV.out ((by repeat' (first | (with_reducible exact Below.refl _ _) | (with_reducible refine Below.setCell ?_ (by first | exact Nat.le_refl _ | omega | (simp only [World.size_alloc, World.size_setCell, World.heap_drewN]; omega) | (simp; omega)) _) | (with_reducible refine Below.alloc ?_ (by first | exact Nat.le_refl _ | omega | (simp only [World.size_alloc, World.size_setCell, World.heap_drewN]; omega) | (simp; omega)) _) | (with_reducible refine below_drewN ?_ _) | (with_reducible refine Below.drew ?_) | (with_reducible refine Below.trans ?_ (hq1.mono (by first | exact Nat.le_refl _ | omega | (simp only [World.size_alloc, World.size_setCell, World.heap_drewN]; omega) | (simp; omega))))))))
      · have hne : ((n : Int) == 0) = false := by simp; omega
        obtain ⟨b0, br, rfl⟩ : ∃ b0 br, bs = b0 :: br := by
          cases bs with
          | nil => exact absurd hsn.symm hn0
          | cons x r => exact ⟨x, r, rfl⟩
        obtain ⟨g, rfl, hg, hc⟩ := hrs.2 (by omega)
        have hc0 := hc 0 b0 rfl
        have hlen0 : b0.data.toList.length ≤ 60000 := by have := HLS.out b0.data.toList (by simp); omega
        have HVA := Lib.hid (show valS l = back l (rdA strB (b0.data.toList :: br.map (·.data.toList))) from valS_at HL2.out (by omega) HD.out)
        have hni : (0 : Int) < (n : Int) := by omega
        have HRS := Lib.hid hrs
        have HSN := Lib.hid hsn
        clear hrs hc hsn
        go_wp2_with fail
        refine (sPrs_any b0.data.toList b0 w1 rfl (by omega)).mono ?_
        rintro e w2 ⟨A2, n2, k2, ok, xs, rfl, hd2, hb2, ho2, hp2, hx2, hn2⟩
        have hs2 := hb2.size
        have hz2 := hz1.below hb2 (by omega)
        have hq2 := hq1.trans (hb2.mono (by omega))
        clear hc0 hz1 hx2
        cases ok with
        | false =>
          rw [if_neg (by decide)] at hp2
          have HV := Lib.hid (show valS l = none by rw [HVA.out, rdA_no (fun xs h => by rw [hp2] at h; cases h)]; rfl)
          clear hp2
          obtain ⟨z0, z1, z2⟩ := hz2.three
          have zf := hz2.fz
          have zlt := hz2.lt
          go_wp2
          exact bodyPost_ret (v := .tuple #[.agg #[.int .i64 0, .int .i64 0, .slice none 0 0], .bool false]) (by simp [results, Tryz.results4, go_sem, z0, z1, z2]) rfl (ParR.no HV.out ((by repeat' (first | (with_reducible exact Below.refl _ _) | (with_reducible refine Below.setCell ?_ (by first | exact Nat.le_refl _ | omega | (simp only [World.size_alloc, World.size_setCell, World.heap_drewN]; omega) | (simp; omega)) _) | (with_reducible refine Below.alloc ?_ (by first | exact Nat.le_refl _ | omega | (simp only [World.size_alloc, World.size_setCell, World.heap_drewN]; omega) | (simp; omega)) _) | (with_reducible refine below_drewN ?_ _) | (with_reducible refine Below.drew ?_) | (with_reducible refine Below.trans ?_ (hq2.mono (by first | exact Nat.le_refl _ | omega | (simp only [World.size_alloc, World.size_setCell, World.heap_drewN]; omega) | (simp; omega))))))))
        | true =>
          rw [if_pos rfl] at hp2
          have hxl := ho2.1
          have HNO := Lib.hid (show hdB xs = false → valS l = none from fun h => by rw [HVA.out, rdA_no (fun ys k => by rw [hp2] at k; injection k with k; rw [← k]; exact h)]; rfl)
          have HP2 := Lib.hid hp2
          clear hp2
          by_cases h22 : n2 = 2
          case neg =>
            have hne2 : ((n2 : Int) != 2) = true := by simp; omega
            have HV := Lib.hid (HNO.out (Bool.eq_false_iff.2 fun k => h22 (by have := (hdB_iff.1 k).1; omega)))
            have HXL := Lib.hid hxl
            clear hxl
            obtain ⟨z0, z1, z2⟩ := hz2.three
            have zf := hz2.fz
            have zlt := hz2.lt
            go_wp2
            exact bodyPost_ret (v := .tuple #[.agg #[.int .i64 0, .int .i64 0, .slice none 0 0], .bool false]) (by simp [results, Tryz.results4, go_sem, z0, z1, z2]) rfl (ParR.no HV.out ((by repeat' (first | (with_reducible exact Below.refl _ _) | (with_reducible refine Below.setCell ?_ (by first | exact Nat.le_refl _ | omega | (simp only [World.size_alloc, World.size_setCell, World.heap_drewN]; omega) | (simp; omega)) _) | (with_reducible refine Below.alloc ?_ (by first | exact Nat.le_refl _ | omega | (simp only [World.size_alloc, World.size_setCell, World.heap_drewN]; omega) | (simp; omega)) _) | (with_reducible refine below_drewN ?_ _) | (with_reducible refine Below.drew ?_) | (with_reducible refine Below.trans ?_ (hq2.mono (by first | exact Nat.le_refl _ | omega | (simp only [World.size_alloc, World.size_setCell, World.heap_drewN]; omega) | (simp; omega))))))))
          subst h22
          obtain ⟨x0, x1, rfl⟩ : ∃ x0 x1, xs = [x0, x1] := by
            match xs, hxl with
            | [a, b], _ => exact ⟨a, b, rfl⟩
          obtain ⟨g2, o2, rfl⟩ := ho2.addr (by omega)
          have c0 : w2.cell? ⟨g2, o2, none⟩ = some (.int .i64 x0) := by have := ho2.rd.at_ (j := 0) (by omega); simpa [gI] using this
          have c1 : w2.cell? ⟨g2, o2 + 1, none⟩ = some (.int .i64 x1) := by have := ho2.rd.at_ (j := 1) (by omega); simpa [gI] using this
          clear hxl ho2
          by_cases hin : 0 ≤ x1 ∧ x1 ≤ 28
          case neg =>
            have HV := Lib.hid (HNO.out (Bool.eq_false_iff.2 fun k => hin (hdB_iff.1 k).2.1))
            have hC : ∀ w : World, Calls Tryz.prog 11 #[.int .i64 x1, .int .i64 0, .int .i64 28] w fun e w' => e = .returned (.bool false) ∧ w = w' := fun w => by
              have h := l1In_any x1 0 28 w
              rwa [show (decide (0 ≤ x1) && decide (x1 ≤ 28)) = false by simp; omega] at h
            obtain ⟨z0, z1, z2⟩ := hz2.three
            have zf := hz2.fz
            have zlt := hz2.lt
            go_wp2_with (first | (go_at_call 11; refine (hC _).mono ?_; rintro e w' ⟨rfl, rfl⟩))
            exact bodyPost_ret (v := .tuple #[.agg #[.int .i64 0, .int .i64 0, .slice none 0 0], .bool false]) (by simp [results, Tryz.results4, go_sem, z0, z1, z2]) rfl (ParR.no HV.out ((by repeat' (first | (with_reducible exact Below.refl _ _) | (with_reducible refine Below.setCell ?_ (by first | exact Nat.le_refl _ | omega | (simp only [World.size_alloc, World.size_setCell, World.heap_drewN]; omega) | (simp; omega)) _) | (with_reducible refine Below.alloc ?_ (by first | exact Nat.le_refl _ | omega | (simp only [World.size_alloc, World.size_setCell, World.heap_drewN]; omega) | (simp; omega)) _) | (with_reducible refine below_drewN ?_ _) | (with_reducible refine Below.drew ?_) | (with_reducible refine Below.trans ?_ (hq2.mono (by first | exact Nat.le_refl _ | omega | (simp only [World.size_alloc, World.size_setCell, World.heap_drewN]; omega) | (simp; omega))))))))
          have hC : ∀ w : World, Calls Tryz.prog 11 #[.int .i64 x1, .int .i64 0, .int .i64 28] w fun e w' => e = .returned (.bool true) ∧ w = w' := fun w => by
            have h := l1In_any x1 0 28 w
            rwa [show (decide (0 ≤ x1) && decide (x1 ≤ 28)) = true by simp; omega] at h
          rcases hpr : isP x0 with _ | _
          · have HV := Lib.hid (HNO.out (Bool.eq_false_iff.2 fun k => by have := (hdB_iff.1 k).2.2; rw [show gI [x0, x1] 0 = x0 from rfl, hpr] at this; cases this))
            have hCP : ∀ w : World, Calls Tryz.prog 12 #[.int .i64 x0] w fun e w' => e = .returned (.bool false) ∧ w = w' := fun w => by
              have h := sp_any x0 w
              rwa [hpr] at h
            clear hin
            obtain ⟨z0, z1, z2⟩ := hz2.three
            have zf := hz2.fz
            have zlt := hz2.lt
            go_wp2_with (first | (go_at_call 11; refine (hC _).mono ?_; rintro e w' ⟨rfl, rfl⟩) | (go_at_call 12; refine (hCP _).mono ?_; rintro e w' ⟨rfl, rfl⟩))
            exact bodyPost_ret (v := .tuple #[.agg #[.int .i64 0, .int .i64 0, .slice none 0 0], .bool false]) (by simp [results, Tryz.results4, go_sem, z0, z1, z2]) rfl (ParR.no HV.out ((by repeat' (first | (with_reducible exact Below.refl _ _) | (with_reducible refine Below.setCell ?_ (by first | exact Nat.le_refl _ | omega | (simp only [World.size_alloc, World.size_setCell, World.heap_drewN]; omega) | (simp; omega)) _) | (with_reducible refine Below.alloc ?_ (by first | exact Nat.le_refl _ | omega | (simp only [World.size_alloc, World.size_setCell, World.heap_drewN]; omega) | (simp; omega)) _) | (with_reducible refine below_drewN ?_ _) | (with_reducible refine Below.drew ?_) | (with_reducible refine Below.trans ?_ (hq2.mono (by first | exact Nat.le_refl _ | omega | (simp only [World.size_alloc, World.size_setCell, World.heap_drewN]; omega) | (simp; omega))))))))
          · have hCP : ∀ w : World, Calls Tryz.prog 12 #[.int .i64 x0] w fun e w' => e = .returned (.bool true) ∧ w = w' := fun w => by
              have h := sp_any x0 w
              rwa [hpr] at h
            obtain ⟨hpa, hpb⟩ := isP_bd hpr
            obtain ⟨N, rfl⟩ := Int.eq_ofNat_of_zero_le hin.1
            have hN : N ≤ 28 := by omega
            have HVB := Lib.hid (show valS l = back l ((rdL (strB x0 N) x0 N (br.map (·.data.toList)) (List.replicate (N * N * N) 0)).map fun d => (x0, N, d)) by rw [HVA.out, rdA_at HP2.out hpr hN])
            have HOK := Lib.hid (show okAb x0 N from ⟨hpr, by omega, by omega⟩)
            have htn : ((N : Int) * N * N).toNat = N * N * N := by rw [← Int.natCast_mul, ← Int.natCast_mul]; rfl
            have HTN := Lib.hid htn
            clear hin htn HNO
            go_wp2_with (first | (go_at_call 11; refine (hC _).mono ?_; rintro e w' ⟨rfl, rfl⟩) | (go_at_call 12; refine (hCP _).mono ?_; rintro e w' ⟨rfl, rfl⟩))
            refine (sAb_ok x0 N w2 HOK.out).mono ?_
            rintro e w3 ⟨A3, n3, k3, rfl, hd3, hb3, ho3⟩
            rw [HTN.out] at ho3
            have HN3 := Lib.hid (show n3 = N * N * N by rw [← ho3.1, List.length_replicate])
            have hs3 := hb3.size
            clear c0 c1 hC hCP
            have hz4 := (hz2.below hb3 (by omega)).alloc (.cells #[.int .i64 x0, .int .i64 N, .slice A3 n3 k3] 24)
            have hy4 := Box.new w3 #[.int .i64 x0, .int .i64 N, .slice A3 n3 k3] 24
            have ho4 := ho3.alloc (Nat.le_refl _) (.cells #[.int .i64 x0, .int .i64 N, .slice A3 n3 k3] 24)
            have hq4 : Below w.heap.size w (w3.alloc (.cells #[.int .i64 x0, .int .i64 N, .slice A3 n3 k3] 24)) := (hq2.trans (hb3.mono (by omega))).alloc (by omega) _
            have hr4 : RdS (w3.alloc (.cells #[.int .i64 x0, .int .i64 N, .slice A3 n3 k3] 24)) w1.heap.size (some ⟨g, 0, none⟩) n (b0 :: br) := HRS.out.below ((hb2.trans (hb3.mono (by omega))).alloc (by omega) _) (Nat.le_refl _)
            have hs4 : (w3.alloc (.cells #[.int .i64 x0, .int .i64 N, .slice A3 n3 k3] 24)).heap.size = w3.heap.size + 1 := by rw [World.size_alloc]
            clear hb3 ho3 hz2 hq2 hb2 hq1
            go_wp2_with fail
            generalize w3.alloc (.cells #[.int .i64 x0, .int .i64 N, .slice A3 n3 k3] 24) = w4 at *
            go_loopw [10] (fun i wr => ∃ (m : Nat) (d : List Int), 1 ≤ m ∧ m ≤ n ∧ i = .int .i64 m ∧ w3.heap.size < wr.heap.size ∧ Below w.heap.size w wr ∧ Box wr w.heap.size #[.int .i64 0, .int .i64 0, .slice none 0 0] ∧ Box wr w3.heap.size #[.int .i64 x0, .int .i64 N, .slice A3 n3 k3] ∧ OwI wr w2.heap.size w3.heap.size A3 n3 d ∧ RdS wr w1.heap.size (some ⟨g, 0, none⟩) n (b0 :: br) ∧ Hid (rdL (strB x0 N) x0 N (((b0 :: br).map (·.data.toList)).drop m) d = rdL (strB x0 N) x0 N (br.map (·.data.toList)) (List.replicate (N * N * N) 0))) (fun i _ => n - (intOf i).toNat)
            case atStart => exact ⟨1, _, by omega, by omega, rfl, by omega, hq4, hz4, hy4, ho4, hr4, Lib.hid rfl⟩
            case round =>
              clear hq4 hz4 hy4 ho4 hr4 hs4
              obtain ⟨m, d, hm1, hmn, rfl, hsr, hqr, hzr, hyr, hor, hrr, HR⟩ := hrel
              by_cases hlt : m < n
              · obtain ⟨x, hx⟩ : ∃ x, (b0 :: br)[m]? = some x := ⟨_, List.getElem?_eq_getElem (by rw [HSN.out]; exact hlt)⟩
                obtain ⟨g', e1, _, hcc⟩ := hrr.2 (by omega)
                injection e1 with e1; injection e1 with e1 _; subst e1
                have hcm := hcc m x hx
                have hgx := (List.getElem?_eq_some_iff.1 hx).2
                have hxm : x.data.toList ∈ (b0 :: br).map (·.data.toList) := List.mem_map.2 ⟨x, by rw [← hgx]; exact List.getElem_mem _, rfl⟩
                have hlenx : x.data.toList.length ≤ 60000 := by have := HLS.out _ hxm; omega
                have HDR := Lib.hid (show ((b0 :: br).map (·.data.toList)).drop m = x.data.toList :: ((b0 :: br).map (·.data.toList)).drop (m + 1) by
                  rw [List.drop_eq_getElem_cons (by rw [List.length_map, HSN.out]; exact hlt), List.getElem_map, hgx])
                clear hcc hgx hx hxm
                go_wp2_with fail
                refine (sPrs_any x.data.toList x wr rfl (by omega)).mono ?_
                rintro e w5 ⟨A5, n5, k5, ok5, ys, rfl, hd5, hb5, ho5, hp5, hx5, hn5⟩
                have hs5 := hb5.size
                have hz5 := hzr.below hb5 (by omega)
                have hy5 := hyr.below hb5 (by omega)
                have hq5 := hqr.trans (hb5.mono (by omega))
                have ho6 := hor.below hb5 (by omega)
                have hr5 := hrr.below hb5 (by omega)
                clear hcm hzr hyr hor hrr hqr hb5 hx5
                have HNO := Lib.hid (show (∀ ys, parL x.data.toList = some ys → strB x0 N ys = false) → valS l = none from fun h => by
                  have hh := HR.out
                  rw [HDR.out, rdL_no h] at hh
                  rw [HVB.out, ← hh]; rfl)
                have HL5 := Lib.hid ho5.1
                obtain ⟨a0, a1, a2⟩ := hy5.three
                cases ok5 with
                | false =>
                  rw [if_neg (by decide)] at hp5
                  have HV := Lib.hid (HNO.out (fun ys h => by rw [hp5] at h; cases h))
                  clear hp5
                  go_wp2_with fail
                  go_quiet (fail)
                  obtain ⟨z0, z1, z2⟩ := hz5.three
                  have zf := hz5.fz
                  have zlt := hz5.lt
                  go_wp2
                  exact bodyPost_ret (v := .tuple #[.agg #[.int .i64 0, .int .i64 0, .slice none 0 0], .bool false]) (by simp [results, Tryz.results4, go_sem, z0, z1, z2]) rfl (ParR.no HV.out ((by repeat' (first | (with_reducible exact Below.refl _ _) | (with_reducible refine Below.setCell ?_ (by first | exact Nat.le_refl _ | omega | (simp only [World.size_alloc, World.size_setCell, World.heap_drewN]; omega) | (simp; omega)) _) | (with_reducible refine Below.alloc ?_ (by first | exact Nat.le_refl _ | omega | (simp only [World.size_alloc, World.size_setCell, World.heap_drewN]; omega) | (simp; omega)) _) | (with_reducible refine below_drewN ?_ _) | (with_reducible refine Below.drew ?_) | (with_reducible refine Below.trans ?_ (hq5.mono (by first | exact Nat.le_refl _ | omega | (simp only [World.size_alloc, World.size_setCell, World.heap_drewN]; omega) | (simp; omega))))))))
                | true =>
                  rw [if_pos rfl] at hp5
                  have HNO2 := Lib.hid (show strB x0 N ys = false → valS l = none from fun h => HNO.out fun zs k => by rw [hp5] at k; injection k with k; rw [← k]; exact h)
                  have HP5 := Lib.hid hp5
                  clear hp5
                  by_cases h54 : n5 = 4
                  case neg =>
                    have hne5 : ((n5 : Int) != 4) = true := by simp; omega
                    have HV := Lib.hid (HNO2.out (Bool.eq_false_iff.2 fun k => h54 (by have := (strB_iff.1 k).1; rw [← HL5.out]; exact this)))
                    go_wp2_with fail
                    go_quiet (fail)
                    obtain ⟨z0, z1, z2⟩ := hz5.three
                    have zf := hz5.fz
                    have zlt := hz5.lt
                    go_wp2
                    exact bodyPost_ret (v := .tuple #[.agg #[.int .i64 0, .int .i64 0, .slice none 0 0], .bool false]) (by simp [results, Tryz.results4, go_sem, z0, z1, z2]) rfl (ParR.no HV.out ((by repeat' (first | (with_reducible exact Below.refl _ _) | (with_reducible refine Below.setCell ?_ (by first | exact Nat.le_refl _ | omega | (simp only [World.size_alloc, World.size_setCell, World.heap_drewN]; omega) | (simp; omega)) _) | (with_reducible refine Below.alloc ?_ (by first | exact Nat.le_refl _ | omega | (simp only [World.size_alloc, World.size_setCell, World.heap_drewN]; omega) | (simp; omega)) _) | (with_reducible refine below_drewN ?_ _) | (with_reducible refine Below.drew ?_) | (with_reducible refine Below.trans ?_ (hq5.mono (by first | exact Nat.le_refl _ | omega | (simp only [World.size_alloc, World.size_setCell, World.heap_drewN]; omega) | (simp; omega))))))))
                  subst h54
                  obtain ⟨y0, y1, y2, y3, rfl⟩ : ∃ y0 y1 y2 y3, ys = [y0, y1, y2, y3] := by
                    match ys, HL5.out with
                    | [a, b, c, d], _ => exact ⟨a, b, c, d, rfl⟩
                  obtain ⟨g5, o5, rfl⟩ := ho5.addr (by omega)
                  have c0 : w5.cell? ⟨g5, o5, none⟩ = some (.int .i64 y0) := by have := ho5.rd.at_ (j := 0) (by omega); simpa [gI] using this
                  have c1 : w5.cell? ⟨g5, o5 + 1, none⟩ = some (.int .i64 y1) := by have := ho5.rd.at_ (j := 1) (by omega); simpa [gI] using this
                  have c2 : w5.cell? ⟨g5, o5 + 2, none⟩ = some (.int .i64 y2) := by have := ho5.rd.at_ (j := 2) (by omega); simpa [gI] using this
                  have c3 : w5.cell? ⟨g5, o5 + 3, none⟩ = some (.int .i64 y3) := by have := ho5.rd.at_ (j := 3) (by omega); simpa [gI] using this
                  have hwN : IntKind.i64.wrap ((N : Int) - 1) = (N : Int) - 1 := IntWalk.i64_in _ (by omega)
                  have hwp : IntKind.i64.wrap (x0 - 1) = x0 - 1 := IntWalk.i64_in _ (by omega)
                  have hST : strB x0 N [y0, y1, y2, y3] = true ↔ 4 = 4 ∧ (0 ≤ y0 ∧ y0 ≤ (N : Int) - 1) ∧ (y0 + 1 ≤ y1 ∧ y1 ≤ (N : Int) - 1) ∧ (0 ≤ y2 ∧ y2 ≤ (N : Int) - 1) ∧ (1 ≤ y3 ∧ y3 ≤ x0 - 1) := strB_iff
                  clear HNO
                  by_cases h0 : 0 ≤ y0 ∧ y0 ≤ (↑N - 1)
                  case neg =>
                    have HV := Lib.hid (HNO2.out (Bool.eq_false_iff.2 fun k => h0 (hST.1 k).2.1))
                    have hI0 : ∀ w : World, Calls Tryz.prog 11 #[.int .i64 y0, .int .i64 0, .int .i64 (↑N - 1)] w fun e w' => e = .returned (.bool false) ∧ w = w' := fun w => by
                      have h := l1In_any y0 0 (↑N - 1) w
                      rwa [show (decide (0 ≤ y0) && decide (y0 ≤ (↑N - 1))) = false by simp; omega] at h
                    clear hST
                    go_wp2_with fail
                    go_quiet ((first | (go_at_call_of 11 (Value.int .i64 y0); exact Calls.quiet_of_same ((hI0 _).mono fun e w' h => ⟨h.1, h.2.symm⟩))))
                    obtain ⟨z0, z1, z2⟩ := hz5.three
                    have zf := hz5.fz
                    have zlt := hz5.lt
                    go_wp2
                    exact bodyPost_ret (v := .tuple #[.agg #[.int .i64 0, .int .i64 0, .slice none 0 0], .bool false]) (by simp [results, Tryz.results4, go_sem, z0, z1, z2]) rfl (ParR.no HV.out ((by repeat' (first | (with_reducible exact Below.refl _ _) | (with_reducible refine Below.setCell ?_ (by first | exact Nat.le_refl _ | omega | (simp only [World.size_alloc, World.size_setCell, World.heap_drewN]; omega) | (simp; omega)) _) | (with_reducible refine Below.alloc ?_ (by first | exact Nat.le_refl _ | omega | (simp only [World.size_alloc, World.size_setCell, World.heap_drewN]; omega) | (simp; omega)) _) | (with_reducible refine below_drewN ?_ _) | (with_reducible refine Below.drew ?_) | (with_reducible refine Below.trans ?_ (hq5.mono (by first | exact Nat.le_refl _ | omega | (simp only [World.size_alloc, World.size_setCell, World.heap_drewN]; omega) | (simp; omega))))))))
                  have hI0 : ∀ w : World, Calls Tryz.prog 11 #[.int .i64 y0, .int .i64 0, .int .i64 (↑N - 1)] w fun e w' => e = .returned (.bool true) ∧ w = w' := fun w => by
                    have h := l1In_any y0 0 (↑N - 1) w
                    rwa [show (decide (0 ≤ y0) && decide (y0 ≤ (↑N - 1))) = true by simp; omega] at h
                  have hwy : IntKind.i64.wrap (y0 + 1) = y0 + 1 := IntWalk.i64_in _ (by omega)
                  by_cases h1 : (y0 + 1) ≤ y1 ∧ y1 ≤ (↑N - 1)
                  case neg =>
                    have HV := Lib.hid (HNO2.out (Bool.eq_false_iff.2 fun k => h1 (hST.1 k).2.2.1))
                    have hI1 : ∀ w : World, Calls Tryz.prog 11 #[.int .i64 y1, .int .i64 (y0 + 1), .int .i64 (↑N - 1)] w fun e w' => e = .returned (.bool false) ∧ w = w' := fun w => by
                      have h := l1In_any y1 (y0 + 1) (↑N - 1) w
                      rwa [show (decide ((y0 + 1) ≤ y1) && decide (y1 ≤ (↑N - 1))) = false by simp; omega] at h
                    clear hST
                    go_wp2_with fail
                    go_quiet ((first | (go_at_call_of 11 (Value.int .i64 y0); exact Calls.quiet_of_same ((hI0 _).mono fun e w' h => ⟨h.1, h.2.symm⟩)) | (go_at_call_of 11 (Value.int .i64 y1); exact Calls.quiet_of_same ((hI1 _).mono fun e w' h => ⟨h.1, h.2.symm⟩))))
                    obtain ⟨z0, z1, z2⟩ := hz5.three
                    have zf := hz5.fz
                    have zlt := hz5.lt
                    go_wp2
                    exact bodyPost_ret (v := .tuple #[.agg #[.int .i64 0, .int .i64 0, .slice none 0 0], .bool false]) (by simp [results, Tryz.results4, go_sem, z0, z1, z2]) rfl (ParR.no HV.out ((by repeat' (first | (with_reducible exact Below.refl _ _) | (with_reducible refine Below.setCell ?_ (by first | exact Nat.le_refl _ | omega | (simp only [World.size_alloc, World.size_setCell, World.heap_drewN]; omega) | (simp; omega)) _) | (with_reducible refine Below.alloc ?_ (by first | exact Nat.le_refl _ | omega | (simp only [World.size_alloc, World.size_setCell, World.heap_drewN]; omega) | (simp; omega)) _) | (with_reducible refine below_drewN ?_ _) | (with_reducible refine Below.drew ?_) | (with_reducible refine Below.trans ?_ (hq5.mono (by first | exact Nat.le_refl _ | omega | (simp only [World.size_alloc, World.size_setCell, World.heap_drewN]; omega) | (simp; omega))))))))
                  have hI1 : ∀ w : World, Calls Tryz.prog 11 #[.int .i64 y1, .int .i64 (y0 + 1), .int .i64 (↑N - 1)] w fun e w' => e = .returned (.bool true) ∧ w = w' := fun w => by
                    have h := l1In_any y1 (y0 + 1) (↑N - 1) w
                    rwa [show (decide ((y0 + 1) ≤ y1) && decide (y1 ≤ (↑N - 1))) = true by simp; omega] at h
                  by_cases h2 : 0 ≤ y2 ∧ y2 ≤ (↑N - 1)
                  case neg =>
                    have HV := Lib.hid (HNO2.out (Bool.eq_false_iff.2 fun k => h2 (hST.1 k).2.2.2.1))
                    have hI2 : ∀ w : World, Calls Tryz.prog 11 #[.int .i64 y2, .int .i64 0, .int .i64 (↑N - 1)] w fun e w' => e = .returned (.bool false) ∧ w = w' := fun w => by
                      have h := l1In_any y2 0 (↑N - 1) w
                      rwa [show (decide (0 ≤ y2) && decide (y2 ≤ (↑N - 1))) = false by simp; omega] at h
                    clear hST
                    go_wp2_with fail
                    go_quiet ((first | (go_at_call_of 11 (Value.int .i64 y0); exact Calls.quiet_of_same ((hI0 _).mono fun e w' h => ⟨h.1, h.2.symm⟩)) | (go_at_call_of 11 (Value.int .i64 y1); exact Calls.quiet_of_same ((hI1 _).mono fun e w' h => ⟨h.1, h.2.symm⟩)) | (go_at_call_of 11 (Value.int .i64 y2); exact Calls.quiet_of_same ((hI2 _).mono fun e w' h => ⟨h.1, h.2.symm⟩))))
                    obtain ⟨z0, z1, z2⟩ := hz5.three
                    have zf := hz5.fz
                    have zlt := hz5.lt
                    go_wp2
                    exact bodyPost_ret (v := .tuple #[.agg #[.int .i64 0, .int .i64 0, .slice none 0 0], .bool false]) (by simp [results, Tryz.results4, go_sem, z0, z1, z2]) rfl (ParR.no HV.out ((by repeat' (first | (with_reducible exact Below.refl _ _) | (with_reducible refine Below.setCell ?_ (by first | exact Nat.le_refl _ | omega | (simp only [World.size_alloc, World.size_setCell, World.heap_drewN]; omega) | (simp; omega)) _) | (with_reducible refine Below.alloc ?_ (by first | exact Nat.le_refl _ | omega | (simp only [World.size_alloc, World.size_setCell, World.heap_drewN]; omega) | (simp; omega)) _) | (with_reducible refine below_drewN ?_ _) | (with_reducible refine Below.drew ?_) | (with_reducible refine Below.trans ?_ (hq5.mono (by first | exact Nat.le_refl _ | omega | (simp only [World.size_alloc, World.size_setCell, World.heap_drewN]; omega) | (simp; omega))))))))
                  have hI2 : ∀ w : World, Calls Tryz.prog 11 #[.int .i64 y2, .int .i64 0, .int .i64 (↑N - 1)] w fun e w' => e = .returned (.bool true) ∧ w = w' := fun w => by
                    have h := l1In_any y2 0 (↑N - 1) w
                    rwa [show (decide (0 ≤ y2) && decide (y2 ≤ (↑N - 1))) = true by simp; omega] at h
                  by_cases h3 : 1 ≤ y3 ∧ y3 ≤ (x0 - 1)
                  case neg =>
                    have HV := Lib.hid (HNO2.out (Bool.eq_false_iff.2 fun k => h3 (hST.1 k).2.2.2.2))
                    have hI3 : ∀ w : World, Calls Tryz.prog 11 #[.int .i64 y3, .int .i64 1, .int .i64 (x0 - 1)] w fun e w' => e = .returned (.bool false) ∧ w = w' := fun w => by
                      have h := l1In_any y3 1 (x0 - 1) w
                      rwa [show (decide (1 ≤ y3) && decide (y3 ≤ (x0 - 1))) = false by simp; omega] at h
                    clear hST
                    go_wp2_with fail
                    go_quiet ((first | (go_at_call_of 11 (Value.int .i64 y0); exact Calls.quiet_of_same ((hI0 _).mono fun e w' h => ⟨h.1, h.2.symm⟩)) | (go_at_call_of 11 (Value.int .i64 y1); exact Calls.quiet_of_same ((hI1 _).mono fun e w' h => ⟨h.1, h.2.symm⟩)) | (go_at_call_of 11 (Value.int .i64 y2); exact Calls.quiet_of_same ((hI2 _).mono fun e w' h => ⟨h.1, h.2.symm⟩)) | (go_at_call_of 11 (Value.int .i64 y3); exact Calls.quiet_of_same ((hI3 _).mono fun e w' h => ⟨h.1, h.2.symm⟩))))
                    obtain ⟨z0, z1, z2⟩ := hz5.three
                    have zf := hz5.fz
                    have zlt := hz5.lt
                    go_wp2
                    exact bodyPost_ret (v := .tuple #[.agg #[.int .i64 0, .int .i64 0, .slice none 0 0], .bool false]) (by simp [results, Tryz.results4, go_sem, z0, z1, z2]) rfl (ParR.no HV.out ((by repeat' (first | (with_reducible exact Below.refl _ _) | (with_reducible refine Below.setCell ?_ (by first | exact Nat.le_refl _ | omega | (simp only [World.size_alloc, World.size_setCell, World.heap_drewN]; omega) | (simp; omega)) _) | (with_reducible refine Below.alloc ?_ (by first | exact Nat.le_refl _ | omega | (simp only [World.size_alloc, World.size_setCell, World.heap_drewN]; omega) | (simp; omega)) _) | (with_reducible refine below_drewN ?_ _) | (with_reducible refine Below.drew ?_) | (with_reducible refine Below.trans ?_ (hq5.mono (by first | exact Nat.le_refl _ | omega | (simp only [World.size_alloc, World.size_setCell, World.heap_drewN]; omega) | (simp; omega))))))))
                  have hI3 : ∀ w : World, Calls Tryz.prog 11 #[.int .i64 y3, .int .i64 1, .int .i64 (x0 - 1)] w fun e w' => e = .returned (.bool true) ∧ w = w' := fun w => by
                    have h := l1In_any y3 1 (x0 - 1) w
                    rwa [show (decide (1 ≤ y3) && decide (y3 ≤ (x0 - 1))) = true by simp; omega] at h
                  obtain ⟨i, rfl⟩ := Int.eq_ofNat_of_zero_le h0.1
                  obtain ⟨j, rfl⟩ := Int.eq_ofNat_of_zero_le (show 0 ≤ y1 by omega)
                  obtain ⟨t, rfl⟩ := Int.eq_ofNat_of_zero_le h2.1
                  have hi : i < N := by omega
                  have hj : j < N := by omega
                  have ht : t < N := by omega
                  have HSB := Lib.hid (hST.2 ⟨rfl, h0, h1, h2, h3⟩)
                  obtain ⟨s1, s2, s3, s4, s5, s6⟩ := i3_bdP hi hj ht hN
                  obtain ⟨t1, t2, t3, t4, t5, t6⟩ := i3_bdP hj hi ht hN
                  rw [← HN3.out] at s6 t6
                  obtain ⟨g3, o3, rfl⟩ := ho6.addr (by omega)
                  have hbk := ho6.blk (by omega)
                  have q1 : w3.heap.size ≠ g3 := by omega
                  have q2 : w.heap.size ≠ g3 := by omega
                  have q3 : w.heap.size ≤ g3 := by omega
                  have q4 : w1.heap.size ≤ g3 := by omega
                  have q5 : g3 < wr.heap.size := by omega
                  have q6 : w3.heap.size < w5.heap.size := by omega
                  have q7 : m + 1 ≤ n := by omega
                  have HR2 := Lib.hid (show rdL (strB x0 N) x0 N (((b0 :: br).map (·.data.toList)).drop (m + 1)) (putA x0 N d [(i : Int), (j : Int), (t : Int), y3]) = rdL (strB x0 N) x0 N (br.map (·.data.toList)) (List.replicate (N * N * N) 0) by rw [← HR.out, HDR.out, rdL_go HP5.out HSB.out])
                  have u1 : (((i : Int) * N + j) * N + t).toNat = (i * N + j) * N + t := by omega
                  have u2 : (((j : Int) * N + i) * N + t).toNat = (j * N + i) * N + t := by omega
                  have u3 : ((i : Int) * N + j) * N + t < n3 := by omega
                  have u4 : ((j : Int) * N + i) * N + t < n3 := by omega
                  have v1 : IntKind.i64.wrap ((i : Int) * N) = (i : Int) * N := IntWalk.i64_in _ (by omega)
                  have v2 : IntKind.i64.wrap ((i : Int) * N + j) = (i : Int) * N + j := IntWalk.i64_in _ (by omega)
                  have v3 : IntKind.i64.wrap (((i : Int) * N + j) * N) = ((i : Int) * N + j) * N := IntWalk.i64_in _ (by omega)
                  have v4 : IntKind.i64.wrap (((i : Int) * N + j) * N + t) = ((i : Int) * N + j) * N + t := IntWalk.i64_in _ (by omega)
                  have v5 : IntKind.i64.wrap ((j : Int) * N) = (j : Int) * N := IntWalk.i64_in _ (by omega)
                  have v6 : IntKind.i64.wrap ((j : Int) * N + i) = (j : Int) * N + i := IntWalk.i64_in _ (by omega)
                  have v7 : IntKind.i64.wrap (((j : Int) * N + i) * N) = ((j : Int) * N + i) * N := IntWalk.i64_in _ (by omega)
                  have v8 : IntKind.i64.wrap (((j : Int) * N + i) * N + t) = ((j : Int) * N + i) * N + t := IntWalk.i64_in _ (by omega)
                  have v9 : IntKind.i64.wrap (x0 - y3) = x0 - y3 := IntWalk.i64_in _ (by omega)
                  have w1' : 0 ≤ ((i : Int) * N + j) * N + t := by omega
                  have w2' : 0 ≤ ((j : Int) * N + i) * N + t := by omega
                  have HPA := Lib.hid (show (d.set ((i * N + j) * N + t) y3).set ((j * N + i) * N + t) (x0 - y3) = putA x0 N d [(i : Int), (j : Int), (t : Int), y3] by
                    obtain ⟨k1, k2⟩ := put_str (p := x0) (c := y3) h3
                    unfold putA
                    show _ = (d.set ((i * N + j) * N + t) (y3 % x0)).set ((j * N + i) * N + t) (-y3 % x0)
                    rw [k1, k2])
                  have HH := Lib.hid (And.intro h0 (And.intro h1 (And.intro h2 h3)))
                  clear hST s5 t5 h0 h1 h2 h3 hn5 hn2
                  go_wp2_with fail
                  go_quiet ((first | (go_at_call_of 11 (Value.int .i64 i); exact Calls.quiet_of_same ((hI0 _).mono fun e w' h => ⟨h.1, h.2.symm⟩)) | (go_at_call_of 11 (Value.int .i64 j); exact Calls.quiet_of_same ((hI1 _).mono fun e w' h => ⟨h.1, h.2.symm⟩)) | (go_at_call_of 11 (Value.int .i64 t); exact Calls.quiet_of_same ((hI2 _).mono fun e w' h => ⟨h.1, h.2.symm⟩)) | (go_at_call_of 11 (Value.int .i64 y3); exact Calls.quiet_of_same ((hI3 _).mono fun e w' h => ⟨h.1, h.2.symm⟩))))
                  obtain ⟨w6, hw6⟩ : ∃ x, x = w5.drewN nq := ⟨_, rfl⟩
                  have hz6 : Box w6 w.heap.size #[.int .i64 0, .int .i64 0, .slice none 0 0] := by rw [hw6]; exact hz5
                  have hy6 : Box w6 w3.heap.size #[.int .i64 x0, .int .i64 N, .slice (some ⟨g3, o3, none⟩) n3 k3] := by rw [hw6]; exact hy5
                  have hq6 : Below w.heap.size w w6 := by rw [hw6]; exact below_drewN hq5 _
                  have hr6 : RdS w6 w1.heap.size (some ⟨g, 0, none⟩) n (b0 :: br) := by rw [hw6]; exact hr5
                  have hs6 : w6.heap.size = w5.heap.size := by rw [hw6]; rfl
                  have ho7 : OwI w6 w2.heap.size w3.heap.size (some ⟨g3, o3, none⟩) n3 d := by rw [hw6]; exact ho6
                  have ho8 : OwI w6 wr.heap.size w5.heap.size (some ⟨g5, o5, none⟩) 4 [(i : Int), (j : Int), (t : Int), y3] := by rw [hw6]; exact ho5
                  have d0 : w6.cell? ⟨g5, o5, none⟩ = some (.int .i64 (i : Int)) := by rw [hw6]; exact c0
                  have d1 : w6.cell? ⟨g5, o5 + 1, none⟩ = some (.int .i64 (j : Int)) := by rw [hw6]; exact c1
                  have d2 : w6.cell? ⟨g5, o5 + 2, none⟩ = some (.int .i64 (t : Int)) := by rw [hw6]; exact c2
                  have d3 : w6.cell? ⟨g5, o5 + 3, none⟩ = some (.int .i64 y3) := by rw [hw6]; exact c3
                  rw [← hw6]
                  clear hw6 c0 c1 c2 c3 a0 a1 a2 hz5 hy5 hq5 hr5 ho6 ho5
                  obtain ⟨a0, a1, a2⟩ := hy6.three
                  obtain ⟨f1, f2⟩ := ho7.at_ s6
                  go_wp2_with fail
                  (refine wp_region_quiet_last (C := fun w' => ∃ nn, w' = w6.drewN nn) 21 (by kernel_rfl) (by kernel_rfl) (by kernel_rfl) (by kernel_rfl) (by kernel_rfl) (by kernel_rfl) (by kernel_rfl) (by kernel_rfl) ⟨1, rfl⟩ ?_; simp only [List.take_succ_cons, List.take_zero, List.drop_succ_cons, List.drop_zero]; (repeat (go_big_quiet_step (fail))); refine wpQuiet_nil ?_; rintro W ⟨nq, rfl⟩)
                  go_wp2_with fail
                  have ho9 : OwI ((w6.drewN nq).setCell ⟨g3, o3 + ((i * N + j) * N + t), none⟩ (.int .i64 y3)) w2.heap.size w3.heap.size (some ⟨g3, o3, none⟩) n3 (d.set ((i * N + j) * N + t) y3) := (ho7.drewN nq).store (v := y3) s6
                  obtain ⟨w7, hw7⟩ : ∃ x, x = (w6.drewN nq).setCell ⟨g3, o3 + ((i * N + j) * N + t), none⟩ (.int .i64 y3) := ⟨_, rfl⟩
                  have hy7 : Box w7 w3.heap.size #[.int .i64 x0, .int .i64 N, .slice (some ⟨g3, o3, none⟩) n3 k3] := by rw [hw7]; exact (hy6.drewN nq).other (by exact q1) _
                  have hz7 : Box w7 w.heap.size #[.int .i64 0, .int .i64 0, .slice none 0 0] := by rw [hw7]; exact (hz6.drewN nq).other (by exact q2) _
                  have hq7 : Below w.heap.size w w7 := by rw [hw7]; exact (below_drewN hq6 _).setCell (by exact q3) _
                  have hr7 : RdS w7 w1.heap.size (some ⟨g, 0, none⟩) n (b0 :: br) := by rw [hw7]; exact RdS.setCell (w := w6.drewN nq) (by exact hr6) (by exact q4) _
                  have ho10 : OwI w7 wr.heap.size w5.heap.size (some ⟨g5, o5, none⟩) 4 [(i : Int), (j : Int), (t : Int), y3] := by rw [hw7]; exact OwI.setLow (w := w6.drewN nq) (by exact ho8) (by exact q5) _
                  have hs7 : w7.heap.size = w5.heap.size := by rw [hw7, World.size_setCell]; exact hs6
                  rw [← hw7] at ho9 ⊢
                  clear hw7 d0 d1 d2 d3 a0 a1 a2 f1 f2 hz6 hy6 hq6 hr6 ho7 ho8
                  have d0 : w7.cell? ⟨g5, o5, none⟩ = some (.int .i64 (i : Int)) := by have := ho10.rd.at_ (j := 0) (by decide); simpa [gI] using this
                  have d1 : w7.cell? ⟨g5, o5 + 1, none⟩ = some (.int .i64 (j : Int)) := by have := ho10.rd.at_ (j := 1) (by decide); simpa [gI] using this
                  have d2 : w7.cell? ⟨g5, o5 + 2, none⟩ = some (.int .i64 (t : Int)) := by have := ho10.rd.at_ (j := 2) (by decide); simpa [gI] using this
                  have d3 : w7.cell? ⟨g5, o5 + 3, none⟩ = some (.int .i64 y3) := by have := ho10.rd.at_ (j := 3) (by decide); simpa [gI] using this
                  obtain ⟨a0, a1, a2⟩ := hy7.three
                  obtain ⟨f1, f2⟩ := ho9.at_ t6
                  go_wp2_with fail
                  (refine wp_region_quiet_last (C := fun w' => ∃ nn, w' = w7.drewN nn) 24 (by kernel_rfl) (by kernel_rfl) (by kernel_rfl) (by kernel_rfl) (by kernel_rfl) (by kernel_rfl) (by kernel_rfl) (by kernel_rfl) ⟨1, rfl⟩ ?_; simp only [List.take_succ_cons, List.take_zero, List.drop_succ_cons, List.drop_zero]; (repeat (go_big_quiet_step (fail))); refine wpQuiet_nil ?_; rintro W ⟨nq, rfl⟩)
                  go_wp2
                  have ho11 : OwI ((w7.drewN nq).setCell ⟨g3, o3 + ((j * N + i) * N + t), none⟩ (.int .i64 (x0 - y3))) w2.heap.size w3.heap.size (some ⟨g3, o3, none⟩) n3 (putA x0 N d [(i : Int), (j : Int), (t : Int), y3]) := by rw [← HPA.out]; exact (ho9.drewN nq).store (v := x0 - y3) t6
                  obtain ⟨w8, hw8⟩ : ∃ x, x = (w7.drewN nq).setCell ⟨g3, o3 + ((j * N + i) * N + t), none⟩ (.int .i64 (x0 - y3)) := ⟨_, rfl⟩
                  have hy8 : Box w8 w3.heap.size #[.int .i64 x0, .int .i64 N, .slice (some ⟨g3, o3, none⟩) n3 k3] := by rw [hw8]; exact (hy7.drewN nq).other (by exact q1) _
                  have hz8 : Box w8 w.heap.size #[.int .i64 0, .int .i64 0, .slice none 0 0] := by rw [hw8]; exact (hz7.drewN nq).other (by exact q2) _
                  have hq8 : Below w.heap.size w w8 := by rw [hw8]; exact (below_drewN hq7 _).setCell (by exact q3) _
                  have hr8 : RdS w8 w1.heap.size (some ⟨g, 0, none⟩) n (b0 :: br) := by rw [hw8]; exact RdS.setCell (w := w7.drewN nq) (by exact hr7) (by exact q4) _
                  have hs8 : w3.heap.size < w8.heap.size := by rw [hw8, World.size_setCell]; exact hs7 ▸ q6
                  rw [← hw8] at ho11 ⊢
                  clear hw8 v1 v2 v3 v4 v5 v6 v7 v8 v9 u1 u2 u3 u4
                  go_roundw
                  case rel => exact ⟨m + 1, _, Nat.succ_le_succ (Nat.zero_le m), q7, by go_num, hs8, hq8, hz8, hy8, ho11, hr8, HR2⟩
                  case measure => simp [intOf]; omega
              · obtain rfl : m = n := by omega
                have HF := Lib.hid (show valS l = back l (some (x0, N, d)) by
                  have hh := HR.out
                  rw [List.drop_eq_nil_of_le (by rw [List.length_map, HSN.out]; exact Nat.le_refl _)] at hh
                  rw [HVB.out, ← hh]; rfl)
                obtain ⟨a0, a1, a2⟩ := hyr.three
                have hse : s.toList.isEmpty = false := by
                  rw [Lib.toList_data, HSL.out]
                  cases hl0 : l with
                  | nil => have h := HD.out; rw [hl0] at h; cases h
                  | cons x r => rfl
                rcases hok : okA x0 N d with _ | _
                · have HV := Lib.hid (show valS l = none by rw [HF.out]; exact back_no (fun h => by rw [hok] at h; cases h.1))
                  go_wp2_with fail
                  refine (sFal_no x0 N n3 k3 A3 d wr hor.rd hd3 (by omega) hok).mono ?_
                  rintro e w5 ⟨rfl, hb5⟩
                  have hz5 := hzr.below hb5 (by omega)
                  have hq5 := hqr.trans (hb5.mono (by omega))
                  clear hzr hyr hqr hrr hor hb5
                  obtain ⟨z0, z1, z2⟩ := hz5.three
                  have zf := hz5.fz
                  have zlt := hz5.lt
                  go_wp2
                  exact bodyPost_ret (v := .tuple #[.agg #[.int .i64 0, .int .i64 0, .slice none 0 0], .bool false]) (by simp [results, Tryz.results4, go_sem, z0, z1, z2]) rfl (ParR.no HV.out ((by repeat' (first | (with_reducible exact Below.refl _ _) | (with_reducible refine Below.setCell ?_ (by first | exact Nat.le_refl _ | omega | (simp only [World.size_alloc, World.size_setCell, World.heap_drewN]; omega) | (simp; omega)) _) | (with_reducible refine Below.alloc ?_ (by first | exact Nat.le_refl _ | omega | (simp only [World.size_alloc, World.size_setCell, World.heap_drewN]; omega) | (simp; omega)) _) | (with_reducible refine below_drewN ?_ _) | (with_reducible refine Below.drew ?_) | (with_reducible refine Below.trans ?_ (hq5.mono (by first | exact Nat.le_refl _ | omega | (simp only [World.size_alloc, World.size_setCell, World.heap_drewN]; omega) | (simp; omega))))))))
                · go_wp2_with fail
                  refine (sFal_ok x0 N n3 k3 A3 d wr hor.rd hd3 (by omega) hok).mono ?_
                  rintro e w5 ⟨rfl, hb5⟩
                  have hz5 := hzr.below hb5 (by omega)
                  have hy5 := hyr.below hb5 (by omega)
                  have hq5 := hqr.trans (hb5.mono (by omega))
                  have ho5 := hor.below hb5 (by omega)
                  have hs5 := hb5.size
                  clear hzr hyr hqr hrr hor hb5 a0 a1 a2
                  obtain ⟨a0, a1, a2⟩ := hy5.three
                  obtain ⟨tt, htt⟩ : ∃ tt, tt = (⟨(fmtA x0 N d).toArray⟩ : ByteArray) := ⟨_, rfl⟩
                  rw [← htt]
                  have hcmp : (tt.toList == s.toList) = (fmtA x0 N d == l) := by rw [Lib.toList_data, Lib.toList_data, HSL.out, htt]
                  clear htt
                  by_cases hf : fmtA x0 N d = l
                  case neg =>
                    have HV := Lib.hid (show valS l = none by rw [HF.out]; exact back_no (fun h => hf h.2))
                    have hE1 : (tt.toList == s.toList) = false := by rw [hcmp, beq_eq_false_iff_ne]; exact hf
                    have hE2 : (tt.toList != s.toList) = true := by simp only [bne, hE1, Bool.not_false]
                    clear hcmp hf
                    obtain ⟨z0, z1, z2⟩ := hz5.three
                    have zf := hz5.fz
                    have zlt := hz5.lt
                    go_wp2
                    exact bodyPost_ret (v := .tuple #[.agg #[.int .i64 0, .int .i64 0, .slice none 0 0], .bool false]) (by simp [results, Tryz.results4, go_sem, z0, z1, z2]) rfl (ParR.no HV.out ((by repeat' (first | (with_reducible exact Below.refl _ _) | (with_reducible refine Below.setCell ?_ (by first | exact Nat.le_refl _ | omega | (simp only [World.size_alloc, World.size_setCell, World.heap_drewN]; omega) | (simp; omega)) _) | (with_reducible refine Below.alloc ?_ (by first | exact Nat.le_refl _ | omega | (simp only [World.size_alloc, World.size_setCell, World.heap_drewN]; omega) | (simp; omega)) _) | (with_reducible refine below_drewN ?_ _) | (with_reducible refine Below.drew ?_) | (with_reducible refine Below.trans ?_ (hq5.mono (by first | exact Nat.le_refl _ | omega | (simp only [World.size_alloc, World.size_setCell, World.heap_drewN]; omega) | (simp; omega))))))))
                  have HV := Lib.hid (show valS l = some (x0, N, d) by rw [HF.out]; exact back_yes ⟨hok, hf⟩)
                  have hE1 : (tt.toList == s.toList) = true := by rw [hcmp, hf]; simp
                  have hE2 : (tt.toList != s.toList) = false := by simp only [bne, hE1, Bool.not_true]
                  clear hcmp hf
                  obtain ⟨z0, z1, z2⟩ := hz5.three
                  have zf := hz5.fz
                  have zlt := hz5.lt
                  go_wp2
                  refine bodyPost_ret (v := .tuple #[.agg #[.int .i64 x0, .int .i64 N, .slice A3 n3 k3], .bool true]) (by simp [results, Tryz.results4, go_sem, z0, z1, z2]) rfl (ParR.yes HV.out hd3 ((by repeat' (first | (with_reducible exact Below.refl _ _) | (with_reducible refine Below.setCell ?_ (by first | exact Nat.le_refl _ | omega | (simp only [World.size_alloc, World.size_setCell, World.heap_drewN]; omega) | (simp; omega)) _) | (with_reducible refine Below.alloc ?_ (by first | exact Nat.le_refl _ | omega | (simp only [World.size_alloc, World.size_setCell, World.heap_drewN]; omega) | (simp; omega)) _) | (with_reducible refine below_drewN ?_ _) | (with_reducible refine Below.drew ?_) | (with_reducible refine Below.trans ?_ (hq5.mono (by first | exact Nat.le_refl _ | omega | (simp only [World.size_alloc, World.size_setCell, World.heap_drewN]; omega) | (simp; omega))))))) ?_)
                  simp only [World.size_setCell]
                  exact ((((ho5.setLow (by simp; omega) _).setLow (by simp; omega) _).setLow (by simp; omega) _).down (by omega)).up (by omega)
end Go.Proofs.YtnkcjekfjlbcdaaGreatDoor
