/- ParseAlgebra of the program, under the table of the powers of ten and the variables that the row lists. -/
import Derived.Test.YtnkcjekfjlbcdaaGreatDoorPaS
import Derived.Deep.DeepCutAuto
import Derived.Deep.RegionHeld3
namespace Go.Proofs.YtnkcjekfjlbcdaaGreatDoor
set_option linter.unusedVariables false
set_option linter.unusedSimpArgs false
set_option maxRecDepth 20000
open Go Go.RowKit Go.Sort
set_option maxHeartbeats 4000000
theorem valI_bad {l : List UInt8} {D : List (List UInt8)} (hD : (lnF l).1 = D) (h : rdA looB D = none) : valI l = none := by
  by_cases hl : l.length ≤ 60000
  · rw [valI_at hl hD, h]; rfl
  · exact valI_no (by omega)
theorem parW_bd : ∀ (D : List (List UInt8)) (xs : List Int), parW D = some xs → ∀ x ∈ xs, -999999999 ≤ x ∧ x ≤ 999999999
  | [], xs, h => by
    injection h with h; subst h; intro x hx; cases hx
  | w :: r, xs, h => by
    simp only [parW] at h
    cases hn : numW w with
    | none => rw [hn] at h; cases h
    | some n =>
      cases hr : parW r with
      | none => rw [hn, hr] at h; cases h
      | some ys =>
        rw [hn, hr] at h
        injection h with h; subst h
        intro x hx
        rcases List.mem_cons.1 hx with e | e
        · subst e
          by_cases hk : ∃ n, okN n w
          · obtain ⟨m, hm⟩ := hk
            rw [numW_some hm] at hn
            injection hn with hn; subst hn
            exact ⟨hm.1, hm.2.1⟩
          · rw [numW_none hk] at hn; cases hn
        · exact parW_bd r ys hr x e
theorem parL_bd {l : List UInt8} {xs : List Int} (h : parL l = some xs) : ∀ x ∈ xs, -999999999 ≤ x ∧ x ≤ 999999999 := by
  unfold parL at h
  split at h
  · injection h with h; subst h; intro x hx; cases hx
  · exact parW_bd _ _ h
set_option maxRecDepth 100000 in
set_option maxHeartbeats 60000000 in
theorem iPa_any (l : List UInt8) (s : ByteArray) (w : World) (hs : s.data.toList = l) (hl : l.length ≤ 1048576) (ht : Tabs w.heap.size w) (he : Errs w) :
    Calls Tryz.prog 5 #[.string s] w (ParR (valI l) w) := by
  have hls : s.size = l.length := by rw [← hs]; rfl
  have HSL := Lib.hid hs
  have hq0 : Below w.heap.size w (w.alloc (.cells #[.int .i64 0, .int .i64 0, .slice none 0 0] 24)) := (by repeat' (first | (with_reducible exact Below.refl _ _) | (with_reducible refine Below.setCell ?_ (by first | exact Nat.le_refl _ | omega | (simp only [World.size_alloc, World.size_setCell, World.heap_drewN]; omega) | (simp; omega)) _) | (with_reducible refine Below.alloc ?_ (by first | exact Nat.le_refl _ | omega | (simp only [World.size_alloc, World.size_setCell, World.heap_drewN]; omega) | (simp; omega)) _) | (with_reducible refine below_drewN ?_ _) | (with_reducible refine Below.drew ?_)))
  have hsp := split10_any l s (w.alloc (.cells #[.int .i64 0, .int .i64 0, .slice none 0 0] 24)) hs (by omega) (he.on hq0)
  have hwl0 := lnsB_lines s
  rw [hs] at hwl0
  have hbs := Box.new (w.alloc (.cells #[.int .i64 0, .int .i64 0, .slice none 0 0] 24)) ((lnsB s).map Value.string).toArray 9
  have hz1 := (Box.new w #[.int .i64 0, .int .i64 0, .slice none 0 0] 24).alloc (.cells ((lnsB s).map Value.string).toArray 9)
  have hq1 : Below w.heap.size w ((w.alloc (.cells #[.int .i64 0, .int .i64 0, .slice none 0 0] 24)).alloc (.cells ((lnsB s).map Value.string).toArray 9)) := (by repeat' (first | (with_reducible exact Below.refl _ _) | (with_reducible refine Below.setCell ?_ (by first | exact Nat.le_refl _ | omega | (simp only [World.size_alloc, World.size_setCell, World.heap_drewN]; omega) | (simp; omega)) _) | (with_reducible refine Below.alloc ?_ (by first | exact Nat.le_refl _ | omega | (simp only [World.size_alloc, World.size_setCell, World.heap_drewN]; omega) | (simp; omega)) _) | (with_reducible refine below_drewN ?_ _) | (with_reducible refine Below.drew ?_) | (with_reducible refine Below.trans ?_ (hq0.mono (by first | exact Nat.le_refl _ | omega | (simp only [World.size_alloc, World.size_setCell, World.heap_drewN]; omega) | (simp; omega))))))
  have hs1 : ((w.alloc (.cells #[.int .i64 0, .int .i64 0, .slice none 0 0] 24)).alloc (.cells ((lnsB s).map Value.string).toArray 9)).heap.size = w.heap.size + 2 := by simp
  rw [World.size_alloc] at hsp hbs
  generalize lnsB s = ws at hsp hwl0 hbs hz1 hq1 hs1
  obtain ⟨D, cur, a', hD, hla, _, hsh⟩ := lnF_tail _ l rfl
  have hDW : ws.map (·.data.toList) = D ++ [cur] := by rw [hwl0]; unfold splitL; rw [hD]
  have HD := Lib.hid (show (lnF l).1 = D by rw [hD])
  have hln : ∀ x ∈ D ++ [cur], x.length ≤ l.length := by
    intro x hx
    rcases List.mem_append.1 hx with h | h
    · exact hsh x h
    · obtain rfl : x = cur := by simpa using h
      have := congrArg List.length hla
      rw [List.length_append] at this; omega
  rw [← hDW] at hln
  have HLN := Lib.hid hln
  obtain ⟨b0, br, rfl⟩ : ∃ b0 br, ws = b0 :: br := by
    cases ws with
    | nil => have := congrArg List.length hDW; simp at this
    | cons x r => exact ⟨x, r, rfl⟩
  have hlen0 : b0.data.toList.length ≤ l.length := hln _ (by simp)
  obtain ⟨L, hL⟩ : ∃ L, (b0 :: br).length = L := ⟨_, rfl⟩
  have hLD : L = D.length + 1 := by have := congrArg List.length hDW; rw [List.length_map, hL, List.length_append] at this; simpa using this
  have HBL := Lib.hid hL
  have HDW := Lib.hid hDW
  have hc0 := hbs.cell (i := 0) (v := .string b0) (by simp)
  rw [hL] at hsp
  have hL0 : (0 : Int) < (L : Int) := by omega
  have HLD := Lib.hid hLD
  generalize hW1 : (w.alloc (.cells #[.int .i64 0, .int .i64 0, .slice none 0 0] 24)).alloc (.cells ((b0 :: br).map Value.string).toArray 9) = w1 at hsp hbs hz1 hq1 hs1 hc0
  clear hs hwl0 hD hsh hDW hln hL hLD hla
  go_enter Tryz.func5, Tryz.ntmps5
  go_wp2_with fail
  refine hsp.mono ?_
  rintro e w1' ⟨rfl, hw1⟩
  subst hw1
  clear hsp hq0 hW1
  go_wp2_with fail
  refine (iPrs_any b0.data.toList b0 w1' rfl (by omega) (tabs_on2 ht hq1 (by omega)) (he.on hq1)).mono ?_
  rintro e w2 ⟨A2, n2, k2, ok, xs, rfl, hd2, hb2, ho2, hp2, hx2, hn2⟩
  have hs2 := hb2.size
  have hz2 := hz1.below hb2 (by omega)
  have hbs2 := hbs.below hb2 (by omega)
  have hq2 := hq1.trans (hb2.mono (by omega))
  clear hc0 hz1 hbs hx2 hb2 hq1
  rcases D with _ | ⟨h0, r⟩
  · have hdl : decide ((L : Int) < 2) = true := by have hLD := HLD.out; simp at hLD; simp; omega
    have HV := Lib.hid (valI_bad HD.out rfl)
    cases ok with
    | false =>
      clear hp2
      obtain ⟨z0, z1, z2⟩ := hz2.three
      have zf := hz2.fz
      have zlt := hz2.lt
      go_wp2
      exact bodyPost_ret (v := .tuple #[.agg #[.int .i64 0, .int .i64 0, .slice none 0 0], .bool false]) (by simp [results, Tryz.results5, go_sem, z0, z1, z2]) rfl (ParR.no HV.out ((by repeat' (first | (with_reducible exact Below.refl _ _) | (with_reducible refine Below.setCell ?_ (by first | exact Nat.le_refl _ | omega | (simp only [World.size_alloc, World.size_setCell, World.heap_drewN]; omega) | (simp; omega)) _) | (with_reducible refine Below.alloc ?_ (by first | exact Nat.le_refl _ | omega | (simp only [World.size_alloc, World.size_setCell, World.heap_drewN]; omega) | (simp; omega)) _) | (with_reducible refine below_drewN ?_ _) | (with_reducible refine Below.drew ?_) | (with_reducible refine Below.trans ?_ (hq2.mono (by first | exact Nat.le_refl _ | omega | (simp only [World.size_alloc, World.size_setCell, World.heap_drewN]; omega) | (simp; omega))))))))
    | true =>
      clear hp2
      obtain ⟨z0, z1, z2⟩ := hz2.three
      have zf := hz2.fz
      have zlt := hz2.lt
      go_wp2
      exact bodyPost_ret (v := .tuple #[.agg #[.int .i64 0, .int .i64 0, .slice none 0 0], .bool false]) (by simp [results, Tryz.results5, go_sem, z0, z1, z2]) rfl (ParR.no HV.out ((by repeat' (first | (with_reducible exact Below.refl _ _) | (with_reducible refine Below.setCell ?_ (by first | exact Nat.le_refl _ | omega | (simp only [World.size_alloc, World.size_setCell, World.heap_drewN]; omega) | (simp; omega)) _) | (with_reducible refine Below.alloc ?_ (by first | exact Nat.le_refl _ | omega | (simp only [World.size_alloc, World.size_setCell, World.heap_drewN]; omega) | (simp; omega)) _) | (with_reducible refine below_drewN ?_ _) | (with_reducible refine Below.drew ?_) | (with_reducible refine Below.trans ?_ (hq2.mono (by first | exact Nat.le_refl _ | omega | (simp only [World.size_alloc, World.size_setCell, World.heap_drewN]; omega) | (simp; omega))))))))
  · obtain ⟨nr, hnr⟩ : ∃ nr, r.length = nr := ⟨_, rfl⟩
    have hLn : L = nr + 2 := by rw [HLD.out, List.length_cons, hnr]
    clear HLD
    subst hLn
    have hdl : decide (((nr + 2 : Nat) : Int) < 2) = false := by simp; omega
    have hdl' : decide ((nr : Int) + 2 < 2) = false := by simp; omega
    have hb0 : b0.data.toList = h0 := by have := HDW.out; rw [List.map_cons, List.cons_append] at this; injection this
    have hbr : br.map (·.data.toList) = r ++ [cur] := by have := HDW.out; rw [List.map_cons, List.cons_append] at this; injection this
    have HBR := Lib.hid hbr
    have HNR := Lib.hid hnr
    have hnl : nr ≤ l.length := by
      obtain ⟨D', c', a'', e1, e2, e3, _⟩ := lnF_tail _ l rfl
      have e4 := HD.out
      rw [e1] at e4
      have e5 := congrArg List.length e4
      have e6 := congrArg List.length e2
      rw [List.length_append] at e6
      simp only [List.length_cons] at e5
      omega
    have HNA := Lib.hid (show (∀ ys, parL h0 = some ys → hdB ys = false) → valI l = none from fun h => valI_bad HD.out (rdA_no h))
    rw [hb0] at hp2
    clear hb0 hbr hnr
    cases ok with
    | false =>
      rw [if_neg (by decide)] at hp2
      have HV := Lib.hid (HNA.out (fun xs h => by rw [hp2] at h; cases h))
      clear hp2
      obtain ⟨z0, z1, z2⟩ := hz2.three
      have zf := hz2.fz
      have zlt := hz2.lt
      go_wp2
      exact bodyPost_ret (v := .tuple #[.agg #[.int .i64 0, .int .i64 0, .slice none 0 0], .bool false]) (by simp [results, Tryz.results5, go_sem, z0, z1, z2]) rfl (ParR.no HV.out ((by repeat' (first | (with_reducible exact Below.refl _ _) | (with_reducible refine Below.setCell ?_ (by first | exact Nat.le_refl _ | omega | (simp only [World.size_alloc, World.size_setCell, World.heap_drewN]; omega) | (simp; omega)) _) | (with_reducible refine Below.alloc ?_ (by first | exact Nat.le_refl _ | omega | (simp only [World.size_alloc, World.size_setCell, World.heap_drewN]; omega) | (simp; omega)) _) | (with_reducible refine below_drewN ?_ _) | (with_reducible refine Below.drew ?_) | (with_reducible refine Below.trans ?_ (hq2.mono (by first | exact Nat.le_refl _ | omega | (simp only [World.size_alloc, World.size_setCell, World.heap_drewN]; omega) | (simp; omega))))))))
    | true =>
      rw [if_pos rfl] at hp2
      have hxl := ho2.1
      have HNO := Lib.hid (show hdB xs = false → valI l = none from fun h => HNA.out (fun ys k => by rw [hp2] at k; injection k with k; rw [← k]; exact h))
      have HP2 := Lib.hid hp2
      clear hp2
      by_cases h22 : n2 = 2
      case neg =>
        have hne2 : ((n2 : Int) != 2) = true := by simp; omega
        have HV := Lib.hid (HNO.out (Bool.eq_false_iff.2 fun k => h22 (by have := (hdB_iff.1 k).1; omega)))
        have HXL := Lib.hid hxl
        clear hxl
        obtain ⟨z0, z1, z2⟩ := hz2.three
        have zf := hz2.fz
        have zlt := hz2.lt
        go_wp2
        exact bodyPost_ret (v := .tuple #[.agg #[.int .i64 0, .int .i64 0, .slice none 0 0], .bool false]) (by simp [results, Tryz.results5, go_sem, z0, z1, z2]) rfl (ParR.no HV.out ((by repeat' (first | (with_reducible exact Below.refl _ _) | (with_reducible refine Below.setCell ?_ (by first | exact Nat.le_refl _ | omega | (simp only [World.size_alloc, World.size_setCell, World.heap_drewN]; omega) | (simp; omega)) _) | (with_reducible refine Below.alloc ?_ (by first | exact Nat.le_refl _ | omega | (simp only [World.size_alloc, World.size_setCell, World.heap_drewN]; omega) | (simp; omega)) _) | (with_reducible refine below_drewN ?_ _) | (with_reducible refine Below.drew ?_) | (with_reducible refine Below.trans ?_ (hq2.mono (by first | exact Nat.le_refl _ | omega | (simp only [World.size_alloc, World.size_setCell, World.heap_drewN]; omega) | (simp; omega))))))))
      subst h22
      obtain ⟨x0, x1, rfl⟩ : ∃ x0 x1, xs = [x0, x1] := by
        match xs, hxl with
        | [a, b], _ => exact ⟨a, b, rfl⟩
      obtain ⟨g2, o2, rfl⟩ := ho2.addr (by omega)
      have c0 : w2.cell? ⟨g2, o2, none⟩ = some (.int .i64 x0) := by have := ho2.rd.at_ (j := 0) (by omega); simpa [gI] using this
      have c1 : w2.cell? ⟨g2, o2 + 1, none⟩ = some (.int .i64 x1) := by have := ho2.rd.at_ (j := 1) (by omega); simpa [gI] using this
      have hg2l : g2 < w2.heap.size := (ho2.blk (by omega)).2
      clear hxl ho2
      by_cases hin : 0 ≤ x1 ∧ x1 ≤ 28
      case neg =>
        have HV := Lib.hid (HNO.out (Bool.eq_false_iff.2 fun k => hin (hdB_iff.1 k).2.1))
        have hC : ∀ w : World, Calls Tryz.prog 17 #[.int .i64 x1, .int .i64 0, .int .i64 28] w fun e w' => e = .returned (.bool false) ∧ w = w' := fun w => by
          have h := inside_any x1 0 28 w
          rwa [show (decide (0 ≤ x1) && decide (x1 ≤ 28)) = false by simp; omega] at h
        obtain ⟨z0, z1, z2⟩ := hz2.three
        have zf := hz2.fz
        have zlt := hz2.lt
        go_wp2_with (first | (go_at_call 17; refine (hC _).mono ?_; rintro e w' ⟨rfl, rfl⟩))
        exact bodyPost_ret (v := .tuple #[.agg #[.int .i64 0, .int .i64 0, .slice none 0 0], .bool false]) (by simp [results, Tryz.results5, go_sem, z0, z1, z2]) rfl (ParR.no HV.out ((by repeat' (first | (with_reducible exact Below.refl _ _) | (with_reducible refine Below.setCell ?_ (by first | exact Nat.le_refl _ | omega | (simp only [World.size_alloc, World.size_setCell, World.heap_drewN]; omega) | (simp; omega)) _) | (with_reducible refine Below.alloc ?_ (by first | exact Nat.le_refl _ | omega | (simp only [World.size_alloc, World.size_setCell, World.heap_drewN]; omega) | (simp; omega)) _) | (with_reducible refine below_drewN ?_ _) | (with_reducible refine Below.drew ?_) | (with_reducible refine Below.trans ?_ (hq2.mono (by first | exact Nat.le_refl _ | omega | (simp only [World.size_alloc, World.size_setCell, World.heap_drewN]; omega) | (simp; omega))))))))
      have hC : ∀ w : World, Calls Tryz.prog 17 #[.int .i64 x1, .int .i64 0, .int .i64 28] w fun e w' => e = .returned (.bool true) ∧ w = w' := fun w => by
        have h := inside_any x1 0 28 w
        rwa [show (decide (0 ≤ x1) && decide (x1 ≤ 28)) = true by simp; omega] at h
      rcases hpr : isP x0 with _ | _
      · have HV := Lib.hid (HNO.out (Bool.eq_false_iff.2 fun k => by have := (hdB_iff.1 k).2.2; rw [show gI [x0, x1] 0 = x0 from rfl, hpr] at this; cases this))
        have hCP : ∀ w : World, Calls Tryz.prog 18 #[.int .i64 x0] w fun e w' => e = .returned (.bool false) ∧ w = w' := fun w => by
          have h := ip_any x0 w
          rwa [hpr] at h
        clear hin
        obtain ⟨z0, z1, z2⟩ := hz2.three
        have zf := hz2.fz
        have zlt := hz2.lt
        go_wp2_with (first | (go_at_call 17; refine (hC _).mono ?_; rintro e w' ⟨rfl, rfl⟩) | (go_at_call 18; refine (hCP _).mono ?_; rintro e w' ⟨rfl, rfl⟩))
        exact bodyPost_ret (v := .tuple #[.agg #[.int .i64 0, .int .i64 0, .slice none 0 0], .bool false]) (by simp [results, Tryz.results5, go_sem, z0, z1, z2]) rfl (ParR.no HV.out ((by repeat' (first | (with_reducible exact Below.refl _ _) | (with_reducible refine Below.setCell ?_ (by first | exact Nat.le_refl _ | omega | (simp only [World.size_alloc, World.size_setCell, World.heap_drewN]; omega) | (simp; omega)) _) | (with_reducible refine Below.alloc ?_ (by first | exact Nat.le_refl _ | omega | (simp only [World.size_alloc, World.size_setCell, World.heap_drewN]; omega) | (simp; omega)) _) | (with_reducible refine below_drewN ?_ _) | (with_reducible refine Below.drew ?_) | (with_reducible refine Below.trans ?_ (hq2.mono (by first | exact Nat.le_refl _ | omega | (simp only [World.size_alloc, World.size_setCell, World.heap_drewN]; omega) | (simp; omega))))))))
      · have hCP : ∀ w : World, Calls Tryz.prog 18 #[.int .i64 x0] w fun e w' => e = .returned (.bool true) ∧ w = w' := fun w => by
          have h := ip_any x0 w
          rwa [hpr] at h
        obtain ⟨hpa, hpb⟩ := isP_bd hpr
        obtain ⟨N, rfl⟩ := Int.eq_ofNat_of_zero_le hin.1
        have hN : N ≤ 28 := by omega
        by_cases hbig : 60000 < l.length
        · have hdb : decide ((60000 : Int) < (l.length : Int)) = true := by simp; omega
          have HV := Lib.hid (valI_no hbig)
          clear hin
          obtain ⟨z0, z1, z2⟩ := hz2.three
          have zf := hz2.fz
          have zlt := hz2.lt
          go_wp2_with (first | (go_at_call 17; refine (hC _).mono ?_; rintro e w' ⟨rfl, rfl⟩) | (go_at_call 18; refine (hCP _).mono ?_; rintro e w' ⟨rfl, rfl⟩))
          exact bodyPost_ret (v := .tuple #[.agg #[.int .i64 0, .int .i64 0, .slice none 0 0], .bool false]) (by simp [results, Tryz.results5, go_sem, z0, z1, z2]) rfl (ParR.no HV.out ((by repeat' (first | (with_reducible exact Below.refl _ _) | (with_reducible refine Below.setCell ?_ (by first | exact Nat.le_refl _ | omega | (simp only [World.size_alloc, World.size_setCell, World.heap_drewN]; omega) | (simp; omega)) _) | (with_reducible refine Below.alloc ?_ (by first | exact Nat.le_refl _ | omega | (simp only [World.size_alloc, World.size_setCell, World.heap_drewN]; omega) | (simp; omega)) _) | (with_reducible refine below_drewN ?_ _) | (with_reducible refine Below.drew ?_) | (with_reducible refine Below.trans ?_ (hq2.mono (by first | exact Nat.le_refl _ | omega | (simp only [World.size_alloc, World.size_setCell, World.heap_drewN]; omega) | (simp; omega))))))))
        have hdb : decide ((60000 : Int) < (l.length : Int)) = false := by simp; omega
        have HVB := Lib.hid (show valI l = back l ((rdL (looB x0 N) x0 N r (List.replicate (N * N * N) 0)).map fun d => (x0, N, d)) by rw [valI_at (by omega) HD.out, rdA_at HP2.out hpr hN])
        have htn : ((N : Int) * N * N).toNat = N * N * N := by rw [← Int.natCast_mul, ← Int.natCast_mul]; rfl
        have HAB := Lib.hid (show ∀ w, Calls Tryz.prog 19 #[.int .i64 x0, .int .i64 N] w (RetA x0 N (List.replicate (N * N * N) 0) w) from fun w => by have h := iAb_ok x0 N w ⟨hpr, by omega, by omega⟩; rwa [htn] at h)
        have KEEP := Lib.hid (show ∀ wx : World, Below w2.heap.size w2 wx → (wx.cell? ⟨g2, o2, none⟩ = some (.int .i64 x0) ∧ wx.cell? ⟨g2, o2 + 1, none⟩ = some (.int .i64 N)) from fun wx hb => ⟨(hb.cell (p := ⟨g2, o2, none⟩) hg2l).trans c0, (hb.cell (p := ⟨g2, o2 + 1, none⟩) hg2l).trans c1⟩)
        clear hin htn HNO HNA
        go_upto_region 5 with (first | (go_at_call 17; refine (hC _).mono ?_; rintro e w' ⟨rfl, rfl⟩) | (go_at_call 18; refine (hCP _).mono ?_; rintro e w' ⟨rfl, rfl⟩))
        clear hC hCP
        go_cut [7] (fun s7 wx => CutA w2 x0 N (List.replicate (N * N * N) 0) s7 wx)
        case first =>
          have hcur : Below w2.heap.size w2 w2 := Below.refl _ _
          go_region_held3 (fun wx => wx.cell? ⟨g2, o2, none⟩ = some (.int .i64 x0) ∧ wx.cell? ⟨g2, o2 + 1, none⟩ = some (.int .i64 N)) (first | with_reducible exact KEEP.out _ hcur | with_reducible exact KEEP.out _ (Below.drew hcur) | with_reducible exact KEEP.out _ (Below.alo hcur) | with_reducible exact KEEP.out _ (Below.drew (Below.alo hcur)) | with_reducible exact KEEP.out _ (by repeat' (first | exact hcur | exact Below.alo hcur | (refine Below.setCell ?_ hgb _))) | exact KEEP.out _ hcur | exact KEEP.out _ (Below.alo hcur)) ((go_at_call 19; refine (HAB.out _).mono ?_; rintro e wr ⟨Aw0r, nw0r, kw0r, rfl, hdAw0r, hbr, hq⟩; (try have hg2 := hbx.lt); have hlo := hcur.size; (try with_reducible replace hbx := hbx.step hbr); (first | ((with_reducible have hbx := Box.newA hbr); have hgb := hcur.size) | ((with_reducible have hbx := Box.newAD hbr); have hgb := hcur.size) | skip); (first | with_reducible replace hcur := Below.step hcur hbr | with_reducible replace hcur := Below.stepD hcur hbr | with_reducible replace hcur := Below.stepA hcur hbr | with_reducible replace hcur := Below.stepAD hcur hbr); (try obtain ⟨gc0, gc1, gc2⟩ := hbx.three); (try have gcf := hbx.fz); clear hbr))
          all_goals
            go_wp2_with fail
            go_meet
            first | exact CutA.a hcur hq hdAw0r (by first | exact hlo | exact Nat.le_trans hlo (by simp)) _ | exact CutA.b hcur hbx hq hdAw0r (by first | exact hlo | exact Nat.le_trans hlo (by simp)) hgb (by first | exact hg2 | simp)
        case rest =>
          obtain ⟨w3, hww⟩ : ∃ x, x = wc := ⟨_, rfl⟩
          subst hww
          obtain ⟨gb, A3, n3, k3, lo, hi, rfl, hd3, hy3, ho3, hgl, hlo, hhi, hgb, hgb2, hb3⟩ := hcut
          have hs3 := hb3.size
          have HN3 := Lib.hid (show n3 = N * N * N by rw [← ho3.1, List.length_replicate])
          have hz3 := hz2.below hb3 (by omega)
          have hbs3 := hbs2.below hb3 (by omega)
          have hq3 := hq2.trans (hb3.mono (by omega))
          clear hz2 hbs2 hq2 hb3 c0 c1
          go_wp2_with fail
          rw [show nr + 2 - 1 - 1 = nr from rfl]
          go_loopw [66] (fun i wr => ∃ (m : Nat) (d : List Int), m ≤ nr ∧ i = .int .i64 m ∧ w3.heap.size ≤ wr.heap.size ∧ Below w.heap.size w wr ∧ Box wr w.heap.size #[.int .i64 0, .int .i64 0, .slice none 0 0] ∧ Box wr gb #[.int .i64 x0, .int .i64 N, .slice A3 n3 k3] ∧ OwI wr lo hi A3 n3 d ∧ Box wr (w.heap.size + 1) ((b0 :: br).map Value.string).toArray ∧ Hid (rdL (looB x0 N) x0 N (r.drop m) d = rdL (looB x0 N) x0 N r (List.replicate (N * N * N) 0))) (fun i _ => nr - (intOf i).toNat)
          case atStart => exact ⟨0, _, by omega, rfl, Nat.le_refl _, hq3, hz3, hy3, ho3, hbs3, Lib.hid rfl⟩
          case round =>
            clear hq3 hz3 hy3 ho3 hbs3
            obtain ⟨m, d, hmn, rfl, hsr, hqr, hzr, hyr, hor, hrr, HR⟩ := hrel
            by_cases hlt : m < nr
            · obtain ⟨x, hx⟩ : ∃ x, br[m]? = some x := ⟨_, List.getElem?_eq_getElem (by have := congrArg List.length HBR.out; rw [List.length_map, List.length_append, HNR.out] at this; simp at this; omega)⟩
              have hcm := hrr.cell (i := 1 + m) (v := .string x) (by rw [Nat.add_comm]; simp [hx])
              have hrm : r[m]? = some x.data.toList := by
                have h1 : (br.map (·.data.toList))[m]? = some x.data.toList := by rw [List.getElem?_map, hx]; rfl
                rw [HBR.out, List.getElem?_append_left (by rw [HNR.out]; exact hlt)] at h1
                exact h1
              have hxm : x.data.toList ∈ (b0 :: br).map (·.data.toList) := List.mem_map.2 ⟨x, List.mem_cons_of_mem _ (List.mem_of_getElem? hx), rfl⟩
              have hlenx : x.data.toList.length ≤ 60000 := by have := HLN.out _ hxm; omega
              have HDR := Lib.hid (show r.drop m = x.data.toList :: r.drop (m + 1) by
                rw [List.drop_eq_getElem?_toList_append, hrm]; rfl)
              clear hx hxm hrm
              go_wp2_with fail
              refine (iPrs_any x.data.toList x wr rfl (by omega) (tabs_on2 ht hqr (by omega)) (he.on hqr)).mono ?_
              rintro e w5 ⟨A5, n5, k5, ok5, ys, rfl, hd5, hb5, ho5, hp5, hx5, hn5⟩
              have hs5 := hb5.size
              have hz5 := hzr.below hb5 (by omega)
              have hy5 := hyr.below hb5 (by omega)
              have hq5 := hqr.trans (hb5.mono (by omega))
              have ho6 := hor.below hb5 (by omega)
              have hr5 := hrr.below hb5 (by omega)
              clear hcm hzr hyr hor hrr hqr hb5 hx5
              have HNO := Lib.hid (show (∀ ys, parL x.data.toList = some ys → looB x0 N ys = false) → valI l = none from fun h => by
                have hh := HR.out
                rw [HDR.out, rdL_no h] at hh
                rw [HVB.out, ← hh]; rfl)
              have HL5 := Lib.hid ho5.1
              obtain ⟨a0, a1, a2⟩ := hy5.three
              cases ok5 with
              | false =>
                rw [if_neg (by decide)] at hp5
                have HV := Lib.hid (HNO.out (fun ys h => by rw [hp5] at h; cases h))
                clear hp5
                go_wp2_with fail
                go_quiet (fail)
                obtain ⟨z0, z1, z2⟩ := hz5.three
                have zf := hz5.fz
                have zlt := hz5.lt
                go_wp2
                exact bodyPost_ret (v := .tuple #[.agg #[.int .i64 0, .int .i64 0, .slice none 0 0], .bool false]) (by simp [results, Tryz.results5, go_sem, z0, z1, z2]) rfl (ParR.no HV.out ((by repeat' (first | (with_reducible exact Below.refl _ _) | (with_reducible refine Below.setCell ?_ (by first | exact Nat.le_refl _ | omega | (simp only [World.size_alloc, World.size_setCell, World.heap_drewN]; omega) | (simp; omega)) _) | (with_reducible refine Below.alloc ?_ (by first | exact Nat.le_refl _ | omega | (simp only [World.size_alloc, World.size_setCell, World.heap_drewN]; omega) | (simp; omega)) _) | (with_reducible refine below_drewN ?_ _) | (with_reducible refine Below.drew ?_) | (with_reducible refine Below.trans ?_ (hq5.mono (by first | exact Nat.le_refl _ | omega | (simp only [World.size_alloc, World.size_setCell, World.heap_drewN]; omega) | (simp; omega))))))))
              | true =>
                rw [if_pos rfl] at hp5
                have HNO2 := Lib.hid (show looB x0 N ys = false → valI l = none from fun h => HNO.out fun zs k => by rw [hp5] at k; injection k with k; rw [← k]; exact h)
                have HP5 := Lib.hid hp5
                have HBD := Lib.hid (parL_bd hp5)
                clear hp5
                by_cases h54 : n5 = 4
                case neg =>
                  have hne5 : ((n5 : Int) != 4) = true := by simp; omega
                  have HV := Lib.hid (HNO2.out (Bool.eq_false_iff.2 fun k => h54 (by have := (looB_iff.1 k).1; rw [← HL5.out]; exact this)))
                  go_wp2_with fail
                  go_quiet (fail)
                  obtain ⟨z0, z1, z2⟩ := hz5.three
                  have zf := hz5.fz
                  have zlt := hz5.lt
                  go_wp2
                  exact bodyPost_ret (v := .tuple #[.agg #[.int .i64 0, .int .i64 0, .slice none 0 0], .bool false]) (by simp [results, Tryz.results5, go_sem, z0, z1, z2]) rfl (ParR.no HV.out ((by repeat' (first | (with_reducible exact Below.refl _ _) | (with_reducible refine Below.setCell ?_ (by first | exact Nat.le_refl _ | omega | (simp only [World.size_alloc, World.size_setCell, World.heap_drewN]; omega) | (simp; omega)) _) | (with_reducible refine Below.alloc ?_ (by first | exact Nat.le_refl _ | omega | (simp only [World.size_alloc, World.size_setCell, World.heap_drewN]; omega) | (simp; omega)) _) | (with_reducible refine below_drewN ?_ _) | (with_reducible refine Below.drew ?_) | (with_reducible refine Below.trans ?_ (hq5.mono (by first | exact Nat.le_refl _ | omega | (simp only [World.size_alloc, World.size_setCell, World.heap_drewN]; omega) | (simp; omega))))))))
                subst h54
                obtain ⟨y0, y1, y2, y3, rfl⟩ : ∃ y0 y1 y2 y3, ys = [y0, y1, y2, y3] := by
                  match ys, HL5.out with
                  | [a, b, c, d], _ => exact ⟨a, b, c, d, rfl⟩
                obtain ⟨g5, o5, rfl⟩ := ho5.addr (by omega)
                have c0 : w5.cell? ⟨g5, o5, none⟩ = some (.int .i64 y0) := by have := ho5.rd.at_ (j := 0) (by omega); simpa [gI] using this
                have c1 : w5.cell? ⟨g5, o5 + 1, none⟩ = some (.int .i64 y1) := by have := ho5.rd.at_ (j := 1) (by omega); simpa [gI] using this
                have c2 : w5.cell? ⟨g5, o5 + 2, none⟩ = some (.int .i64 y2) := by have := ho5.rd.at_ (j := 2) (by omega); simpa [gI] using this
                have c3 : w5.cell? ⟨g5, o5 + 3, none⟩ = some (.int .i64 y3) := by have := ho5.rd.at_ (j := 3) (by omega); simpa [gI] using this
                have hwN : IntKind.i64.wrap ((N : Int) - 1) = (N : Int) - 1 := IntWalk.i64_in _ (by omega)
                have hST : looB x0 N [y0, y1, y2, y3] = true ↔ 4 = 4 ∧ (0 ≤ y0 ∧ y0 ≤ (N : Int) - 1) ∧ (0 ≤ y1 ∧ y1 ≤ (N : Int) - 1) ∧ (0 ≤ y2 ∧ y2 ≤ (N : Int) - 1) := looB_iff
                clear HNO
                by_cases h0 : 0 ≤ y0 ∧ y0 ≤ (↑N - 1)
                case neg =>
                  have HV := Lib.hid (HNO2.out (Bool.eq_false_iff.2 fun k => h0 (hST.1 k).2.1))
                  have hI0 : ∀ w : World, Calls Tryz.prog 17 #[.int .i64 y0, .int .i64 0, .int .i64 (↑N - 1)] w fun e w' => e = .returned (.bool false) ∧ w = w' := fun w => by
                    have h := inside_any y0 0 (↑N - 1) w
                    rwa [show (decide (0 ≤ y0) && decide (y0 ≤ (↑N - 1))) = false by simp; omega] at h
                  clear hST
                  go_wp2_with fail
                  go_quiet ((first | (go_at_call_of 17 (Value.int .i64 y0); exact Calls.quiet_of_same ((hI0 _).mono fun e w' h => ⟨h.1, h.2.symm⟩))))
                  obtain ⟨z0, z1, z2⟩ := hz5.three
                  have zf := hz5.fz
                  have zlt := hz5.lt
                  go_wp2
                  exact bodyPost_ret (v := .tuple #[.agg #[.int .i64 0, .int .i64 0, .slice none 0 0], .bool false]) (by simp [results, Tryz.results5, go_sem, z0, z1, z2]) rfl (ParR.no HV.out ((by repeat' (first | (with_reducible exact Below.refl _ _) | (with_reducible refine Below.setCell ?_ (by first | exact Nat.le_refl _ | omega | (simp only [World.size_alloc, World.size_setCell, World.heap_drewN]; omega) | (simp; omega)) _) | (with_reducible refine Below.alloc ?_ (by first | exact Nat.le_refl _ | omega | (simp only [World.size_alloc, World.size_setCell, World.heap_drewN]; omega) | (simp; omega)) _) | (with_reducible refine below_drewN ?_ _) | (with_reducible refine Below.drew ?_) | (with_reducible refine Below.trans ?_ (hq5.mono (by first | exact Nat.le_refl _ | omega | (simp only [World.size_alloc, World.size_setCell, World.heap_drewN]; omega) | (simp; omega))))))))
                have hI0 : ∀ w : World, Calls Tryz.prog 17 #[.int .i64 y0, .int .i64 0, .int .i64 (↑N - 1)] w fun e w' => e = .returned (.bool true) ∧ w = w' := fun w => by
                  have h := inside_any y0 0 (↑N - 1) w
                  rwa [show (decide (0 ≤ y0) && decide (y0 ≤ (↑N - 1))) = true by simp; omega] at h
                by_cases h1 : 0 ≤ y1 ∧ y1 ≤ (↑N - 1)
                case neg =>
                  have HV := Lib.hid (HNO2.out (Bool.eq_false_iff.2 fun k => h1 (hST.1 k).2.2.1))
                  have hI1 : ∀ w : World, Calls Tryz.prog 17 #[.int .i64 y1, .int .i64 0, .int .i64 (↑N - 1)] w fun e w' => e = .returned (.bool false) ∧ w = w' := fun w => by
                    have h := inside_any y1 0 (↑N - 1) w
                    rwa [show (decide (0 ≤ y1) && decide (y1 ≤ (↑N - 1))) = false by simp; omega] at h
                  clear hST
                  go_wp2_with fail
                  go_quiet ((first | (go_at_call_of 17 (Value.int .i64 y0); exact Calls.quiet_of_same ((hI0 _).mono fun e w' h => ⟨h.1, h.2.symm⟩)) | (go_at_call_of 17 (Value.int .i64 y1); exact Calls.quiet_of_same ((hI1 _).mono fun e w' h => ⟨h.1, h.2.symm⟩))))
                  obtain ⟨z0, z1, z2⟩ := hz5.three
                  have zf := hz5.fz
                  have zlt := hz5.lt
                  go_wp2
                  exact bodyPost_ret (v := .tuple #[.agg #[.int .i64 0, .int .i64 0, .slice none 0 0], .bool false]) (by simp [results, Tryz.results5, go_sem, z0, z1, z2]) rfl (ParR.no HV.out ((by repeat' (first | (with_reducible exact Below.refl _ _) | (with_reducible refine Below.setCell ?_ (by first | exact Nat.le_refl _ | omega | (simp only [World.size_alloc, World.size_setCell, World.heap_drewN]; omega) | (simp; omega)) _) | (with_reducible refine Below.alloc ?_ (by first | exact Nat.le_refl _ | omega | (simp only [World.size_alloc, World.size_setCell, World.heap_drewN]; omega) | (simp; omega)) _) | (with_reducible refine below_drewN ?_ _) | (with_reducible refine Below.drew ?_) | (with_reducible refine Below.trans ?_ (hq5.mono (by first | exact Nat.le_refl _ | omega | (simp only [World.size_alloc, World.size_setCell, World.heap_drewN]; omega) | (simp; omega))))))))
                have hI1 : ∀ w : World, Calls Tryz.prog 17 #[.int .i64 y1, .int .i64 0, .int .i64 (↑N - 1)] w fun e w' => e = .returned (.bool true) ∧ w = w' := fun w => by
                  have h := inside_any y1 0 (↑N - 1) w
                  rwa [show (decide (0 ≤ y1) && decide (y1 ≤ (↑N - 1))) = true by simp; omega] at h
                by_cases h2 : 0 ≤ y2 ∧ y2 ≤ (↑N - 1)
                case neg =>
                  have HV := Lib.hid (HNO2.out (Bool.eq_false_iff.2 fun k => h2 (hST.1 k).2.2.2))
                  have hI2 : ∀ w : World, Calls Tryz.prog 17 #[.int .i64 y2, .int .i64 0, .int .i64 (↑N - 1)] w fun e w' => e = .returned (.bool false) ∧ w = w' := fun w => by
                    have h := inside_any y2 0 (↑N - 1) w
                    rwa [show (decide (0 ≤ y2) && decide (y2 ≤ (↑N - 1))) = false by simp; omega] at h
                  clear hST
                  go_wp2_with fail
                  go_quiet ((first | (go_at_call_of 17 (Value.int .i64 y0); exact Calls.quiet_of_same ((hI0 _).mono fun e w' h => ⟨h.1, h.2.symm⟩)) | (go_at_call_of 17 (Value.int .i64 y1); exact Calls.quiet_of_same ((hI1 _).mono fun e w' h => ⟨h.1, h.2.symm⟩)) | (go_at_call_of 17 (Value.int .i64 y2); exact Calls.quiet_of_same ((hI2 _).mono fun e w' h => ⟨h.1, h.2.symm⟩))))
                  obtain ⟨z0, z1, z2⟩ := hz5.three
                  have zf := hz5.fz
                  have zlt := hz5.lt
                  go_wp2
                  exact bodyPost_ret (v := .tuple #[.agg #[.int .i64 0, .int .i64 0, .slice none 0 0], .bool false]) (by simp [results, Tryz.results5, go_sem, z0, z1, z2]) rfl (ParR.no HV.out ((by repeat' (first | (with_reducible exact Below.refl _ _) | (with_reducible refine Below.setCell ?_ (by first | exact Nat.le_refl _ | omega | (simp only [World.size_alloc, World.size_setCell, World.heap_drewN]; omega) | (simp; omega)) _) | (with_reducible refine Below.alloc ?_ (by first | exact Nat.le_refl _ | omega | (simp only [World.size_alloc, World.size_setCell, World.heap_drewN]; omega) | (simp; omega)) _) | (with_reducible refine below_drewN ?_ _) | (with_reducible refine Below.drew ?_) | (with_reducible refine Below.trans ?_ (hq5.mono (by first | exact Nat.le_refl _ | omega | (simp only [World.size_alloc, World.size_setCell, World.heap_drewN]; omega) | (simp; omega))))))))
                have hI2 : ∀ w : World, Calls Tryz.prog 17 #[.int .i64 y2, .int .i64 0, .int .i64 (↑N - 1)] w fun e w' => e = .returned (.bool true) ∧ w = w' := fun w => by
                  have h := inside_any y2 0 (↑N - 1) w
                  rwa [show (decide (0 ≤ y2) && decide (y2 ≤ (↑N - 1))) = true by simp; omega] at h
                obtain ⟨i, rfl⟩ := Int.eq_ofNat_of_zero_le h0.1
                obtain ⟨j, rfl⟩ := Int.eq_ofNat_of_zero_le h1.1
                obtain ⟨t, rfl⟩ := Int.eq_ofNat_of_zero_le h2.1
                have hi' : i < N := by omega
                have hj' : j < N := by omega
                have ht' : t < N := by omega
                have HSB := Lib.hid (hST.2 ⟨rfl, h0, h1, h2⟩)
                have hy3b := HBD.out y3 (by simp)
                obtain ⟨s1, s2, s3, s4, s5, s6⟩ := i3_bdP hi' hj' ht' hN
                obtain ⟨t1, t2, t3, t4, t5, t6⟩ := i3_bdP hj' hi' ht' hN
                rw [← HN3.out] at s6 t6
                obtain ⟨g3, o3, rfl⟩ := ho6.addr (by omega)
                have hbk := ho6.blk (by omega)
                have q1 : gb ≠ g3 := by omega
                have q2 : w.heap.size ≠ g3 := by omega
                have q3 : w.heap.size ≤ g3 := by omega
                have q4 : w.heap.size + 1 ≠ g3 := by omega
                have q5 : g3 < wr.heap.size := by omega
                have q6 : w3.heap.size ≤ w5.heap.size := by omega
                have q7 : m + 1 ≤ nr := by omega
                have q8 : hi ≤ w5.heap.size := by omega
                have q9 : gb < w5.heap.size := by omega
                have q10 : w.heap.size < w5.heap.size := by omega
                have q11 : w.heap.size + 1 < w5.heap.size := by omega
                have q12 : w.heap.size ≤ w5.heap.size := by omega
                have HR2 := Lib.hid (show rdL (looB x0 N) x0 N (r.drop (m + 1)) (putA x0 N d [(i : Int), (j : Int), (t : Int), y3]) = rdL (looB x0 N) x0 N r (List.replicate (N * N * N) 0) by rw [← HR.out, HDR.out, rdL_go HP5.out HSB.out])
                have hM1 : ∀ w : World, Calls Tryz.prog 20 #[.int .i64 y3, .int .i64 x0] w fun e w' => e = .returned (.int .i64 (y3 % x0)) ∧ w = w' := fun w => mod_any y3 x0 w (by omega) (by omega)
                have hM2 : ∀ w : World, Calls Tryz.prog 20 #[.int .i64 (-y3), .int .i64 x0] w fun e w' => e = .returned (.int .i64 (-y3 % x0)) ∧ w = w' := fun w => mod_any (-y3) x0 w (by omega) (by omega)
                have u1 : (((i : Int) * N + j) * N + t).toNat = (i * N + j) * N + t := by omega
                have u2 : (((j : Int) * N + i) * N + t).toNat = (j * N + i) * N + t := by omega
                have u3 : ((i : Int) * N + j) * N + t < n3 := by omega
                have u4 : ((j : Int) * N + i) * N + t < n3 := by omega
                have v1 : IntKind.i64.wrap ((i : Int) * N) = (i : Int) * N := IntWalk.i64_in _ (by omega)
                have v2 : IntKind.i64.wrap ((i : Int) * N + j) = (i : Int) * N + j := IntWalk.i64_in _ (by omega)
                have v3 : IntKind.i64.wrap (((i : Int) * N + j) * N) = ((i : Int) * N + j) * N := IntWalk.i64_in _ (by omega)
                have v4 : IntKind.i64.wrap (((i : Int) * N + j) * N + t) = ((i : Int) * N + j) * N + t := IntWalk.i64_in _ (by omega)
                have v5 : IntKind.i64.wrap ((j : Int) * N) = (j : Int) * N := IntWalk.i64_in _ (by omega)
                have v6 : IntKind.i64.wrap ((j : Int) * N + i) = (j : Int) * N + i := IntWalk.i64_in _ (by omega)
                have v7 : IntKind.i64.wrap (((j : Int) * N + i) * N) = ((j : Int) * N + i) * N := IntWalk.i64_in _ (by omega)
                have v8 : IntKind.i64.wrap (((j : Int) * N + i) * N + t) = ((j : Int) * N + i) * N + t := IntWalk.i64_in _ (by omega)
                have v9 : IntKind.i64.wrap (-y3) = -y3 := IntWalk.i64_in _ (by omega)
                have w1x : 0 ≤ ((i : Int) * N + j) * N + t := by omega
                have w2x : 0 ≤ ((j : Int) * N + i) * N + t := by omega
                have HPA := Lib.hid (show (d.set ((i * N + j) * N + t) (y3 % x0)).set ((j * N + i) * N + t) (-y3 % x0) = putA x0 N d [(i : Int), (j : Int), (t : Int), y3] from rfl)
                clear hST s5 t5 h0 h1 h2 hn5 hn2
                go_wp2_with fail
                go_quiet ((first | (go_at_call_of 17 (Value.int .i64 i); exact Calls.quiet_of_same ((hI0 _).mono fun e w' h => ⟨h.1, h.2.symm⟩)) | (go_at_call_of 17 (Value.int .i64 j); exact Calls.quiet_of_same ((hI1 _).mono fun e w' h => ⟨h.1, h.2.symm⟩)) | (go_at_call_of 17 (Value.int .i64 t); exact Calls.quiet_of_same ((hI2 _).mono fun e w' h => ⟨h.1, h.2.symm⟩))))
                obtain ⟨w6, hw6⟩ : ∃ x, x = w5.drewN nq := ⟨_, rfl⟩
                have hz6 : Box w6 w.heap.size #[.int .i64 0, .int .i64 0, .slice none 0 0] := by rw [hw6]; exact hz5
                have hy6 : Box w6 gb #[.int .i64 x0, .int .i64 N, .slice (some ⟨g3, o3, none⟩) n3 k3] := by rw [hw6]; exact hy5
                have hq6 : Below w.heap.size w w6 := by rw [hw6]; exact below_drewN hq5 _
                have hr6 : Box w6 (w.heap.size + 1) ((b0 :: br).map Value.string).toArray := by rw [hw6]; exact hr5
                have hs6 : w6.heap.size = w5.heap.size := by rw [hw6]; rfl
                have ho7 : OwI w6 lo hi (some ⟨g3, o3, none⟩) n3 d := by rw [hw6]; exact ho6
                have ho8 : OwI w6 wr.heap.size w5.heap.size (some ⟨g5, o5, none⟩) 4 [(i : Int), (j : Int), (t : Int), y3] := by rw [hw6]; exact ho5
                rw [← hw6]
                clear hw6 c0 c1 c2 c3 a0 a1 a2 hz5 hy5 hq5 hr5 ho6 ho5
                have r0 := cell_regrown (show w6.cell? ⟨g5, o5, none⟩ = some (.int .i64 (i : Int)) by have := ho8.rd.at_ (j := 0) (by decide); simpa [gI] using this)
                have r1 := cell_regrown (show w6.cell? ⟨g5, o5 + 1, none⟩ = some (.int .i64 (j : Int)) by have := ho8.rd.at_ (j := 1) (by decide); simpa [gI] using this)
                have r2 := cell_regrown (show w6.cell? ⟨g5, o5 + 2, none⟩ = some (.int .i64 (t : Int)) by have := ho8.rd.at_ (j := 2) (by decide); simpa [gI] using this)
                have r3 := cell_regrown (show w6.cell? ⟨g5, o5 + 3, none⟩ = some (.int .i64 y3) by have := ho8.rd.at_ (j := 3) (by decide); simpa [gI] using this)
                obtain ⟨a0, a1, a2⟩ := hy6.three
                have p0 := cell_regrown a0
                have p1 := cell_regrown a1
                have p2 := cell_regrown a2
                clear a0 a1 a2
                have cM : ∀ d' os, Calls Tryz.prog 20 #[.int .i64 y3, .int .i64 x0] (grow (redrawn w6 d') os) fun e w'' => e = .returned (.int .i64 (y3 % x0)) ∧ ∃ pp : Regrown, w'' = grow (redrawn w6 pp.d) pp.os :=
                  fun d' os => Calls.regrown_of ((hM1 _).mono fun e w' h => ⟨h.1, h.2 ▸ Below.refl _ _⟩)
                go_wp2_with fail
                (refine wp_region_quiet_last (C := fun w' => ∃ p : Regrown, w' = grow (redrawn w6 p.d) p.os) 26 (by kernel_rfl) (by kernel_rfl) (by kernel_rfl) (by kernel_rfl) (by kernel_rfl) (by kernel_rfl) (by kernel_rfl) (by kernel_rfl) ⟨⟨w6.drawn + 1, #[]⟩, by rw [grow_empty]; rfl⟩ ?_; simp only [List.take_succ_cons, List.take_zero, List.drop_succ_cons, List.drop_zero]; (repeat (go_big_quiet_step (exact cM _ _))); refine wpQuiet_nil ?_; rintro W ⟨pp, hW⟩; have hbW : Below w6.heap.size w6 W := hW ▸ below_regrown _ _ _; clear hW)
                have hsW := hbW.size
                have hoW := ho7.below hbW (by rw [hs6]; exact q8)
                obtain ⟨f1, f2⟩ := hoW.at_ s6
                go_wp2_with fail
                have ho9 : OwI (W.setCell ⟨g3, o3 + ((i * N + j) * N + t), none⟩ (.int .i64 (y3 % x0))) lo hi (some ⟨g3, o3, none⟩) n3 (d.set ((i * N + j) * N + t) (y3 % x0)) := hoW.store (v := y3 % x0) s6
                obtain ⟨w7, hw7⟩ : ∃ x, x = W.setCell ⟨g3, o3 + ((i * N + j) * N + t), none⟩ (.int .i64 (y3 % x0)) := ⟨_, rfl⟩
                have hy7 : Box w7 gb #[.int .i64 x0, .int .i64 N, .slice (some ⟨g3, o3, none⟩) n3 k3] := by rw [hw7]; exact (hy6.below hbW (by rw [hs6]; exact q9)).other (by exact q1) _
                have hz7 : Box w7 w.heap.size #[.int .i64 0, .int .i64 0, .slice none 0 0] := by rw [hw7]; exact (hz6.below hbW (by rw [hs6]; exact q10)).other (by exact q2) _
                have hr7 : Box w7 (w.heap.size + 1) ((b0 :: br).map Value.string).toArray := by rw [hw7]; exact (hr6.below hbW (by rw [hs6]; exact q11)).other (by exact q4) _
                have hq7 : Below w.heap.size w w7 := by rw [hw7]; exact (hq6.trans (hbW.mono (by rw [hs6]; exact q12))).setCell (by exact q3) _
                have ho10 : OwI w7 wr.heap.size w5.heap.size (some ⟨g5, o5, none⟩) 4 [(i : Int), (j : Int), (t : Int), y3] := by rw [hw7]; exact OwI.setLow (ho8.below hbW (by rw [hs6]; exact Nat.le_refl _)) (by exact q5) _
                have hs7 : w5.heap.size ≤ w7.heap.size := by rw [hw7, World.size_setCell, ← hs6]; exact hsW
                rw [← hw7] at ho9 ⊢
                clear hw7 r0 r1 r2 r3 p0 p1 p2 f1 f2 cM hoW hsW hbW hz6 hy6 hq6 hr6 ho7 ho8
                have r0 := cell_regrown (show w7.cell? ⟨g5, o5, none⟩ = some (.int .i64 (i : Int)) by have := ho10.rd.at_ (j := 0) (by decide); simpa [gI] using this)
                have r1 := cell_regrown (show w7.cell? ⟨g5, o5 + 1, none⟩ = some (.int .i64 (j : Int)) by have := ho10.rd.at_ (j := 1) (by decide); simpa [gI] using this)
                have r2 := cell_regrown (show w7.cell? ⟨g5, o5 + 2, none⟩ = some (.int .i64 (t : Int)) by have := ho10.rd.at_ (j := 2) (by decide); simpa [gI] using this)
                have r3 := cell_regrown (show w7.cell? ⟨g5, o5 + 3, none⟩ = some (.int .i64 y3) by have := ho10.rd.at_ (j := 3) (by decide); simpa [gI] using this)
                obtain ⟨a0, a1, a2⟩ := hy7.three
                have p0 := cell_regrown a0
                have p1 := cell_regrown a1
                have p2 := cell_regrown a2
                clear a0 a1 a2
                have cM : ∀ d' os, Calls Tryz.prog 20 #[.int .i64 (-y3), .int .i64 x0] (grow (redrawn w7 d') os) fun e w'' => e = .returned (.int .i64 (-y3 % x0)) ∧ ∃ pp : Regrown, w'' = grow (redrawn w7 pp.d) pp.os :=
                  fun d' os => Calls.regrown_of ((hM2 _).mono fun e w' h => ⟨h.1, h.2 ▸ Below.refl _ _⟩)
                go_wp2_with fail
                (refine wp_region_quiet_last (C := fun w' => ∃ p : Regrown, w' = grow (redrawn w7 p.d) p.os) 27 (by kernel_rfl) (by kernel_rfl) (by kernel_rfl) (by kernel_rfl) (by kernel_rfl) (by kernel_rfl) (by kernel_rfl) (by kernel_rfl) ⟨⟨w7.drawn + 1, #[]⟩, by rw [grow_empty]; rfl⟩ ?_; simp only [List.take_succ_cons, List.take_zero, List.drop_succ_cons, List.drop_zero]; (repeat (go_big_quiet_step (exact cM _ _))); refine wpQuiet_nil ?_; rintro W ⟨pp, hW⟩; have hbW : Below w7.heap.size w7 W := hW ▸ below_regrown _ _ _; clear hW)
                have hsW := hbW.size
                have hoW := ho9.below hbW (by exact Nat.le_trans q8 hs7)
                obtain ⟨f1, f2⟩ := hoW.at_ t6
                go_wp2
                have ho11 : OwI (W.setCell ⟨g3, o3 + ((j * N + i) * N + t), none⟩ (.int .i64 (-y3 % x0))) lo hi (some ⟨g3, o3, none⟩) n3 (putA x0 N d [(i : Int), (j : Int), (t : Int), y3]) := by rw [← HPA.out]; exact hoW.store (v := -y3 % x0) t6
                obtain ⟨w8, hw8⟩ : ∃ x, x = W.setCell ⟨g3, o3 + ((j * N + i) * N + t), none⟩ (.int .i64 (-y3 % x0)) := ⟨_, rfl⟩
                have hy8 : Box w8 gb #[.int .i64 x0, .int .i64 N, .slice (some ⟨g3, o3, none⟩) n3 k3] := by rw [hw8]; exact (hy7.below hbW (by exact Nat.lt_of_lt_of_le q9 hs7)).other (by exact q1) _
                have hz8 : Box w8 w.heap.size #[.int .i64 0, .int .i64 0, .slice none 0 0] := by rw [hw8]; exact (hz7.below hbW (by exact Nat.lt_of_lt_of_le q10 hs7)).other (by exact q2) _
                have hr8 : Box w8 (w.heap.size + 1) ((b0 :: br).map Value.string).toArray := by rw [hw8]; exact (hr7.below hbW (by exact Nat.lt_of_lt_of_le q11 hs7)).other (by exact q4) _
                have hq8 : Below w.heap.size w w8 := by rw [hw8]; exact (hq7.trans (hbW.mono (by exact Nat.le_trans q12 hs7))).setCell (by exact q3) _
                have hs8 : w3.heap.size ≤ w8.heap.size := by rw [hw8, World.size_setCell]; exact Nat.le_trans q6 (Nat.le_trans hs7 hsW)
                rw [← hw8] at ho11 ⊢
                clear hw8 v1 v2 v3 v4 v5 v6 v7 v8 v9 u1 u2 u3 u4 w1x w2x r0 r1 r2 r3 p0 p1 p2 f1 f2 cM hoW hsW hbW
                go_roundw
                case rel => exact ⟨m + 1, _, q7, by go_num, hs8, hq8, hz8, hy8, ho11, hr8, HR2⟩
                case measure => simp [intOf]; omega
            · obtain rfl : m = nr := by omega
              have HF := Lib.hid (show valI l = back l (some (x0, N, d)) by
                have hh := HR.out
                rw [List.drop_eq_nil_of_le (by rw [HNR.out]; exact Nat.le_refl _)] at hh
                rw [HVB.out, ← hh]; rfl)
              obtain ⟨a0, a1, a2⟩ := hyr.three
              have hse : s.toList.isEmpty = false := by
                rw [Lib.toList_data, HSL.out]
                cases hl0 : l with
                | nil => have h := HD.out; rw [hl0] at h; cases h
                | cons x r => rfl
              rcases hok : okA x0 N d with _ | _
              · have HV := Lib.hid (show valI l = none by rw [HF.out]; exact back_no (fun h => by rw [hok] at h; cases h.1))
                go_wp2_with fail
                refine (iFal_no x0 N n3 k3 A3 d wr hor.rd hd3 (by omega) hok).mono ?_
                rintro e w5 ⟨rfl, hb5⟩
                have hz5 := hzr.below hb5 (by omega)
                have hq5 := hqr.trans (hb5.mono (by omega))
                clear hzr hyr hqr hrr hor hb5
                obtain ⟨z0, z1, z2⟩ := hz5.three
                have zf := hz5.fz
                have zlt := hz5.lt
                go_wp2
                exact bodyPost_ret (v := .tuple #[.agg #[.int .i64 0, .int .i64 0, .slice none 0 0], .bool false]) (by simp [results, Tryz.results5, go_sem, z0, z1, z2]) rfl (ParR.no HV.out ((by repeat' (first | (with_reducible exact Below.refl _ _) | (with_reducible refine Below.setCell ?_ (by first | exact Nat.le_refl _ | omega | (simp only [World.size_alloc, World.size_setCell, World.heap_drewN]; omega) | (simp; omega)) _) | (with_reducible refine Below.alloc ?_ (by first | exact Nat.le_refl _ | omega | (simp only [World.size_alloc, World.size_setCell, World.heap_drewN]; omega) | (simp; omega)) _) | (with_reducible refine below_drewN ?_ _) | (with_reducible refine Below.drew ?_) | (with_reducible refine Below.trans ?_ (hq5.mono (by first | exact Nat.le_refl _ | omega | (simp only [World.size_alloc, World.size_setCell, World.heap_drewN]; omega) | (simp; omega))))))))
              · go_wp2_with fail
                refine (iFal_ok x0 N n3 k3 A3 d wr hor.rd hd3 (by omega) hok (tabs_on2 ht hqr (by omega))).mono ?_
                rintro e w5 ⟨rfl, hb5⟩
                have hz5 := hzr.below hb5 (by omega)
                have hy5 := hyr.below hb5 (by omega)
                have hq5 := hqr.trans (hb5.mono (by omega))
                have ho5 := hor.below hb5 (by omega)
                have hs5 := hb5.size
                clear hzr hyr hqr hrr hor hb5 a0 a1 a2
                obtain ⟨a0, a1, a2⟩ := hy5.three
                obtain ⟨tt, htt⟩ : ∃ tt, tt = (⟨(fmtA x0 N d).toArray⟩ : ByteArray) := ⟨_, rfl⟩
                rw [← htt]
                have hcmp : (tt.toList == s.toList) = (fmtA x0 N d == l) := by rw [Lib.toList_data, Lib.toList_data, HSL.out, htt]
                clear htt
                by_cases hf : fmtA x0 N d = l
                case neg =>
                  have HV := Lib.hid (show valI l = none by rw [HF.out]; exact back_no (fun h => hf h.2))
                  have hE1 : (tt.toList == s.toList) = false := by rw [hcmp, beq_eq_false_iff_ne]; exact hf
                  have hE2 : (tt.toList != s.toList) = true := by simp only [bne, hE1, Bool.not_false]
                  clear hcmp hf
                  obtain ⟨z0, z1, z2⟩ := hz5.three
                  have zf := hz5.fz
                  have zlt := hz5.lt
                  go_wp2
                  exact bodyPost_ret (v := .tuple #[.agg #[.int .i64 0, .int .i64 0, .slice none 0 0], .bool false]) (by simp [results, Tryz.results5, go_sem, z0, z1, z2]) rfl (ParR.no HV.out ((by repeat' (first | (with_reducible exact Below.refl _ _) | (with_reducible refine Below.setCell ?_ (by first | exact Nat.le_refl _ | omega | (simp only [World.size_alloc, World.size_setCell, World.heap_drewN]; omega) | (simp; omega)) _) | (with_reducible refine Below.alloc ?_ (by first | exact Nat.le_refl _ | omega | (simp only [World.size_alloc, World.size_setCell, World.heap_drewN]; omega) | (simp; omega)) _) | (with_reducible refine below_drewN ?_ _) | (with_reducible refine Below.drew ?_) | (with_reducible refine Below.trans ?_ (hq5.mono (by first | exact Nat.le_refl _ | omega | (simp only [World.size_alloc, World.size_setCell, World.heap_drewN]; omega) | (simp; omega))))))))
                have HV := Lib.hid (show valI l = some (x0, N, d) by rw [HF.out]; exact back_yes ⟨hok, hf⟩)
                have hE1 : (tt.toList == s.toList) = true := by rw [hcmp, hf]; simp
                have hE2 : (tt.toList != s.toList) = false := by simp only [bne, hE1, Bool.not_true]
                clear hcmp hf
                obtain ⟨z0, z1, z2⟩ := hz5.three
                have zf := hz5.fz
                have zlt := hz5.lt
                go_wp2
                refine bodyPost_ret (v := .tuple #[.agg #[.int .i64 x0, .int .i64 N, .slice A3 n3 k3], .bool true]) (by simp [results, Tryz.results5, go_sem, z0, z1, z2]) rfl (ParR.yes HV.out hd3 ((by repeat' (first | (with_reducible exact Below.refl _ _) | (with_reducible refine Below.setCell ?_ (by first | exact Nat.le_refl _ | omega | (simp only [World.size_alloc, World.size_setCell, World.heap_drewN]; omega) | (simp; omega)) _) | (with_reducible refine Below.alloc ?_ (by first | exact Nat.le_refl _ | omega | (simp only [World.size_alloc, World.size_setCell, World.heap_drewN]; omega) | (simp; omega)) _) | (with_reducible refine below_drewN ?_ _) | (with_reducible refine Below.drew ?_) | (with_reducible refine Below.trans ?_ (hq5.mono (by first | exact Nat.le_refl _ | omega | (simp only [World.size_alloc, World.size_setCell, World.heap_drewN]; omega) | (simp; omega))))))) ?_)
                simp only [World.size_setCell]
                exact ((((ho5.setLow (by simp; omega) _).setLow (by simp; omega) _).setLow (by simp; omega) _).down (by omega)).up (by omega)
end Go.Proofs.YtnkcjekfjlbcdaaGreatDoor
