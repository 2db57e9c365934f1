/- FormatAlgebra of the program, under the table of the powers of ten. No condition but what each theorem names. -/
import Derived.Test.YtnkcjekfjlbcdaaGreatDoorFal
import Derived.Test.YtnkcjekfjlbcdaaGreatDoorAIkW
import Derived.Test.YtnkcjekfjlbcdaaGreatDoorByt
import Derived.Test.YtnkcjekfjlbcdaaGreatDoorFaW
namespace Go.Proofs.YtnkcjekfjlbcdaaGreatDoor
set_option linter.unusedVariables false
set_option linter.unusedSimpArgs false
set_option maxRecDepth 20000
open Go Go.RowKit
set_option maxHeartbeats 4000000
theorem RdI.two (w : World) (a b : Int) (T : TypeId) : RdI (w.alloc (.cells #[.int .i64 a, .int .i64 b] T)) (w.heap.size + 1) (some ⟨w.heap.size, 0, none⟩) 2 [a, b] :=
  ⟨rfl, by unfold maxLen; omega, fun _ => ⟨_, _, rfl, by omega, fun j hj => by
    rw [Nat.zero_add]
    refine (Box.new w _ _).cell ?_
    match j, hj with
    | 0, _ => rfl
    | 1, _ => rfl⟩⟩
theorem iFal_no {B : Nat} (p n : Int) (l k : Nat) (A : Option Addr) (d : List Int) (w : World) (h : RdI w B A l d) (hd : Hd A l k) (hB : B ≤ w.heap.size) (hok : okA p n d = false) :
    Calls Tryz.prog 21 #[.agg #[.int .i64 p, .int .i64 n, .slice A l k]] w (Rv (.string ⟨#[]⟩) w) := by
  have hbx := Box.new w #[.int .i64 p, .int .i64 n, .slice A l k] 24
  obtain ⟨x0, x1, x2⟩ := hbx.three
  have hr := h.alloc hB (.cells #[.int .i64 p, .int .i64 n, .slice A l k] 24)
  go_enter Tryz.func21, Tryz.ntmps21
  go_wp2_with fail
  refine (iAlg_any (B := B) p n l k A d _ hr hd (by rw [World.size_alloc]; omega)).mono ?_
  rw [hok]
  rintro e w1 ⟨rfl, hb1⟩
  go_wp2
  go_ret
  exact ⟨rfl, (by repeat' (first | (with_reducible exact Below.refl _ _) | (with_reducible refine Below.setCell ?_ (by first | exact Nat.le_refl _ | omega | (simp only [World.size_alloc, World.size_setCell, World.heap_drewN]; omega) | (simp; omega)) _) | (with_reducible refine Below.alloc ?_ (by first | exact Nat.le_refl _ | omega | (simp only [World.size_alloc, World.size_setCell, World.heap_drewN]; omega) | (simp; omega)) _) | (with_reducible refine below_drewN ?_ _) | (with_reducible refine Below.drew ?_) | (with_reducible refine Below.trans ?_ (hb1.mono (by first | exact Nat.le_refl _ | omega | (simp only [World.size_alloc, World.size_setCell, World.heap_drewN]; omega) | (simp; omega))))))⟩
theorem iFal_ok {B : Nat} (p : Int) (N l k : Nat) (A : Option Addr) (d : List Int) (w : World) (h : RdI w B A l d) (hd : Hd A l k) (hB : B ≤ w.heap.size) (hok : okA p N d = true) (ht : Tabs w.heap.size w) :
    Calls Tryz.prog 21 #[.agg #[.int .i64 p, .int .i64 N, .slice A l k]] w (Rv (.string ⟨(fmtA p N d).toArray⟩) w) := by
  have hbx := Box.new w #[.int .i64 p, .int .i64 N, .slice A l k] 24
  obtain ⟨x0, x1, x2⟩ := hbx.three
  have hr := h.alloc hB (.cells #[.int .i64 p, .int .i64 N, .slice A l k] 24)
  go_enter Tryz.func21, Tryz.ntmps21
  go_wp2_with fail
  refine (iAlg_any (B := B) p N l k A d _ hr hd (by rw [World.size_alloc]; omega)).mono ?_
  rw [hok]
  rintro e w1 ⟨rfl, hb1⟩
  have hs1 := hb1.size
  rw [World.size_alloc] at hs1
  have hb := hbx.below hb1 (by simp)
  have hr1 := hr.below hb1 (by rw [World.size_alloc]; omega)
  have hq1 : Below w.heap.size w w1 := (by repeat' (first | (with_reducible exact Below.refl _ _) | (with_reducible refine Below.setCell ?_ (by first | exact Nat.le_refl _ | omega | (simp only [World.size_alloc, World.size_setCell, World.heap_drewN]; omega) | (simp; omega)) _) | (with_reducible refine Below.alloc ?_ (by first | exact Nat.le_refl _ | omega | (simp only [World.size_alloc, World.size_setCell, World.heap_drewN]; omega) | (simp; omega)) _) | (with_reducible refine below_drewN ?_ _) | (with_reducible refine Below.drew ?_) | (with_reducible refine Below.trans ?_ (hb1.mono (by first | exact Nat.le_refl _ | omega | (simp only [World.size_alloc, World.size_setCell, World.heap_drewN]; omega) | (simp; omega))))))
  clear x0 x1 x2 hbx hr hb1
  obtain ⟨hp, _, hN28, hl, hres, _⟩ := okA_bd hok
  obtain ⟨hp1, hp2⟩ := isP_bd hp
  have hN : N ≤ 28 := by omega
  rw [Int.toNat_natCast] at hl
  have HL2 := Lib.hid (show l = N * N * N by rw [← h.1]; exact hl)
  have HT := Lib.hid (show In64T N d from fun i j k hi hj hk => by
    have := resB_get hres (show (i * N + j) * N + k < d.length by rw [hl]; exact tA_lt hi hj hk)
    unfold tA; omega)
  have hhd := headF_len (p := p) (N := N) (by omega) (by omega)
  clear hp hl hres hok
  obtain ⟨x0, x1, x2⟩ := hb.three
  have hR2 := RdI.two w1 p (N : Int) 3
  go_wp2_with fail
  refine (iFms_any (B := w1.heap.size + 1) _ 2 2 _ _ hR2 (by rw [World.size_alloc]; omega) (by omega) (by
    intro x hx
    simp only [List.mem_cons, List.not_mem_nil, or_false] at hx
    rcases hx with rfl | rfl <;> omega) (tabs_on2 ht ((by repeat' (first | (with_reducible exact Below.refl _ _) | (with_reducible refine Below.setCell ?_ (by first | exact Nat.le_refl _ | omega | (simp only [World.size_alloc, World.size_setCell, World.heap_drewN]; omega) | (simp; omega)) _) | (with_reducible refine Below.alloc ?_ (by first | exact Nat.le_refl _ | omega | (simp only [World.size_alloc, World.size_setCell, World.heap_drewN]; omega) | (simp; omega)) _) | (with_reducible refine below_drewN ?_ _) | (with_reducible refine Below.drew ?_) | (with_reducible refine Below.trans ?_ (hq1.mono (by first | exact Nat.le_refl _ | omega | (simp only [World.size_alloc, World.size_setCell, World.heap_drewN]; omega) | (simp; omega))))))) (by simp; omega))).mono ?_
  rintro e w2 ⟨rfl, hb2⟩
  have hs2 := hb2.size
  rw [World.size_alloc] at hs2
  obtain ⟨F, hF⟩ : ∃ F, F = fmtL [p, (N : Int)] := ⟨_, rfl⟩
  have hFl : F.length ≤ 44 := by rw [hF]; unfold headF at hhd; rw [List.length_append] at hhd; simp at hhd ⊢; omega
  have HH := Lib.hid (show F ++ [10] = headF p N by rw [hF]; rfl)
  rw [← hF]
  have hq2 : Below w.heap.size w w2 := hq1.trans (((Below.refl w1.heap.size w1).alloc (Nat.le_refl _) (.cells #[.int .i64 p, .int .i64 (N : Int)] 3)).trans (hb2.mono (by simp)) |>.mono (by omega))
  have hb12 : Below w1.heap.size w1 w2 := ((Below.refl w1.heap.size w1).alloc (Nat.le_refl _) (.cells #[.int .i64 p, .int .i64 (N : Int)] 3)).trans (hb2.mono (by simp))
  have hb := hb.step hb12
  have hr2 := hr1.below hb12 (by omega)
  clear hF hR2 x0 x1 x2 hb2 hb12 hr1 hq1
  go_wp2_with fail
  have HS := Lib.hid (show ({ data := F.toArray } ++ { data := #[10] } : ByteArray) = ⟨(headF p N).toArray⟩ by rw [← HH.out, show ({ data := #[10] } : ByteArray) = ⟨([10] : List UInt8).toArray⟩ from rfl, bytes_app])
  rw [HS.out, run_str2b]
  simp only [Result.andThen]
  rw [Oper.upon_value]
  have hG0 := GrwB.start w2 (headF p N) (by omega)
  have hb2 := below_bytes w2 5 ⟨(headF p N).toArray⟩
  generalize grownCap w2 (headF p N).length 0 5 = cap0 at hG0 ⊢
  obtain ⟨W2, hW2⟩ : ∃ W2, W2 = Lib.bytesWorld w2 5 ⟨(headF p N).toArray⟩ := ⟨_, rfl⟩
  rw [← hW2] at hG0 hb2 ⊢
  clear hW2
  have hsW2 := hb2.size
  have hlt2 := hG0.lt
  have hq2 := hq2.trans (hb2.mono (by omega))
  have hb := hb.below hb2 (by omega)
  have hr2 := hr2.below hb2 (by omega)
  obtain ⟨g, hg⟩ : ∃ g, g = w2.heap.size := ⟨_, rfl⟩
  rw [← hg] at hG0 hlt2 hs2 ⊢
  have hgw : g ≤ W2.heap.size := by rw [hg]; exact hsW2
  clear hb2 hg hsW2
  obtain ⟨x0, x1, x2⟩ := hb.three
  go_wp2_with (go_at_call 35; refine (newLie_any p N A l k _).mono ?_; rintro e w3 ⟨rfl, hb3⟩; clear x0 x1 x2; have hs3 := hb3.size; have hx3 := (hb.step hb3).alloc (.cells #[.int .i64 p, .int .i64 N, .slice A l k] 56); have hy3 := Box.new w3 #[.int .i64 p, .int .i64 N, .slice A l k] 56; have hr3 := (hr2.below hb3 (by omega)).alloc (by omega) (.cells #[.int .i64 p, .int .i64 N, .slice A l k] 56); have hq3 := (hq2.trans (hb3.mono (by omega))).alloc (by omega) (.cells #[.int .i64 p, .int .i64 N, .slice A l k] 56); have hG3 := ((hG0.step hb3).step ((Below.refl w3.heap.size w3).alloc (Nat.le_refl _) (.cells #[.int .i64 p, .int .i64 N, .slice A l k] 56))).re rfl; obtain ⟨x0, x1, x2⟩ := hx3.three)
  clear x0 x1 x2 hG0 hq2 hr2 hb hb3
  obtain ⟨W3, hW3⟩ : ∃ W3, W3 = w3.alloc (.cells #[.int .i64 p, .int .i64 N, .slice A l k] 56) := ⟨_, rfl⟩
  have hW3s : W3.heap.size = w3.heap.size + 1 := by rw [hW3]; simp
  obtain ⟨gl, hgl⟩ : ∃ gl, gl = w3.heap.size := ⟨_, rfl⟩
  rw [← hW3] at hx3 hy3 hr3 hq3 hG3 ⊢
  rw [← hgl] at hy3 hs3 hW3s ⊢
  clear hW3 hgl
  go_loopw [3, 24] (fun v i wr => ∃ (m : Nat) (X : List UInt8), m ≤ N ∧ i = .int .i64 m ∧ Hid (X = headF p N ++ lnI N d m) ∧ GrwB g W3 wr v X) (fun _ i _ => N - (intOf i).toNat)
  case atStart => exact ⟨0, headF p N, by omega, rfl, Lib.hid (by simp [lnI]), hG3⟩
  case round =>
    clear hG3
    obtain ⟨m, X, hm, rfl, HX, hG⟩ := hrel
    have HLI := Lib.hid (lnI_len HT.out hN m hm)
    have hx := hx3.chg hG.chg (.inl (by omega))
    have hy := hy3.chg hG.chg (.inr (by omega))
    have hsz := hG.size
    obtain ⟨x0, x1, x2⟩ := hx.three
    by_cases hlt : m < N
    · go_wp2_with fail
      go_loopw [3, 6] (fun v i wr => ∃ (j : Nat) (Y : List UInt8), m + 1 ≤ j ∧ j ≤ N ∧ i = .int .i64 j ∧ Hid (Y = headF p N ++ lnI N d m ++ lnJ N d m j) ∧ GrwB g W3 wr v Y) (fun _ i _ => N - (intOf i).toNat)
      case atStart => exact ⟨m + 1, X, by omega, by omega, by go_num, Lib.hid (by rw [lnJ_low _ _ _ _ (Nat.le_refl _), List.append_nil, HX.out]), hG⟩
      case round =>
        clear x0 x1 x2 hG hx hy hsz
        obtain ⟨j, Y, hj0, hj, rfl, HY, hG⟩ := hrel
        have HLJ := Lib.hid (lnJ_len HT.out hN hlt j hj)
        have hx := hx3.chg hG.chg (.inl (by omega))
        have hy := hy3.chg hG.chg (.inr (by omega))
        have hr := hr3.below hG.below (by omega)
        have hsz := hG.size
        obtain ⟨x0, x1, x2⟩ := hx.three
        by_cases hltj : j < N
        · obtain ⟨y0, y1, y2⟩ := hy.three
          obtain ⟨Ap, kp, hdp, hpr, hcp⟩ := pair_any (p := p) hd HL2.out hlt hltj (by omega)
          go_wp2_with fail
          refine (hcp _).mono ?_
          rintro e w5 ⟨rfl, hb5⟩
          have hG5 := hG.step hb5
          clear x0 x1 x2 y0 y1 y2 hG
          go_wp2_with fail
          go_loopw [3, 40] (fun v i wr => ∃ (t : Nat) (Z : List UInt8), t ≤ N ∧ i = .int .i64 t ∧ Hid (Z = headF p N ++ lnI N d m ++ lnJ N d m j ++ lnK N d m j t) ∧ GrwB g W3 wr v Z) (fun _ i _ => N - (intOf i).toNat)
          case atStart => exact ⟨0, Y, by omega, rfl, Lib.hid (by rw [HY.out]; simp [lnK]), hG5⟩
          case round =>
            clear hG5 hx hy hr hb5 hsz
            obtain ⟨t, Z, ht2, rfl, HZ, hG⟩ := hrel
            have HLK := Lib.hid (lnK_len HT.out hN hlt hltj t ht2)
            have hsz := hG.size
            by_cases hltt : t < N
            · have hr := hpr _ _ _ (hr3.below hG.below (by omega))
              obtain ⟨bp, op, rfl⟩ := hr.addr (by omega)
              have hcl := hr.at_ hltt
              rw [prV_get hltt] at hcl
              obtain ⟨c, hcc⟩ : ∃ c, tA N d m j t = c := ⟨_, rfl⟩
              rw [hcc] at hcl
              have HCC := Lib.hid hcc
              have hcb := HT.out m j t hlt hltj hltt
              rw [hcc] at hcb
              clear hcc
              by_cases hc0 : c = 0
              · have HK := Lib.hid (lnK_zero (N := N) (d := d) (i := m) (j := j) (m := t) (by rw [HCC.out]; exact hc0))
                subst hc0
                go_wp2
                go_roundw
                case rel => exact ⟨t + 1, Z, by omega, by go_num, Lib.hid (by rw [HK.out, HZ.out]), hG⟩
                case measure => simp [intOf]; omega
              · have HK := Lib.hid (lnK_line (N := N) (d := d) (i := m) (j := j) (m := t) (by rw [HCC.out]; exact hc0))
                rw [HCC.out] at HK
                have hcn : (c != 0) = true := by simpa using hc0
                have hR4 := RdI.four wr (m : Int) (j : Int) (t : Int) c 3
                go_wp2_with fail
                refine (iFms_any (B := wr.heap.size + 1) _ 4 4 _ _ hR4 (by rw [World.size_alloc]; omega) (by omega) (lineF_in (by omega) (by omega) (by omega) hcb) (tabs_on2 ht ((hq3.trans (hG.below.mono (by omega))).alloc (by omega) _) (by simp; omega))).mono ?_
                rintro e w6 ⟨rfl, hb6⟩
                have hs6 := hb6.size
                rw [World.size_alloc] at hs6
                have hG6 := hG.step (((Below.refl wr.heap.size wr).alloc (Nat.le_refl _) (.cells #[.int .i64 (m : Int), .int .i64 (j : Int), .int .i64 (t : Int), .int .i64 c] 3)).trans (hb6.mono (by simp)))
                obtain ⟨F, hF⟩ : ∃ F, F = fmtL [(m : Int), (j : Int), (t : Int), c] := ⟨_, rfl⟩
                have hFl : F.length ≤ 88 := by rw [hF]; have := lineF_len (i := m) (j := j) (k := t) (c := c) (by omega) (by omega) (by omega) hcb; unfold lineF at this; rw [List.length_append] at this; simp at this ⊢; omega
                rw [← hF]
                have HF := Lib.hid hF
                have hZl : Z.length ≤ 2100000 := by
                  rw [HZ.out]
                  simp only [List.length_append]
                  have h1 := HLI.out
                  have h2 := HLJ.out
                  have h3 := HLK.out
                  omega
                have HSS := Lib.hid (show ({ data := F.toArray } ++ { data := #[10] } : ByteArray) = ⟨(F ++ [10]).toArray⟩ by
                  rw [show ({ data := #[10] } : ByteArray) = ⟨([10] : List UInt8).toArray⟩ from rfl, bytes_app])
                clear hF hR4 hb6 hG hc0 hcl hr
                go_wp2_with (at_builtin; refine wpList_apB (v := u3) (w := w6) (base := g) (bs := Z) (ys := F ++ [10]) rfl (.tmp 47) (.tmp 54) rfl rfl hG6.own (congrArg Value.string HSS.out) (by simp; omega) (by omega) ?_; intro v7 w7 ho7 hg7 hv7)
                have hG7 := Lib.hid (hG6.push ho7 hg7 hv7)
                clear hG6 ho7 hg7 hv7
                go_wp2
                go_roundw
                case rel => exact ⟨t + 1, Z ++ (F ++ [10]), by omega, by go_num, Lib.hid (by rw [HK.out, HZ.out, HF.out]; unfold lineF; simp only [List.append_assoc]), hG7.out⟩
                case measure => simp [intOf]; omega
            · obtain rfl : t = N := by omega
              have HSJ := Lib.hid (lnJ_succ (N := t) (d := d) (show m < j by omega))
              have hx := hx3.chg hG.chg (.inl (by omega))
              obtain ⟨x0, x1, x2⟩ := hx.three
              go_wp2
              go_roundw
              case rel => exact ⟨j + 1, Z, by omega, by omega, by go_num, Lib.hid (by rw [HSJ.out, HZ.out, List.append_assoc _ (lnJ t d m j)]), hG⟩
              case measure => simp [intOf]; omega
        · obtain rfl : j = N := by omega
          go_wp2
          go_roundw
          case rel => exact ⟨m + 1, Y, by omega, by go_num, Lib.hid (by rw [lnI, HY.out, List.append_assoc _ (lnI j d m)]), hG⟩
          case measure => simp [intOf]; omega
    · obtain rfl : m = N := by omega
      have HW := Lib.hid (show wholeF p m d = X by rw [HX.out]; rfl)
      have hqr := hq3.trans (hG.below.mono (by omega))
      have hXl : X.length ≤ 2100000 := by
        rw [HX.out]
        simp only [List.length_append]
        have h1 := HLI.out
        omega
      have hO := hG.own
      obtain ⟨gv, cv, rfl, -, -⟩ := hO.cell
      by_cases hbig : 60000 < X.length
      · have hF := Lib.hid (show fmtA p m d = [] by unfold fmtA; rw [HW.out, if_pos hbig])
        have hb : decide ((60000 : Int) < (X.length : Int)) = true := by simp; omega
        go_wp2
        go_ret
        exact ⟨by rw [hF.out]; rfl, hqr⟩
      · have hF := Lib.hid (show fmtA p m d = X by unfold fmtA; rw [HW.out, if_neg hbig])
        have hb : decide ((60000 : Int) < (X.length : Int)) = false := by simp; omega
        go_wp2_with fail
        rw [run_b2str hO]
        simp only [Result.andThen]
        rw [Oper.upon_value]
        go_wp2
        go_ret
        exact ⟨by rw [hF.out]; rfl, hqr⟩
end Go.Proofs.YtnkcjekfjlbcdaaGreatDoor
