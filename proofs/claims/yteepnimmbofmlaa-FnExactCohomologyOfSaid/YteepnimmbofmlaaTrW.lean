/- l1Transpose, TransposeMatrix. No condition but what each theorem names. -/
import Derived.Test.YteepnimmbofmlaaUnitW
import Derived.Test.YteepnimmbofmlaaZeroZ
import Derived.Test.YteepnimmbofmlaaTab
import Derived.Deep.RegionHeld3
namespace Go.Proofs.Yteepnimmbofmlaa
set_option linter.unusedVariables false
set_option linter.unusedSimpArgs false
set_option maxRecDepth 20000
open Go.RowKit
set_option maxHeartbeats 1000000
theorem l1Transpose_any {B : Nat} (p : Int) (R C n k : Nat) (A : Option Addr) (d : List Int) (w : World) (h : RdI w B A n d) (hB : B ≤ w.heap.size) (hR : R ≤ 100) (hC : C ≤ 100) (hl : n = R * C) :
    Calls Try.prog 36 #[.agg #[.int .i64 p, .int .i64 R, .int .i64 C, .slice A n k]] w (RetM p C R (trD R C d) w) := by
  have HL := Lib.hid hl
  have hle : n ≤ 10000 := by rw [hl]; exact Nat.mul_le_mul hR hC
  clear hl
  go_enter Try.func36, Try.ntmps36
  go_wp2_with fail
  refine (l1Zero_z p C R _ (by omega) (by omega) (by omega) (by omega)).mono ?_
  rintro e w1 ⟨b1, o1, n1, k1, rfl, hdb1, hb1, ho1, hb0, hb1'⟩
  have hs1 := hb1.size
  simp only [World.size_alloc] at hs1 ho1 hb0 hb1
  rw [← Int.natCast_mul, Int.toNat_natCast] at ho1
  have HN1 := Lib.hid (show n1 = C * R by have := ho1.1; rw [List.length_replicate] at this; exact this.symm)
  have ha := (((Box.new w _ _).alloc _).below hb1 (by omega) : Box w1 w.heap.size #[.int .i64 p, .int .i64 R, .int .i64 C, .slice A n k])
  have hr := ((Box.new (w.alloc _) _ _).below hb1 (by simp) : Box w1 (w.alloc (.cells #[.int .i64 p, .int .i64 R, .int .i64 C, .slice A n k] 27)).heap.size #[.int .i64 0, .int .i64 0, .int .i64 0, .slice none 0 0])
  rw [World.size_alloc] at hr
  have hq1 : Below w.heap.size w w1 := (by repeat' (first | (with_reducible exact Below.refl _ _) | (with_reducible refine Below.setCell ?_ (by first | exact Nat.le_refl _ | omega | (simp only [World.size_alloc, World.size_setCell, World.heap_drewN]; omega) | (simp; omega)) _) | (with_reducible refine Below.alloc ?_ (by first | exact Nat.le_refl _ | omega | (simp only [World.size_alloc, World.size_setCell, World.heap_drewN]; omega) | (simp; omega)) _) | (with_reducible refine below_drewN ?_ _) | (with_reducible refine Below.drew ?_) | (with_reducible refine Below.trans ?_ (hb1.mono (by first | exact Nat.le_refl _ | omega | (simp only [World.size_alloc, World.size_setCell, World.heap_drewN]; omega) | (simp; omega))))))
  have hle1 : n1 ≤ 10000 := by rw [HN1.out]; exact Nat.mul_le_mul hC hR
  obtain ⟨x0, x1, x2, x3⟩ := ha.four
  go_wp2_with fail
  clear x0 x1 x2 x3 hb1
  have hm := Box.new w1 #[.int .i64 p, .int .i64 C, .int .i64 R, .slice (some ⟨b1, o1, none⟩) n1 k1] 27
  generalize hW : w1.alloc (.cells #[.int .i64 p, .int .i64 C, .int .i64 R, .slice (some ⟨b1, o1, none⟩) n1 k1] 27) = W1 at hm ⊢
  have ha1 : Box W1 w.heap.size #[.int .i64 p, .int .i64 R, .int .i64 C, .slice A n k] := by rw [← hW]; exact ha.alloc _
  have hr1 : Box W1 (w.heap.size + 1) #[.int .i64 0, .int .i64 0, .int .i64 0, .slice none 0 0] := by rw [← hW]; exact hr.alloc _
  have ho1' : OwI W1 (w.heap.size + 1 + 1) w1.heap.size (some ⟨b1, o1, none⟩) n1 (List.replicate (C * R) 0) := by rw [← hW]; exact ho1.alloc (Nat.le_refl _) _
  have hBW : Below w.heap.size w W1 := by rw [← hW]; exact hq1.alloc (by omega) _
  have hWs : W1.heap.size = w1.heap.size + 1 := by rw [← hW]; simp
  have HWs := Lib.hid hWs
  clear hW ha hr ho1 hq1 hWs
  have hWd : RdI W1 B A n d := h.below hBW hB
  go_loopw [4] (fun i wr => ∃ i' : Nat, i' ≤ R ∧ i = .int .i64 i' ∧ Chg (w.heap.size + 1 + 1) w1.heap.size W1 wr ∧ ∃ D, OwI wr (w.heap.size + 1 + 1) w1.heap.size (some ⟨b1, o1, none⟩) n1 D ∧ Hid (∀ x y, x < i' → y < C → gI D (y * R + x) = gI d (x * C + y))) (fun i _ => R - (intOf i).toNat)
  case atStart => exact ⟨0, by omega, rfl, Chg.refl _ _ _, _, ho1', fun x y hx => by omega⟩
  case round =>
    obtain ⟨i, hi, rfl, hch, D, hor, hP⟩ := hrel
    obtain ⟨x0, x1, x2, x3⟩ := (ha1.chg hch (.inl (by omega))).four
    by_cases hlt : i < R
    · have HP := hP
      go_wp2_with fail
      go_loopw [5] (fun jj wr => ∃ j : Nat, j ≤ C ∧ jj = .int .i64 j ∧ Chg (w.heap.size + 1 + 1) w1.heap.size W1 wr ∧ ∃ D, OwI wr (w.heap.size + 1 + 1) w1.heap.size (some ⟨b1, o1, none⟩) n1 D ∧ Hid (∀ x y, (x < i ∨ (x = i ∧ y < j)) → y < C → gI D (y * R + x) = gI d (x * C + y))) (fun jj _ => C - (intOf jj).toNat)
      case atStart => exact ⟨0, by omega, rfl, hch, D, hor, fun x y hx hy => HP.out x y (by omega) hy⟩
      case round =>
        clear hch hor hP HP x0 x1 x2 x3
        obtain ⟨j, hj, rfl, hch, D', hor, hP⟩ := hrel
        have hsz := hch.size
        have hS := HWs.out
        have hA := ha1.chg hch (.inl (by omega))
        have hM := hm.chg hch (.inr (by omega))
        obtain ⟨x0, x1, x2, x3⟩ := hA.four
        by_cases hlt2 : j < C
        · have hin : i * C + j < n := by rw [HL.out]; exact idx_lt hlt hlt2
          have hin1 : j * R + i < n1 := by rw [HN1.out]; exact idx_lt hlt2 hlt
          have hk1 : 0 ≤ (j : Int) * (R : Int) := Int.mul_nonneg (by omega) (by omega)
          have hk2 : (j : Int) * (R : Int) + (i : Int) < (n1 : Int) := by
            rw [← Int.natCast_mul, ← Int.natCast_add]; omega
          have hk3 : 0 ≤ (j : Int) * (R : Int) + (i : Int) := by omega
          have hwr1 : IntKind.i64.wrap ((j : Int) * (R : Int)) = (j : Int) * (R : Int) := IntWalk.i64_in _ (by omega)
          have hwr2 : IntKind.i64.wrap ((j : Int) * (R : Int) + (i : Int)) = (j : Int) * (R : Int) + (i : Int) := IntWalk.i64_in _ (by omega)
          have htn : ((j : Int) * (R : Int) + (i : Int)).toNat = j * R + i := by rw [← Int.natCast_mul, ← Int.natCast_add]; rfl
          have hd : RdI wr B A n d := hWd.below ((hch.below (by omega)).mono (show w.heap.size ≤ _ by omega)) hB
          go_wp2_with fail
          go_region_held3 (fun w' => (w'.cell? ⟨w.heap.size, 0, none⟩ = some (.int .i64 p) ∧ w'.cell? ⟨w.heap.size, 1, none⟩ = some (.int .i64 R) ∧ w'.cell? ⟨w.heap.size, 2, none⟩ = some (.int .i64 C) ∧ w'.cell? ⟨w.heap.size, 3, none⟩ = some (.slice A n k)) ∧ w'.cell? ⟨w1.heap.size, 0, none⟩ = some (.int .i64 p) ∧ w'.cell? ⟨w1.heap.size, 1, none⟩ = some (.int .i64 C) ∧ w'.cell? ⟨w1.heap.size, 2, none⟩ = some (.int .i64 R) ∧ w'.cell? ⟨w1.heap.size, 3, none⟩ = some (.slice (some ⟨b1, o1, none⟩) n1 k1)) (first | exact ⟨hA.four, hM.four⟩ | exact ⟨(hA.drew.below hb6 (by show _ < wr.heap.size; omega)).four, (hM.drew.below hb6 (by show _ < wr.heap.size; omega)).four⟩ | exact ⟨((hA.drew.below hb6 (by show _ < wr.heap.size; omega)).other (by show _ ≠ b1; omega) _).four, ((hM.drew.below hb6 (by show _ < wr.heap.size; omega)).other (by show _ ≠ b1; omega) _).four⟩) (first | (go_at_call 72; refine (l1At_any p R C i j n k A d _ (B := B) (by exact hd) (by show B ≤ wr.heap.size; omega) hin (by omega)).mono ?_; rintro e w6 ⟨rfl, hb6⟩; obtain ⟨hcl6, hfr6⟩ := ((show OwI wr.drew (w.heap.size + 1 + 1) w1.heap.size (some ⟨b1, o1, none⟩) n1 D' from hor).below hb6 (by show _ ≤ wr.heap.size; omega)).at_ hin1; have hs6 : wr.heap.size ≤ w6.heap.size := hb6.size))
          go_wp2
          go_roundw
          case rel => exact ⟨j + 1, by omega, by go_num, ((hch.drewN 1).trans (Chg.ofBelow hb6 (Nat.le_refl _))).setCell hb0 hb1' _, _, ((show OwI wr.drew (w.heap.size + 1 + 1) w1.heap.size (some ⟨b1, o1, none⟩) n1 D' from hor).below hb6 (by show _ ≤ wr.heap.size; omega)).store hin1, fun x y hxy hy => by
            rw [gI_set _ _ _ _ (by rw [hor.1]; exact hin1)]
            by_cases e : y * R + x = j * R + i
            · obtain ⟨e1, e2⟩ := idx_inj (by omega) hlt e
              subst e1 e2
              rw [if_pos rfl]
            · rw [if_neg e]
              refine hP.out x y ?_ hy
              rcases hxy with h1 | ⟨h1, h2⟩
              · exact .inl h1
              · refine .inr ⟨h1, ?_⟩
                rcases Nat.lt_or_ge y j with h3 | h3
                · exact h3
                · exfalso; apply e; rw [h1, show y = j by omega]⟩
          case measure => simp [intOf]; omega
        · have hjC : j = C := by omega
          subst hjC
          go_wp2
          go_roundw
          case rel => exact ⟨i + 1, by omega, by go_num, hch, D', hor, fun x y hx hy => hP.out x y (by omega) hy⟩
          case measure => simp [intOf]; omega
    · have hiR : i = R := by omega
      subst hiR
      clear x0 x1 x2 x3
      have hsz := hch.size
      have hS := HWs.out
      obtain ⟨x0, x1, x2, x3⟩ := (ha1.chg hch (.inl (by omega))).four
      obtain ⟨y0, y1, y2, y3⟩ := (hm.chg hch (.inr (by omega))).four
      have hR' := hr1.chg hch (.inl (by omega))
      obtain ⟨r0, r1, r2, r3⟩ := hR'.four
      have rf := hR'.fz
      have hD : D = trD i C d := by
        refine eq_tab (by rw [hor.1]; exact HN1.out) fun y x hy hx => ?_
        exact hP.out x y hx hy
      subst hD
      go_wp2
      exact bodyPost_ret (v := .agg #[.int .i64 p, .int .i64 C, .int .i64 i, .slice (some ⟨b1, o1, none⟩) n1 k1]) (by simp [results, Try.results36, go_sem, r0, r1, r2, r3]) rfl (retM4 (hBW.trans ((hch.below (by omega)).mono (by omega))) hor (by omega) (by omega) (by omega) _ _ _ _)
end Go.Proofs.Yteepnimmbofmlaa
namespace Go.Proofs.Yteepnimmbofmlaa
set_option linter.unusedVariables false
set_option linter.unusedSimpArgs false
set_option maxRecDepth 20000
open Go.RowKit
set_option maxHeartbeats 1000000
end Go.Proofs.Yteepnimmbofmlaa
