/- l1Row, l3Lists. No condition but what each theorem names. -/
import Derived.Test.YtfiganobjjjloaaLawK
import Derived.Test.YtfiganobjjjloaaGrwT
import Derived.Test.YtfiganobjjjloaaCpW
namespace Go.Proofs.Ytfiganobjjjloaa
set_option linter.unusedVariables false
set_option linter.unusedSimpArgs false
set_option maxRecDepth 20000
open Go.RowKit
set_option maxHeartbeats 2000000
/-- a row of a matrix, where it lies: the value does not hang on the world -/
theorem l1Row_any {p r : Int} {R C i n k : Nat} {A : Option Addr} (hd : Hd A n k) (hl : n = R * C) (hi : i < R) (hR : R ≤ 100000) (hC : C ≤ 100000) (hn : n ≤ 1073741824) :
    ∃ A' k', Hd A' C k' ∧ (∀ (w : World) (B : Nat) (d : List Int), RdI w B A n d → RdI w B A' C (sub d (i * C) C)) ∧
      ∀ w, Calls Try.prog 120 #[.agg #[.int .i64 p, .int .i64 r, .int .i64 C, .slice A n k], .int .i64 i] w (Rv (.slice A' C k') w) := by
  obtain ⟨e1, e2, e3, e4, e5, e6⟩ := row_bd (C := C) hi
  have hle : i * C + C ≤ n := by rw [hl]; exact e6
  have hnn : (R : Int) * C = n := by rw [hl, Int.natCast_mul]
  obtain ⟨A', hd', hp', hrun⟩ := part_run (A := A) (n := n) (k := k) (lo := i * C) (hi := i * C + C) ((i : Int) * C) (((i : Int) + 1) * C) (by rw [Int.natCast_mul]) (by rw [← e2, Int.natCast_add, Int.natCast_mul]) hd (by omega) hle
  rw [show i * C + C - i * C = C by omega] at hd' hp' hrun
  refine ⟨A', _, hd', hp', fun w => ?_⟩
  clear hp' hd' hl
  go_enter Try.func120, Try.ntmps120
  go_wp2
  go_ret
  exact ⟨rfl, (by repeat' (first | (with_reducible exact Below.refl _ _) | (with_reducible refine Below.setCell ?_ (by first | exact Nat.le_refl _ | omega | (simp only [World.size_alloc, World.size_setCell, World.heap_drewN]; omega) | (simp; omega)) _) | (with_reducible refine Below.alloc ?_ (by first | exact Nat.le_refl _ | omega | (simp only [World.size_alloc, World.size_setCell, World.heap_drewN]; omega) | (simp; omega)) _) | (with_reducible refine below_drewN ?_ _) | (with_reducible refine Below.drew ?_)))⟩
/-- the rows of a matrix, each a new slice -/
theorem l3Lists_any {B : Nat} (p : Int) (R C n k : Nat) (A : Option Addr) (d : List Int) (w : World) (h : RdI w B A n d) (hd : Hd A n k) (hB : B ≤ w.heap.size) (hl : n = R * C) (hR : R ≤ 100000) (hC : C ≤ 100000) (hn : n ≤ 1073741824) :
    Calls Try.prog 109 #[.agg #[.int .i64 p, .int .i64 R, .int .i64 C, .slice A n k]] w (RetT (rowsD C d R) w) := by
  have HL := Lib.hid hl
  have hx0 := (Box.new w #[.int .i64 p, .int .i64 R, .int .i64 C, .slice A n k] 26).alloc (.cells #[] 22)
  have hq0 : Below w.heap.size w ((w.alloc (.cells #[.int .i64 p, .int .i64 R, .int .i64 C, .slice A n k] 26)).alloc (.cells #[] 22)) := (by repeat' (first | (with_reducible exact Below.refl _ _) | (with_reducible refine Below.setCell ?_ (by first | exact Nat.le_refl _ | omega | (simp only [World.size_alloc, World.size_setCell, World.heap_drewN]; omega) | (simp; omega)) _) | (with_reducible refine Below.alloc ?_ (by first | exact Nat.le_refl _ | omega | (simp only [World.size_alloc, World.size_setCell, World.heap_drewN]; omega) | (simp; omega)) _) | (with_reducible refine below_drewN ?_ _) | (with_reducible refine Below.drew ?_)))
  have ha0 := h.below hq0 hB
  have hG := GrwT.start (w.alloc (.cells #[.int .i64 p, .int .i64 R, .int .i64 C, .slice A n k] 26)) 22 rfl
  simp only [World.size_alloc] at hG
  clear hl h
  go_enter Try.func109, Try.ntmps109
  go_wp2_with fail
  go_loopw [3, 4] (fun v i wr => ∃ j : Nat, j ≤ R ∧ i = .int .i64 j ∧ GrwT (w.heap.size + 1) ((w.alloc (.cells #[.int .i64 p, .int .i64 R, .int .i64 C, .slice A n k] 26)).alloc (.cells #[] 22)) wr v j (rowsD C d j)) (fun _ i _ => R - (intOf i).toNat)
  case atStart => exact ⟨0, by omega, rfl, hG⟩
  case round =>
    clear hG
    obtain ⟨j, hj, rfl, hG⟩ := hrel
    have hsz := hG.size
    simp only [World.size_alloc] at hsz
    have hbl := hG.below
    have hx := hx0.below hbl (by omega)
    have ha := ha0.below hbl (by omega)
    have hq := hq0.trans (hbl.mono (by omega))
    clear hbl
    obtain ⟨x0, x1, x2, x3⟩ := hx.four
    by_cases hlt : j < R
    · obtain ⟨hst, hhl, how, hi', hOT, hhi'⟩ := hG.tbl
      obtain ⟨A1, k1, hd1, hpp1, hrow1⟩ := l1Row_any (p := p) (r := R) (k := k) hd HL.out hlt hR hC hn
      have HS := Lib.hid (rowsD_succ C d j)
      have hcn : j ≤ 1073741824 := by omega
      go_wp2_with (first | (go_at_call 120; refine (hrow1 _).mono ?_; rintro e w3 ⟨rfl, hb3⟩; have hs3 := hb3.size; have hr3 := hpp1 _ _ _ (ha.below hb3 (by omega))) | (go_at_call 121; refine (l1Ints_any (B := B) A1 C k1 (sub d (j * C) C) _ hr3 hd1 (by omega) (by omega)).mono ?_; rintro e w4 ⟨A4, n4, c4, rfl, hd4, hb4, ho4⟩; have hs4 := hb4.size; have hb34 : Below wr.heap.size wr w4 := hb3.trans (hb4.mono hs3); have hOT4 := hOT.below hb34 hhi') | (at_builtin; refine wpList_apT (v := u3) (w := w4.alloc (.cells #[.slice A4 n4 c4] 22)) (lo := w.heap.size + 1) (b := w4.heap.size) (u := .slice A4 n4 c4) rfl (.tmp 12) (.tmp 17) rfl rfl (hOT4.alloc (by omega) _).tbl rfl (Box.new w4 _ _).one rfl hcn (by rw [World.size_alloc]; omega) ?_; intro v5 w5 ho5 hg5 hv5))
      have hG := hG.push hOT hhi' hb34 ho4 hs3 hd4 ho5 hg5 hv5
      clear hOT hOT4 how ho4 ho5 hg5 hv5 hb3 hb4 hb34 hr3 x0 x1 x2 x3
      go_wp2
      go_roundw
      case rel => exact ⟨j + 1, by omega, by go_num, by rw [HS.out]; exact hG⟩
      case measure => simp [intOf]; omega
    · obtain rfl : R = j := by omega
      obtain ⟨A7, c7, rfl, hd7, hst7, hT7⟩ := hG.ret
      clear hG
      go_wp2
      go_ret
      exact ⟨_, _, _, rfl, hd7, hq, _, hT7.down (by omega)⟩
end Go.Proofs.Ytfiganobjjjloaa
