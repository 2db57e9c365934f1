/- rowsOf, span's copies: tables of rows. No condition but what each theorem names. -/
import Derived.Test.YteepnimmbofmlaaTbl
import Derived.Test.YteepnimmbofmlaaRr
import Derived.Test.YteepnimmbofmlaaLawK
namespace Go.Proofs.Yteepnimmbofmlaa
set_option linter.unusedVariables false
set_option linter.unusedSimpArgs false
set_option maxRecDepth 20000
open Go.RowKit
set_option maxHeartbeats 1000000
/-- the first m rows of C numbers each -/
def rowsD (C : Nat) (d : List Int) (m : Nat) : List (List Int) := (List.range m).map fun i => sub d (i * C) C
theorem rowsD_succ (C : Nat) (d : List Int) (m : Nat) : rowsD C d (m + 1) = rowsD C d m ++ [sub d (m * C) C] := by simp [rowsD, List.range_succ]
theorem rowsD_len (C : Nat) (d : List Int) (m : Nat) : (rowsD C d m).length = m := by simp [rowsD]
theorem rowsD_row {C : Nat} {d : List Int} {m i : Nat} (h : i < m) : row (rowsD C d m) i = sub d (i * C) C := by
  rw [row_lt (by rw [rowsD_len]; exact h)]; simp [rowsD]
/-- one row more, of a call's own, by way of a one-cell block -/
theorem OwT.pushed {w w1 w3 : World} {lo hi n : Nat} {v v' : Value} {hs : List Hdr} {xss : List (List Int)} {A : Option Addr} {m c lo2 : Nat} {ys : List Int} {T : TypeId} (h : OwT w lo hi v n hs xss) (hhi : hi ≤ w.heap.size) (hb : Below w.heap.size w w1) (hr : OwI w1 lo2 w1.heap.size A m ys) (hlo2 : w.heap.size ≤ lo2) (hd : Hd A m c) (hlo : lo ≤ w.heap.size)
    (hown : w3.ownsRow lo 22 1 v' (n + 1) (hs.map slv ++ [.slice A m c])) (hg : (w1.alloc (.cells #[.slice A m c] T)).grownBy w3 v.ownBlock) (hv : v'.ownBlock = v.ownBlock ∨ v'.ownBlock = some (w1.alloc (.cells #[.slice A m c] T)).heap.size) :
    OwT w3 lo w3.heap.size v' (n + 1) (hs ++ [(A, m, c)]) (xss ++ [ys]) ∧ Below lo w w3 := by
  have hs := hb.size
  have hT := (h.below hb hhi).alloc (by omega) (.cells #[.slice A m c] T)
  refine ⟨hT.push (hd := (A, m, c)) hown hg hv (hr.alloc (Nat.le_refl _) _) hd (by omega) (by omega) (by simp) (by simp; omega), ?_⟩
  exact ((hb.mono hlo).alloc (by omega) _).grown hg (by simp; omega) (fun q e => (hT.tbl.lt q e).1)
theorem rowsOf_any {B : Nat} (p : Int) (R C n k : Nat) (A : Option Addr) (d : List Int) (w : World) (h : RdI w B A n d) (hd : Hd A n k) (hB : B ≤ w.heap.size) (hR : R ≤ 100000) (hC : C ≤ 100000) (hl : n = R * C) (hn : n ≤ 1073741824) :
    Calls Try.prog 44 #[.agg #[.int .i64 p, .int .i64 R, .int .i64 C, .slice A n k]] w (RetT (rowsD C d R) w) := by
  have HL := Lib.hid hl
  have hW1 : RdI (w.alloc (.cells #[.int .i64 p, .int .i64 R, .int .i64 C, .slice A n k] 27)) B A n d := h.alloc hB _
  have hX1 := Box.new w #[.int .i64 p, .int .i64 R, .int .i64 C, .slice A n k] 27
  clear hl h
  go_enter Try.func44, Try.ntmps44
  go_wp2_with fail
  go_loopw [3, 8] (fun v i wr => ∃ (j hi : Nat) (hs : List Hdr), j ≤ R ∧ i = .int .i64 j ∧ OwT wr (w.heap.size + 1) hi v j hs (rowsD C d j) ∧ Below (w.heap.size + 1) (w.alloc (.cells #[.int .i64 p, .int .i64 R, .int .i64 C, .slice A n k] 27)) wr ∧ hi ≤ wr.heap.size) (fun _ i _ => R - (intOf i).toNat)
  case atStart => exact ⟨0, _, [], by omega, rfl, by have := OwT.made (w.alloc (.cells #[.int .i64 p, .int .i64 R, .int .i64 C, .slice A n k] 27)); simp only [World.size_alloc] at this; exact this, (Below.refl _ _).alloc (by simp) _, by simp⟩
  case round =>
    obtain ⟨j, hi, hs, hj, rfl, hT, hB1, hhi⟩ := hrel
    have hsz := hB1.size
    rw [World.size_alloc] at hsz
    by_cases hlt : j < R
    · obtain ⟨e1, e2, e3, e4, e5, e6⟩ := row_bd (C := C) hlt
      have hx := hX1.below hB1 (by omega)
      have hr := hW1.below hB1 (by omega)
      obtain ⟨x0, x1, x2, x3⟩ := hx.four
      have hle : j * C + C ≤ n := by rw [HL.out]; exact e6
      have hnn : (R : Int) * C = n := by rw [HL.out, Int.natCast_mul]
      obtain ⟨A', hd', hp', hrun⟩ := part_run (A := A) (n := n) (k := k) (lo := j * C) (hi := j * C + C) ((j : Int) * C) (((j : Int) + 1) * C) (by rw [Int.natCast_mul]) (by rw [← e2, Int.natCast_add, Int.natCast_mul]) hd (by omega) hle
      rw [show j * C + C - j * C = C by omega] at hd' hp' hrun
      have hpr := hp' _ _ _ hr
      have hcn : j ≤ 1073741824 := by omega
      have HS := Lib.hid (rowsD_succ C d j)
      clear hp' e4 e5
      go_wp2_with (first | (go_at_call 59; refine (clone_any A' C _ _ _ hpr hd' (by omega) (by omega)).mono ?_; rintro e w1 ⟨A1, n1, c1, rfl, hd1, hb1, ho1⟩; have hT1 := hT.below hb1 hhi; have hs1 := hb1.size) | (at_builtin; refine wpList_apT (v := u3) (w := w1.alloc (.cells #[.slice A1 n1 c1] 22)) (lo := w.heap.size + 1) (b := w1.heap.size) (u := .slice A1 n1 c1) rfl (.tmp 11) (.tmp 25) rfl rfl (hT1.alloc (by omega) _).tbl rfl (Box.new w1 _ _).one rfl hcn (by rw [World.size_alloc]; omega) ?_; intro v2 w3 ho2 hg2 hv2))
      obtain ⟨hT3, hB3⟩ := hT.pushed hhi hb1 ho1 (Nat.le_refl _) hd1 (by omega) ho2 hg2 hv2
      have hB4 := hB1.trans hB3
      clear hT1 hT ho1 hb1 ho2 hg2 hv2 hpr hr hrun hx x0 x1 x2 x3
      go_wp2
      go_roundw
      case rel => exact ⟨j + 1, _, _, by omega, by go_num, by rw [HS.out]; exact hT3, hB4, Nat.le_refl _⟩
      case measure => simp [intOf]; omega
    · have hjR : j = R := by omega
      subst hjR
      obtain ⟨A', c', rfl, hd'⟩ := hT.hd
      go_wp2
      go_ret
      exact ⟨_, _, _, rfl, hd', ((Below.refl _ _).alloc (Nat.le_refl _) _).trans (hB1.mono (by omega)), _, (hT.up hhi).down (by omega)⟩
end Go.Proofs.Yteepnimmbofmlaa
