/- rowsOf, span's copies: tables of rows. No condition but what each theorem names. -/
import Derived.Test.YtnkcjekfjlbcdaaGreatDoorTbl
import Derived.Test.YtnkcjekfjlbcdaaGreatDoorRr
import Derived.Test.YtnkcjekfjlbcdaaGreatDoorLawK
namespace Go.Proofs.YtnkcjekfjlbcdaaGreatDoor
set_option linter.unusedVariables false
set_option linter.unusedSimpArgs false
set_option maxRecDepth 20000
open Go.RowKit
set_option maxHeartbeats 1000000
/-- the first m rows of C numbers each -/
def rowsD (C : Nat) (d : List Int) (m : Nat) : List (List Int) := (List.range m).map fun i => sub d (i * C) C
theorem rowsD_succ (C : Nat) (d : List Int) (m : Nat) : rowsD C d (m + 1) = rowsD C d m ++ [sub d (m * C) C] := by simp [rowsD, List.range_succ]
theorem rowsD_len (C : Nat) (d : List Int) (m : Nat) : (rowsD C d m).length = m := by simp [rowsD]
theorem rowsD_row {C : Nat} {d : List Int} {m i : Nat} (h : i < m) : row (rowsD C d m) i = sub d (i * C) C := by
  rw [row_lt (by rw [rowsD_len]; exact h)]; simp [rowsD]
/-- one row more, of a call's own, by way of a one-cell block -/
theorem OwT.pushed {w w1 w3 : World} {lo hi n : Nat} {v v' : Value} {hs : List Hdr} {xss : List (List Int)} {A : Option Addr} {m c lo2 : Nat} {ys : List Int} {T : TypeId} (h : OwT w lo hi v n hs xss) (hhi : hi ≤ w.heap.size) (hb : Below w.heap.size w w1) (hr : OwI w1 lo2 w1.heap.size A m ys) (hlo2 : w.heap.size ≤ lo2) (hd : Hd A m c) (hlo : lo ≤ w.heap.size)
    (hown : w3.ownsRow lo 22 1 v' (n + 1) (hs.map slv ++ [.slice A m c])) (hg : (w1.alloc (.cells #[.slice A m c] T)).grownBy w3 v.ownBlock) (hv : v'.ownBlock = v.ownBlock ∨ v'.ownBlock = some (w1.alloc (.cells #[.slice A m c] T)).heap.size) :
    OwT w3 lo w3.heap.size v' (n + 1) (hs ++ [(A, m, c)]) (xss ++ [ys]) ∧ Below lo w w3 := by
  have hs := hb.size
  have hT := (h.below hb hhi).alloc (by omega) (.cells #[.slice A m c] T)
  refine ⟨hT.push (hd := (A, m, c)) hown hg hv (hr.alloc (Nat.le_refl _) _) hd (by omega) (by omega) (by simp) (by simp; omega), ?_⟩
  exact ((hb.mono hlo).alloc (by omega) _).grown hg (by simp; omega) (fun q e => (hT.tbl.lt q e).1)
end Go.Proofs.YtnkcjekfjlbcdaaGreatDoor
