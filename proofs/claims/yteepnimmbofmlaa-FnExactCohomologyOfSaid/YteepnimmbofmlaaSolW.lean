/- solve of the program. No condition but what each theorem names. -/
import Derived.Test.YteepnimmbofmlaaTbl
import Derived.Test.YteepnimmbofmlaaKernW
import Derived.Deep.RegionHeld3
import Derived.Deep.DeepCutAuto
import Derived.Outline
namespace Go.Proofs.Yteepnimmbofmlaa
set_option linter.unusedVariables false
set_option linter.unusedSimpArgs false
set_option maxRecDepth 20000
open Go.RowKit
set_option maxHeartbeats 4000000
/-- a call that hands back a new slice of integers, known whole -/
def RetO (xs : List Int) (w : World) (e : Ending) (w' : World) : Prop :=
  ∃ v, e = .returned v ∧ w'.ownsRow w.heap.size 3 1 v xs.length (xs.map (Value.int .i64)) ∧ Below w.heap.size w w'
theorem clone_own {B : Nat} (A : Option Addr) (n c : Nat) (xs : List Int) (w : World) (h : RdI w B A n xs) (hd : Hd A n c) (hB : B ≤ w.heap.size) (hn : n ≤ 1073741824) :
    Calls Try.prog 59 #[.slice A n c] w (RetO xs w) := by
  have hnil := fun (w : World) (a : Option Addr) (n c n' c' : Nat) => Lib.run_eql_slice_nil (P := Try.prog) w 22 3 a n c n' c' Try.underlying22
  have HL := Lib.hid h.1
  rcases hd with ⟨rfl, rfl, rfl⟩ | ⟨b, o, rfl, h1, h2⟩
  · have hx := h.nilOf
    subst hx
    go_enter Try.func59, Try.ntmps59
    go_wp2
    go_ret
    exact ⟨_, rfl, World.ownsRow_nil _ _ _ _, Below.refl _ _⟩
  · go_enter Try.func59, Try.ntmps59
    go_wp2_with (at_builtin; refine wpList_apI (v := .slice (some ⟨w.heap.size, 0, none⟩) 0 0) (w := w.alloc (.cells #[] 3)) (lo := w.heap.size) (n := 0) (xs := []) rfl (.tmp 5) (.tmp 6) rfl rfl (World.ownsRow_lit w #[] 0 (Nat.le_refl _) (by unfold maxLen; omega) rfl) rfl (h.alloc hB _) (Hd.mk h1 h2) (by omega) (by simp) ?_; intro v1 w1 ho hg hv)
    have hb : Below w.heap.size w w1 := ((Below.refl _ _).alloc (Nat.le_refl _) _).grown hg (by simp) (fun q e => by injection e with e; have e' : w.heap.size = q := e; omega)
    go_ret
    rw [Nat.zero_add] at ho
    exact ⟨_, rfl, by rw [HL.out]; simpa using ho, hb⟩
/-- the rows, each with its number of v behind it -/
def augL (xss : List (List Int)) (v : List Int) (m : Nat) : List (List Int) := (List.range m).map fun i => row xss i ++ [gI v i]
theorem augL_succ (xss : List (List Int)) (v : List Int) (m : Nat) : augL xss v (m + 1) = augL xss v m ++ [row xss m ++ [gI v m]] := by simp [augL, List.range_succ]
def augF (f : Tb) (v : List Int) (C : Nat) : Tb := fun i j => if j < C then f i j else gI v i
theorem augL_FF {xss : List (List Int)} {R C : Nat} {f : Tb} (h : FF xss R C f) (v : List Int) : FF (augL xss v R) R (C + 1) (augF f v C) := by
  intro i hi
  have hr : row (augL xss v R) i = row xss i ++ [gI v i] := by rw [row_lt (by simp [augL]; exact hi)]; simp [augL]
  obtain ⟨h1, h2⟩ := h i hi
  rw [hr]
  refine ⟨by simp [h1], fun j hj => ?_⟩
  unfold augF
  by_cases e : j < C
  · rw [if_pos e, ← h2 j e]
    unfold gI
    rw [List.getD_eq_getElem?_getD, List.getElem?_append_left (by rw [h1]; exact e), ← List.getD_eq_getElem?_getD]
  · rw [if_neg e]
    have : j = C := by omega
    subst this
    rw [gI_lt (by simp [h1])]
    rw [List.getElem_append_right (by rw [h1]; exact Nat.le_refl _)]
    simp
theorem augF_res {f : Tb} {v : List Int} {C : Nat} {p : Int} (hp : 1 ≤ p) (hf : ResF f p) (hv : resB v p = true) : ResF (augF f v C) p := by
  intro i j
  unfold augF
  split
  · exact hf i j
  · exact gI_res hp hv i
/-- the unknowns that the first t pivots give -/
def solP (s : RS) (C t : Nat) (j : Nat) : Int := if s.pv.idxOf j < t then s.f (s.pv.idxOf j) C else 0
theorem solP_succ {s : RS} {C t : Nat} (hs : s.pv.Pairwise (· < ·)) (ht : t < s.pv.length) (j : Nat) : (if j = pg s.pv t then s.f t C else solP s C t j) = solP s C (t + 1) j := by
  by_cases e : j = pg s.pv t
  · subst e
    rw [if_pos rfl]; unfold solP
    rw [idx_pg hs ht, if_pos (by omega)]
  · rw [if_neg e]; unfold solP
    have : s.pv.idxOf j ≠ t := fun e3 => e (by
      have h1 : s.pv.idxOf j < s.pv.length := by omega
      have h2 : s.pv[s.pv.idxOf j] = j := List.getElem_idxOf h1
      rw [pg_lt ht]; rw [← h2]; congr 1)
    by_cases e4 : s.pv.idxOf j < t
    · rw [if_pos e4, if_pos (by omega)]
    · rw [if_neg e4, if_neg (by omega)]
/-- what is found, and whether -/
def solB (s : RS) (C : Nat) : Bool := !s.pv.contains C
def solX (s : RS) (C : Nat) : List Int := if s.pv.contains C then [] else (List.range C).map (solP s C s.pv.length)
theorem rep_map {C : Nat} (s : RS) : List.replicate C 0 = (List.range C).map (solP s C 0) := by
  refine ext_gI (by simp) fun j hj => ?_
  rw [List.length_replicate] at hj
  rw [gI_lt (by simpa using hj), gI_lt (by simpa using hj)]
  simp [solP]
end Go.Proofs.Yteepnimmbofmlaa
