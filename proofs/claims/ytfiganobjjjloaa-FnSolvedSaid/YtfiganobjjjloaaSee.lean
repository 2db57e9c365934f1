/- A slice of bools that the call makes; rows with one number more. No condition but what each theorem names. -/
import Derived.Test.YtfiganobjjjloaaUndW
import Derived.Test.YtfiganobjjjloaaMeet
namespace Go.Proofs.Ytfiganobjjjloaa
set_option linter.unusedVariables false
set_option linter.unusedSimpArgs false
set_option maxRecDepth 20000
open Go.RowKit Go.Sort
theorem Try.infoB : (Try.prog.info? 4).map (fun i => (i.zero, i.size, i.bytes)) = some (some (.bool false), 1, 1) := by kernel_rfl
/-- the cells of a slice of bools -/
def bcs (f : Nat → Bool) (n : Nat) : Array Value := ((List.range n).map fun j => Value.bool (f j)).toArray
theorem bcs_get {f : Nat → Bool} {n j : Nat} (h : j < n) : (bcs f n)[j]? = some (.bool (f j)) := by simp [bcs, h]
theorem bcs_set {f : Nat → Bool} {n i : Nat} (h : i < n) : (bcs f n).setIfInBounds i (.bool true) = bcs (fun j => j == i || f j) n := by
  apply Array.ext
  · simp [bcs]
  · intro k h1 h2
    have hk : k < n := by simpa [bcs] using h2
    by_cases e : i = k
    · subst e; simp [bcs, Array.getElem_setIfInBounds]
    · have e2 : (k == i) = false := by simp; omega
      simp [bcs, Array.getElem_setIfInBounds, e, e2]
theorem mkB_run (L : Int) (n : Nat) (hL : L = n) (hn : n ≤ 1073741824) : ∀ w : World, Sem.run Try.prog (Instr.makeSlice 42 (.int .i64 L) (.int .i64 L)) w = .ok (.slice (some ⟨w.heap.size, 0, none⟩) n n) (w.alloc (.cells (bcs (fun _ => false) n) 4)) := by
  intro w
  subst hL
  obtain ⟨i, h2, h3, h4, h5⟩ := info_parts Try.infoB
  have := run_make w 42 4 i (.bool false) Try.underlying42 h2 h3 .i64 .i64 (n : Int) n (by omega) (Int.le_refl _) (by rw [h5]; omega) (by omega)
  simp only [Int.toNat_natCast, h4, Nat.mul_one] at this
  have e : madeCells (Value.cells (.bool false)) n = bcs (fun _ => false) n := by
    apply Array.toList_inj.1
    rw [show Value.cells (.bool false) = #[.bool false] from rfl, toList_madeCells_one]
    simp [bcs, List.map_const']
  rw [← e]
  exact this
theorem seen_step {l : List Nat} {t : Nat} (ht : t < l.length) : (fun j => j == pg l t || (l.take t).contains j) = fun j => (l.take (t + 1)).contains j := by
  funext j
  rw [List.take_succ_eq_append_getElem ht, pg_lt ht, Bool.eq_iff_iff]
  simp only [Bool.or_eq_true, beq_iff_eq, List.contains_iff_mem, List.mem_append, List.mem_singleton]
  exact or_comm
theorem solX_le (s : RS) (C : Nat) : (solX s C).length ≤ C := by
  unfold solX
  split
  · exact Nat.zero_le _
  · simp
theorem solX_res {s : RS} {C : Nat} {p : Int} (hp : 1 ≤ p) (hf : ResF s.f p) : resB (solX s C) p = true := by
  unfold solX
  split
  · rfl
  · refine resB_true fun k hk => ?_
    rw [gI_lt hk]
    simp only [List.getElem_map]
    unfold solP
    split
    · exact hf _ _
    · omega
/-- the wide matrix, row by row -/
theorem tabR_snoc (m C : Nat) (f : Tb) : tabR (m + 1) C f = tabR m C f ++ [(List.range C).map (f m)] := by simp [tabR, List.range_succ]
theorem wide_succ {R C : Nat} {d v : List Int} {i : Nat} (hl : d.length = R * C) (hi : i < R) : tab (i + 1) (C + 1) (augF (matF d C) v C) = tab i (C + 1) (augF (matF d C) v C) ++ sub d (i * C) C ++ [gI v i] := by
  rw [← flat_tabR, tabR_snoc, List.flatten_append, flat_tabR, List.append_assoc]
  congr 1
  rw [List.flatten_cons, List.flatten_nil, List.append_nil]
  have hle : i * C + C ≤ d.length := by rw [hl]; exact (row_bd (C := C) hi).2.2.2.2.2
  refine ext_gI (by rw [List.length_append, sub_len hle]; simp) fun j hj => ?_
  have hj' : j < C + 1 := by simpa using hj
  rw [gI_lt hj]
  simp only [List.getElem_map, List.getElem_range]
  by_cases e : j < C
  · rw [augF_lt e]
    have : gI (sub d (i * C) C ++ [gI v i]) j = gI (sub d (i * C) C) j := by
      unfold gI; simp only [List.getD_eq_getElem?_getD]; rw [List.getElem?_append_left (by rw [sub_len hle]; exact e)]
    rw [this, sub_get e]; rfl
  · obtain rfl : j = C := by omega
    rw [augF_at]
    unfold gI
    rw [List.getD_eq_getElem?_getD (l := sub d (i * j) j ++ _), List.getElem?_append_right (by rw [sub_len hle]; exact Nat.le_refl _), sub_len hle]
    simp
end Go.Proofs.Ytfiganobjjjloaa
