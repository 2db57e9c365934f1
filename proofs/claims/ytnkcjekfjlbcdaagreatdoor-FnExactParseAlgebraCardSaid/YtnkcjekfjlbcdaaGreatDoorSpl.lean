/- A text cut at its blanks: what strings.Split hands back. No program in sight. -/
import Derived.Test.YtnkcjekfjlbcdaaGreatDoorPrs
import Derived.Lib.Split
namespace Go.Proofs.YtnkcjekfjlbcdaaGreatDoor
set_option linter.unusedVariables false
set_option linter.unusedSimpArgs false
set_option maxRecDepth 20000
open Go
theorem idx_none : ∀ l : List UInt8, 32 ∉ l → Lib.index l [32] = -1
  | [], _ => rfl
  | c :: r, h => by
    have h1 : c ≠ 32 := fun e => h (by simp [e])
    have ih := idx_none r (fun h2 => h (by simp [h2]))
    rw [Lib.index, ih, if_neg (by simp [List.isPrefixOf]; exact fun e => h1 e.symm)]
    rfl
theorem idx_cut : ∀ a b : List UInt8, 32 ∉ a → Lib.index (a ++ 32 :: b) [32] = a.length
  | [], b, _ => by rw [List.nil_append, Lib.index, if_pos (by simp [List.isPrefixOf])]; rfl
  | c :: r, b, h => by
    have h1 : c ≠ 32 := fun e => h (by simp [e])
    have ih := idx_cut r b (fun h2 => h (by simp [h2]))
    rw [List.cons_append, Lib.index, ih, if_neg (by simp [List.isPrefixOf]; exact fun e => h1 e.symm), if_neg (by simp)]
    simp
theorem spl_all : ∀ (m : Nat) (l : List UInt8), l.length ≤ m → Lib.splitK [32] 0 (Lib.count l [32]) l = splitW l ∧ Lib.count l [32] + 1 = (splitW l).length ∧ ∀ x ∈ splitW l, x.length ≤ l.length
  | 0, l, h => by
    obtain rfl : l = [] := List.eq_nil_of_length_eq_zero (by omega)
    have h1 : (32 : UInt8) ∉ ([] : List UInt8) := by simp
    rw [splitW_none h1, Lib.count_miss (idx_none _ h1)]
    refine ⟨rfl, rfl, ?_⟩
    simp
  | m + 1, l, h => by
    by_cases h1 : (32 : UInt8) ∈ l
    · obtain ⟨a, b, rfl, ha⟩ := List.eq_append_cons_of_mem h1
      have hb : b.length ≤ m := by simp only [List.length_append, List.length_cons] at h; omega
      obtain ⟨i1, i2, i3⟩ := spl_all m b hb
      have hi := idx_cut a b ha
      have hd : (a ++ 32 :: b).drop (a.length + ([32] : List UInt8).length) = b := by
        rw [show a ++ 32 :: b = (a ++ [32]) ++ b by simp]
        exact List.drop_left' (by simp)
      have hc := Lib.count_hit (s := a ++ 32 :: b) (sub := [32]) (by simp) hi
      rw [hd] at hc
      rw [splitW_cut ha, hc]
      refine ⟨?_, ?_, ?_⟩
      · rw [Nat.add_comm, Lib.splitK, if_neg (by rw [hi]; simp), hi, Int.toNat_natCast, hd, i1]
        simp
      · simp only [List.length_cons]; omega
      · intro x hx
        simp only [List.length_append, List.length_cons]
        rcases List.mem_cons.1 hx with e | e
        · subst e; omega
        · have := i3 x e; omega
    · rw [splitW_none h1, Lib.count_miss (idx_none _ h1)]
      refine ⟨rfl, rfl, ?_⟩
      simp
theorem splitB_words (s : ByteArray) : (Lib.splitB ⟨#[32]⟩ 0 (Lib.countB s ⟨#[32]⟩) s).map (·.data.toList) = splitW s.data.toList := by
  rw [Lib.splitB_data]
  exact (spl_all _ _ (Nat.le_refl _)).1
theorem splitW_at {a b : List UInt8} {D : List (List UInt8)} {cur : List UInt8} (h : cutF a = (D, cur)) : splitW (a ++ 32 :: b) = D ++ cur :: splitW b := by
  unfold splitW cutF at *
  rw [List.foldl_append, h, List.foldl_cons, show cutS (D, cur) 32 = (D ++ [cur], []) by simp [cutS], cut_gen]
  simp
theorem splitW_end {a : List UInt8} {D : List (List UInt8)} {cur : List UInt8} (h : cutF a = (D, cur)) : splitW a = D ++ [cur] := by unfold splitW; rw [h]
/-- what has begun is the end of what was read -/
theorem cutF_tail : ∀ (m : Nat) (l : List UInt8), l.length = m → ∃ D cur a, cutF l = (D, cur) ∧ l = a ++ cur
  | 0, l, h => by
    obtain rfl : l = [] := List.eq_nil_of_length_eq_zero h
    exact ⟨[], [], [], rfl, rfl⟩
  | m + 1, l, h => by
    obtain ⟨r, c, rfl⟩ : ∃ r c, l = r ++ [c] := by
      rcases List.eq_nil_or_concat l with e | ⟨r, c, e⟩
      · subst e; simp at h
      · exact ⟨r, c, by rw [e, List.concat_eq_append]⟩
    obtain ⟨D, cur, a, h1, h2⟩ := cutF_tail m r (by simpa using h)
    by_cases hc : c = 32
    · exact ⟨D ++ [cur], [], r ++ [c], by rw [cutF_snoc, h1]; simp [cutS, hc], by simp⟩
    · exact ⟨D, cur ++ [c], a, by rw [cutF_snoc, h1]; simp [cutS, hc], by rw [h2]; simp⟩
end Go.Proofs.YtnkcjekfjlbcdaaGreatDoor
