/- The text of an algebra read back. No program in sight. -/
import Derived.Test.YtnkcjekfjlbcdaaGreatDoorFal
import Derived.Test.YtnkcjekfjlbcdaaGreatDoorPrsW
import Derived.Test.YtnkcjekfjlbcdaaGreatDoorAtoW
namespace Go.Proofs.YtnkcjekfjlbcdaaGreatDoor
set_option linter.unusedVariables false
set_option linter.unusedSimpArgs false
set_option maxRecDepth 20000
open Go
/-! ### a text cut at its line ends -/
def lnS (st : List (List UInt8) × List UInt8) (c : UInt8) : List (List UInt8) × List UInt8 := if c = 10 then (st.1 ++ [st.2], []) else (st.1, st.2 ++ [c])
def lnF (l : List UInt8) : List (List UInt8) × List UInt8 := l.foldl lnS ([], [])
def splitL (l : List UInt8) : List (List UInt8) := (lnF l).1 ++ [(lnF l).2]
theorem lnF_snoc (l : List UInt8) (c : UInt8) : lnF (l ++ [c]) = lnS (lnF l) c := by unfold lnF; rw [List.foldl_append]; rfl
theorem ln_gen (l : List UInt8) : ∀ (D : List (List UInt8)) (cur : List UInt8), l.foldl lnS (D, cur) = (D ++ (l.foldl lnS ([], cur)).1, (l.foldl lnS ([], cur)).2) := by
  induction l with
  | nil => intro D cur; simp
  | cons c r ih =>
    intro D cur
    simp only [List.foldl_cons]
    by_cases h : c = 10
    · rw [show lnS (D, cur) c = (D ++ [cur], []) by simp [lnS, h], show lnS ([], cur) c = ([cur], []) by simp [lnS, h], ih (D ++ [cur]) [], ih [cur] []]
      simp
    · rw [show lnS (D, cur) c = (D, cur ++ [c]) by simp [lnS, h], show lnS ([], cur) c = ([], cur ++ [c]) by simp [lnS, h]]
      exact ih D _
theorem ln_none : ∀ (l : List UInt8) (cur : List UInt8), 10 ∉ l → l.foldl lnS ([], cur) = ([], cur ++ l)
  | [], cur, _ => by simp
  | c :: r, cur, h => by
    have h1 : c ≠ 10 := fun e => h (by simp [e])
    simp only [List.foldl_cons]
    rw [show lnS ([], cur) c = ([], cur ++ [c]) by unfold lnS; rw [if_neg h1], ln_none r _ (fun h2 => h (by simp [h2]))]
    simp
theorem splitL_none {l : List UInt8} (h : 10 ∉ l) : splitL l = [l] := by unfold splitL lnF; rw [ln_none l [] h]; rfl
theorem splitL_cut {a b : List UInt8} (h : 10 ∉ a) : splitL (a ++ 10 :: b) = a :: splitL b := by
  unfold splitL lnF
  rw [List.foldl_append, ln_none a [] h, List.foldl_cons, show lnS ([], [] ++ a) 10 = ([a], []) by simp [lnS], ln_gen]
  simp
theorem lnF_app {a b : List UInt8} {D : List (List UInt8)} (h : lnF a = (D, [])) : lnF (a ++ b) = (D ++ (lnF b).1, (lnF b).2) := by
  unfold lnF at *
  rw [List.foldl_append, h, ln_gen]
theorem lnF_line {x : List UInt8} (h : 10 ∉ x) : lnF (x ++ [10]) = ([x], []) := by
  rw [lnF_snoc]; unfold lnF; rw [ln_none x [] h]; simp [lnS]
/-- what has begun is the end of what was read -/
theorem lnF_tail : ∀ (m : Nat) (l : List UInt8), l.length = m → ∃ D cur a, lnF l = (D, cur) ∧ l = a ++ cur ∧ D.length ≤ a.length ∧ ∀ x ∈ D, x.length ≤ l.length
  | 0, l, h => by
    obtain rfl : l = [] := List.eq_nil_of_length_eq_zero h
    exact ⟨[], [], [], rfl, rfl, Nat.le_refl _, fun x hx => by cases hx⟩
  | m + 1, l, h => by
    obtain ⟨r, c, rfl⟩ : ∃ r c, l = r ++ [c] := by
      rcases List.eq_nil_or_concat l with e | ⟨r, c, e⟩
      · subst e; simp at h
      · exact ⟨r, c, by rw [e, List.concat_eq_append]⟩
    obtain ⟨D, cur, a, h1, h2, h3, h4⟩ := lnF_tail m r (by simpa using h)
    by_cases hc : c = 10
    · refine ⟨D ++ [cur], [], r ++ [c], by rw [lnF_snoc, h1]; simp [lnS, hc], by simp, by rw [h2]; simp; omega, fun x hx => ?_⟩
      rw [List.length_append]
      rcases List.mem_append.1 hx with k | k
      · have := h4 x k; omega
      · obtain rfl : x = cur := by simpa using k
        rw [h2, List.length_append]; omega
    · refine ⟨D, cur ++ [c], a, by rw [lnF_snoc, h1]; simp [lnS, hc], by rw [h2]; simp, h3, fun x hx => ?_⟩
      have := h4 x hx
      rw [List.length_append]; omega
/-! ### strings.Split at line ends -/
theorem idx10_none : ∀ l : List UInt8, 10 ∉ l → Lib.index l [10] = -1
  | [], _ => rfl
  | c :: r, h => by
    have h1 : c ≠ 10 := fun e => h (by simp [e])
    have ih := idx10_none r (fun h2 => h (by simp [h2]))
    rw [Lib.index, ih, if_neg (by simp [List.isPrefixOf]; exact fun e => h1 e.symm)]
    rfl
theorem idx10_cut : ∀ a b : List UInt8, 10 ∉ a → Lib.index (a ++ 10 :: b) [10] = a.length
  | [], b, _ => by rw [List.nil_append, Lib.index, if_pos (by simp [List.isPrefixOf])]; rfl
  | c :: r, b, h => by
    have h1 : c ≠ 10 := fun e => h (by simp [e])
    have ih := idx10_cut r b (fun h2 => h (by simp [h2]))
    rw [List.cons_append, Lib.index, ih, if_neg (by simp [List.isPrefixOf]; exact fun e => h1 e.symm), if_neg (by simp)]
    simp
theorem spl10_all : ∀ (m : Nat) (l : List UInt8), l.length ≤ m → Lib.splitK [10] 0 (Lib.count l [10]) l = splitL l ∧ Lib.count l [10] + 1 = (splitL l).length
  | 0, l, h => by
    obtain rfl : l = [] := List.eq_nil_of_length_eq_zero (by omega)
    have h1 : (10 : UInt8) ∉ ([] : List UInt8) := by simp
    rw [splitL_none h1, Lib.count_miss (idx10_none _ h1)]
    exact ⟨rfl, rfl⟩
  | m + 1, l, h => by
    by_cases h1 : (10 : UInt8) ∈ l
    · obtain ⟨a, b, rfl, ha⟩ := List.eq_append_cons_of_mem h1
      have hb : b.length ≤ m := by simp only [List.length_append, List.length_cons] at h; omega
      obtain ⟨i1, i2⟩ := spl10_all m b hb
      have hi := idx10_cut a b ha
      have hd : (a ++ 10 :: b).drop (a.length + ([10] : List UInt8).length) = b := by
        rw [show a ++ 10 :: b = (a ++ [10]) ++ b by simp]
        exact List.drop_left' (by simp)
      have hc := Lib.count_hit (s := a ++ 10 :: b) (sub := [10]) (by simp) hi
      rw [hd] at hc
      rw [splitL_cut ha, hc]
      refine ⟨?_, ?_⟩
      · rw [Nat.add_comm, Lib.splitK, if_neg (by rw [hi]; simp), hi, Int.toNat_natCast, hd, i1]
        simp
      · simp only [List.length_cons]; omega
    · rw [splitL_none h1, Lib.count_miss (idx10_none _ h1)]
      exact ⟨rfl, rfl⟩
theorem splitB_lines (s : ByteArray) : (Lib.splitB ⟨#[10]⟩ 0 (Lib.countB s ⟨#[10]⟩) s).map (·.data.toList) = splitL s.data.toList := by
  rw [Lib.splitB_data]
  exact (spl10_all _ _ (Nat.le_refl _)).1
/-! ### numbers written and read -/
theorem itoa_chars (n : Int) : ∀ c ∈ Lib.itoa n, c.toNat = 45 ∨ 48 ≤ c.toNat := by
  have hd : ∀ c ∈ Lib.decDigits n.natAbs, c.toNat = 45 ∨ 48 ≤ c.toNat := fun c h => .inr (dec_digs n.natAbs _ h).1
  by_cases h : n < 0
  · have e : Lib.itoa n = 45 :: Lib.decDigits n.natAbs := by unfold Lib.itoa; rw [if_pos h]
    rw [e]
    intro c hm
    rcases List.mem_cons.1 hm with h1 | h1
    · subst h1; exact .inl rfl
    · exact hd c h1
  · have e : Lib.itoa n = Lib.decDigits n.natAbs := by unfold Lib.itoa; rw [if_neg h]; congr 1; omega
    rw [e]; exact hd
theorem itoa_not {b : UInt8} (hb : b.toNat < 45) (n : Int) : b ∉ Lib.itoa n := fun h => by
  have := itoa_chars n _ h
  omega
theorem itoa_nn (n : Int) : Lib.itoa n ≠ [] := by
  by_cases h : n < 0
  · have e : Lib.itoa n = 45 :: Lib.decDigits n.natAbs := by unfold Lib.itoa; rw [if_pos h]
    rw [e]; simp
  · have e : Lib.itoa n = Lib.decDigits n.natAbs := by unfold Lib.itoa; rw [if_neg h]; congr 1; omega
    rw [e]; exact dec_ne _
theorem fmt_cons (x y : Int) (r : List Int) : fmtL (x :: y :: r) = Lib.itoa x ++ 32 :: fmtL (y :: r) := by
  unfold fmtL
  rw [List.map_cons, List.map_cons, Lib.join_cons, Lib.join_cons]
  unfold Lib.joinTail
  simp
theorem fmt_split : ∀ (r : List Int) (x : Int), splitW (fmtL (x :: r)) = (x :: r).map Lib.itoa
  | [], x => by rw [fmtL_one, splitW_none (itoa_not (by decide) x)]; rfl
  | y :: r, x => by rw [fmt_cons, splitW_cut (itoa_not (by decide) x), fmt_split r y]; rfl
theorem fmt_no10 : ∀ (xs : List Int), (10 : UInt8) ∉ fmtL xs
  | [] => by simp [fmtL, Lib.join]
  | [x] => by rw [fmtL_one]; exact itoa_not (by decide) x
  | x :: y :: r => by
    rw [fmt_cons]
    intro h
    rcases List.mem_append.1 h with k | k
    · exact itoa_not (by decide) x k
    · rcases List.mem_cons.1 k with q | q
      · exact absurd q (by decide)
      · exact fmt_no10 (y :: r) q
def nineP (xs : List Int) : Prop := ∀ x ∈ xs, -999999999 ≤ x ∧ x ≤ 999999999
theorem parW_nine : ∀ (xs : List Int), nineP xs → parW (xs.map Lib.itoa) = some xs
  | [], _ => rfl
  | x :: r, h => by
    have h1 := numW_some (n := x) (l := Lib.itoa x) ⟨(h x (by simp)).1, (h x (by simp)).2, rfl⟩
    have h2 := parW_nine r (fun y hy => h y (by simp [hy]))
    rw [List.map_cons]
    simp only [parW, h1, h2]
theorem parL_fmt (xs : List Int) (h : nineP xs) : parL (fmtL xs) = some xs := by
  cases xs with
  | nil =>
    have e : fmtL [] = [] := rfl
    rw [e]; unfold parL; rw [if_pos rfl]
  | cons x r =>
    have hne : fmtL (x :: r) ≠ [] := by
      cases r with
      | nil => rw [fmtL_one]; exact itoa_nn x
      | cons y r => rw [fmt_cons]; simp
    rw [parL_ne hne, fmt_split]
    exact parW_nine _ h
/-! ### lines read -/
def btw (a x b : Int) : Bool := decide (a ≤ x) && decide (x ≤ b)
theorem btw_iff {a x b : Int} : btw a x b = true ↔ a ≤ x ∧ x ≤ b := by unfold btw; simp
def strB (p N : Int) (xs : List Int) : Bool := decide (xs.length = 4) && btw 0 (gI xs 0) (N - 1) && btw (gI xs 0 + 1) (gI xs 1) (N - 1) && btw 0 (gI xs 2) (N - 1) && btw 1 (gI xs 3) (p - 1)
def looB (_ N : Int) (xs : List Int) : Bool := decide (xs.length = 4) && btw 0 (gI xs 0) (N - 1) && btw 0 (gI xs 1) (N - 1) && btw 0 (gI xs 2) (N - 1)
theorem strB_iff {p N : Int} {xs : List Int} : strB p N xs = true ↔ xs.length = 4 ∧ (0 ≤ gI xs 0 ∧ gI xs 0 ≤ N - 1) ∧ (gI xs 0 + 1 ≤ gI xs 1 ∧ gI xs 1 ≤ N - 1) ∧ (0 ≤ gI xs 2 ∧ gI xs 2 ≤ N - 1) ∧ (1 ≤ gI xs 3 ∧ gI xs 3 ≤ p - 1) := by
  unfold strB; simp only [Bool.and_eq_true, btw_iff, decide_eq_true_eq]; omega
theorem looB_iff {p N : Int} {xs : List Int} : looB p N xs = true ↔ xs.length = 4 ∧ (0 ≤ gI xs 0 ∧ gI xs 0 ≤ N - 1) ∧ (0 ≤ gI xs 1 ∧ gI xs 1 ≤ N - 1) ∧ (0 ≤ gI xs 2 ∧ gI xs 2 ≤ N - 1) := by
  unfold looB; simp only [Bool.and_eq_true, btw_iff, decide_eq_true_eq]; omega
theorem str_loo {p N : Int} {xs : List Int} (h : strB p N xs = true) : looB p N xs = true := by
  rw [strB_iff] at h; rw [looB_iff]; omega
def putA (p : Int) (N : Nat) (d xs : List Int) : List Int :=
  (d.set (((gI xs 0).toNat * N + (gI xs 1).toNat) * N + (gI xs 2).toNat) (gI xs 3 % p)).set (((gI xs 1).toNat * N + (gI xs 0).toNat) * N + (gI xs 2).toNat) (-(gI xs 3) % p)
theorem putA_len {p : Int} {N : Nat} {d xs : List Int} : (putA p N d xs).length = d.length := by unfold putA; simp
theorem put_str {p c : Int} (h : 1 ≤ c ∧ c ≤ p - 1) : c % p = c ∧ -c % p = p - c := by
  refine ⟨Int.emod_eq_of_lt (by omega) (by omega), ?_⟩
  rw [← Int.add_emod_right, Int.emod_eq_of_lt (by omega) (by omega)]; omega
noncomputable def rdL (ok : List Int → Bool) (p : Int) (N : Nat) : List (List UInt8) → List Int → Option (List Int)
  | [], d => some d
  | x :: r, d => match parL x with
    | none => none
    | some xs => if ok xs = true then rdL ok p N r (putA p N d xs) else none
theorem rdL_go {ok : List Int → Bool} {p : Int} {N : Nat} {x : List UInt8} {r : List (List UInt8)} {d xs : List Int} (h : parL x = some xs) (k : ok xs = true) : rdL ok p N (x :: r) d = rdL ok p N r (putA p N d xs) := by
  simp only [rdL, h]; rw [if_pos k]
theorem rdL_no {ok : List Int → Bool} {p : Int} {N : Nat} {x : List UInt8} {r : List (List UInt8)} {d : List Int} (h : ∀ xs, parL x = some xs → ok xs = false) : rdL ok p N (x :: r) d = none := by
  cases hx : parL x with
  | none => simp only [rdL, hx]
  | some xs => simp only [rdL, hx]; rw [if_neg (by rw [h xs hx]; decide)]
theorem rdL_all {ok : List Int → Bool} {p : Int} {N : Nat} : ∀ (r : List (List UInt8)) (d : List Int), (∀ x ∈ r, ∃ xs, parL x = some xs ∧ ok xs = true) → ∃ d', rdL ok p N r d = some d'
  | [], d, _ => ⟨d, rfl⟩
  | x :: r, d, h => by
    obtain ⟨xs, h1, h2⟩ := h x (by simp)
    rw [rdL_go h1 h2]
    exact rdL_all r _ (fun y hy => h y (by simp [hy]))
theorem rdL_mono {ok ok' : List Int → Bool} {p : Int} {N : Nat} (hk : ∀ xs, ok xs = true → ok' xs = true) : ∀ (r : List (List UInt8)) (d d' : List Int), rdL ok p N r d = some d' → rdL ok' p N r d = some d'
  | [], d, d', h => h
  | x :: r, d, d', h => by
    cases hx : parL x with
    | none => simp only [rdL, hx] at h; cases h
    | some xs =>
      cases ho : ok xs with
      | false => simp only [rdL, hx] at h; rw [if_neg (by rw [ho]; decide)] at h; cases h
      | true =>
        rw [rdL_go hx ho] at h
        rw [rdL_go hx (hk xs ho)]
        exact rdL_mono hk r _ d' h
theorem rdL_len {ok : List Int → Bool} {p : Int} {N : Nat} : ∀ (r : List (List UInt8)) (d d' : List Int), rdL ok p N r d = some d' → d'.length = d.length
  | [], d, d', h => by injection h with h; rw [h]
  | x :: r, d, d', h => by
    cases hx : parL x with
    | none => simp only [rdL, hx] at h; cases h
    | some xs =>
      cases ho : ok xs with
      | false => simp only [rdL, hx] at h; rw [if_neg (by rw [ho]; decide)] at h; cases h
      | true => rw [rdL_go hx ho] at h; rw [rdL_len r _ d' h, putA_len]
/-! ### the whole -/
def hdB (xs : List Int) : Bool := decide (xs.length = 2) && btw 0 (gI xs 1) 28 && isP (gI xs 0)
theorem hdB_iff {xs : List Int} : hdB xs = true ↔ xs.length = 2 ∧ (0 ≤ gI xs 1 ∧ gI xs 1 ≤ 28) ∧ isP (gI xs 0) = true := by
  unfold hdB; simp only [Bool.and_eq_true, btw_iff, decide_eq_true_eq]
  constructor
  · rintro ⟨⟨a, b⟩, c⟩; exact ⟨a, b, c⟩
  · rintro ⟨a, b, c⟩; exact ⟨⟨a, b⟩, c⟩
noncomputable def rdA (ok : Int → Int → List Int → Bool) : List (List UInt8) → Option (Int × Nat × List Int)
  | [] => none
  | h :: r => match parL h with
    | none => none
    | some xs => if hdB xs = true then (rdL (ok (gI xs 0) (gI xs 1)) (gI xs 0) (gI xs 1).toNat r (List.replicate ((gI xs 1).toNat * (gI xs 1).toNat * (gI xs 1).toNat) 0)).map fun d => (gI xs 0, (gI xs 1).toNat, d) else none
noncomputable def back (l : List UInt8) : Option (Int × Nat × List Int) → Option (Int × Nat × List Int)
  | none => none
  | some v => if okA v.1 v.2.1 v.2.2 = true ∧ fmtA v.1 v.2.1 v.2.2 = l then some v else none
noncomputable def valI (l : List UInt8) : Option (Int × Nat × List Int) := if l.length ≤ 60000 then back l (rdA looB (lnF l).1) else none
noncomputable def valS (l : List UInt8) : Option (Int × Nat × List Int) := if l.length ≤ 60000 ∧ (lnF l).2 = [] then back l (rdA strB (lnF l).1) else none
/-! a text that is written: all its lines are strict -/
def Gd (p N : Int) (l : List UInt8) : Prop := ∃ D, lnF l = (D, []) ∧ ∀ x ∈ D, ∃ xs, parL x = some xs ∧ strB p N xs = true
theorem Gd.nil (p N : Int) : Gd p N [] := ⟨[], rfl, fun x hx => by cases hx⟩
theorem Gd.app {p N : Int} {a b : List UInt8} (h : Gd p N a) (k : Gd p N b) : Gd p N (a ++ b) := by
  obtain ⟨D, e, h1⟩ := h
  obtain ⟨E, f, h2⟩ := k
  refine ⟨D ++ E, by rw [lnF_app e, f], fun x hx => ?_⟩
  rcases List.mem_append.1 hx with q | q
  · exact h1 x q
  · exact h2 x q
theorem Gd.line {p : Int} {N i j k : Nat} {c : Int} (hp : p ≤ 10007) (hN : N ≤ 28) (hij : i < j) (hj : j < N) (hk : k < N) (hc : 1 ≤ c ∧ c ≤ p - 1) : Gd p N (lineF i j k c) := by
  refine ⟨[fmtL [(i : Int), (j : Int), (k : Int), c]], lnF_line (fmt_no10 _), fun x hx => ?_⟩
  obtain rfl : x = fmtL [(i : Int), (j : Int), (k : Int), c] := by simpa using hx
  refine ⟨_, parL_fmt _ (fun y hy => ?_), ?_⟩
  · simp only [List.mem_cons, List.not_mem_nil, or_false] at hy
    rcases hy with rfl | rfl | rfl | rfl <;> omega
  · rw [strB_iff]
    show 4 = 4 ∧ (0 ≤ (i : Int) ∧ (i : Int) ≤ N - 1) ∧ ((i : Int) + 1 ≤ (j : Int) ∧ (j : Int) ≤ N - 1) ∧ (0 ≤ (k : Int) ∧ (k : Int) ≤ N - 1) ∧ (1 ≤ c ∧ c ≤ p - 1)
    omega
section
variable {p : Int} {N : Nat} {d : List Int}
theorem Gd.K (hp1 : 2 ≤ p) (hp : p ≤ 10007) (hN : N ≤ 28) (hr : resB d p = true) {i j : Nat} (hij : i < j) (hj : j < N) : ∀ m, m ≤ N → Gd p N (lnK N d i j m)
  | 0, _ => Gd.nil _ _
  | m + 1, h => by
    have ih := Gd.K hp1 hp hN hr hij hj m (by omega)
    by_cases e : tA N d i j m = 0
    · rw [lnK_zero e]; exact ih
    · rw [lnK_line e]
      have hb := tA_bd (n := N) (by omega) hr i j m
      exact ih.app (Gd.line hp hN hij hj (by omega) (by omega))
theorem Gd.J (hp1 : 2 ≤ p) (hp : p ≤ 10007) (hN : N ≤ 28) (hr : resB d p = true) {i : Nat} : ∀ m, m ≤ N → Gd p N (lnJ N d i m)
  | 0, _ => Gd.nil _ _
  | m + 1, h => by
    have ih := Gd.J hp1 hp hN hr (i := i) m (by omega)
    by_cases e : i < m
    · rw [lnJ_succ e]; exact ih.app (Gd.K hp1 hp hN hr e (by omega) N (Nat.le_refl _))
    · rw [lnJ, if_neg e]; exact ih
theorem Gd.I (hp1 : 2 ≤ p) (hp : p ≤ 10007) (hN : N ≤ 28) (hr : resB d p = true) : ∀ m, Gd p N (lnI N d m)
  | 0 => Gd.nil _ _
  | m + 1 => by rw [lnI]; exact (Gd.I hp1 hp hN hr m).app (Gd.J hp1 hp hN hr N (Nat.le_refl _))
theorem fmt_lines {l : List UInt8} (ho : okA p N d = true) (h : fmtA p N d = l) (hl : l ≠ []) : ∃ r, lnF l = (fmtL [p, (N : Int)] :: r, []) ∧ parL (fmtL [p, (N : Int)]) = some [p, (N : Int)] ∧ ∀ x ∈ r, ∃ xs, parL x = some xs ∧ strB p N xs = true := by
  obtain ⟨hp, _, hN28, _, hres, _⟩ := okA_bd ho
  obtain ⟨hp1, hp2⟩ := isP_bd hp
  have hw : l = wholeF p N d := by
    rw [← h]
    unfold fmtA at h ⊢
    split
    · rename_i q; rw [if_pos q] at h; exact absurd h.symm hl
    · rfl
  have hN : N ≤ 28 := by omega
  obtain ⟨D, e, hD⟩ := Gd.I (N := N) (d := d) hp1 hp2 hN hres N
  refine ⟨D, ?_, parL_fmt _ (fun y hy => ?_), hD⟩
  · rw [hw]; unfold wholeF headF
    rw [lnF_app (lnF_line (fmt_no10 _)), e]; rfl
  · simp only [List.mem_cons, List.not_mem_nil, or_false] at hy
    rcases hy with rfl | rfl <;> omega
end
theorem val_eq (l : List UInt8) : valS l = valI l := by
  unfold valS valI
  by_cases hl : l.length ≤ 60000
  · rw [if_pos hl]
    cases hq : rdA looB (lnF l).1 with
    | none =>
      have hs : rdA strB (lnF l).1 = none := by
        cases hD : (lnF l).1 with
        | nil => rfl
        | cons h r =>
          rw [hD] at hq
          cases hx : parL h with
          | none => simp only [rdA, hx]
          | some xs =>
            simp only [rdA, hx] at hq ⊢
            by_cases hh : hdB xs = true
            · rw [if_pos hh] at hq ⊢
              cases hz : rdL (strB (gI xs 0) (gI xs 1)) (gI xs 0) (gI xs 1).toNat r (List.replicate ((gI xs 1).toNat * (gI xs 1).toNat * (gI xs 1).toNat) 0) with
              | none => rfl
              | some d => rw [rdL_mono (fun xs h => str_loo h) r _ d hz] at hq; cases hq
            · rw [if_neg hh]
      rw [hs]
      show (if _ then none else none) = none
      split <;> rfl
    | some v =>
      obtain ⟨p, N, d⟩ := v
      by_cases hb : okA p N d = true ∧ fmtA p N d = l
      · have hne : l ≠ [] := by
          intro e
          rw [e] at hq
          cases hq
        obtain ⟨r, e1, e2, e3⟩ := fmt_lines hb.1 hb.2 hne
        rw [e1] at hq ⊢
        rw [if_pos ⟨hl, rfl⟩]
        simp only [rdA, e2] at hq ⊢
        by_cases hh : hdB [p, (N : Int)] = true
        · rw [if_pos hh] at hq ⊢
          have g0 : gI [p, (N : Int)] 0 = p := rfl
          have g1 : gI [p, (N : Int)] 1 = N := rfl
          rw [g0, g1] at hq ⊢
          obtain ⟨d', hd'⟩ := rdL_all (ok := strB p N) (p := p) (N := (N : Int).toNat) r (List.replicate ((N : Int).toNat * (N : Int).toNat * (N : Int).toNat) 0) e3
          rw [rdL_mono (fun xs h => str_loo h) r _ d' hd'] at hq
          rw [hd', ← hq]
        · rw [if_neg hh] at hq; cases hq
      · have hn : back l (some (p, N, d)) = none := by show (if _ then _ else _) = none; rw [if_neg hb]
        rw [hn]
        by_cases h2 : (lnF l).2 = []
        · rw [if_pos ⟨hl, h2⟩]
          cases hs : rdA strB (lnF l).1 with
          | none => rfl
          | some v =>
            have hsame : v = (p, N, d) := by
              cases hD : (lnF l).1 with
              | nil => rw [hD] at hq; cases hq
              | cons h r =>
                rw [hD] at hq hs
                cases hx : parL h with
                | none => simp only [rdA, hx] at hq; cases hq
                | some xs =>
                  simp only [rdA, hx] at hq hs
                  by_cases hh : hdB xs = true
                  · rw [if_pos hh] at hq hs
                    cases hz : rdL (strB (gI xs 0) (gI xs 1)) (gI xs 0) (gI xs 1).toNat r (List.replicate ((gI xs 1).toNat * (gI xs 1).toNat * (gI xs 1).toNat) 0) with
                    | none => rw [hz] at hs; cases hs
                    | some d' =>
                      rw [rdL_mono (fun xs h => str_loo h) r _ d' hz] at hq
                      rw [hz] at hs
                      injection hq with hq; injection hs with hs
                      rw [← hs, hq]
                  · rw [if_neg hh] at hq; cases hq
            rw [hsame, hn]
        · rw [if_neg (fun h => h2 h.2)]
  · rw [if_neg hl, if_neg (fun h => hl h.1)]
end Go.Proofs.YtnkcjekfjlbcdaaGreatDoor
