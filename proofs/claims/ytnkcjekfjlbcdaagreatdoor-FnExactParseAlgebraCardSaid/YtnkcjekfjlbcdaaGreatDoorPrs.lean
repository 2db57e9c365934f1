/- Numbers read back from their text; a text cut at its blanks. No program in sight. -/
import Derived.Test.YtnkcjekfjlbcdaaGreatDoorFmt
import Derived.Lib.AtoiTie
import Derived.Lib.Atoi
namespace Go.Proofs.YtnkcjekfjlbcdaaGreatDoor
set_option linter.unusedVariables false
set_option linter.unusedSimpArgs false
set_option maxRecDepth 20000
open Go
/-- the number that digits spell -/
def valD (l : List UInt8) : Nat := l.foldl (fun a c => 10 * a + (c.toNat - 48)) 0
theorem valD_snoc (l : List UInt8) (c : UInt8) : valD (l ++ [c]) = 10 * valD l + (c.toNat - 48) := by unfold valD; rw [List.foldl_append]; rfl
def digs (l : List UInt8) : Prop := ∀ c ∈ l, 48 ≤ c.toNat ∧ c.toNat ≤ 57
theorem digs_snoc {l : List UInt8} {c : UInt8} : digs (l ++ [c]) ↔ digs l ∧ 48 ≤ c.toNat ∧ c.toNat ≤ 57 := by
  unfold digs
  constructor
  · exact fun h => ⟨fun x hx => h x (by simp [hx]), h c (by simp)⟩
  · rintro ⟨h1, h2⟩ x hx
    rcases List.mem_append.1 hx with h | h
    · exact h1 x h
    · obtain rfl : x = c := by simpa using h
      exact h2
theorem byteN (k : Nat) (h : k < 10) : (UInt8.ofNat (48 + k)).toNat = 48 + k := by have := byte_nat k h; omega
theorem dec_ind (P : Nat → List UInt8 → Prop) (h0 : ∀ u, u < 10 → P u [UInt8.ofNat (48 + u)]) (hs : ∀ u l, 10 ≤ u → P (u / 10) l → P u (l ++ [UInt8.ofNat (48 + u % 10)])) (u : Nat) : P u (Lib.decDigits u) := by
  induction u using Nat.strongRecOn with
  | _ u ih =>
    rw [Lib.decDigits]
    by_cases h : u < 10
    · rw [dif_pos h]; exact h0 u h
    · rw [dif_neg h]; exact hs u _ (by omega) (ih _ (by omega))
theorem dec_val (u : Nat) : valD (Lib.decDigits u) = u :=
  dec_ind (fun u l => valD l = u) (fun u h => by show 10 * 0 + _ = u; rw [byteN u h]; omega) (fun u l h ih => by rw [valD_snoc, ih, byteN _ (by omega)]; omega) u
theorem dec_digs (u : Nat) : digs (Lib.decDigits u) :=
  dec_ind (fun _ l => digs l) (fun u h c hc => by obtain rfl : c = UInt8.ofNat (48 + u) := by simpa using hc
                                                  rw [byteN u h]; omega) (fun u l h ih => digs_snoc.2 ⟨ih, by rw [byteN _ (by omega)]; omega⟩) u
theorem dec_ne (u : Nat) : Lib.decDigits u ≠ [] := dec_ind (fun _ l => l ≠ []) (fun u h => by simp) (fun u l h ih => by simp) u
theorem dec_len : ∀ (m u : Nat), u < 10 ^ (m + 1) → (Lib.decDigits u).length ≤ m + 1
  | m, u, h => by
    rcases Nat.eq_zero_or_pos u with e | e
    · subst e
      rw [Lib.decDigits]; simp
    · rw [← dgs_pos e]; exact dgs_len2 (m + 1) u h
theorem val_lt : ∀ (m : Nat) (l : List UInt8), l.length = m → digs l → valD l < 10 ^ m
  | 0, l, h, _ => by
    obtain rfl : l = [] := List.eq_nil_of_length_eq_zero h
    simp [valD]
  | m + 1, l, h, hd => by
    obtain ⟨r, c, rfl⟩ : ∃ r c, l = r ++ [c] := by
      rcases List.eq_nil_or_concat l with e | ⟨r, c, e⟩
      · subst e; simp at h
      · exact ⟨r, c, by rw [e, List.concat_eq_append]⟩
    obtain ⟨h1, h2, h3⟩ := digs_snoc.1 hd
    have := val_lt m r (by simpa using h) h1
    rw [valD_snoc, Nat.pow_succ]
    omega
/-- a number of at most nine digits, as it is written -/
def okN (n : Int) (l : List UInt8) : Prop := -999999999 ≤ n ∧ n ≤ 999999999 ∧ Lib.itoa n = l
/-- the sign's place, the digits behind it, the number -/
def isNeg (l : List UInt8) : Bool := l.head? == some 45
def body (l : List UInt8) : List UInt8 := if isNeg l then l.tail else l
def numV (l : List UInt8) : Int := if isNeg l then -(valD (body l) : Int) else valD (body l)
theorem dec_head (u : Nat) : isNeg (Lib.decDigits u) = false := by
  have hd := dec_digs u
  have hn := dec_ne u
  unfold isNeg
  cases h : Lib.decDigits u with
  | nil => exact absurd h hn
  | cons c r =>
    rw [h] at hd
    have := hd c List.mem_cons_self
    have : c ≠ 45 := fun e => by subst e; simp at this
    simpa using this
theorem itoa_parts (n : Int) : isNeg (Lib.itoa n) = decide (n < 0) ∧ body (Lib.itoa n) = Lib.decDigits n.natAbs ∧ numV (Lib.itoa n) = n := by
  by_cases h : n < 0
  · have e : Lib.itoa n = 45 :: Lib.decDigits n.natAbs := by unfold Lib.itoa; rw [if_pos h]
    have h1 : isNeg (Lib.itoa n) = true := by rw [e]; rfl
    have h2 : body (Lib.itoa n) = Lib.decDigits n.natAbs := by unfold body; rw [h1, e]; rfl
    refine ⟨by rw [h1, decide_eq_true h], h2, ?_⟩
    unfold numV
    rw [h1, h2, dec_val, if_pos rfl]; omega
  · have e : Lib.itoa n = Lib.decDigits n.natAbs := by unfold Lib.itoa; rw [if_neg h]; congr 1; omega
    have h1 : isNeg (Lib.itoa n) = false := by rw [e]; exact dec_head _
    have h2 : body (Lib.itoa n) = Lib.decDigits n.natAbs := by unfold body; rw [h1, e]; rfl
    refine ⟨by rw [h1, decide_eq_false h], h2, ?_⟩
    unfold numV
    rw [h1, h2, dec_val, if_neg (by decide)]; omega
theorem okN_uniq {n m : Int} {l : List UInt8} (h : okN n l) (k : okN m l) : n = m := by
  have a := (itoa_parts n).2.2
  have b := (itoa_parts m).2.2
  rw [h.2.2] at a
  rw [k.2.2] at b
  omega
/-- what the reference asks of a word's digits -/
def inForm (l : List UInt8) : Prop := 1 ≤ (body l).length ∧ (body l).length ≤ 9 ∧ digs (body l)
theorem ok_form {n : Int} {l : List UInt8} (h : okN n l) : inForm l ∧ numV l = n := by
  obtain ⟨h0, h1, rfl⟩ := h
  obtain ⟨a, b, c⟩ := itoa_parts n
  refine ⟨⟨?_, ?_, ?_⟩, c⟩
  · rw [b]; exact List.length_pos_iff.2 (dec_ne _)
  · rw [b]; exact dec_len 8 _ (by have : (10 : Nat) ^ (8 + 1) = 1000000000 := by decide
                                  omega)
  · rw [b]; exact dec_digs _
theorem form_ok {l : List UInt8} (h : inForm l) (k : Lib.itoa (numV l) = l) : okN (numV l) l := by
  obtain ⟨h1, h2, h3⟩ := h
  have hv := val_lt _ _ rfl h3
  have h9 : 10 ^ (body l).length ≤ 10 ^ 9 := Nat.pow_le_pow_right (by omega) h2
  have e9 : (10 : Nat) ^ 9 = 1000000000 := by decide
  refine ⟨?_, ?_, k⟩ <;> (unfold numV; split <;> omega)
/-! ### strconv.Atoi -/
theorem decFrom_snoc : ∀ (l : List UInt8) (acc m d : Nat) (c : UInt8), Lib.decFrom acc l = some m → Lib.digitVal c = some d → Lib.decFrom acc (l ++ [c]) = some (m * 10 + d)
  | [], acc, m, d, c, h, hd => by
    simp only [Lib.decFrom] at h
    obtain rfl := Option.some.inj h
    simp [Lib.decFrom, hd]
  | b :: r, acc, m, d, c, h, hd => by
    simp only [List.cons_append, Lib.decFrom] at h ⊢
    cases hb : Lib.digitVal b with
    | none => rw [hb] at h; cases h
    | some x => rw [hb] at h; exact decFrom_snoc r _ m d c h hd
theorem digitVal_of (k : Nat) (h : k < 10) : Lib.digitVal (UInt8.ofNat (48 + k)) = some k := by
  unfold Lib.digitVal
  rw [byteN k h, if_pos (by omega)]
  congr 1; omega
theorem dec_from (u : Nat) : Lib.decFrom 0 (Lib.decDigits u) = some u :=
  dec_ind (fun u l => Lib.decFrom 0 l = some u) (fun u h => by rw [Lib.decFrom, digitVal_of u h]; show some (0 * 10 + u) = some u; congr 1; omega) (fun u l h ih => by rw [decFrom_snoc l 0 (u / 10) (u % 10) _ ih (digitVal_of _ (by omega))]; congr 1; omega) u
theorem dec_nat (u : Nat) : Lib.decNat (Lib.decDigits u) = some u := by
  unfold Lib.decNat
  rw [if_neg (by simpa using dec_ne u), dec_from]
theorem atoi_itoa (n : Int) : Lib.atoi (Lib.itoa n) = some n := by
  by_cases h : n < 0
  · have e : Lib.itoa n = 45 :: Lib.decDigits n.natAbs := by unfold Lib.itoa; rw [if_pos h]
    rw [e, Lib.atoi, if_pos (by decide), dec_nat]
    simp only [Option.map_some]
    congr 1; omega
  · have e : Lib.itoa n = Lib.decDigits n.natAbs := by unfold Lib.itoa; rw [if_neg h]; congr 1; omega
    rw [e]
    have hd := dec_digs n.natAbs
    have hn := dec_nat n.natAbs
    have hne := dec_ne n.natAbs
    cases hc : Lib.decDigits n.natAbs with
    | nil => exact absurd hc hne
    | cons c r =>
      rw [hc] at hd hn
      have h1 := hd c List.mem_cons_self
      have c1 : (c == 45) = false := by rw [beq_eq_false_iff_ne]; intro e; subst e; simp at h1
      have c2 : (c == 43) = false := by rw [beq_eq_false_iff_ne]; intro e; subst e; simp at h1
      rw [Lib.atoi, c1, c2, if_neg (by decide), if_neg (by decide), hn]
      simp only [Option.map_some]
      congr 1; omega
theorem ok_atoi {n : Int} {l : List UInt8} (h : okN n l) : Lib.atoiAll l = .ok n := by
  have hf := (ok_form h).1
  have hl : l.length ≤ 10 := by
    have := hf.2.1
    unfold body at this
    split at this
    · rw [List.length_tail] at this; omega
    · omega
  rw [Lib.atoiAll_short l (by omega)]
  obtain ⟨_, _, rfl⟩ := h
  rw [atoi_itoa]; rfl
/-! ### words -/
open Classical in
noncomputable def numW (l : List UInt8) : Option Int := if h : ∃ n : Int, okN n l then some (Classical.choose h) else none
theorem numW_some {n : Int} {l : List UInt8} (h : okN n l) : numW l = some n := by
  unfold numW
  rw [dif_pos ⟨n, h⟩]
  congr 1
  exact okN_uniq (Classical.choose_spec (⟨n, h⟩ : ∃ n, okN n l)) h
theorem numW_none {l : List UInt8} (h : ¬ ∃ n, okN n l) : numW l = none := by unfold numW; rw [dif_neg h]
noncomputable def parW : List (List UInt8) → Option (List Int)
  | [] => some []
  | w :: r => match numW w, parW r with
    | some n, some xs => some (n :: xs)
    | _, _ => none
theorem parW_app {a b : List (List UInt8)} : parW (a ++ b) = match parW a, parW b with
    | some x, some y => some (x ++ y)
    | _, _ => none := by
  induction a with
  | nil => simp only [List.nil_append, parW]; cases parW b <;> rfl
  | cons w r ih =>
    simp only [List.cons_append, parW, ih]
    cases numW w <;> cases parW r <;> cases parW b <;> rfl
theorem parW_snoc {a : List (List UInt8)} {xs : List Int} {w : List UInt8} {n : Int} (h : parW a = some xs) (k : numW w = some n) : parW (a ++ [w]) = some (xs ++ [n]) := by
  rw [parW_app, h]; simp only [parW, k]
theorem parW_bad {a b : List (List UInt8)} {w : List UInt8} (k : numW w = none) : parW (a ++ w :: b) = none := by
  rw [parW_app]
  simp only [parW, k]
  cases parW a <;> rfl
/-- cut at the blanks: what is done, what has begun -/
def cutS (st : List (List UInt8) × List UInt8) (c : UInt8) : List (List UInt8) × List UInt8 := if c = 32 then (st.1 ++ [st.2], []) else (st.1, st.2 ++ [c])
def cutF (l : List UInt8) : List (List UInt8) × List UInt8 := l.foldl cutS ([], [])
def splitW (l : List UInt8) : List (List UInt8) := (cutF l).1 ++ [(cutF l).2]
theorem cutF_snoc (l : List UInt8) (c : UInt8) : cutF (l ++ [c]) = cutS (cutF l) c := by unfold cutF; rw [List.foldl_append]; rfl
theorem cut_gen (l : List UInt8) : ∀ (D : List (List UInt8)) (cur : List UInt8), l.foldl cutS (D, cur) = (D ++ (l.foldl cutS ([], cur)).1, (l.foldl cutS ([], cur)).2) := by
  induction l with
  | nil => intro D cur; simp
  | cons c r ih =>
    intro D cur
    simp only [List.foldl_cons]
    by_cases h : c = 32
    · rw [show cutS (D, cur) c = (D ++ [cur], []) by simp [cutS, h], show cutS ([], cur) c = ([cur], []) by simp [cutS, h], ih (D ++ [cur]) [], ih [cur] []]
      simp
    · rw [show cutS (D, cur) c = (D, cur ++ [c]) by simp [cutS, h], show cutS ([], cur) c = ([], cur ++ [c]) by simp [cutS, h]]
      exact ih D _
theorem cut_none : ∀ (l : List UInt8) (cur : List UInt8), 32 ∉ l → l.foldl cutS ([], cur) = ([], cur ++ l)
  | [], cur, _ => by simp
  | c :: r, cur, h => by
    have h1 : c ≠ 32 := fun e => h (by simp [e])
    simp only [List.foldl_cons]
    rw [show cutS ([], cur) c = ([], cur ++ [c]) by unfold cutS; rw [if_neg h1], cut_none r _ (fun h2 => h (by simp [h2]))]
    simp
theorem splitW_none {l : List UInt8} (h : 32 ∉ l) : splitW l = [l] := by unfold splitW cutF; rw [cut_none l [] h]; rfl
theorem splitW_cut {a b : List UInt8} (h : 32 ∉ a) : splitW (a ++ 32 :: b) = a :: splitW b := by
  unfold splitW cutF
  rw [List.foldl_append, cut_none a [] h, List.foldl_cons, show cutS ([], [] ++ a) 32 = ([a], []) by simp [cutS], cut_gen]
  simp
end Go.Proofs.YtnkcjekfjlbcdaaGreatDoor
