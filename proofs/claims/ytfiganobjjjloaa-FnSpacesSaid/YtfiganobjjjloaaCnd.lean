/- The rows of the conditions on derivations and on invariant forms; a space put together in parts. No program in sight. -/
import Derived.Test.YtfiganobjjjloaaKeq
import Derived.Test.YtfiganobjjjloaaAlg
namespace Go.Proofs.Ytfiganobjjjloaa
set_option linter.unusedVariables false
set_option linter.unusedSimpArgs false
set_option maxRecDepth 20000
open Go.RowKit
theorem ifC {α : Type} {P Q : Prop} [Decidable P] [Decidable Q] {x y : α} (h : P ↔ Q) : (if P then x else y) = if Q then x else y := by
  by_cases hp : P
  · rw [if_pos hp, if_pos (h.1 hp)]
  · rw [if_neg hp, if_neg fun q => hp (h.2 q)]
theorem tab_set {r c i j : Nat} (f : Tb) (v : Int) (hi : i < r) (hj : j < c) : (tab r c f).set (i * c + j) v = tab r c fun a b => if a = i ∧ b = j then v else f a b := by
  refine eq_tab (by rw [List.length_set, tab_len]) fun a b ha hb => ?_
  rw [gI_set _ _ _ _ (by rw [tab_len]; exact idx_lt hi hj), tab_get f ha hb]
  by_cases h : a = i ∧ b = j
  · obtain ⟨rfl, rfl⟩ := h
    rw [if_pos rfl, if_pos ⟨rfl, rfl⟩]
  · rw [if_neg h, if_neg fun e => h (idx_inj hb hj e)]
/-- a table's number moved on by one step: the cell i, j -/
theorem tab_step {r c i j : Nat} {f g : Tb} {p t : Int} (hi : i < r) (hj : j < c) (h1 : (f i j % p + t) % p = g i j % p) (h2 : ∀ a b, a < r → b < c → ¬ (a = i ∧ b = j) → f a b = g a b) :
    (tab r c fun a b => f a b % p).set (i * c + j) ((gI (tab r c fun a b => f a b % p) (i * c + j) + t) % p) = tab r c fun a b => g a b % p := by
  rw [tab_set _ _ hi hj, tab_get _ hi hj]
  refine tab_congr fun a b ha hb => ?_
  by_cases h : a = i ∧ b = j
  · rw [if_pos h, h.1, h.2]; exact h1
  · rw [if_neg h, h2 a b ha hb h]
/-- derivations: the number at r, c of the row of i, j, k, when a, b and e steps are done -/
def dvN (n : Nat) (d : List Int) (i j k a b e : Nat) : Tb := fun r c =>
  (if c = k ∧ r < a then tA n d i j r else 0) - (if r = i ∧ c < b then tA n d c j k else 0) - (if r = j ∧ c < e then tA n d i c k else 0)
def dvR (n : Nat) (p : Int) (d : List Int) (i j k a b e : Nat) : List Int := tab n n fun r c => dvN n d i j k a b e r c % p
/-- invariant forms -/
def ifN (n : Nat) (d : List Int) (i j k a b : Nat) : Tb := fun r c =>
  (if c = k ∧ r < a then tA n d i j r else 0) - (if r = i ∧ c < b then tA n d j k c else 0)
def ifR (n : Nat) (p : Int) (d : List Int) (i j k a b : Nat) : List Int := tab n n fun r c => ifN n d i j k a b r c % p
section
variable {n : Nat} {p : Int} {d : List Int} {i j k : Nat}
theorem dvR_len (a b e : Nat) : (dvR n p d i j k a b e).length = n * n := tab_len _ _ _
theorem ifR_len (a b : Nat) : (ifR n p d i j k a b).length = n * n := tab_len _ _ _
theorem tab_modres (hp : 1 ≤ p) (f : Tb) : resB (tab n n fun r c => f r c % p) p = true := resB_tab fun _ _ _ _ => mod_bd hp
theorem dvR_res (hp : 1 ≤ p) (a b e : Nat) : resB (dvR n p d i j k a b e) p = true := tab_modres hp _
theorem ifR_res (hp : 1 ≤ p) (a b : Nat) : resB (ifR n p d i j k a b) p = true := tab_modres hp _
theorem mod_stp {x y p t : Int} (h : y = x + t) : (x % p + t) % p = y % p := by rw [mod_add, h]
theorem ifR_1 {a b : Nat} (ha : a < n) (hk : k < n) : (ifR n p d i j k a b).set (a * n + k) ((gI (ifR n p d i j k a b) (a * n + k) + tA n d i j a) % p) = ifR n p d i j k (a + 1) b := by
  refine tab_step ha hk (mod_stp ?_) fun r c hr hc hn => ?_
  · simp [ifN]; omega
  · simp only [ifN]
    congr 1
    by_cases e : c = k
    · rw [ifC (show (c = k ∧ r < a) ↔ (c = k ∧ r < a + 1) by omega)]
    · rw [if_neg (fun h => e h.1), if_neg (fun h => e h.1)]
theorem ifR_2 {a b : Nat} (hi : i < n) (hb : b < n) : (ifR n p d i j k a b).set (i * n + b) ((gI (ifR n p d i j k a b) (i * n + b) - tA n d j k b) % p) = ifR n p d i j k a (b + 1) := by
  rw [Int.sub_eq_add_neg]
  refine tab_step hi hb (mod_stp ?_) fun r c hr hc hn => ?_
  · simp [ifN]; omega
  · simp only [ifN]
    congr 1
    exact ifC (show (r = i ∧ c < b) ↔ (r = i ∧ c < b + 1) by omega)
theorem dvR_1 {a b e : Nat} (ha : a < n) (hk : k < n) : (dvR n p d i j k a b e).set (a * n + k) ((gI (dvR n p d i j k a b e) (a * n + k) + tA n d i j a) % p) = dvR n p d i j k (a + 1) b e := by
  refine tab_step ha hk (mod_stp ?_) fun r c hr hc hn => ?_
  · simp [dvN]; omega
  · simp only [dvN]
    congr 2
    by_cases e : c = k
    · rw [ifC (show (c = k ∧ r < a) ↔ (c = k ∧ r < a + 1) by omega)]
    · rw [if_neg (fun h => e h.1), if_neg (fun h => e h.1)]
theorem dvR_2 {a b e : Nat} (hi : i < n) (hb : b < n) : (dvR n p d i j k a b e).set (i * n + b) ((gI (dvR n p d i j k a b e) (i * n + b) - tA n d b j k) % p) = dvR n p d i j k a (b + 1) e := by
  rw [Int.sub_eq_add_neg]
  refine tab_step hi hb (mod_stp ?_) fun r c hr hc hn => ?_
  · simp [dvN]; omega
  · simp only [dvN]
    congr 2
    exact ifC (show (r = i ∧ c < b) ↔ (r = i ∧ c < b + 1) by omega)
theorem dvR_3 {a b e : Nat} (hj : j < n) (he : e < n) : (dvR n p d i j k a b e).set (j * n + e) ((gI (dvR n p d i j k a b e) (j * n + e) - tA n d i e k) % p) = dvR n p d i j k a b (e + 1) := by
  rw [Int.sub_eq_add_neg]
  refine tab_step hj he (mod_stp ?_) fun r c hr hc hn => ?_
  · simp [dvN]; omega
  · simp only [dvN]
    congr 1
    exact ifC (show (r = j ∧ c < e) ↔ (r = j ∧ c < e + 1) by omega)
theorem dvR_zero : dvR n p d i j k 0 0 0 = List.replicate (n * n) 0 := by
  refine (eq_tab (by simp) fun a b ha hb => ?_).symm
  rw [gI_rep]; simp [dvN]
theorem ifR_zero : ifR n p d i j k 0 0 = List.replicate (n * n) 0 := by
  refine (eq_tab (by simp) fun a b ha hb => ?_).symm
  rw [gI_rep]; simp [ifN]
end
/-- the rows of all i < I, then of I and all j < J, then of I, J and all k < K -/
def cell (n : Nat) (S : Nat → Nat → Bool) (F : Nat → Nat → Nat → List Int) (i j K : Nat) : List (List Int) := if S i j then (List.range K).map (F i j) else []
def cnR (n : Nat) (U : Nat → Nat) (S : Nat → Nat → Bool) (F : Nat → Nat → Nat → List Int) (I J K : Nat) : List (List Int) :=
  (List.range I).flatMap (fun i => (List.range (U i)).flatMap fun j => cell n S F i j n) ++ ((List.range J).flatMap (fun j => cell n S F I j n) ++ cell n S F I J K)
section
variable {n : Nat} {U : Nat → Nat} {S : Nat → Nat → Bool} {F : Nat → Nat → Nat → List Int} {I J K : Nat}
theorem cell_zero : cell n S F I J 0 = [] := by simp [cell]
theorem cn_zero : cnR n U S F 0 0 0 = [] := by simp [cnR, cell_zero]
theorem cn_k (h : S I J = true) : cnR n U S F I J (K + 1) = cnR n U S F I J K ++ [F I J K] := by
  simp [cnR, cell, h, List.range_succ]
theorem cn_kno (h : S I J = false) (K' : Nat) : cnR n U S F I J K = cnR n U S F I J K' := by
  simp [cnR, cell, h]
theorem cn_j : cnR n U S F I J n = cnR n U S F I (J + 1) 0 := by
  unfold cnR
  rw [cell_zero, List.range_succ, List.flatMap_append]
  simp
theorem cn_i (h : J = U I) : cnR n U S F I J 0 = cnR n U S F (I + 1) 0 0 := by
  subst h
  unfold cnR
  rw [cell_zero, cell_zero, List.range_succ, List.flatMap_append]
  simp
theorem cell_le (K : Nat) : (cell n S F I J K).length ≤ K := by
  unfold cell; split <;> simp
theorem flat_le {b : Nat} {f : Nat → List (List Int)} (h : ∀ i, (f i).length ≤ b) : ∀ m : Nat, ((List.range m).flatMap f).length ≤ m * b
  | 0 => by simp
  | m + 1 => by
    rw [List.range_succ, List.flatMap_append, List.length_append, Nat.add_mul, Nat.one_mul]
    have h1 := flat_le h m
    have h2 := h m
    simp only [List.flatMap_cons, List.flatMap_nil, List.append_nil]
    omega
theorem cn_len (hU : ∀ i, U i ≤ n + i) (hn : n ≤ 8) (hI : I ≤ n) (hJ : J ≤ n) (hK : K ≤ n) (hU2 : ∀ i, U i ≤ 8 ∨ n ≤ i) : (cnR n U S F I J K).length ≤ 600 := by
  have h1 : ((List.range I).flatMap (fun i => (List.range (U i)).flatMap fun j => cell n S F i j n)).length ≤ I * 64 := by
    have : (List.range I).flatMap (fun i => (List.range (U i)).flatMap fun j => cell n S F i j n) = (List.range I).flatMap (fun i => if i < n then (List.range (U i)).flatMap fun j => cell n S F i j n else []) := by
      rw [List.flatMap_def, List.flatMap_def]
      congr 1
      refine List.map_congr_left fun i hi => ?_
      rw [List.mem_range] at hi
      rw [if_pos (by omega)]
    rw [this]
    refine flat_le (fun i => ?_) I
    split
    · rename_i hi
      have h3 := flat_le (b := n) (fun j => cell_le (n := n) (S := S) (F := F) (I := i) (J := j) n) (U i)
      have h4 : U i * n ≤ 8 * 8 := Nat.mul_le_mul (by rcases hU2 i with h | h <;> omega) hn
      omega
    · simp
  have h2 := flat_le (b := n) (fun j => cell_le (n := n) (S := S) (F := F) (I := I) (J := j) n) J
  have h3 : J * n ≤ 8 * 8 := Nat.mul_le_mul (by omega) hn
  have h4 := cell_le (n := n) (S := S) (F := F) (I := I) (J := J) K
  unfold cnR
  rw [List.length_append, List.length_append]
  omega
theorem cn_mem {r : List Int} : r ∈ cnR n U S F I 0 0 ↔ ∃ i, i < I ∧ ∃ j, j < U i ∧ S i j = true ∧ ∃ k, k < n ∧ r = F i j k := by
  unfold cnR
  rw [cell_zero]
  simp only [List.range_zero, List.flatMap_nil, List.append_nil, List.mem_flatMap, List.mem_range]
  constructor
  · rintro ⟨i, hi, j, hj, h⟩
    unfold cell at h
    split at h
    · rename_i hs
      obtain ⟨k, hk, rfl⟩ := List.mem_map.1 h
      exact ⟨i, hi, j, hj, hs, k, List.mem_range.1 hk, rfl⟩
    · cases h
  · rintro ⟨i, hi, j, hj, hs, k, hk, rfl⟩
    refine ⟨i, hi, j, hj, ?_⟩
    unfold cell
    rw [if_pos hs]
    exact List.mem_map.2 ⟨k, List.mem_range.2 hk, rfl⟩
theorem cn_all {P : List Int → Prop} (h : ∀ i j k, P (F i j k)) : ∀ r ∈ cnR n U S F I J K, P r := by
  intro r hr
  unfold cnR at hr
  have hc : ∀ i j K, r ∈ cell n S F i j K → P r := fun i j K h' => by
    unfold cell at h'
    split at h'
    · obtain ⟨k, _, rfl⟩ := List.mem_map.1 h'; exact h i j k
    · cases h'
  simp only [List.mem_append, List.mem_flatMap] at hr
  rcases hr with ⟨i, _, j, _, h'⟩ | ⟨j, _, h'⟩ | h'
  · exact hc _ _ _ h'
  · exact hc _ _ _ h'
  · exact hc _ _ _ h'
end
/-- the numbers that each row of a list takes to 0 -/
def NlL (n : Nat) [NeZero n] (C : Nat) (xss : List (List Int)) (x : Nat → Fin n) : Prop := ∀ r ∈ xss, dt C (fun j => ph n (gI r j)) x = 0
def rowF (xss : List (List Int)) : Tb := fun i j => gI (row xss i) j
section
variable {n C : Nat} [NeZero n]
theorem nlL_iff (xss : List (List Int)) (x : Nat → Fin n) : Nl xss.length C (phT n (rowF xss)) x ↔ NlL n C xss x := by
  constructor
  · intro h r hr
    obtain ⟨i, hi, rfl⟩ := List.getElem_of_mem hr
    have := h i hi
    unfold phT rowF at this
    rw [row_lt hi] at this
    exact this
  · intro h i hi
    have := h (row xss i) (by rw [row_lt hi]; exact List.getElem_mem hi)
    exact this
theorem rowF_FF {xss : List (List Int)} (h : ∀ r ∈ xss, r.length = C) : FF xss xss.length C (rowF xss) := fun i hi => ⟨h _ (by rw [row_lt hi]; exact List.getElem_mem hi), fun _ _ => rfl⟩
theorem rowF_res {xss : List (List Int)} {p : Int} (hp : 1 ≤ p) (h : ∀ r ∈ xss, resB r p = true) : ResF (rowF xss) p := fun i j => by
  unfold rowF
  rcases Nat.lt_or_ge i xss.length with hi | hi
  · exact gI_res hp (h _ (by rw [row_lt hi]; exact List.getElem_mem hi)) j
  · rw [show row xss i = [] by simp [row, hi]]
    simp [gI]; omega
theorem flatF {xss : List (List Int)} (h : ∀ r ∈ xss, r.length = C) {i j : Nat} (hi : i < xss.length) (hj : j < C) : matF xss.flatten C i j = rowF xss i j := by
  have e := (rowF_FF h).eq_tabR rfl
  have e2 : xss.flatten = tab xss.length C (rowF xss) := by rw [e, flat_tabR, tabR_len, ← e]
  rw [e2]
  exact tab_get _ hi hj
end
def chs (xss : List (List Int)) (t : Nat) : List (List Int) := (xss.drop (200 * t)).take 200
theorem chs_sub {xss : List (List Int)} {t : Nat} {r : List Int} (h : r ∈ chs xss t) : r ∈ xss := List.mem_of_mem_drop (List.mem_of_mem_take h)
theorem chs_mem {xss : List (List Int)} {T : Nat} (hT : xss.length ≤ 200 * T) {r : List Int} (h : r ∈ xss) : ∃ t, t < T ∧ r ∈ chs xss t := by
  obtain ⟨i, hi, rfl⟩ := List.getElem_of_mem h
  refine ⟨i / 200, by omega, ?_⟩
  unfold chs
  rw [List.mem_iff_getElem?]
  refine ⟨i % 200, ?_⟩
  rw [List.getElem?_take, if_pos (by omega), List.getElem?_drop, show 200 * (i / 200) + i % 200 = i by omega]
  simp [hi]
theorem flat_len {C : Nat} : ∀ {xss : List (List Int)}, (∀ r ∈ xss, r.length = C) → xss.flatten.length = xss.length * C
  | [], _ => by simp
  | x :: r, h => by
    rw [List.flatten_cons, List.length_append, h x List.mem_cons_self, flat_len fun y hy => h y (List.mem_cons_of_mem _ hy), List.length_cons, Nat.add_mul, Nat.one_mul, Nat.add_comm]
theorem flat_res {p : Int} : ∀ {xss : List (List Int)}, (∀ r ∈ xss, resB r p = true) → resB xss.flatten p = true
  | [], _ => rfl
  | x :: r, h => by
    rw [List.flatten_cons]
    exact resB_app (h x List.mem_cons_self) (flat_res fun y hy => h y (List.mem_cons_of_mem _ hy))
/-- the kernel of the space put together in parts is the kernel of rows with the same null vectors -/
theorem thin_ker {p : Int} {C T : Nat} {xss yss : List (List Int)} (hp : isP p = true) (hT : xss.length ≤ 200 * T) (h1 : ∀ r ∈ xss, r.length = C) (h2 : ∀ r ∈ xss, resB r p = true) (h4 : ∀ r ∈ yss, resB r p = true)
    (hs : ∀ n : Nat, (hn : NeZero n) → p = n → ∀ x : Nat → Fin n, NlL n C xss x ↔ NlL n C yss x) :
    (kerS (thin p C (chs xss) T).1 C p (matF (thin p C (chs xss) T).2 C)).rk = (kerS yss.length C p (rowF yss)).rk ∧
    ∀ i j, i < (kerS (thin p C (chs xss) T).1 C p (matF (thin p C (chs xss) T).2 C)).rk → j < C → (kerS (thin p C (chs xss) T).1 C p (matF (thin p C (chs xss) T).2 C)).f i j = (kerS yss.length C p (rowF yss)).f i j := by
  have hb := isP_bd hp
  have hth : (thin p C (chs xss) T).2.length = (thin p C (chs xss) T).1 * C ∧ resB (thin p C (chs xss) T).2 p = true := by
    obtain ⟨n, rfl⟩ := Int.eq_ofNat_of_zero_le (show 0 ≤ p by omega)
    haveI : NeZero n := ⟨by omega⟩
    have := thin_nl (C := C) hp (chs xss) (fun t => flat_res fun r hr => h2 r (chs_sub hr)) T
    exact ⟨this.1, this.2.1⟩
  refine ker_unique hp (matF_res (by omega) hth.2) (rowF_res (by omega) h4) fun n hn hpn x => ?_
  subst hpn
  rw [nlL_iff, ← hs n hn rfl x, (thin_nl (C := C) hp (chs xss) (fun t => flat_res fun r hr => h2 r (chs_sub hr)) T).2.2.2 x]
  constructor
  · intro h r hr
    obtain ⟨t, ht, hm⟩ := chs_mem hT hr
    have h' := (nl_tab_congr (g := phT n (rowF (chs xss t))) (fun i j hi hj => by unfold phT; rw [flatF (fun r hr => h1 r (chs_sub hr)) hi hj]) x).1 (h t ht)
    exact (nlL_iff _ _).1 h' r hm
  · intro h t ht
    refine (nl_tab_congr (g := phT n (rowF (chs xss t))) (fun i j hi hj => by unfold phT; rw [flatF (fun r hr => h1 r (chs_sub hr)) hi hj]) x).2 ?_
    exact (nlL_iff _ _).2 fun r hr => h r (chs_sub hr)
/-- the conditions for j > i and for j < i have the same null vectors -/
theorem dv_neg {n N : Nat} [NeZero n] {d : List Int} (ha : altB N n d = true) {i j k r c : Nat} (hi : i < N) (hj : j < N) (hr : r < N) (hc : c < N) (hk : k < N) :
    ph n (dvN N d i j k N N N r c % (n : Int)) = 0 - ph n (dvN N d j i k N N N r c % (n : Int)) := by
  rw [ph_mod, ph_mod, ← ph_zero (n := n), ← ph_sub]
  refine ph_ext ?_
  have e1 := Int.dvd_of_emod_eq_zero (alt_get ha hi hj hr)
  have e2 := Int.dvd_of_emod_eq_zero (alt_get ha hj hc hk)
  have e3 := Int.dvd_of_emod_eq_zero (alt_get ha hi hc hk)
  rw [Int.emod_eq_emod_iff_emod_sub_eq_zero]
  refine Int.emod_eq_zero_of_dvd ?_
  have e : dvN N d i j k N N N r c - (0 - dvN N d j i k N N N r c) = (if c = k then tA N d i j r + tA N d j i r else 0) - (if r = i then tA N d j c k + tA N d c j k else 0) - (if r = j then tA N d i c k + tA N d c i k else 0) := by
    simp only [dvN, hr, hc, and_true]
    by_cases a1 : c = k <;> by_cases a2 : r = i <;> by_cases a3 : r = j <;> simp only [a1, a2, a3, if_true, if_false] <;> omega
  rw [e]
  have dz : ∀ (P : Prop) [Decidable P] (y : Int), (n : Int) ∣ y → (n : Int) ∣ if P then y else 0 := fun P _ y h => by
    split
    · exact h
    · exact Int.dvd_zero _
  exact Int.dvd_sub (Int.dvd_sub (dz _ _ e1) (dz _ _ e2)) (dz _ _ e3)
/-- the conditions for all i < j, and those for all j < i, have the same null vectors -/
theorem dv_same {n N : Nat} [NeZero n] {d : List Int} (ha : altB N n d = true) (x : Nat → Fin n) :
    NlL n (N * N) (cnR N (fun _ => N) (fun i j => decide (i < j)) (fun i j k => dvR N n d i j k N N N) N 0 0) x ↔ NlL n (N * N) (cnR N (fun i => i) (fun _ _ => true) (fun i j k => dvR N n d i j k N N N) N 0 0) x := by
  have key : ∀ i j k, i < N → j < N → k < N → dt (N * N) (fun t => ph n (gI (dvR N n d j i k N N N) t)) x = 0 → dt (N * N) (fun t => ph n (gI (dvR N n d i j k N N N) t)) x = 0 := by
    intro i j k hi hj hk h
    have e : dt (N * N) (fun t => ph n (gI (dvR N n d i j k N N N) t)) x = dt (N * N) (fun t => (0 : Fin n) - (1 : Fin n) * ph n (gI (dvR N n d j i k N N N) t)) x := by
      refine dt_congr (fun t ht => ?_) fun _ _ => rfl
      have hN : 0 < N := by omega
      have h1 : t / N < N := Nat.div_lt_of_lt_mul ht
      have h2 : t % N < N := Nat.mod_lt _ hN
      have h3 : t = t / N * N + t % N := by rw [Nat.mul_comm]; exact (Nat.div_add_mod t N).symm
      rw [h3]
      unfold dvR
      rw [tab_get _ h1 h2, tab_get _ h1 h2, dv_neg ha hi hj h1 h2 hk]
      grind
    rw [e, dt_sub, h]
    have : dt (N * N) (fun _ => (0 : Fin n)) x = 0 := sm_zero fun _ _ => by grind
    rw [this]; grind
  constructor
  · intro h r hr
    obtain ⟨i, hi, j, hj, _, k, hk, rfl⟩ := cn_mem.1 hr
    exact key i j k hi (by omega) hk (h _ (cn_mem.2 ⟨j, by omega, i, hi, by simpa using hj, k, hk, rfl⟩))
  · intro h r hr
    obtain ⟨i, hi, j, hj, hs, k, hk, rfl⟩ := cn_mem.1 hr
    have hij : i < j := by simpa using hs
    exact key i j k hi hj hk (h _ (cn_mem.2 ⟨j, hj, i, hij, rfl, k, hk, rfl⟩))
end Go.Proofs.Ytfiganobjjjloaa
