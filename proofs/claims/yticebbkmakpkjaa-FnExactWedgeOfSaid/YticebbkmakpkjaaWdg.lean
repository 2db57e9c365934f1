/- The wedge product of cochains: choices of places; two lists that grow in one loop. No program in sight. -/
import Derived.Test.YticebbkmakpkjaaDifW
import Derived.Test.YticebbkmakpkjaaCbyW
namespace Go.Proofs.Yticebbkmakpkjaa
set_option linter.unusedVariables false
set_option linter.unusedSimpArgs false
set_option maxRecDepth 20000
open Go.RowKit
/-- is the number m among P? -/
def inP (P : List Int) (m : Nat) : Bool := P.any fun y => (m : Int) == y
theorem inP_iff {P : List Int} {m : Nat} : inP P m = true ↔ (m : Int) ∈ P := by
  unfold inP
  simp
theorem inP_find (P : List Int) (m : Nat) : decide (0 ≤ idxI (fun y => y == (m : Int)) P) = inP P m := by
  rw [idxI_neg]
  unfold inP
  congr 1
  funext y
  exact Bool.beq_comm
/-- the elements of b at the places of P below m; the others -/
def chs (b P : List Int) : Nat → List Int
  | 0 => []
  | m + 1 => if inP P m then chs b P m ++ [gI b m] else chs b P m
def oth (b P : List Int) : Nat → List Int
  | 0 => []
  | m + 1 => if inP P m then oth b P m else oth b P m ++ [gI b m]
def cnP (P : List Int) : Nat → Nat
  | 0 => 0
  | m + 1 => if inP P m then cnP P m + 1 else cnP P m
theorem chs_len (b P : List Int) (m : Nat) : (chs b P m).length = cnP P m := by
  induction m with
  | zero => rfl
  | succ m ih => unfold chs cnP; split <;> simp [ih]
theorem oth_len (b P : List Int) (m : Nat) : (oth b P m).length + cnP P m = m := by
  induction m with
  | zero => rfl
  | succ m ih => unfold oth cnP; split
                 · omega
                 · rw [List.length_append]; simp only [List.length_singleton]; omega
theorem cnP_congr {P Q : List Int} {m : Nat} (h : ∀ i, i < m → inP P i = inP Q i) : cnP P m = cnP Q m := by
  induction m with
  | zero => rfl
  | succ m ih => unfold cnP; rw [h m (by omega), ih fun i hi => h i (by omega)]
theorem cnP_len (m : Nat) : ∀ P : List Int, P.Nodup → (∀ x ∈ P, 0 ≤ x ∧ x < (m : Int)) → cnP P m = P.length := by
  induction m with
  | zero =>
    intro P _ h
    cases P with
    | nil => rfl
    | cons x xs => have := h x (List.mem_cons_self ..); omega
  | succ m ih =>
    intro P hn h
    unfold cnP
    by_cases e : inP P m = true
    · rw [if_pos e]
      have hm := inP_iff.1 e
      have h1 := ih (P.erase (m : Int)) (hn.erase _) fun x hx => by
        rw [hn.mem_erase_iff] at hx
        have := h x hx.2
        have := hx.1
        omega
      have h2 : cnP (P.erase (m : Int)) m = cnP P m := cnP_congr fun i hi => by
        rw [Bool.eq_iff_iff, inP_iff, inP_iff]
        exact List.mem_erase_of_ne (by omega)
      rw [← h2, h1, List.length_erase_of_mem hm]
      have := List.length_pos_of_mem hm
      omega
    · rw [if_neg e]
      refine ih P hn fun x hx => ?_
      have h1 := h x hx
      have h2 : x ≠ (m : Int) := fun e2 => e (inP_iff.2 (e2 ▸ hx))
      omega
theorem subs_low (n : Nat) : ∀ k low, ∀ r ∈ subs n k low, r.Pairwise (· < ·) ∧ ∀ x ∈ r, (low : Int) ≤ x := by
  intro k
  induction k with
  | zero => intro low r hr; simp [subs] at hr; subst hr; exact ⟨List.Pairwise.nil, fun x hx => by cases hx⟩
  | succ k ih =>
    intro low r hr
    simp only [subs, List.mem_flatMap, List.mem_map] at hr
    obtain ⟨i, hi, s, hs, rfl⟩ := hr
    rw [List.mem_range'_1] at hi
    obtain ⟨h1, h2⟩ := ih _ s hs
    refine ⟨List.pairwise_cons.2 ⟨fun x hx => by have := h2 x hx; omega, h1⟩, fun x hx => ?_⟩
    rcases List.mem_cons.1 hx with e | e
    · omega
    · have := h2 x e; omega
theorem chs_sub {n k : Nat} {P : List Int} (hP : P ∈ subs n k 0) (b : List Int) : (chs b P n).length = k ∧ (oth b P n).length = n - k := by
  have h1 := subs_len n k 0 P hP
  have h2 := cnP_len n P (nodup_of_asc (subs_low n k 0 P hP).1) fun x hx => subs_rng n k 0 P hP x hx
  have h3 := oth_len b P n
  rw [chs_len]
  omega
theorem chs_mem {b P : List Int} {m : Nat} {x : Int} (h : x ∈ chs b P m) (hm : m ≤ b.length) : x ∈ b := by
  induction m with
  | zero => cases h
  | succ m ih =>
    unfold chs at h
    split at h
    · rcases List.mem_append.1 h with h | h
      · exact ih h (by omega)
      · rw [List.mem_singleton.1 h]; exact gI_mem (by omega)
    · exact ih h (by omega)
theorem oth_mem {b P : List Int} {m : Nat} {x : Int} (h : x ∈ oth b P m) (hm : m ≤ b.length) : x ∈ b := by
  induction m with
  | zero => cases h
  | succ m ih =>
    unfold oth at h
    split at h
    · exact ih h (by omega)
    · rcases List.mem_append.1 h with h | h
      · exact ih h (by omega)
      · rw [List.mem_singleton.1 h]; exact gI_mem (by omega)
theorem chs_yes {b P : List Int} {m : Nat} (h : inP P m = true) : chs b P (m + 1) = chs b P m ++ [gI b m] ∧ oth b P (m + 1) = oth b P m := by
  constructor
  · show (if inP P m then _ else _) = _; rw [if_pos h]
  · show (if inP P m then _ else _) = _; rw [if_pos h]
theorem chs_nope {b P : List Int} {m : Nat} (h : inP P m = false) : chs b P (m + 1) = chs b P m ∧ oth b P (m + 1) = oth b P m ++ [gI b m] := by
  constructor
  · show (if inP P m then _ else _) = _; rw [if_neg (by rw [h]; decide)]
  · show (if inP P m then _ else _) = _; rw [if_neg (by rw [h]; decide)]
/-- one term: the sign times the values at the chosen and at the others -/
def wdT (N M : Nat) (p : Int) (u v b P : List Int) : Int := srtS (chs b P M ++ oth b P M) * valV N p u (chs b P M) * valV N p v (oth b P M)
theorem prod_bd {x y : Int} (hx : 0 ≤ x ∧ x < 10007) (hy : 0 ≤ y ∧ y < 10007) : 0 ≤ x * y ∧ x * y ≤ 100140049 :=
  ⟨Int.mul_nonneg hx.1 hy.1, Int.le_trans (Int.mul_le_mul (show x ≤ 10007 by omega) (show y ≤ 10007 by omega) hy.1 (by omega)) (by omega)⟩
theorem wd3_bd {s x y : Int} (hs : s = 0 ∨ s = 1 ∨ s = -1) (hx : 0 ≤ x ∧ x < 10007) (hy : 0 ≤ y ∧ y < 10007) : (-10007 ≤ s * x ∧ s * x ≤ 10007) ∧ -100140049 ≤ s * x * y ∧ s * x * y ≤ 100140049 := by
  have h := prod_bd hx hy
  rcases hs with e | e | e <;> subst e
  · simp
  · simp only [Int.one_mul]; omega
  · simp only [Int.neg_mul, Int.one_mul]; omega
theorem wdT_bd {N M : Nat} {p : Int} (hp1 : 2 ≤ p) (hp2 : p ≤ 10007) (u v b P : List Int) : -100140049 ≤ wdT N M p u v b P ∧ wdT N M p u v b P ≤ 100140049 := by
  have h1 := valV_bd (n := N) (p := p) (by omega) u (chs b P M)
  have h2 := valV_bd (n := N) (p := p) (by omega) v (oth b P M)
  exact (wd3_bd (srtS_bd _) (by omega) (by omega)).2
def wdS (N M J : Nat) (p : Int) (u v b : List Int) (m : Nat) : Int := sI m fun c => wdT N M p u v b (row (subs M J 0) c)
theorem wdS_bd {N M J : Nat} {p : Int} (hp1 : 2 ≤ p) (hp2 : p ≤ 10007) (u v b : List Int) {m : Nat} (hm : m ≤ 5764801) : -577287455618849 ≤ wdS N M J p u v b m ∧ wdS N M J p u v b m ≤ 577287455618849 := by
  have := sI_bd (m := m) (c := 100140049) (f := fun c => wdT N M p u v b (row (subs M J 0) c)) fun i _ => wdT_bd hp1 hp2 u v b _
  unfold wdS
  omega
def wdL (N M J : Nat) (p : Int) (u v : List Int) (m : Nat) : List Int := (List.range m).map fun t => wdS N M J p u v (row (subs N M 0) t) (subs M J 0).length % p
theorem wdL_succ (N M J : Nat) (p : Int) (u v : List Int) (m : Nat) : wdL N M J p u v (m + 1) = wdL N M J p u v m ++ [wdS N M J p u v (row (subs N M 0) m) (subs M J 0).length % p] := by simp [wdL, List.range_succ]
/-- two lists of the call's own that grow in one loop: the first begins in block g, the second in block g + 1 -/
structure Grw2 (g : Nat) (w0 wr : World) (v1 : Value) (n1 : Nat) (xs1 : List Int) (v2 : Value) (n2 : Nat) (xs2 : List Int) : Prop where
  own1 : wr.ownsRow g 3 1 v1 n1 (xs1.map (Value.int .i64))
  own2 : wr.ownsRow g 3 1 v2 n2 (xs2.map (Value.int .i64))
  chg : Chg g (g + 2) w0 wr
  blk1 : ∀ b, v1.ownBlock = some b → b = g ∨ b = g + 1 ∨ w0.heap.size ≤ b
  blk2 : ∀ b, v2.ownBlock = some b → b = g ∨ b = g + 1 ∨ w0.heap.size ≤ b
  ne : ∀ b, v1.ownBlock = some b → v2.ownBlock ≠ some b
  lt : g + 1 < w0.heap.size
theorem own_keep {w w1 : World} {g n : Nat} {v : Value} {xs : List Value} {e : TypeId} (h : w.ownsRow g e 1 v n xs) (hk : ∀ b, v.ownBlock = some b → b < w.heap.size → w1.heap[b]? = w.heap[b]?) : w1.ownsRow g e 1 v n xs := by
  refine ⟨h.1, ?_⟩
  rcases h.2 with h1 | ⟨g', cap, cur, e1, h0, hg, r⟩
  · exact .inl h1
  · have hlt : g' < w.heap.size := by
      rcases Nat.lt_or_ge g' w.heap.size with h | h
      · exact h
      · rw [Array.getElem?_eq_none h] at hg; cases hg
    exact .inr ⟨g', cap, cur, e1, h0, (hk g' (by rw [e1]; rfl) hlt).trans hg, r⟩
section
variable {g n1 n2 : Nat} {w0 wr w1 w3 : World} {v1 v2 v' : Value} {xs1 xs2 : List Int} {x : Int} {T : TypeId}
theorem Grw2.start (w : World) (T : TypeId) (hT : T = 3) : Grw2 w.heap.size ((w.alloc (.cells #[] T)).alloc (.cells #[] T)) ((w.alloc (.cells #[] T)).alloc (.cells #[] T)) (.slice (some ⟨w.heap.size, 0, none⟩) 0 0) 0 [] (.slice (some ⟨w.heap.size + 1, 0, none⟩) 0 0) 0 [] := by
  subst hT
  have h1 := World.ownsRow_lit (base := w.heap.size) (e := 3) (size := 1) w #[] 0 (Nat.le_refl _) (by unfold maxLen; omega) rfl
  have h2 := World.ownsRow_lit (base := w.heap.size) (e := 3) (size := 1) (w.alloc (.cells #[] 3)) #[] 0 (by rw [World.size_alloc]; omega) (by unfold maxLen; omega) rfl
  rw [World.size_alloc] at h2
  refine ⟨own_keep h1 fun b _ hb => Below.heap_alloc _ _ _ hb, h2, Chg.refl _ _ _, fun b e => .inl ?_, fun b e => .inr (.inl ?_), fun b e e2 => ?_, by simp⟩
  · injection e with e; exact e.symm
  · injection e with e; exact e.symm
  · injection e with e
    injection e2 with e2
    have e' : w.heap.size = b := e
    have e2' : w.heap.size + 1 = b := e2
    omega
theorem Grw2.size (h : Grw2 g w0 wr v1 n1 xs1 v2 n2 xs2) : w0.heap.size ≤ wr.heap.size := h.chg.size
theorem Grw2.step (h : Grw2 g w0 wr v1 n1 xs1 v2 n2 xs2) (hb : Below wr.heap.size wr w1) : Grw2 g w0 w1 v1 n1 xs1 v2 n2 xs2 :=
  ⟨own_keep h.own1 fun b _ hlt => hb.block b hlt, own_keep h.own2 fun b _ hlt => hb.block b hlt, h.chg.trans (Chg.ofBelow hb (Nat.le_refl _)), h.blk1, h.blk2, h.ne, h.lt⟩
theorem Grw2.swap (h : Grw2 g w0 wr v1 n1 xs1 v2 n2 xs2) : Grw2 g w0 wr v2 n2 xs2 v1 n1 xs1 :=
  ⟨h.own2, h.own1, h.chg, h.blk2, h.blk1, fun b e e2 => h.ne b e2 e, h.lt⟩
theorem Grw2.push1 (h : Grw2 g w0 w1 v1 n1 xs1 v2 n2 xs2) (hown : w3.ownsRow g 3 1 v' (n1 + 1) ((xs1 ++ [x]).map (Value.int .i64))) (hg : (w1.alloc (.cells #[.int .i64 x] T)).grownBy w3 v1.ownBlock)
    (hv : v'.ownBlock = v1.ownBlock ∨ v'.ownBlock = some (w1.alloc (.cells #[.int .i64 x] T)).heap.size) : Grw2 g w0 w3 v' (n1 + 1) (xs1 ++ [x]) v2 n2 xs2 := by
  have hs := h.chg.size
  have hgs := hg.size
  rw [World.size_alloc] at hgs
  have hlt := h.lt
  have hc := h.chg.alloc (.cells #[.int .i64 x] T)
  have hb2 : ∀ b, v2.ownBlock = some b → b < w1.heap.size := fun b e => (h.own2.lt b e).2
  refine ⟨hown, own_keep h.own2 fun b e hb => ?_, ⟨hg.os.trans hc.os, hg.tape.trans hc.tape, hg.output.trans hc.output, by omega, fun k hk hh => (hg.block k (by rw [World.size_alloc]; omega) fun e => ?_).trans (hc.block k hk hh)⟩, fun b e => ?_, h.blk2, fun b e => ?_, hlt⟩
  · exact (hg.block b (by rw [World.size_alloc]; omega) fun e2 => h.ne b e2.symm e).trans (Below.heap_alloc _ _ _ hb)
  · have := h.blk1 k e.symm
    omega
  · rcases hv with hv | hv
    · exact h.blk1 b (hv ▸ e)
    · rw [hv, World.size_alloc] at e
      injection e with e
      omega
  · rcases hv with hv | hv
    · exact h.ne b (hv ▸ e)
    · rw [hv, World.size_alloc] at e
      injection e with e
      intro e2
      have := hb2 b e2
      omega
theorem Grw2.ret1 (h : Grw2 g w0 wr v1 n1 xs1 v2 n2 xs2) (hn : n1 ≤ 1073741824) : ∃ A c, v1 = .slice A n1 c ∧ Hd A n1 c ∧ OwI wr g wr.heap.size A n1 xs1 := by
  obtain ⟨A, c, rfl, hd⟩ := own_hd h.own1
  exact ⟨A, c, rfl, hd, ofOwn' h.own1 (by unfold maxLen; omega)⟩
theorem Grw2.below (h : Grw2 g w0 wr v1 n1 xs1 v2 n2 xs2) : Below g w0 wr := h.chg.below (by have := h.lt; omega)
end
end Go.Proofs.Yticebbkmakpkjaa
