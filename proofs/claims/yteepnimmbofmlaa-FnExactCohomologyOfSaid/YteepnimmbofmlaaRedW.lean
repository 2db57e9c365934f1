/- reduce: a table of rows brought into reduced form. No condition but what each theorem names. -/
import Derived.Test.YteepnimmbofmlaaRwo
import Derived.Test.YteepnimmbofmlaaUnitW
import Derived.Test.YteepnimmbofmlaaLawK
import Derived.RegionTactic
import Derived.BigRegion
import Derived.Outline
import Derived.Deep.DeepCutAuto
namespace Go.Proofs.Yteepnimmbofmlaa
set_option linter.unusedVariables false
set_option linter.unusedSimpArgs false
set_option maxRecDepth 20000
open Go.RowKit
set_option maxHeartbeats 4000000
/-- the rows hold the numbers of f -/
def FF (xss : List (List Int)) (R C : Nat) (f : Tb) : Prop := ∀ i, i < R → (row xss i).length = C ∧ ∀ j, j < C → gI (row xss i) j = f i j
theorem cell_setCell_some {w : World} {p q : Addr} {x v : Value} (h : w.cell? q = some v) : ∃ v', (w.setCell p x).cell? q = some v' := by
  by_cases e : p = q
  · subst e; exact ⟨x, World.cell?_setCell_same _ _ _ h⟩
  · exact ⟨v, by rw [World.cell?_setCell_other]; exact h; exact e⟩
theorem ownsRow_keep {w w' : World} {base : Nat} {e : TypeId} {v : Value} {n : Nat} {xs : List Value} (h : w.ownsRow base e 1 v n xs) (hk : ∀ b, base ≤ b → b < w.heap.size → w'.heap[b]? = w.heap[b]?) : w'.ownsRow base e 1 v n xs := by
  refine ⟨h.1, ?_⟩
  rcases h.2 with h1 | ⟨g, cap, cur, e1, hb, hg, r⟩
  · exact .inl h1
  · have hlt : g < w.heap.size := by
      rcases Nat.lt_or_ge g w.heap.size with h | h
      · exact h
      · rw [Array.getElem?_eq_none h] at hg; cases hg
    exact .inr ⟨g, cap, cur, e1, hb, (hk g hb hlt).trans hg, r⟩
theorem ownsRow_chg {w w' : World} {base lo hi : Nat} {e : TypeId} {v : Value} {n : Nat} {xs : List Value} (h : w.ownsRow base e 1 v n xs) (hc : Chg lo hi w w') (hb : hi ≤ base) : w'.ownsRow base e 1 v n xs :=
  ownsRow_keep h fun b h0 h1 => hc.block b h1 (.inr (by omega))
theorem OwT.hdLen {w : World} {lo hi n C i : Nat} {v : Value} {hs : List Hdr} {xss : List (List Int)} {f : Tb} (h : OwT w lo hi v n hs xss) (hF : FF xss n C f) (hI : i < n) : (hdr hs i).2.1 = C := by
  rw [← (h.rows i hI).1.1]; exact (hF i hI).1
theorem OwT.atRow {w : World} {lo hi n c C i g : Nat} {hs : List Hdr} {xss : List (List Int)} {f : Tb} (h : OwT w lo hi (.slice (some ⟨g, 0, none⟩) n c) n hs xss) (hF : FF xss n C f) (hI : i < n) (hC : 0 < C) :
    ∃ b o k, hdr hs i = (some ⟨b, o, none⟩, C, k) ∧ w.cell? ⟨g, i, none⟩ = some (.slice (some ⟨b, o, none⟩) C k) ∧ w.frozen? ⟨g, i, none⟩ = false ∧ lo ≤ b ∧ b < hi ∧ b ≠ g ∧ OwI w b (b + 1) (some ⟨b, o, none⟩) C (row xss i) := by
  have hl := h.hdLen hF hI
  obtain ⟨hr, hd⟩ := h.rows i hI
  obtain ⟨g', c', e, _, _, _, _, hc⟩ := h.addr (by omega)
  injection e with e1 e2 e3
  injection e1 with e1
  injection e1 with e1
  subst e1
  obtain ⟨c1, c2⟩ := hc i hI
  rw [hl] at hr
  obtain ⟨b, o, eA⟩ := hr.addr hC
  refine ⟨b, o, (hdr hs i).2.2, by rw [← eA, ← hl], ?_, c2, ?_, ?_, ?_, ?_⟩
  · rw [c1]; unfold slv; rw [eA, hl]
  · rw [eA] at hr; exact (hr.blk hC).1
  · rw [eA] at hr; exact (hr.blk hC).2
  · intro e2
    refine h.sepT i b o hI (by omega) eA ?_
    rw [e2]; rfl
  · rw [eA] at hr; exact hr.tight
/-- two headers exchanged -/
theorem OwT.swap {w : World} {lo hi n c g i j : Nat} {hs : List Hdr} {xss : List (List Int)} (h : OwT w lo hi (.slice (some ⟨g, 0, none⟩) n c) n hs xss) (hI : i < n) (hJ : j < n) :
    OwT ((w.setCell ⟨g, i, none⟩ (slv (hdr hs j))).setCell ⟨g, j, none⟩ (slv (hdr hs i))) lo hi (.slice (some ⟨g, 0, none⟩) n c) n ((hs.set i (hdr hs j)).set j (hdr hs i)) ((xss.set i (row xss j)).set j (row xss i)) := by
  have hl := h.hlen
  have hx := h.len
  obtain ⟨s1, _⟩ := h.tbl.stored i (slv (hdr hs j))
  obtain ⟨s2, _⟩ := s1.stored j (slv (hdr hs i))
  have hh : ∀ t, hdr ((hs.set i (hdr hs j)).set j (hdr hs i)) t = if t = j then hdr hs i else if t = i then hdr hs j else hdr hs t := by
    intro t
    unfold hdr
    by_cases e : t = j
    · subst e; simp [List.getElem?_set, hl, hJ]
    · rw [if_neg e]
      by_cases e2 : t = i
      · subst e2; simp [List.getElem?_set, hl, hI, Ne.symm e]
      · rw [if_neg e2]; simp [List.getElem?_set, Ne.symm e, Ne.symm e2]
  have hrw : ∀ t, row ((xss.set i (row xss j)).set j (row xss i)) t = if t = j then row xss i else if t = i then row xss j else row xss t := by
    intro t
    rw [row_set (by simp [hx]; exact hJ), row_set (by rw [hx]; exact hI)]
  have hk : ∀ b, lo ≤ b → b < hi → b < w.heap.size → b ≠ g → ((w.setCell ⟨g, i, none⟩ (slv (hdr hs j))).setCell ⟨g, j, none⟩ (slv (hdr hs i))).heap[b]? = w.heap[b]? := fun b _ _ hb hne => by
    rw [Below.heap_setCell _ _ _ _ (by exact hne), Below.heap_setCell _ _ _ _ (by exact hne)]
  have hrows : ∀ t, t < n → OwI ((w.setCell ⟨g, i, none⟩ (slv (hdr hs j))).setCell ⟨g, j, none⟩ (slv (hdr hs i))) lo hi (hdr hs t).1 (hdr hs t).2.1 (row xss t) ∧ Hd (hdr hs t).1 (hdr hs t).2.1 (hdr hs t).2.2 := by
    intro t ht
    obtain ⟨r1, r2⟩ := h.rows t ht
    refine ⟨⟨r1.1, r1.2.1, fun hp => ?_⟩, r2⟩
    obtain ⟨b, o, e, hb0, hb1, hc⟩ := r1.2.2 hp
    have hne : b ≠ g := fun e2 => h.sepT t b o ht hp e (by rw [e2]; rfl)
    have hlt : b < w.heap.size := by have h1 := r1; rw [e] at h1; exact h1.ltS hp
    have hkk := hk b hb0 hb1 hlt hne
    exact ⟨b, o, e, hb0, hb1, fun q hq => ⟨(World.cell?_of_block (w := w) hkk).trans (hc q hq).1, (World.frozen?_of_block (w := w) hkk).trans (hc q hq).2⟩⟩
  have sepA : ∀ s t b o b' o', s ≠ t → s < n → t < n → 0 < (hdr hs s).2.1 → 0 < (hdr hs t).2.1 → (hdr hs s).1 = some ⟨b, o, none⟩ → (hdr hs t).1 = some ⟨b', o', none⟩ → b ≠ b' := by
    intro s t b o b' o' hst hs' ht hp hp' e e'
    rcases Nat.lt_or_ge s t with h1 | h1
    · exact h.sep s t b o b' o' h1 ht hp hp' e e'
    · exact (h.sep t s b' o' b o (by omega) hs' hp' hp e' e).symm
  refine ⟨?_, h.blk, by simp [hx], fun t ht => ?_, fun t b o ht hp e => ?_, fun s t b o b' o' hst ht hp hp' e e' => ?_⟩
  · rw [List.map_set, List.map_set]; exact s2
  · rw [hh, hrw]
    split
    · exact hrows i hI
    · split
      · exact hrows j hJ
      · exact hrows t ht
  · rw [hh] at hp e
    split at hp
    · rename_i e1; rw [if_pos e1] at e; exact h.sepT i b o hI hp e
    · rename_i e1
      rw [if_neg e1] at e
      split at hp
      · rename_i e2; rw [if_pos e2] at e; exact h.sepT j b o hJ hp e
      · rename_i e2; rw [if_neg e2] at e; exact h.sepT t b o ht hp e
  · have key : ∀ t, ∃ t', hdr ((hs.set i (hdr hs j)).set j (hdr hs i)) t = hdr hs t' ∧ t' = if t = j then i else if t = i then j else t := by
      intro t
      rw [hh]
      refine ⟨_, ?_, rfl⟩
      split
      · rfl
      · split <;> rfl
    obtain ⟨s', es, es'⟩ := key s
    obtain ⟨t', et, et'⟩ := key t
    rw [es] at hp e
    rw [et] at hp' e'
    refine sepA s' t' b o b' o' ?_ ?_ ?_ hp hp' e e'
    · rw [es', et']
      grind
    · rw [es']; split
      · exact hI
      · split <;> omega
    · rw [et']; split
      · exact hI
      · split <;> omega
theorem row_swap {xss : List (List Int)} {n i j : Nat} (hx : xss.length = n) (hi : i < n) (hj : j < n) (t : Nat) : row ((xss.set i (row xss j)).set j (row xss i)) t = if t = j then row xss i else if t = i then row xss j else row xss t := by
  rw [row_set (by simp [hx]; exact hj), row_set (by rw [hx]; exact hi)]
theorem FF.swap {xss : List (List Int)} {R C i j : Nat} {f : Tb} (h : FF xss R C f) (hx : xss.length = R) (hi : i < R) (hj : j < R) : FF ((xss.set j (row xss i)).set i (row xss j)) R C (swapF f i j) := by
  intro t ht
  rw [row_swap hx hj hi]
  simp only [swapF]
  by_cases e : t = i
  · simp only [if_pos e]; exact h j hj
  · simp only [if_neg e]
    by_cases e2 : t = j
    · simp only [if_pos e2]; exact h i hi
    · simp only [if_neg e2]; exact h t ht
/-- what a piece of reduce leaves: the rows hold f, the pivots lie as they lay -/
def CutRed (lo hi R C g k0 base : Nat) (v7 : Value) (m : Nat) (xs : List Value) (f : Tb) (w wx : World) : Prop :=
  Chg lo hi w wx ∧ (∃ hs xss, OwT wx lo hi (.slice (some ⟨g, 0, none⟩) R k0) R hs xss ∧ FF xss R C f) ∧ wx.ownsRow base 3 1 v7 m xs
/-- the numbers of a list of columns -/
def pvI (l : List Nat) : List Int := l.map fun x : Nat => (x : Int)
theorem pvI_app (l : List Nat) (c : Nat) : pvI (l ++ [c]) = pvI l ++ [(c : Int)] := by simp [pvI]
theorem pvI_len (l : List Nat) : (pvI l).length = l.length := by simp [pvI]
theorem Chg.grown {lo hi : Nat} {a w w' : World} {r : Option Nat} (h : Chg lo hi a w) (hg : w.grownBy w' r) (hr : ∀ b, r = some b → a.heap.size ≤ b) : Chg lo hi a w' :=
  ⟨hg.os.trans h.os, hg.tape.trans h.tape, hg.output.trans h.output, Nat.le_trans h.size hg.size, fun k hk hh => (hg.block k (Nat.lt_of_lt_of_le hk h.size) (fun e => by have := hr k e.symm; omega)).trans (h.block k hk hh)⟩
theorem RdI.one (w : World) (x : Int) (T : TypeId) : RdI (w.alloc (.cells #[.int .i64 x] T)) (w.heap.size + 1) (some ⟨w.heap.size, 0, none⟩) 1 [x] :=
  ⟨rfl, by unfold maxLen; omega, fun _ => ⟨_, _, rfl, by omega, fun j hj => by
    obtain rfl : j = 0 := by omega
    exact (Box.new w _ _).one⟩⟩
/-- what reduce leaves: the pivots, the rows in reduced form -/
def RetRed (lo hi : Nat) (v : Value) (R C : Nat) (p : Int) (f : Tb) (w : World) (e : Ending) (w' : World) : Prop :=
  ∃ A k, e = .returned (.slice A (rr R p f C).rk k) ∧ Hd A (rr R p f C).rk k ∧ Chg lo hi w w' ∧ (∃ hs xss, OwT w' lo hi v R hs xss ∧ FF xss R C (rr R p f C).f) ∧ OwI w' w.heap.size w'.heap.size A (rr R p f C).rk (pvI (rr R p f C).pv)
/-- one number of a row written -/
theorem OwT.store1 {w : World} {lo hi n C i j b o k : Nat} {v : Value} {hs : List Hdr} {xss : List (List Int)} (h : OwT w lo hi v n hs xss) (hI : i < n) (hh : hdr hs i = (some ⟨b, o, none⟩, C, k)) (hj : j < C) (x : Int) :
    OwT (w.setCell ⟨b, o + j, none⟩ (.int .i64 x)) lo hi v n hs (xss.set i ((row xss i).set j x)) := by
  have h1 : (hdr hs i).1 = some ⟨b, o, none⟩ := by rw [hh]
  have h2 : (hdr hs i).2.1 = C := by rw [hh]
  have hr := (h.rows i hI).1
  rw [h1, h2] at hr
  refine h.setRow hI (by omega) h1 ((Chg.refl b (b + 1) w).setCell (Nat.le_refl _) (by show b < b + 1; omega) _) ?_
  rw [h2]
  exact hr.tight.store hj
theorem FF.store1 {xss : List (List Int)} {R C i j : Nat} {f : Tb} (h : FF xss R C f) (hx : xss.length = R) (hI : i < R) (hj : j < C) (x : Int) :
    FF (xss.set i ((row xss i).set j x)) R C (fun a y => if a = i ∧ y = j then x else f a y) := by
  intro a ha
  rw [row_set (by omega)]
  by_cases e : a = i
  · subst e
    rw [if_pos rfl]
    refine ⟨by rw [List.length_set]; exact (h a ha).1, fun y hy => ?_⟩
    show gI _ y = if a = a ∧ y = j then x else f a y
    rw [gI_set _ _ _ _ (by rw [(h a ha).1]; exact hj)]
    by_cases e2 : y = j
    · rw [if_pos e2, if_pos ⟨rfl, e2⟩]
    · rw [if_neg e2, if_neg (by rintro ⟨_, h⟩; exact e2 h)]; exact (h a ha).2 y hy
  · rw [if_neg e]
    refine ⟨(h a ha).1, fun y hy => ?_⟩
    show gI _ y = if a = i ∧ y = j then x else f a y
    rw [if_neg (by rintro ⟨h, _⟩; exact e h)]; exact (h a ha).2 y hy
theorem FF.congr {xss : List (List Int)} {R C : Nat} {f g : Tb} (h : FF xss R C f) (he : ∀ i j, i < R → j < C → f i j = g i j) : FF xss R C g :=
  fun i hi => ⟨(h i hi).1, fun j hj => by rw [← he i j hi hj]; exact (h i hi).2 j hj⟩
/-- a row written anew -/
theorem FF.setRow {xss : List (List Int)} {R C i : Nat} {f g : Tb} {ys : List Int} (h : FF xss R C f) (hx : xss.length = R) (hI : i < R) (hl : ys.length = C) (hy : ∀ j, j < C → gI ys j = g i j) (he : ∀ a j, a < R → a ≠ i → j < C → g a j = f a j) : FF (xss.set i ys) R C g := by
  intro a ha
  rw [row_set (by omega)]
  by_cases e : a = i
  · subst e; rw [if_pos rfl]; exact ⟨hl, hy⟩
  · rw [if_neg e]; exact ⟨(h a ha).1, fun j hj => by rw [he a j ha e hj]; exact (h a ha).2 j hj⟩
/-- the row r, scaled up to column j -/
def scT (f : Tb) (r : Nat) (v p : Int) (j : Nat) : Tb := fun i y => if i = r ∧ y < j then f r y * v % p else f i y
theorem scT_zero (f : Tb) (r : Nat) (v p : Int) (i y : Nat) : scT f r v p 0 i y = f i y := by unfold scT; rw [if_neg (by omega)]
theorem scT_at (f : Tb) (r : Nat) (v p : Int) (j : Nat) : scT f r v p j r j = f r j := by unfold scT; rw [if_neg (by omega)]
theorem scT_succ (f : Tb) (r : Nat) (v p : Int) (j i y : Nat) : (if i = r ∧ y = j then f r j * v % p else scT f r v p j i y) = scT f r v p (j + 1) i y := by
  unfold scT
  by_cases h1 : i = r
  · by_cases h2 : y = j
    · subst h2; rw [if_pos ⟨h1, rfl⟩, if_pos ⟨h1, by omega⟩]
    · rw [if_neg (by omega)]
      by_cases h3 : y < j
      · rw [if_pos ⟨h1, h3⟩, if_pos ⟨h1, by omega⟩]
      · rw [if_neg (by omega), if_neg (by omega)]
  · rw [if_neg (by omega), if_neg (by omega), if_neg (by omega)]
theorem scT_done (f : Tb) (r : Nat) (v p : Int) (C i y : Nat) (hy : y < C) : scT f r v p C i y = scaleF f r v p i y := by
  unfold scT scaleF
  by_cases h1 : i = r
  · rw [if_pos ⟨h1, hy⟩, if_pos h1]
  · rw [if_neg (by omega), if_neg h1]
/-- the rows below i cleared -/
def elT (f : Tb) (r c : Nat) (p : Int) (i : Nat) : Tb := fun a y => if a < i then elimF f r c p a y else f a y
theorem elT_row (f : Tb) (r c : Nat) (p : Int) (i y : Nat) : elT f r c p i r y = f r y := by
  unfold elT elimF; split
  · rw [if_pos rfl]
  · rfl
theorem elT_at (f : Tb) (r c : Nat) (p : Int) (i y : Nat) : elT f r c p i i y = f i y := by unfold elT; rw [if_neg (by omega)]
theorem elT_succ (f : Tb) (r c : Nat) (p : Int) (i a y : Nat) (h : a ≠ i) : elT f r c p i a y = elT f r c p (i + 1) a y := by
  unfold elT
  by_cases h1 : a < i
  · rw [if_pos h1, if_pos (by omega)]
  · rw [if_neg h1, if_neg (by omega)]
theorem elT_skip (f : Tb) (r c : Nat) (p : Int) (i a y : Nat) (h : elimF f r c p i y = f i y) : elT f r c p i a y = elT f r c p (i + 1) a y := by
  by_cases e : a = i
  · subst e; rw [elT_at]; unfold elT; rw [if_pos (by omega), h]
  · exact elT_succ f r c p i a y e
theorem elT_done (f : Tb) (r c : Nat) (p : Int) (R a y : Nat) (h : a < R) : elT f r c p R a y = elimF f r c p a y := by unfold elT; rw [if_pos h]
theorem elim_skip {f : Tb} {r c i y : Nat} {p : Int} (hp : 1 ≤ p) (h : i = r ∨ f i c = 0) (hb : 0 ≤ f i y ∧ f i y < p) : elimF f r c p i y = f i y := by
  unfold elimF
  by_cases e : i = r
  · rw [if_pos e, e]
  · rw [if_neg e]
    rcases h with h | h
    · exact absurd h e
    · rw [h, Int.zero_mul, Int.sub_zero]; exact Int.emod_eq_of_lt hb.1 hb.2
theorem addAt_row {D ys : List Int} {k p : Int} {C : Nat} (hD : D.length = C) {g : Nat → Int} (h : ∀ j, j < C → (gI D j + k * gI ys j) % p = g j) : ∀ j, j < C → gI (addAt D 0 k ys p C) j = g j := by
  intro j hj
  rw [addAt_get _ _ _ _ _ _ (by omega), if_pos (by omega), ← h j hj]
  rfl
theorem OwT.sepB {w : World} {lo hi n i j b b' o o' C k k' : Nat} {v : Value} {hs : List Hdr} {xss : List (List Int)} (h : OwT w lo hi v n hs xss) (hI : i < n) (hJ : j < n) (hij : i ≠ j) (hC : 0 < C) (e : hdr hs i = (some ⟨b, o, none⟩, C, k)) (e' : hdr hs j = (some ⟨b', o', none⟩, C, k')) : b ≠ b' := by
  rcases Nat.lt_or_ge i j with h1 | h1
  · exact h.sep i j b o b' o' h1 hJ (by rw [e]; exact hC) (by rw [e']; exact hC) (by rw [e]) (by rw [e'])
  · exact (h.sep j i b' o' b o (by omega) hI (by rw [e']; exact hC) (by rw [e]; exact hC) (by rw [e']) (by rw [e])).symm
theorem OwT.setRow' {w w' : World} {lo hi n j b o C k : Nat} {v : Value} {hs : List Hdr} {xss : List (List Int)} {ys : List Int} (h : OwT w lo hi v n hs xss) (hJ : j < n) (hC : 0 < C) (e : hdr hs j = (some ⟨b, o, none⟩, C, k)) (hc : Chg b (b + 1) w w') (ho : OwI w' b (b + 1) (some ⟨b, o, none⟩) C ys) : OwT w' lo hi v n hs (xss.set j ys) :=
  h.setRow hJ (by rw [e]; exact hC) (by rw [e]) hc (by rw [e]; exact ho)
theorem elim_add {f : Tb} {r c i y : Nat} {p : Int} (h : i ≠ r) : elimF f r c p i y = (f i y + (p - f i c) * f r y) % p := by
  unfold elimF
  rw [if_neg h]
  have e : f i y + (p - f i c) * f r y = f i y - f i c * f r y + p * f r y := by grind
  rw [e, Int.add_mul_emod_self_left]
theorem scale_bd {f : Tb} {p v : Int} {r : Nat} (hp : 1 ≤ p) (h : ∀ i j, 0 ≤ f i j ∧ f i j < p) (i j : Nat) : 0 ≤ scaleF f r v p i j ∧ scaleF f r v p i j < p := by
  unfold scaleF; split
  · exact ⟨Int.emod_nonneg _ (by omega), Int.emod_lt_of_pos _ (by omega)⟩
  · exact h i j
theorem swap_bd {f : Tb} {p : Int} {r k : Nat} (h : ∀ i j, 0 ≤ f i j ∧ f i j < p) (i j : Nat) : 0 ≤ swapF f r k i j ∧ swapF f r k i j < p := by
  unfold swapF; split
  · exact h _ _
  · split <;> exact h _ _
end Go.Proofs.Yteepnimmbofmlaa
namespace Go.Proofs.Yteepnimmbofmlaa
set_option linter.unusedVariables false
set_option linter.unusedSimpArgs false
set_option maxRecDepth 20000
open Go.RowKit
set_option maxHeartbeats 4000000
theorem rr_hit {R : Nat} {p : Int} {f : Tb} {c k : Nat} (h : pivAt (rr R p f c).f c (rr R p f c).rk R = k) (hk : k < R) :
    (rr R p f (c + 1)).f = elimF (scaleF (swapF (rr R p f c).f (rr R p f c).rk k) (rr R p f c).rk (invI ((rr R p f c).f k c) p) p) (rr R p f c).rk c p ∧ (rr R p f (c + 1)).rk = (rr R p f c).rk + 1 ∧ (rr R p f (c + 1)).pv = (rr R p f c).pv ++ [c] := by
  simp only [rr, rstep, h, if_pos hk]
  exact ⟨trivial, trivial, trivial⟩
theorem rr_miss {R : Nat} {p : Int} {f : Tb} {c : Nat} (h : pivAt (rr R p f c).f c (rr R p f c).rk R = R) : rr R p f (c + 1) = rr R p f c := by
  simp only [rr, rstep, h, if_neg (Nat.lt_irrefl R)]
set_option maxRecDepth 100000 in
theorem reduce_any {lo hi : Nat} (v : Value) (R C : Nat) (p : Int) (f : Tb) (hs : List Hdr) (xss : List (List Int)) (w : World) (hT : OwT w lo hi v R hs xss) (hF : FF xss R C f) (hhi : hi ≤ w.heap.size) (hR : R ≤ 1000000) (hC : C ≤ 1000000) (hp : isP p = true) (hf : ResF f p) :
    Calls Try.prog 76 #[v, .int .i64 C, .int .i64 p] w (RetRed lo hi v R C p f w) := by
  obtain ⟨hp1, hp2⟩ := isP_bd hp
  have HP := Lib.hid hp
  have HFF := Lib.hid hF
  have HRF := Lib.hid hf
  obtain ⟨A, k0, rfl, hd⟩ := hT.hd
  clear hp hF hf
  go_enter Try.func76, Try.ntmps76
  go_wp2_with fail
  go_loopw [7, 17] (fun v7 cc wr => ∃ (c : Nat) (hs : List Hdr) (xss : List (List Int)), c ≤ C ∧ cc = .int .i64 c ∧ Chg lo hi w wr ∧ OwT wr lo hi (.slice A R k0) R hs xss ∧ Hid (FF xss R C (rr R p f c).f) ∧ wr.ownsRow w.heap.size 3 1 v7 (rr R p f c).rk ((pvI (rr R p f c).pv).map (Value.int .i64))) (fun _ i _ => C - (intOf i).toNat)
  case atStart => exact ⟨0, hs, xss, by omega, rfl, (Chg.refl _ _ _).alloc _, hT.alloc hhi _, HFF, World.ownsRow_lit w #[] 0 (Nat.le_refl _) (by unfold maxLen; omega) rfl⟩
  case round =>
    clear hT HFF
    obtain ⟨c, hs, xss, hc, rfl, hch, hT, hFF, how⟩ := hrel
    have hhw : hi ≤ wr.heap.size := Nat.le_trans hhi hch.size
    by_cases hlt : c < C
    · obtain ⟨hrk, hpl⟩ := rr_rk R p f c
      have hres := Lib.hid (rr_res (R := R) (by omega) HRF.out c)
      have HPL := Lib.hid hpl
      obtain ⟨A7, c7, rfl, hd7⟩ := own_hd how
      clear hpl
      go_wp2_with fail
      go_loop [10] (fun x => ∃ k : Nat, (rr R p f c).rk ≤ k ∧ k ≤ R ∧ x = .int .i64 k ∧ Hid (∀ j, (rr R p f c).rk ≤ j → j < k → (rr R p f c).f j c = 0)) (fun x => R - (intOf x).toNat)
      case atStart => exact ⟨(rr R p f c).rk, Nat.le_refl _, hrk, rfl, fun j h1 h2 => by omega⟩
      case round =>
        obtain ⟨k, hk0, hk, rfl, hz⟩ := hrel
        by_cases hkR : k < R
        · have hpos : 0 < R := by omega
          obtain ⟨g, cg, e1, -, -, -, -, -⟩ := hT.addr hpos
          injection e1 with e1 e2 e3
          subst e1 e3
          obtain ⟨b, o, kk, hh, hcl, hfz, hb0, hb1, hbg, hro⟩ := hT.atRow hFF.out hkR (by omega)
          have hce := (hro.at_ hlt).1
          have hval := (hFF.out k hkR).2 c hlt
          rw [hval] at hce
          have HH := Lib.hid hh
          clear hh hval e2 hro
          by_cases hv : (rr R p f c).f k c = 0
          · have Hv := Lib.hid hv
            have hv' : ((rr R p f c).f k c == 0) = true := by simpa using hv
            clear hv
            go_wp2
            go_round
            case rel => exact ⟨k + 1, by omega, by omega, by go_num, fun j h1 h2 => by
              by_cases e : j = k
              · subst e; exact Hv.out
              · exact hz.out j h1 (by omega)⟩
            case measure => simp [intOf]; omega
          · have hv' : ((rr R p f c).f k c == 0) = false := by simpa using hv
            have HPV := Lib.hid (pivAt_eq hk0 hk hz.out (.inr hv))
            have Hv := Lib.hid hv
            clear hv
            obtain ⟨b', o', kk', hh', hcl', hfz', -, -, -, -⟩ := hT.atRow hFF.out (show (rr R p f c).rk < R by omega) (by omega)
            have HH' := Lib.hid hh'
            have htg : lo ≤ g ∧ g < hi := by
              obtain ⟨g', c', e, h1, h2, -, -, -⟩ := hT.addr hpos
              injection e with e; injection e with e; injection e with e; subst e; exact ⟨h1, h2⟩
            clear hh'
            have hrkR : (rr R p f c).rk < R := by omega
            obtain ⟨vq, hq⟩ := cell_setCell_some (w := wr) (p := ⟨g, k, none⟩) (x := .slice (some ⟨b', o', none⟩) C kk') (q := ⟨g, (rr R p f c).rk, none⟩) hcl'
            go_wp2_with fail
            go_cut [10] (fun s10 wx => s10 = .int .i64 k ∧ CutRed lo hi R C g k0 w.heap.size (.slice A7 (rr R p f c).rk c7) (rr R p f c).rk ((pvI (rr R p f c).pv).map (Value.int .i64)) (swapF (rr R p f c).f (rr R p f c).rk k) w wx)
            case first =>
              go_region
              all_goals
                go_wp2_with fail
                go_meet
                refine ⟨rfl, (((Chg.setCell hch htg.1 htg.2 _).setCell htg.1 htg.2 _).drewN 1), ?_, ?_⟩
                · have hsw := hT.swap hkR hrkR
                  have hfs := hFF.out.swap hT.len hrkR hkR
                  unfold slv at hsw
                  rw [HH.out, HH'.out] at hsw
                  exact ⟨_, _, hsw.keep fun _ _ _ _ => rfl, hfs⟩
                · exact ownsRow_chg how ((((Chg.refl _ _ _).setCell htg.1 htg.2 _).setCell htg.1 htg.2 _).drewN 1) hhi
            case rest =>
              obtain ⟨rfl, hch2, ⟨hs2, xss2, hT2, hF2⟩, how2⟩ := hcut
              have hsb := swap_bd (r := (rr R p f c).rk) (k := k) hres.out
              have hsc : swapF (rr R p f c).f (rr R p f c).rk k (rr R p f c).rk c = (rr R p f c).f k c := by simp [swapF]
              have HS := Lib.hid (rr_hit HPV.out hkR)
              clear hcl hcl' hfz hfz' hce hq hch hT how
              generalize swapF (rr R p f c).f (rr R p f c).rk k = f2 at hF2 hsb hsc HS
              obtain ⟨b2, o2, kk2, hh2, hcl2, hfz2, hb20, hb21, hbg2, hro2⟩ := hT2.atRow hF2 hrkR (by omega)
              have hce2 := (hro2.at_ hlt).1
              have hval2 := (hF2 _ hrkR).2 c hlt
              rw [hval2, hsc] at hce2
              have HF2 := Lib.hid hF2
              have HSB := Lib.hid hsb
              have hkb := hres.out k c
              have hk1 : 0 < (rr R p f c).f k c := by have := Hv.out; omega
              clear hh2 hval2 hsc hF2 hsb hro2
              go_wp2_with (go_at_call 95; refine (inverse_any _ _ _ HP.out hk1 hkb.2).mono ?_; rintro e w3 ⟨d3, rfl, rfl⟩)
              have hvb := invI_bd (n := (rr R p f c).f k c) HP.out
              generalize invI ((rr R p f c).f k c) p = vi at HS hvb
              go_loopw [71] (fun jj wr => ∃ j : Nat, j ≤ C ∧ jj = .int .i64 j ∧ CutRed lo hi R C g k0 w.heap.size (.slice A7 (rr R p f c).rk c7) (rr R p f c).rk ((pvI (rr R p f c).pv).map (Value.int .i64)) (scT f2 (rr R p f c).rk vi p j) w wr) (fun jj _ => C - (intOf jj).toNat)
              case atStart => exact ⟨0, by omega, rfl, hch2.drewN _, ⟨_, _, hT2.keep fun _ _ _ _ => rfl, HF2.out.congr fun i j _ _ => (scT_zero _ _ _ _ _ _).symm⟩, ownsRow_chg how2 ((Chg.refl lo hi _).drewN d3) hhi⟩
              case round =>
                clear hcl2 hfz2 hce2 hch2 hT2 how2 HF2
                obtain ⟨j, hj, rfl, hch3, ⟨hs3, xss3, hT3, hF3⟩, how3⟩ := hrel
                obtain ⟨b3, o3, kk3, hh3, hcl3, hfz3, hb30, hb31, hbg3, hro3⟩ := hT3.atRow hF3 hrkR (by omega)
                by_cases hlt3 : j < C
                · obtain ⟨hce3, hcf3⟩ := hro3.at_ hlt3
                  have hval3 := (hF3 _ hrkR).2 j hlt3
                  rw [hval3, scT_at] at hce3
                  obtain ⟨q1, q2⟩ := HSB.out (rr R p f c).rk j
                  have m1 : 0 ≤ f2 (rr R p f c).rk j * vi := Int.mul_nonneg q1 hvb.1
                  have m2 : f2 (rr R p f c).rk j * vi ≤ 10007 * 10007 := Int.mul_le_mul (by omega) (by omega) hvb.1 (by omega)
                  have n1 := Int.emod_nonneg (f2 (rr R p f c).rk j * vi) (show p ≠ 0 by omega)
                  have n2 := Int.emod_lt_of_pos (f2 (rr R p f c).rk j * vi) (show 0 < p by omega)
                  have hpe : (p == 0) = false := by simp; omega
                  have hw1 : IntKind.i64.wrap (f2 (rr R p f c).rk j * vi) = f2 (rr R p f c).rk j * vi := IntWalk.i64_in _ (by omega)
                  have hw2 : IntKind.i64.wrap (f2 (rr R p f c).rk j * vi % p) = f2 (rr R p f c).rk j * vi % p := IntWalk.i64_in _ (by omega)
                  have htm : (f2 (rr R p f c).rk j * vi).tmod p = f2 (rr R p f c).rk j * vi % p := Int.tmod_eq_emod_of_nonneg m1
                  have HH3 := Lib.hid hh3
                  have HF3 := Lib.hid hF3
                  clear hh3 hF3 hval3 hro3 q1 q2
                  go_wp2_with fail
                  (refine wp_region_quiet_last (C := fun w' => ∃ nn, w' = wr.drewN nn) 17 (by kernel_rfl) (by kernel_rfl) (by kernel_rfl) (by kernel_rfl) (by kernel_rfl) (by kernel_rfl) (by kernel_rfl) (by kernel_rfl) ⟨1, rfl⟩ ?_; simp only [List.take_succ_cons, List.take_zero, List.drop_succ_cons, List.drop_zero]; (repeat (go_big_quiet_step (fail))); refine wpQuiet_nil ?_; rintro W ⟨nq, rfl⟩)
                  have hT4 := (hT3.store1 hrkR HH3.out hlt3 (f2 (rr R p f c).rk j * vi % p))
                  have hF4 := Lib.hid ((HF3.out.store1 hT3.len hrkR hlt3 (f2 (rr R p f c).rk j * vi % p)).congr fun i y _ _ => scT_succ f2 _ vi p j i y)
                  have hch4 := ((hch3.drewN nq).setCell (p := ⟨b3, o3 + j, none⟩) hb30 hb31 (.int .i64 (f2 (rr R p f c).rk j * vi % p)))
                  have how4 := ownsRow_chg how3 (((Chg.refl lo hi wr).drewN nq).setCell (p := ⟨b3, o3 + j, none⟩) hb30 hb31 (.int .i64 (f2 (rr R p f c).rk j * vi % p))) hhi
                  clear hT3 hch3 how3 HF3 hw1 hw2 htm m1 m2 n1 n2
                  go_wp2
                  go_roundw
                  case rel => exact ⟨j + 1, by omega, by go_num, hch4, ⟨_, _, hT4.keep fun _ _ _ _ => rfl, hF4.out⟩, how4⟩
                  case measure => simp [intOf]; omega
                · have hjC : j = C := by omega
                  subst hjC
                  have hF4 := Lib.hid (hF3.congr fun i y _ hy => scT_done f2 (rr R p f c).rk vi p j i y hy)
                  have hbd := Lib.hid (scale_bd (r := (rr R p f c).rk) (v := vi) (p := p) (by omega) HSB.out)
                  clear hh3 hro3 hcl3 hfz3 HSB hF3
                  generalize scaleF f2 (rr R p f c).rk vi p = f3 at HS hF4 hbd
                  go_wp2_with fail
                  have hj0 : 0 < j := by omega
                  go_loopw [94] (fun ii wr => ∃ i : Nat, i ≤ R ∧ ii = .int .i64 i ∧ CutRed lo hi R j g k0 w.heap.size (.slice A7 (rr R p f c).rk c7) (rr R p f c).rk ((pvI (rr R p f c).pv).map (Value.int .i64)) (elT f3 (rr R p f c).rk c p i) w wr) (fun ii _ => R - (intOf ii).toNat)
                  case atStart => exact ⟨0, by omega, rfl, hch3, ⟨_, _, hT3, hF4.out.congr fun i y _ _ => by unfold elT; rw [if_neg (by omega)]⟩, how3⟩
                  case round =>
                    clear hch3 hT3 how3 hF4
                    obtain ⟨i, hi4, rfl, hch4, ⟨hs4, xss4, hT4, hF4⟩, how4⟩ := hrel
                    have hhw4 : hi ≤ wr.heap.size := Nat.le_trans hhi hch4.size
                    by_cases hlt4 : i < R
                    · obtain ⟨b4, o4, kk4, hh4, hcl4, hfz4, hb40, hb41, hbg4, hro4⟩ := hT4.atRow hF4 hlt4 hj0
                      have hce4 := (hro4.at_ hlt).1
                      have hval4 := (hF4 _ hlt4).2 c hlt
                      rw [hval4, elT_at] at hce4
                      have hb4 := hbd.out i c
                      by_cases hsk : i = (rr R p f c).rk ∨ f3 i c = 0
                      · have HF5 := Lib.hid (hF4.congr fun a y _ _ => elT_skip f3 (rr R p f c).rk c p i a y (elim_skip (by omega) hsk (hbd.out i y)))
                        have HT4 := Lib.hid hT4
                        clear hh4 hval4 hro4 hF4 hT4
                        by_cases hir : i = (rr R p f c).rk
                        · have hir' : ((i : Int) != ((rr R p f c).rk : Int)) = false := by simp; omega
                          clear hir hsk
                          go_wp2
                          go_roundw
                          case rel => exact ⟨i + 1, by omega, by go_num, hch4, ⟨_, _, HT4.out, HF5.out⟩, how4⟩
                          case measure => simp [intOf]; omega
                        · have hir' : ((i : Int) != ((rr R p f c).rk : Int)) = true := by simp; omega
                          have hz4 : (f3 i c != 0) = false := by
                            rcases hsk with h | h
                            · exact absurd h hir
                            · simpa using h
                          clear hir hsk
                          go_wp2
                          go_roundw
                          case rel => exact ⟨i + 1, by omega, by go_num, hch4, ⟨_, _, HT4.out, HF5.out⟩, how4⟩
                          case measure => simp [intOf]; omega
                      · have hir : i ≠ (rr R p f c).rk := fun e => hsk (.inl e)
                        have hir' : ((i : Int) != ((rr R p f c).rk : Int)) = true := by simp; omega
                        have hz4 : (f3 i c != 0) = true := by
                          have : f3 i c ≠ 0 := fun e => hsk (.inr e)
                          simpa using this
                        obtain ⟨b5, o5, kk5, hh5, hcl5, hfz5, hb50, hb51, hbg5, hro5⟩ := hT4.atRow hF4 hrkR hj0
                        have hne := hT4.sepB hlt4 hrkR hir hj0 hh4 hh5
                        have hro4' := hro4.wide (o := o4) hb40 hb41
                        have hro5' := (hro5.wide (o := o5) hb50 hb51).rd
                        have hlen4 := (hF4 _ hlt4).1
                        have hys : ∀ t, t < j → 0 ≤ gI (row xss4 (rr R p f c).rk) t ∧ gI (row xss4 (rr R p f c).rk) t < p := fun t ht => by
                          rw [(hF4 _ hrkR).2 t ht, elT_row]; exact hbd.out _ _
                        have hds : ∀ t, t < j → 0 ≤ gI (row xss4 i) (0 + t) ∧ gI (row xss4 i) (0 + t) < p := fun t ht => by
                          rw [Nat.zero_add, (hF4 _ hlt4).2 t ht, elT_at]; exact hbd.out _ _
                        have HAD := Lib.hid (addAt_row (k := p - f3 i c) (p := p) (ys := row xss4 (rr R p f c).rk) hlen4 (g := fun t => elimF f3 (rr R p f c).rk c p i t) (fun t ht => by
                          rw [(hF4 _ hlt4).2 t ht, (hF4 _ hrkR).2 t ht, elT_at, elT_row, elim_add hir]))
                        have hpx : IntKind.i64.wrap (p - f3 i c) = p - f3 i c := IntWalk.i64_in _ (by omega)
                        have HF4 := Lib.hid hF4
                        have HH4 := Lib.hid hh4
                        have HYS := Lib.hid hys
                        have HDS := Lib.hid hds
                        have HT4 := Lib.hid hT4
                        have HLEN := Lib.hid hlen4
                        clear hh4 hval4 hro4 hF4 hT4 hh5 hro5 hys hds hlen4 hsk hir
                        go_wp2_with fail
                        (refine wp_region_quiet_last (C := fun w' => ∃ nn, w' = wr.drewN nn) 12 (by kernel_rfl) (by kernel_rfl) (by kernel_rfl) (by kernel_rfl) (by kernel_rfl) (by kernel_rfl) (by kernel_rfl) (by kernel_rfl) ⟨1, rfl⟩ ?_; simp only [List.take_succ_cons, List.take_zero, List.drop_succ_cons, List.drop_zero]; (repeat (go_big_quiet_step (fail))); refine wpQuiet_nil ?_; rintro W ⟨nq, rfl⟩)
                        go_wp2_with fail
                        refine (addTo_any (B0 := lo) (B := hi) (B2 := hi) b4 o4 j 0 j kk4 (row xss4 i) (p - f3 i c) _ j kk5 (row xss4 (rr R p f c).rk) p _ (by exact hro4') (by omega) (by exact hro5') (by exact hhw4) (fun _ b2 o2 e => by injection e with e; injection e with e1 e2; omega) (by omega) (by omega) (by omega) (by omega) (by omega) HYS.out HDS.out).mono ?_
                        rintro e w6 ⟨rfl, hs6, hc6, ho6⟩
                        have hT6 := (HT4.out.keep (w' := wr.drewN nq) fun _ _ _ _ => rfl).setRow' hlt4 hj0 HH4.out hc6 (ho6.tight)
                        have HF6 := Lib.hid (HF4.out.setRow (ys := addAt (row xss4 i) 0 (p - f3 i c) (row xss4 (rr R p f c).rk) p j) (g := elT f3 (rr R p f c).rk c p (i + 1)) HT4.out.len hlt4 (by rw [addAt_len]; exact HLEN.out) (fun t ht => by rw [HAD.out t ht]; unfold elT; rw [if_pos (by omega)]) (fun a t _ hne _ => (elT_succ f3 _ c p i a t hne).symm))
                        have hch6 := (hch4.drewN nq).trans (hc6.mono hb40 (by omega))
                        have how6 := ownsRow_chg how4 (((Chg.refl lo hi wr).drewN nq).trans (hc6.mono hb40 (by omega))) hhi
                        clear HT4 HF4 hch4 how4 hc6 ho6 hro4' hro5' hpx hcl4 hfz4 hce4 hcl5 hfz5
                        go_wp2
                        go_roundw
                        case rel => exact ⟨i + 1, by omega, by go_num, hch6, ⟨_, _, hT6, HF6.out⟩, how6⟩
                        case measure => simp [intOf]; omega
                    · have hiR : i = R := by omega
                      subst hiR
                      obtain ⟨r1, r2, r3⟩ := HS.out
                      have HF5 := Lib.hid (hF4.congr (g := (rr i p f (c + 1)).f) fun a y ha hy => by rw [r1, elT_done _ _ _ _ _ _ _ ha])
                      have HR := Lib.hid (And.intro r2 r3)
                      clear r1 r2 r3 hF4
                      have hcn : (rr i p f c).rk + 1 ≤ 1073741824 := by omega
                      have hlo : w.heap.size ≤ wr.heap.size := hch4.size
                      have hOA := (how4.alloc (.cells #[.int .i64 c] 3))
                      have hRO := RdI.one wr c 3
                      go_wp2_with (at_builtin; refine wpList_apI (v := .slice A7 (rr i p f c).rk c7) (w := wr.alloc (.cells #[.int .i64 c] 3)) (lo := w.heap.size) (n := (rr i p f c).rk) (xs := pvI (rr i p f c).pv) (ys := [(c : Int)]) (m := 1) rfl (.tmp 123) (.tmp 125) rfl rfl hOA rfl hRO (Hd.self (by unfold maxLen; omega)) hcn (by simp; omega) ?_; intro v' w' ho' hg' hv')
                      have hch5 := (hch4.alloc (.cells #[.int .i64 c] 3)).grown hg' (fun b e => (hOA.lt b e).1)
                      have hT5 := (hT4.alloc hhw4 (.cells #[.int .i64 c] 3)).keep (w' := w') fun b _ hb hs => hg'.block b hs (fun e => by have := (hOA.lt b e.symm).1; omega)
                      clear hOA hRO hg' hv' hT4 hch4 how4
                      go_wp2
                      go_roundw
                      case rel => exact ⟨c + 1, _, _, by omega, by go_num, hch5, hT5, HF5, by rw [HR.out.1, HR.out.2, pvI_app]; exact ho'⟩
                      case measure => simp [intOf]; omega
        · have hkR' : k = R := by omega
          subst hkR'
          have HM := Lib.hid (rr_miss (pivAt_eq hk0 hk hz.out (.inl rfl)))
          have HT := Lib.hid hT
          clear hT
          go_wp2
          go_roundw
          case rel => exact ⟨c + 1, _, _, by omega, by go_num, hch, HT.out, by rw [HM.out]; exact hFF, by rw [HM.out]; exact how⟩
          case measure => simp [intOf]; omega
    · have hcC : c = C := by omega
      subst hcC
      obtain ⟨hrk, _⟩ := rr_rk R p f c
      obtain ⟨A7, c7, rfl, hd7⟩ := own_hd how
      have ho7 := ofOwn' how (by unfold maxLen; omega)
      go_wp2
      go_ret
      exact ⟨_, _, rfl, hd7, hch, ⟨_, _, hT, hFF.out⟩, ho7⟩
end Go.Proofs.Yteepnimmbofmlaa
