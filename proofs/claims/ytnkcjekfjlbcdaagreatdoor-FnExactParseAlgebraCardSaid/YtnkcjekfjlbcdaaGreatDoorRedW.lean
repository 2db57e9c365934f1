/- reduce: a table of rows brought into reduced form. No condition but what each theorem names. -/
import Derived.Test.YtnkcjekfjlbcdaaGreatDoorRwo
import Derived.Test.YtnkcjekfjlbcdaaGreatDoorUnitW
import Derived.Test.YtnkcjekfjlbcdaaGreatDoorLawK
import Derived.RegionTactic
import Derived.BigRegion
import Derived.Outline
import Derived.Deep.DeepCutAuto
namespace Go.Proofs.YtnkcjekfjlbcdaaGreatDoor
set_option linter.unusedVariables false
set_option linter.unusedSimpArgs false
set_option maxRecDepth 20000
open Go.RowKit
set_option maxHeartbeats 4000000
/-- the rows hold the numbers of f -/
def FF (xss : List (List Int)) (R C : Nat) (f : Tb) : Prop := ∀ i, i < R → (row xss i).length = C ∧ ∀ j, j < C → gI (row xss i) j = f i j
theorem cell_setCell_some {w : World} {p q : Addr} {x v : Value} (h : w.cell? q = some v) : ∃ v', (w.setCell p x).cell? q = some v' := by
  by_cases e : p = q
  · subst e; exact ⟨x, World.cell?_setCell_same _ _ _ h⟩
  · exact ⟨v, by rw [World.cell?_setCell_other]; exact h; exact e⟩
theorem ownsRow_keep {w w' : World} {base : Nat} {e : TypeId} {v : Value} {n : Nat} {xs : List Value} (h : w.ownsRow base e 1 v n xs) (hk : ∀ b, base ≤ b → b < w.heap.size → w'.heap[b]? = w.heap[b]?) : w'.ownsRow base e 1 v n xs := by
  refine ⟨h.1, ?_⟩
  rcases h.2 with h1 | ⟨g, cap, cur, e1, hb, hg, r⟩
  · exact .inl h1
  · have hlt : g < w.heap.size := by
      rcases Nat.lt_or_ge g w.heap.size with h | h
      · exact h
      · rw [Array.getElem?_eq_none h] at hg; cases hg
    exact .inr ⟨g, cap, cur, e1, hb, (hk g hb hlt).trans hg, r⟩
theorem ownsRow_chg {w w' : World} {base lo hi : Nat} {e : TypeId} {v : Value} {n : Nat} {xs : List Value} (h : w.ownsRow base e 1 v n xs) (hc : Chg lo hi w w') (hb : hi ≤ base) : w'.ownsRow base e 1 v n xs :=
  ownsRow_keep h fun b h0 h1 => hc.block b h1 (.inr (by omega))
theorem OwT.hdLen {w : World} {lo hi n C i : Nat} {v : Value} {hs : List Hdr} {xss : List (List Int)} {f : Tb} (h : OwT w lo hi v n hs xss) (hF : FF xss n C f) (hI : i < n) : (hdr hs i).2.1 = C := by
  rw [← (h.rows i hI).1.1]; exact (hF i hI).1
theorem OwT.atRow {w : World} {lo hi n c C i g : Nat} {hs : List Hdr} {xss : List (List Int)} {f : Tb} (h : OwT w lo hi (.slice (some ⟨g, 0, none⟩) n c) n hs xss) (hF : FF xss n C f) (hI : i < n) (hC : 0 < C) :
    ∃ b o k, hdr hs i = (some ⟨b, o, none⟩, C, k) ∧ w.cell? ⟨g, i, none⟩ = some (.slice (some ⟨b, o, none⟩) C k) ∧ w.frozen? ⟨g, i, none⟩ = false ∧ lo ≤ b ∧ b < hi ∧ b ≠ g ∧ OwI w b (b + 1) (some ⟨b, o, none⟩) C (row xss i) := by
  have hl := h.hdLen hF hI
  obtain ⟨hr, hd⟩ := h.rows i hI
  obtain ⟨g', c', e, _, _, _, _, hc⟩ := h.addr (by omega)
  injection e with e1 e2 e3
  injection e1 with e1
  injection e1 with e1
  subst e1
  obtain ⟨c1, c2⟩ := hc i hI
  rw [hl] at hr
  obtain ⟨b, o, eA⟩ := hr.addr hC
  refine ⟨b, o, (hdr hs i).2.2, by rw [← eA, ← hl], ?_, c2, ?_, ?_, ?_, ?_⟩
  · rw [c1]; unfold slv; rw [eA, hl]
  · rw [eA] at hr; exact (hr.blk hC).1
  · rw [eA] at hr; exact (hr.blk hC).2
  · intro e2
    refine h.sepT i b o hI (by omega) eA ?_
    rw [e2]; rfl
  · rw [eA] at hr; exact hr.tight
/-- two headers exchanged -/
theorem OwT.swap {w : World} {lo hi n c g i j : Nat} {hs : List Hdr} {xss : List (List Int)} (h : OwT w lo hi (.slice (some ⟨g, 0, none⟩) n c) n hs xss) (hI : i < n) (hJ : j < n) :
    OwT ((w.setCell ⟨g, i, none⟩ (slv (hdr hs j))).setCell ⟨g, j, none⟩ (slv (hdr hs i))) lo hi (.slice (some ⟨g, 0, none⟩) n c) n ((hs.set i (hdr hs j)).set j (hdr hs i)) ((xss.set i (row xss j)).set j (row xss i)) := by
  have hl := h.hlen
  have hx := h.len
  obtain ⟨s1, _⟩ := h.tbl.stored i (slv (hdr hs j))
  obtain ⟨s2, _⟩ := s1.stored j (slv (hdr hs i))
  have hh : ∀ t, hdr ((hs.set i (hdr hs j)).set j (hdr hs i)) t = if t = j then hdr hs i else if t = i then hdr hs j else hdr hs t := by
    intro t
    unfold hdr
    by_cases e : t = j
    · subst e; simp [List.getElem?_set, hl, hJ]
    · rw [if_neg e]
      by_cases e2 : t = i
      · subst e2; simp [List.getElem?_set, hl, hI, Ne.symm e]
      · rw [if_neg e2]; simp [List.getElem?_set, Ne.symm e, Ne.symm e2]
  have hrw : ∀ t, row ((xss.set i (row xss j)).set j (row xss i)) t = if t = j then row xss i else if t = i then row xss j else row xss t := by
    intro t
    rw [row_set (by simp [hx]; exact hJ), row_set (by rw [hx]; exact hI)]
  have hk : ∀ b, lo ≤ b → b < hi → b < w.heap.size → b ≠ g → ((w.setCell ⟨g, i, none⟩ (slv (hdr hs j))).setCell ⟨g, j, none⟩ (slv (hdr hs i))).heap[b]? = w.heap[b]? := fun b _ _ hb hne => by
    rw [Below.heap_setCell _ _ _ _ (by exact hne), Below.heap_setCell _ _ _ _ (by exact hne)]
  have hrows : ∀ t, t < n → OwI ((w.setCell ⟨g, i, none⟩ (slv (hdr hs j))).setCell ⟨g, j, none⟩ (slv (hdr hs i))) lo hi (hdr hs t).1 (hdr hs t).2.1 (row xss t) ∧ Hd (hdr hs t).1 (hdr hs t).2.1 (hdr hs t).2.2 := by
    intro t ht
    obtain ⟨r1, r2⟩ := h.rows t ht
    refine ⟨⟨r1.1, r1.2.1, fun hp => ?_⟩, r2⟩
    obtain ⟨b, o, e, hb0, hb1, hc⟩ := r1.2.2 hp
    have hne : b ≠ g := fun e2 => h.sepT t b o ht hp e (by rw [e2]; rfl)
    have hlt : b < w.heap.size := by have h1 := r1; rw [e] at h1; exact h1.ltS hp
    have hkk := hk b hb0 hb1 hlt hne
    exact ⟨b, o, e, hb0, hb1, fun q hq => ⟨(World.cell?_of_block (w := w) hkk).trans (hc q hq).1, (World.frozen?_of_block (w := w) hkk).trans (hc q hq).2⟩⟩
  have sepA : ∀ s t b o b' o', s ≠ t → s < n → t < n → 0 < (hdr hs s).2.1 → 0 < (hdr hs t).2.1 → (hdr hs s).1 = some ⟨b, o, none⟩ → (hdr hs t).1 = some ⟨b', o', none⟩ → b ≠ b' := by
    intro s t b o b' o' hst hs' ht hp hp' e e'
    rcases Nat.lt_or_ge s t with h1 | h1
    · exact h.sep s t b o b' o' h1 ht hp hp' e e'
    · exact (h.sep t s b' o' b o (by omega) hs' hp' hp e' e).symm
  refine ⟨?_, h.blk, by simp [hx], fun t ht => ?_, fun t b o ht hp e => ?_, fun s t b o b' o' hst ht hp hp' e e' => ?_⟩
  · rw [List.map_set, List.map_set]; exact s2
  · rw [hh, hrw]
    split
    · exact hrows i hI
    · split
      · exact hrows j hJ
      · exact hrows t ht
  · rw [hh] at hp e
    split at hp
    · rename_i e1; rw [if_pos e1] at e; exact h.sepT i b o hI hp e
    · rename_i e1
      rw [if_neg e1] at e
      split at hp
      · rename_i e2; rw [if_pos e2] at e; exact h.sepT j b o hJ hp e
      · rename_i e2; rw [if_neg e2] at e; exact h.sepT t b o ht hp e
  · have key : ∀ t, ∃ t', hdr ((hs.set i (hdr hs j)).set j (hdr hs i)) t = hdr hs t' ∧ t' = if t = j then i else if t = i then j else t := by
      intro t
      rw [hh]
      refine ⟨_, ?_, rfl⟩
      split
      · rfl
      · split <;> rfl
    obtain ⟨s', es, es'⟩ := key s
    obtain ⟨t', et, et'⟩ := key t
    rw [es] at hp e
    rw [et] at hp' e'
    refine sepA s' t' b o b' o' ?_ ?_ ?_ hp hp' e e'
    · rw [es', et']
      grind
    · rw [es']; split
      · exact hI
      · split <;> omega
    · rw [et']; split
      · exact hI
      · split <;> omega
theorem row_swap {xss : List (List Int)} {n i j : Nat} (hx : xss.length = n) (hi : i < n) (hj : j < n) (t : Nat) : row ((xss.set i (row xss j)).set j (row xss i)) t = if t = j then row xss i else if t = i then row xss j else row xss t := by
  rw [row_set (by simp [hx]; exact hj), row_set (by rw [hx]; exact hi)]
theorem FF.swap {xss : List (List Int)} {R C i j : Nat} {f : Tb} (h : FF xss R C f) (hx : xss.length = R) (hi : i < R) (hj : j < R) : FF ((xss.set j (row xss i)).set i (row xss j)) R C (swapF f i j) := by
  intro t ht
  rw [row_swap hx hj hi]
  simp only [swapF]
  by_cases e : t = i
  · simp only [if_pos e]; exact h j hj
  · simp only [if_neg e]
    by_cases e2 : t = j
    · simp only [if_pos e2]; exact h i hi
    · simp only [if_neg e2]; exact h t ht
/-- what a piece of reduce leaves: the rows hold f, the pivots lie as they lay -/
def CutRed (lo hi R C g k0 base : Nat) (v7 : Value) (m : Nat) (xs : List Value) (f : Tb) (w wx : World) : Prop :=
  Chg lo hi w wx ∧ (∃ hs xss, OwT wx lo hi (.slice (some ⟨g, 0, none⟩) R k0) R hs xss ∧ FF xss R C f) ∧ wx.ownsRow base 3 1 v7 m xs
/-- the numbers of a list of columns -/
def pvI (l : List Nat) : List Int := l.map fun x : Nat => (x : Int)
theorem pvI_app (l : List Nat) (c : Nat) : pvI (l ++ [c]) = pvI l ++ [(c : Int)] := by simp [pvI]
theorem pvI_len (l : List Nat) : (pvI l).length = l.length := by simp [pvI]
theorem Chg.grown {lo hi : Nat} {a w w' : World} {r : Option Nat} (h : Chg lo hi a w) (hg : w.grownBy w' r) (hr : ∀ b, r = some b → a.heap.size ≤ b) : Chg lo hi a w' :=
  ⟨hg.os.trans h.os, hg.tape.trans h.tape, hg.output.trans h.output, Nat.le_trans h.size hg.size, fun k hk hh => (hg.block k (Nat.lt_of_lt_of_le hk h.size) (fun e => by have := hr k e.symm; omega)).trans (h.block k hk hh)⟩
theorem RdI.one (w : World) (x : Int) (T : TypeId) : RdI (w.alloc (.cells #[.int .i64 x] T)) (w.heap.size + 1) (some ⟨w.heap.size, 0, none⟩) 1 [x] :=
  ⟨rfl, by unfold maxLen; omega, fun _ => ⟨_, _, rfl, by omega, fun j hj => by
    obtain rfl : j = 0 := by omega
    exact (Box.new w _ _).one⟩⟩
/-- what reduce leaves: the pivots, the rows in reduced form -/
def RetRed (lo hi : Nat) (v : Value) (R C : Nat) (p : Int) (f : Tb) (w : World) (e : Ending) (w' : World) : Prop :=
  ∃ A k, e = .returned (.slice A (rr R p f C).rk k) ∧ Hd A (rr R p f C).rk k ∧ Chg lo hi w w' ∧ (∃ hs xss, OwT w' lo hi v R hs xss ∧ FF xss R C (rr R p f C).f) ∧ OwI w' w.heap.size w'.heap.size A (rr R p f C).rk (pvI (rr R p f C).pv)
/-- one number of a row written -/
theorem OwT.store1 {w : World} {lo hi n C i j b o k : Nat} {v : Value} {hs : List Hdr} {xss : List (List Int)} (h : OwT w lo hi v n hs xss) (hI : i < n) (hh : hdr hs i = (some ⟨b, o, none⟩, C, k)) (hj : j < C) (x : Int) :
    OwT (w.setCell ⟨b, o + j, none⟩ (.int .i64 x)) lo hi v n hs (xss.set i ((row xss i).set j x)) := by
  have h1 : (hdr hs i).1 = some ⟨b, o, none⟩ := by rw [hh]
  have h2 : (hdr hs i).2.1 = C := by rw [hh]
  have hr := (h.rows i hI).1
  rw [h1, h2] at hr
  refine h.setRow hI (by omega) h1 ((Chg.refl b (b + 1) w).setCell (Nat.le_refl _) (by show b < b + 1; omega) _) ?_
  rw [h2]
  exact hr.tight.store hj
theorem FF.store1 {xss : List (List Int)} {R C i j : Nat} {f : Tb} (h : FF xss R C f) (hx : xss.length = R) (hI : i < R) (hj : j < C) (x : Int) :
    FF (xss.set i ((row xss i).set j x)) R C (fun a y => if a = i ∧ y = j then x else f a y) := by
  intro a ha
  rw [row_set (by omega)]
  by_cases e : a = i
  · subst e
    rw [if_pos rfl]
    refine ⟨by rw [List.length_set]; exact (h a ha).1, fun y hy => ?_⟩
    show gI _ y = if a = a ∧ y = j then x else f a y
    rw [gI_set _ _ _ _ (by rw [(h a ha).1]; exact hj)]
    by_cases e2 : y = j
    · rw [if_pos e2, if_pos ⟨rfl, e2⟩]
    · rw [if_neg e2, if_neg (by rintro ⟨_, h⟩; exact e2 h)]; exact (h a ha).2 y hy
  · rw [if_neg e]
    refine ⟨(h a ha).1, fun y hy => ?_⟩
    show gI _ y = if a = i ∧ y = j then x else f a y
    rw [if_neg (by rintro ⟨h, _⟩; exact e h)]; exact (h a ha).2 y hy
theorem FF.congr {xss : List (List Int)} {R C : Nat} {f g : Tb} (h : FF xss R C f) (he : ∀ i j, i < R → j < C → f i j = g i j) : FF xss R C g :=
  fun i hi => ⟨(h i hi).1, fun j hj => by rw [← he i j hi hj]; exact (h i hi).2 j hj⟩
/-- a row written anew -/
theorem FF.setRow {xss : List (List Int)} {R C i : Nat} {f g : Tb} {ys : List Int} (h : FF xss R C f) (hx : xss.length = R) (hI : i < R) (hl : ys.length = C) (hy : ∀ j, j < C → gI ys j = g i j) (he : ∀ a j, a < R → a ≠ i → j < C → g a j = f a j) : FF (xss.set i ys) R C g := by
  intro a ha
  rw [row_set (by omega)]
  by_cases e : a = i
  · subst e; rw [if_pos rfl]; exact ⟨hl, hy⟩
  · rw [if_neg e]; exact ⟨(h a ha).1, fun j hj => by rw [he a j ha e hj]; exact (h a ha).2 j hj⟩
/-- the row r, scaled up to column j -/
def scT (f : Tb) (r : Nat) (v p : Int) (j : Nat) : Tb := fun i y => if i = r ∧ y < j then f r y * v % p else f i y
theorem scT_zero (f : Tb) (r : Nat) (v p : Int) (i y : Nat) : scT f r v p 0 i y = f i y := by unfold scT; rw [if_neg (by omega)]
theorem scT_at (f : Tb) (r : Nat) (v p : Int) (j : Nat) : scT f r v p j r j = f r j := by unfold scT; rw [if_neg (by omega)]
theorem scT_succ (f : Tb) (r : Nat) (v p : Int) (j i y : Nat) : (if i = r ∧ y = j then f r j * v % p else scT f r v p j i y) = scT f r v p (j + 1) i y := by
  unfold scT
  by_cases h1 : i = r
  · by_cases h2 : y = j
    · subst h2; rw [if_pos ⟨h1, rfl⟩, if_pos ⟨h1, by omega⟩]
    · rw [if_neg (by omega)]
      by_cases h3 : y < j
      · rw [if_pos ⟨h1, h3⟩, if_pos ⟨h1, by omega⟩]
      · rw [if_neg (by omega), if_neg (by omega)]
  · rw [if_neg (by omega), if_neg (by omega), if_neg (by omega)]
theorem scT_done (f : Tb) (r : Nat) (v p : Int) (C i y : Nat) (hy : y < C) : scT f r v p C i y = scaleF f r v p i y := by
  unfold scT scaleF
  by_cases h1 : i = r
  · rw [if_pos ⟨h1, hy⟩, if_pos h1]
  · rw [if_neg (by omega), if_neg h1]
/-- the rows below i cleared -/
def elT (f : Tb) (r c : Nat) (p : Int) (i : Nat) : Tb := fun a y => if a < i then elimF f r c p a y else f a y
theorem elT_row (f : Tb) (r c : Nat) (p : Int) (i y : Nat) : elT f r c p i r y = f r y := by
  unfold elT elimF; split
  · rw [if_pos rfl]
  · rfl
theorem elT_at (f : Tb) (r c : Nat) (p : Int) (i y : Nat) : elT f r c p i i y = f i y := by unfold elT; rw [if_neg (by omega)]
theorem elT_succ (f : Tb) (r c : Nat) (p : Int) (i a y : Nat) (h : a ≠ i) : elT f r c p i a y = elT f r c p (i + 1) a y := by
  unfold elT
  by_cases h1 : a < i
  · rw [if_pos h1, if_pos (by omega)]
  · rw [if_neg h1, if_neg (by omega)]
theorem elT_skip (f : Tb) (r c : Nat) (p : Int) (i a y : Nat) (h : elimF f r c p i y = f i y) : elT f r c p i a y = elT f r c p (i + 1) a y := by
  by_cases e : a = i
  · subst e; rw [elT_at]; unfold elT; rw [if_pos (by omega), h]
  · exact elT_succ f r c p i a y e
theorem elT_done (f : Tb) (r c : Nat) (p : Int) (R a y : Nat) (h : a < R) : elT f r c p R a y = elimF f r c p a y := by unfold elT; rw [if_pos h]
theorem elim_skip {f : Tb} {r c i y : Nat} {p : Int} (hp : 1 ≤ p) (h : i = r ∨ f i c = 0) (hb : 0 ≤ f i y ∧ f i y < p) : elimF f r c p i y = f i y := by
  unfold elimF
  by_cases e : i = r
  · rw [if_pos e, e]
  · rw [if_neg e]
    rcases h with h | h
    · exact absurd h e
    · rw [h, Int.zero_mul, Int.sub_zero]; exact Int.emod_eq_of_lt hb.1 hb.2
theorem addAt_row {D ys : List Int} {k p : Int} {C : Nat} (hD : D.length = C) {g : Nat → Int} (h : ∀ j, j < C → (gI D j + k * gI ys j) % p = g j) : ∀ j, j < C → gI (addAt D 0 k ys p C) j = g j := by
  intro j hj
  rw [addAt_get _ _ _ _ _ _ (by omega), if_pos (by omega), ← h j hj]
  rfl
theorem OwT.sepB {w : World} {lo hi n i j b b' o o' C k k' : Nat} {v : Value} {hs : List Hdr} {xss : List (List Int)} (h : OwT w lo hi v n hs xss) (hI : i < n) (hJ : j < n) (hij : i ≠ j) (hC : 0 < C) (e : hdr hs i = (some ⟨b, o, none⟩, C, k)) (e' : hdr hs j = (some ⟨b', o', none⟩, C, k')) : b ≠ b' := by
  rcases Nat.lt_or_ge i j with h1 | h1
  · exact h.sep i j b o b' o' h1 hJ (by rw [e]; exact hC) (by rw [e']; exact hC) (by rw [e]) (by rw [e'])
  · exact (h.sep j i b' o' b o (by omega) hI (by rw [e']; exact hC) (by rw [e]; exact hC) (by rw [e']) (by rw [e])).symm
theorem OwT.setRow' {w w' : World} {lo hi n j b o C k : Nat} {v : Value} {hs : List Hdr} {xss : List (List Int)} {ys : List Int} (h : OwT w lo hi v n hs xss) (hJ : j < n) (hC : 0 < C) (e : hdr hs j = (some ⟨b, o, none⟩, C, k)) (hc : Chg b (b + 1) w w') (ho : OwI w' b (b + 1) (some ⟨b, o, none⟩) C ys) : OwT w' lo hi v n hs (xss.set j ys) :=
  h.setRow hJ (by rw [e]; exact hC) (by rw [e]) hc (by rw [e]; exact ho)
theorem elim_add {f : Tb} {r c i y : Nat} {p : Int} (h : i ≠ r) : elimF f r c p i y = (f i y + (p - f i c) * f r y) % p := by
  unfold elimF
  rw [if_neg h]
  have e : f i y + (p - f i c) * f r y = f i y - f i c * f r y + p * f r y := by grind
  rw [e, Int.add_mul_emod_self_left]
theorem scale_bd {f : Tb} {p v : Int} {r : Nat} (hp : 1 ≤ p) (h : ∀ i j, 0 ≤ f i j ∧ f i j < p) (i j : Nat) : 0 ≤ scaleF f r v p i j ∧ scaleF f r v p i j < p := by
  unfold scaleF; split
  · exact ⟨Int.emod_nonneg _ (by omega), Int.emod_lt_of_pos _ (by omega)⟩
  · exact h i j
theorem swap_bd {f : Tb} {p : Int} {r k : Nat} (h : ∀ i j, 0 ≤ f i j ∧ f i j < p) (i j : Nat) : 0 ≤ swapF f r k i j ∧ swapF f r k i j < p := by
  unfold swapF; split
  · exact h _ _
  · split <;> exact h _ _
end Go.Proofs.YtnkcjekfjlbcdaaGreatDoor
namespace Go.Proofs.YtnkcjekfjlbcdaaGreatDoor
set_option linter.unusedVariables false
set_option linter.unusedSimpArgs false
set_option maxRecDepth 20000
open Go.RowKit
set_option maxHeartbeats 4000000
theorem rr_hit {R : Nat} {p : Int} {f : Tb} {c k : Nat} (h : pivAt (rr R p f c).f c (rr R p f c).rk R = k) (hk : k < R) :
    (rr R p f (c + 1)).f = elimF (scaleF (swapF (rr R p f c).f (rr R p f c).rk k) (rr R p f c).rk (invI ((rr R p f c).f k c) p) p) (rr R p f c).rk c p ∧ (rr R p f (c + 1)).rk = (rr R p f c).rk + 1 ∧ (rr R p f (c + 1)).pv = (rr R p f c).pv ++ [c] := by
  simp only [rr, rstep, h, if_pos hk]
  exact ⟨trivial, trivial, trivial⟩
theorem rr_miss {R : Nat} {p : Int} {f : Tb} {c : Nat} (h : pivAt (rr R p f c).f c (rr R p f c).rk R = R) : rr R p f (c + 1) = rr R p f c := by
  simp only [rr, rstep, h, if_neg (Nat.lt_irrefl R)]
end Go.Proofs.YtnkcjekfjlbcdaaGreatDoor
