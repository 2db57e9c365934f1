/- A drawn region by an invariant: what holds of each set of operations that are behind. No condition but what each theorem names. -/
import Derived.Deep.RegionHeld3
import Derived.Test.YtnkcjekfjlbcdaaGreatDoorMem
import Derived.Test.YtnkcjekfjlbcdaaGreatDoorTbl
namespace Go.Proofs.YtnkcjekfjlbcdaaGreatDoor
set_option linter.unusedVariables false
set_option linter.unusedSimpArgs false
set_option maxRecDepth 20000
open Go
section
variable {P : Program} {ops : Array Oper} {Q : Exit → Act → World → Prop} {md : Region.Mode} {Inv : Array Bool → Act → World → Prop}
theorem unl_set {L : Array Bool} {i : Nat} (h : L.getD i true = false) : (L.setIfInBounds i true).count false + 1 ≤ L.count false := by
  have hi : i < L.size := by
    rcases Nat.lt_or_ge i L.size with h' | h'
    · exact h'
    · simp [Array.getElem?_eq_none h'] at h
  have hv : L[i] = false := by simpa [hi] using h
  have hpos : 0 < L.count false := Array.count_pos_iff.2 (by rw [← hv]; exact Array.getElem_mem hi)
  rw [Array.setIfInBounds, dif_pos hi, Array.count_set hi, hv]
  simp
  omega
theorem wpAny_inv (hstep : ∀ (L : Array Bool) (a : Act) (w : World) (i : Nat) (oi : Oper), Inv L a w → L.getD i true = false → ops[i]? = some oi → (∀ e ∈ oi.after, Region.binds md e = true → L.getD e.on false = true) → ∀ K : Act → World → Prop, (∀ a w, Inv (L.setIfInBounds i true) a w → K a w) → if Region.wanted oi (yielded ops a.tmps) = true then Oper.wp P oi a w K Q else K (a.put oi.dst undef) w)
    (hend : ∀ (L : Array Bool) (a : Act) (w : World), Inv L a w → Region.ready md ops L = [] → Q .normal a w) :
    ∀ (fuel : Nat) (L : Array Bool) (a : Act) (w : World), L.count false ≤ fuel → Inv L a w → wpAny P md ops Q fuel L a w := by
  intro fuel
  induction fuel with
  | zero =>
    intro L a w hc hI
    have h0 : Region.ready md ops L = [] := by
      rcases hr : Region.ready md ops L with _ | ⟨j, r⟩
      · rfl
      · have hj : j ∈ Region.ready md ops L := by rw [hr]; exact List.mem_cons_self
        have := unl_set (mem_ready.1 hj).1
        omega
    exact ⟨h0, hend _ _ _ hI h0⟩
  | succ n ih =>
    intro L a w hc hI
    refine ⟨fun h0 => hend _ _ _ hI h0, fun i hi => ?_⟩
    obtain ⟨hf, o, ho, hd⟩ := mem_ready.1 hi
    refine wpOp_step ho fun K' hK => hstep L a w i o hI hf ho hd K' fun a w h => hK a w (ih _ _ _ ?_ h)
    have := unl_set hf
    omega
theorem wp_region_inv {id : Nat} {a : Act} {w : World} (hm : P.follows .mixedOrders = true) (hI : Inv (Array.replicate ops.size false) a w.drew)
    (hstep : ∀ (L : Array Bool) (a : Act) (w : World) (i : Nat) (oi : Oper), Inv L a w → L.getD i true = false → ops[i]? = some oi → (∀ e ∈ oi.after, Region.binds .any e = true → L.getD e.on false = true) → ∀ K : Act → World → Prop, (∀ a w, Inv (L.setIfInBounds i true) a w → K a w) → if Region.wanted oi (yielded ops a.tmps) = true then Oper.wp P oi a w K Q else K (a.put oi.dst undef) w)
    (hend : ∀ (L : Array Bool) (a : Act) (w : World), Inv L a w → Region.ready .any ops L = [] → Q .normal a w) : (Code.region id ops true).wp P Q a w :=
  wp_region_any hm (wpAny_inv hstep hend _ _ _ _ (by simp) hI)
theorem getD_ltf {L : Array Bool} {i : Nat} (h : L.getD i true = false) : L.getD i false = false := by
  have hi : i < L.size := by
    rcases Nat.lt_or_ge i L.size with h' | h'
    · exact h'
    · simp [Array.getElem?_eq_none h'] at h
  simpa [hi] using h
theorem listed_of (deps : List Nat) {L : Array Bool} (hr : Region.ready md ops L = []) (i : Nat) {o : Oper} (ho : ops[i]? = some o) (hi : i < L.size) (hdeps : o.after.all (fun e => deps.contains e.on) = true) (h : ∀ j ∈ deps, L.getD j false = true) : L.getD i false = true := by
  rcases hb : L.getD i false with _ | _
  · exfalso
    have hm : i ∈ Region.ready md ops L := mem_ready.2 ⟨by simpa [hi] using hb, o, ho, fun e he _ => h e.on (by have := (Array.all_eq_true_iff_forall_mem.1 hdeps) e he; simpa using this)⟩
    rw [hr] at hm
    cases hm
  · rfl
theorem gset (L : Array Bool) (i : Nat) (hi : i < L.size) : (L.setIfInBounds i true).getD i false = true := by simp [hi]
theorem gne (L : Array Bool) (i : Nat) : ∀ j, i ≠ j → (L.setIfInBounds i true).getD j false = L.getD j false := fun _ h => getD_set_ne false h
end
end Go.Proofs.YtnkcjekfjlbcdaaGreatDoor
namespace Go.Proofs.YtnkcjekfjlbcdaaGreatDoor
set_option linter.unusedVariables false
set_option linter.unusedSimpArgs false
set_option maxRecDepth 20000
open Go Go.RowKit
/-- what is known of a value: it is u; it is a matrix that was made by the call; a slice of integers that was made by the call; a slice of integers with a truth; nothing -/
inductive VS where
  | eq (u : Value)
  | mat (p r c : Int) (d : List Int)
  | sl (xs : List Int)
  | any
def VS.ok : VS → Value → World → Prop
  | .eq u, v, _ => v = u
  | .mat p r c d, v, w => ∃ (A : Option Addr) (n k : Nat), v = .agg #[.int .i64 p, .int .i64 r, .int .i64 c, .slice A n k] ∧ Hd A n k ∧ RdI w w.heap.size A n d
  | .sl xs, v, w => ∃ (A : Option Addr) (n k : Nat), v = .slice A n k ∧ Hd A n k ∧ RdI w w.heap.size A n xs
  | .any, _, _ => True
theorem VS.stay {s : VS} {v : Value} {w w' : World} (h : s.ok v w) (hb : Below w.heap.size w w') : s.ok v w' := by
  cases s with
  | eq u => exact h
  | mat p r c d =>
    obtain ⟨A, n, k, e, hd, hr⟩ := h
    exact ⟨A, n, k, e, hd, (hr.below hb (Nat.le_refl _)).up hb.size⟩
  | sl xs =>
    obtain ⟨A, n, k, e, hd, hr⟩ := h
    exact ⟨A, n, k, e, hd, (hr.below hb (Nat.le_refl _)).up hb.size⟩
  | any => trivial
/-- each operation hangs on earlier ones only -/
def early (ops : Array Oper) : Bool := (List.range ops.size).all fun i => match ops[i]? with | some o => o.after.all fun e => decide (e.on < i) | none => true
theorem early_of {ops : Array Oper} (h : early ops = true) {i : Nat} {o : Oper} (ho : ops[i]? = some o) : ∀ e ∈ o.after, e.on < i := by
  unfold early at h
  rw [List.all_eq_true] at h
  have hi : i < ops.size := by
    rcases Nat.lt_or_ge i ops.size with h' | h'
    · exact h'
    · rw [Array.getElem?_eq_none h'] at ho; cases ho
  have h1 := h i (List.mem_range.2 hi)
  rw [ho] at h1
  intro e he
  have := (Array.all_eq_true_iff_forall_mem.1 h1) e he
  simpa using this
theorem wp_region_val {P : Program} {ops : Array Oper} {Q : Exit → Act → World → Prop} {id : Nat} {a : Act} {w : World} (fr : (Nat → Value) → Act) (S : Nat → VS) (vs0 : Nat → Value) (B : Nat) (w0 : World) (hm : P.follows .mixedOrders = true)
    (ha : a = fr vs0) (hB : Below B w0 w) (hearly : early ops = true)
    (hstep : ∀ (i : Nat) (oi : Oper) (vs : Nat → Value) (w : World), ops[i]? = some oi → Below B w0 w → (∀ j, (oi.after.toList.any fun e => e.on == j && Region.binds .any e) = true → (S j).ok (vs j) w) →
      ∀ K : Act → World → Prop, (∀ v w', (S i).ok v w' → Below w.heap.size w w' → K (fr fun k => if k = i then v else vs k) w') → if Region.wanted oi (yielded ops (fr vs).tmps) = true then Oper.wp P oi (fr vs) w K Q else K ((fr vs).put oi.dst undef) w)
    (hend : ∀ (vs : Nat → Value) (w : World), Below B w0 w → (∀ k, k < ops.size → (S k).ok (vs k) w) → Q .normal (fr vs) w) (hw : B ≤ w.heap.size) : (Code.region id ops true).wp P Q a w := by
  refine wp_region_inv (Inv := fun L a w => L.size = ops.size ∧ ∃ vs, a = fr vs ∧ Below B w0 w ∧ B ≤ w.heap.size ∧ ∀ k, L.getD k false = true → (S k).ok (vs k) w) hm ?_ ?_ ?_
  · refine ⟨by simp, vs0, ha, below_drew' hB 1, hw, fun k hk => ?_⟩
    exfalso
    rcases Nat.lt_or_ge k ops.size with h | h
    · simp [h] at hk
    · simp [Array.getElem?_eq_none, h] at hk
  · rintro L a w i oi ⟨hL, vs, rfl, hbl, hBw, hv⟩ hf ho hd K hK
    have hi : i < ops.size := by
      rcases Nat.lt_or_ge i ops.size with h' | h'
      · exact h'
      · rw [Array.getElem?_eq_none h'] at ho; cases ho
    refine hstep i oi vs w ho hbl (fun j hj => hv j ?_) K fun v w' hvi hb => hK _ _ ⟨by simp [hL], _, rfl, hbl.trans (hb.mono hBw), Nat.le_trans hBw hb.size, fun k hk => ?_⟩
    · rw [List.any_eq_true] at hj
      obtain ⟨e, he, h2⟩ := hj
      rw [Bool.and_eq_true, beq_iff_eq] at h2
      rw [← h2.1]
      exact hd e (Array.mem_toList_iff.1 he) h2.2
    · by_cases e : k = i
      · subst e; simp only [if_pos]; exact hvi
      · simp only [if_neg e]
        exact VS.stay (hv k ((gne L i k (Ne.symm e)).symm.trans hk)) hb
  · rintro L a w ⟨hL, vs, rfl, hbl, _, hv⟩ hr
    refine hend vs w hbl fun k hk => hv k ?_
    induction k using Nat.strongRecOn with
    | _ k ih =>
      exact listed_of (List.range k) hr k (o := ops[k]) (by simp [hk]) (by omega) (by
        rw [Array.all_eq_true_iff_forall_mem]
        intro e he
        have := early_of hearly (i := k) (o := ops[k]) (by simp [hk]) e he
        simpa using this) fun j hj => ih j (List.mem_range.1 hj) (by have := List.mem_range.1 hj; omega)
theorem wanted_at {ops : Array Oper} {tmps : Array Value} {o : Oper} {j d : Nat} {want b : Bool} {v : Value} (ho : o.guard = some (j, want)) (h1 : (ops[j]?).bind (·.dst) = some d) (h2 : tmps[d]? = some v) (hv : v = .bool b) : Region.wanted o (yielded ops tmps) = (b == want) := by
  unfold Region.wanted
  rw [ho]
  show (yielded ops tmps j == some want) = _
  unfold yielded
  rw [h1]
  show ((match tmps[d]? with | some (.bool b) => some b | _ => none) == some want) = _
  rw [h2, hv]
  rfl
theorem wanted_yes {ops : Array Oper} {tmps : Array Value} {o : Oper} {j d : Nat} {want b : Bool} {v : Value} (ho : o.guard = some (j, want)) (h1 : (ops[j]?).bind (·.dst) = some d) (h2 : tmps[d]? = some v) (hv : v = .bool b) (hb : (b == want) = true) : Region.wanted o (yielded ops tmps) = true := (wanted_at ho h1 h2 hv).trans hb
theorem wanted_no {ops : Array Oper} {tmps : Array Value} {o : Oper} {j d : Nat} {want b : Bool} {v : Value} (ho : o.guard = some (j, want)) (h1 : (ops[j]?).bind (·.dst) = some d) (h2 : tmps[d]? = some v) (hv : v = .bool b) (hb : (b == want) = false) : ¬ Region.wanted o (yielded ops tmps) = true := by rw [wanted_at ho h1 h2 hv, hb]; decide
theorem wanted_un {ops : Array Oper} {tmps : Array Value} {o : Oper} {j d : Nat} {want : Bool} {v : Value} (ho : o.guard = some (j, want)) (h1 : (ops[j]?).bind (·.dst) = some d) (h2 : tmps[d]? = some v) (hv : v = undef) : ¬ Region.wanted o (yielded ops tmps) = true := by
  unfold Region.wanted
  rw [ho]
  show ¬ (yielded ops tmps j == some want) = true
  unfold yielded
  rw [h1]
  show ¬ ((match tmps[d]? with | some (.bool b) => some b | _ => none) == some want) = true
  rw [h2, hv]
  simp [undef]
theorem ite_take {c : Prop} [Decidable c] {a b : Prop} (hc : c) (h : a) : if c then a else b := by rw [if_pos hc]; exact h
theorem ite_skip {c : Prop} [Decidable c] {a b : Prop} (hc : ¬ c) (h : b) : if c then a else b := by rw [if_neg hc]; exact h
theorem vs_at {vs : Nat → Value} {j : Nat} {v : Value} (h : vs j = v) : ∃ vs' : Nat → Value, vs = fun k => if k = j then v else vs' k :=
  ⟨vs, funext fun k => by by_cases e : k = j; · rw [if_pos e, e]; exact h
                          · rw [if_neg e]⟩
end Go.Proofs.YtnkcjekfjlbcdaaGreatDoor
namespace Go.Proofs.YtnkcjekfjlbcdaaGreatDoor
set_option linter.unusedVariables false
set_option linter.unusedSimpArgs false
set_option maxRecDepth 20000
open Go Go.RowKit
/-- what is known of a value: it is u; a matrix that was made by the call; a slice of integers; a pointer to a box of the call's own with these cells; a table that is read; nothing -/
inductive VK where
  | eq (u : Value)
  | mat (p r c : Int) (d : List Int)
  | sl (xs : List Int)
  | bx (vs : Array Value)
  | tb (xss : List (List Int))
  | any
def VK.ok (g0 : Nat) : VK → Value → World → Prop
  | .eq u, v, _ => v = u
  | .mat p r c d, v, w => ∃ (A : Option Addr) (n k : Nat), v = .agg #[.int .i64 p, .int .i64 r, .int .i64 c, .slice A n k] ∧ Hd A n k ∧ RdI w w.heap.size A n d ∧ ∀ b o, A = some ⟨b, o, none⟩ → 0 < n → g0 ≤ b
  | .sl xs, v, w => ∃ (A : Option Addr) (n k : Nat), v = .slice A n k ∧ Hd A n k ∧ RdI w w.heap.size A n xs
  | .bx vs, v, w => ∃ g : Nat, v = .pointer (some ⟨g, 0, none⟩) ∧ g0 ≤ g ∧ Box w g vs
  | .tb xss, v, w => ∃ (A : Option Addr) (n k : Nat) (hs : List Hdr), v = .slice A n k ∧ Hd A n k ∧ RdT w w.heap.size A n hs xss
  | .any, _, _ => True
theorem VK.stay {g0 : Nat} {s : VK} {v : Value} {w w' : World} (h : s.ok g0 v w) (hb : Below w.heap.size w w') : s.ok g0 v w' := by
  cases s with
  | eq u => exact h
  | mat p r c d =>
    obtain ⟨A, n, k, e, hd, hr, hg⟩ := h
    exact ⟨A, n, k, e, hd, (hr.below hb (Nat.le_refl _)).up hb.size, hg⟩
  | sl xs =>
    obtain ⟨A, n, k, e, hd, hr⟩ := h
    exact ⟨A, n, k, e, hd, (hr.below hb (Nat.le_refl _)).up hb.size⟩
  | bx vs =>
    obtain ⟨g, e, hg, hx⟩ := h
    exact ⟨g, e, hg, hx.below hb hx.lt⟩
  | tb xss =>
    obtain ⟨A, n, k, hs, e, hd, hr⟩ := h
    exact ⟨A, n, k, hs, e, hd, (hr.below hb (Nat.le_refl _)).up hb.size⟩
  | any => trivial
theorem OwI.low {w : World} {B0 B n g0 : Nat} {A : Option Addr} {xs : List Int} (h : OwI w B0 B A n xs) (hg : g0 ≤ B0) : ∀ b o, A = some ⟨b, o, none⟩ → 0 < n → g0 ≤ b := fun b o e hn => by
  obtain ⟨b', o', e', h0, _⟩ := h.2.2 hn
  rw [e] at e'; injection e' with e'; injection e' with e'
  omega
/-- a box and a matrix's data lie apart -/
def VK.sep : VK → VK → Value → Value → Prop
  | .bx _, .mat _ _ _ _, u, v => ∀ (g : Nat) (a b c : Value) (A : Option Addr) (n k b0 o : Nat), u = .pointer (some ⟨g, 0, none⟩) → v = .agg #[a, b, c, .slice A n k] → A = some ⟨b0, o, none⟩ → 0 < n → b0 ≠ g
  | _, _, _, _ => True
theorem VK.ok_mono {g0 g1 : Nat} {s : VK} {v : Value} {w : World} (h : s.ok g0 v w) (hg : g1 ≤ g0) : s.ok g1 v w := by
  cases s with
  | mat p r c d =>
    obtain ⟨A, n, k, e, hd, hr, hg2⟩ := h
    exact ⟨A, n, k, e, hd, hr, fun b o e hn => Nat.le_trans hg (hg2 b o e hn)⟩
  | bx vs =>
    obtain ⟨g, e, hg2, hx⟩ := h
    exact ⟨g, e, Nat.le_trans hg hg2, hx⟩
  | eq u => exact h
  | sl xs => exact h
  | tb xss => exact h
  | any => trivial
/-- a new value lies apart from those that were there -/
theorem VK.sep_new {g0 : Nat} {s t : VK} {u v : Value} {w w' : World} (h : s.ok g0 u w) (k : t.ok w.heap.size v w') : s.sep t u v ∧ t.sep s v u := by
  constructor
  · cases s <;> cases t <;> try trivial
    obtain ⟨g, e, _, hx⟩ := h
    obtain ⟨A, n, k2, e2, _, _, hg2⟩ := k
    intro g' a b c A' n' k' b0 o h1 h2 h3 hn
    subst e e2
    injection h1 with h1; injection h1 with h1; injection h1 with h1
    injection h2 with h2
    simp at h2
    obtain ⟨_, _, _, rfl, rfl, rfl⟩ := h2
    have := hg2 b0 o h3 hn
    have := hx.lt
    omega
  · cases t <;> cases s <;> try trivial
    obtain ⟨g, e, hg, _⟩ := k
    obtain ⟨A, n, k2, e2, _, hr, _⟩ := h
    intro g' a b c A' n' k' b0 o h1 h2 h3 hn
    subst e e2
    injection h1 with h1; injection h1 with h1; injection h1 with h1
    injection h2 with h2
    simp at h2
    obtain ⟨_, _, _, rfl, rfl, rfl⟩ := h2
    obtain ⟨b', o', e', hb', _⟩ := hr.2.2 hn
    rw [h3] at e'; injection e' with e'; injection e' with e'
    omega
def sinkAll (ops : Array Oper) (n : Nat) : Bool := match ops[n]? with | some o => (List.range n).all fun j => o.after.toList.any fun e => e.on == j && Region.binds .any e | none => false
theorem wp_region_kept {P : Program} {ops : Array Oper} {Q : Exit → Act → World → Prop} {id : Nat} {a : Act} {w : World} (fr : (Nat → Value) → Act) (S : Nat → VK) (vs0 : Nat → Value) (B : Nat) (w0 : World) (n : Nat) (hm : P.follows .mixedOrders = true)
    (ha : a = fr vs0) (hB : Below B w0 w) (hearly : early ops = true) (hn : (ops.size == n + 1) = true) (hsink : sinkAll ops n = true)
    (hstep : ∀ (i : Nat) (oi : Oper) (vs : Nat → Value) (w : World), i < n → ops[i]? = some oi → Below B w0 w → (∀ j, (oi.after.toList.any fun e => e.on == j && Region.binds .any e) = true → (S j).ok B (vs j) w) →
      ∀ K : Act → World → Prop, (∀ v w', (S i).ok w.heap.size v w' → Below w.heap.size w w' → K (fr fun k => if k = i then v else vs k) w') → if Region.wanted oi (yielded ops (fr vs).tmps) = true then Oper.wp P oi (fr vs) w K Q else K ((fr vs).put oi.dst undef) w)
    (hlast : ∀ (oi : Oper) (vs : Nat → Value) (w : World), ops[n]? = some oi → Below B w0 w → (∀ k, k < n → (S k).ok B (vs k) w) → (∀ k k', k < n → k' < n → k ≠ k' → (S k).sep (S k') (vs k) (vs k')) → ∀ K : Act → World → Prop, (∀ a w', Q .normal a w' → K a w') → if Region.wanted oi (yielded ops (fr vs).tmps) = true then Oper.wp P oi (fr vs) w K Q else K ((fr vs).put oi.dst undef) w)
    (hw : B ≤ w.heap.size) : (Code.region id ops true).wp P Q a w := by
  have hn : ops.size = n + 1 := by simpa using hn
  refine wp_region_inv (Inv := fun L a w => L.size = ops.size ∧ ((L.getD n false = false ∧ ∃ vs, a = fr vs ∧ Below B w0 w ∧ B ≤ w.heap.size ∧ (∀ k, k < n → L.getD k false = true → (S k).ok B (vs k) w) ∧ ∀ k k', k < n → k' < n → k ≠ k' → L.getD k false = true → L.getD k' false = true → (S k).sep (S k') (vs k) (vs k')) ∨ ((∀ k, k ≤ n → L.getD k false = true) ∧ Q .normal a w))) hm ?_ ?_ ?_
  · refine ⟨by simp, .inl ⟨by simp [hn], vs0, ha, below_drew' hB 1, hw, fun k hk h => ?_, fun k k' hk _ _ h => ?_⟩⟩
    all_goals
      exfalso
      have hk2 : k < ops.size := by omega
      simp [hk2] at h
  · rintro L a w i oi ⟨hL, hI⟩ hf ho hd K hK
    have hi : i < ops.size := by
      rcases Nat.lt_or_ge i ops.size with h' | h'
      · exact h'
      · rw [Array.getElem?_eq_none h'] at ho; cases ho
    have hff := getD_ltf hf
    rcases hI with ⟨hl, vs, rfl, hbl, hBw, hv, hsp⟩ | ⟨hall, _⟩
    · have hdep : ∀ j, (oi.after.toList.any fun e => e.on == j && Region.binds .any e) = true → L.getD j false = true := fun j hj => by
        rw [List.any_eq_true] at hj
        obtain ⟨e, he, h2⟩ := hj
        rw [Bool.and_eq_true, beq_iff_eq] at h2
        rw [← h2.1]
        exact hd e (Array.mem_toList_iff.1 he) h2.2
      by_cases e : i = n
      · subst e
        have hs : ∀ j, j < i → L.getD j false = true := fun j hj => hdep j (by
          unfold sinkAll at hsink
          rw [ho] at hsink
          exact (List.all_eq_true.1 hsink) j (List.mem_range.2 hj))
        refine hlast oi vs w ho hbl (fun k hk => hv k hk (hs k hk)) (fun k k' hk hk' hne => hsp k k' hk hk' hne (hs k hk) (hs k' hk')) K fun a w' hq => hK _ _ ⟨by simp [hL], .inr ⟨fun k hk => ?_, hq⟩⟩
        by_cases e2 : k = i
        · subst e2; exact gset L k (by omega)
        · rw [gne L i k (Ne.symm e2)]; exact hs k (by omega)
      · refine hstep i oi vs w (by omega) ho hbl (fun j hj => hv j (by
          have hjl := hdep j hj
          have hji : j < i := by
            rw [List.any_eq_true] at hj
            obtain ⟨e, he, h2⟩ := hj
            rw [Bool.and_eq_true, beq_iff_eq] at h2
            rw [← h2.1]
            exact early_of hearly ho e (Array.mem_toList_iff.1 he)
          omega) (hdep j hj)) K fun v w' hvi hb => hK _ _ ⟨by simp [hL], .inl ⟨by rw [gne L i n (by omega)]; exact hl, _, rfl, hbl.trans (hb.mono hBw), Nat.le_trans hBw hb.size, fun k hkn hk => ?_, fun k k' hkn hkn' hne hk hk' => ?_⟩⟩
        · by_cases e2 : k = i
          · subst e2; simp only [if_pos]; exact VK.ok_mono hvi hBw
          · simp only [if_neg e2]
            exact VK.stay (hv k hkn ((gne L i k (Ne.symm e2)).symm.trans hk)) hb
        · by_cases e2 : k = i
          · subst e2
            simp only [if_pos, if_neg (Ne.symm hne)]
            exact (VK.sep_new (hv k' hkn' ((gne L k k' hne).symm.trans hk')) hvi).2
          · by_cases e3 : k' = i
            · subst e3
              simp only [if_pos, if_neg e2]
              exact (VK.sep_new (hv k hkn ((gne L k' k (Ne.symm e2)).symm.trans hk)) hvi).1
            · simp only [if_neg e2, if_neg e3]
              exact hsp k k' hkn hkn' hne ((gne L i k (Ne.symm e2)).symm.trans hk) ((gne L i k' (Ne.symm e3)).symm.trans hk')
    · exfalso
      have := hall i (by omega)
      rw [hff] at this
      cases this
  · rintro L a w ⟨hL, hI⟩ hr
    rcases hI with ⟨hl, _⟩ | ⟨_, hq⟩
    · exfalso
      have : ∀ k, k ≤ n → L.getD k false = true := fun k hk => by
        induction k using Nat.strongRecOn with
        | _ k ih =>
          exact listed_of (List.range k) hr k (o := ops[k]) (by simp [show k < ops.size by omega]) (by omega) (by
            rw [Array.all_eq_true_iff_forall_mem]
            intro e he
            have := early_of hearly (i := k) (o := ops[k]) (by simp [show k < ops.size by omega]) e he
            simpa using this) fun j hj => ih j (List.mem_range.1 hj) (by have := List.mem_range.1 hj; omega)
      rw [this n (Nat.le_refl _)] at hl
      cases hl
    · exact hq
end Go.Proofs.YtnkcjekfjlbcdaaGreatDoor
