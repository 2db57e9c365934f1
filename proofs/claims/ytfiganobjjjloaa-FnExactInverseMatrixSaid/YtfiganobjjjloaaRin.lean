/- A drawn region by an invariant: what holds of each set of operations that are behind. No condition but what each theorem names. -/
import Derived.Deep.RegionHeld3
namespace Go.Proofs.Ytfiganobjjjloaa
set_option linter.unusedVariables false
set_option linter.unusedSimpArgs false
set_option maxRecDepth 20000
open Go
section
variable {P : Program} {ops : Array Oper} {Q : Exit → Act → World → Prop} {md : Region.Mode} {Inv : Array Bool → Act → World → Prop}
theorem unl_set {L : Array Bool} {i : Nat} (h : L.getD i true = false) : (L.setIfInBounds i true).count false + 1 ≤ L.count false := by
  have hi : i < L.size := by
    rcases Nat.lt_or_ge i L.size with h' | h'
    · exact h'
    · simp [Array.getElem?_eq_none h'] at h
  have hv : L[i] = false := by simpa [hi] using h
  have hpos : 0 < L.count false := Array.count_pos_iff.2 (by rw [← hv]; exact Array.getElem_mem hi)
  rw [Array.setIfInBounds, dif_pos hi, Array.count_set hi, hv]
  simp
  omega
theorem wpAny_inv (hstep : ∀ (L : Array Bool) (a : Act) (w : World) (i : Nat) (oi : Oper), Inv L a w → L.getD i true = false → ops[i]? = some oi → (∀ e ∈ oi.after, Region.binds md e = true → L.getD e.on false = true) → ∀ K : Act → World → Prop, (∀ a w, Inv (L.setIfInBounds i true) a w → K a w) → if Region.wanted oi (yielded ops a.tmps) = true then Oper.wp P oi a w K Q else K (a.put oi.dst undef) w)
    (hend : ∀ (L : Array Bool) (a : Act) (w : World), Inv L a w → Region.ready md ops L = [] → Q .normal a w) :
    ∀ (fuel : Nat) (L : Array Bool) (a : Act) (w : World), L.count false ≤ fuel → Inv L a w → wpAny P md ops Q fuel L a w := by
  intro fuel
  induction fuel with
  | zero =>
    intro L a w hc hI
    have h0 : Region.ready md ops L = [] := by
      rcases hr : Region.ready md ops L with _ | ⟨j, r⟩
      · rfl
      · have hj : j ∈ Region.ready md ops L := by rw [hr]; exact List.mem_cons_self
        have := unl_set (mem_ready.1 hj).1
        omega
    exact ⟨h0, hend _ _ _ hI h0⟩
  | succ n ih =>
    intro L a w hc hI
    refine ⟨fun h0 => hend _ _ _ hI h0, fun i hi => ?_⟩
    obtain ⟨hf, o, ho, hd⟩ := mem_ready.1 hi
    refine wpOp_step ho fun K' hK => hstep L a w i o hI hf ho hd K' fun a w h => hK a w (ih _ _ _ ?_ h)
    have := unl_set hf
    omega
theorem wp_region_inv {id : Nat} {a : Act} {w : World} (hm : P.follows .mixedOrders = true) (hI : Inv (Array.replicate ops.size false) a w.drew)
    (hstep : ∀ (L : Array Bool) (a : Act) (w : World) (i : Nat) (oi : Oper), Inv L a w → L.getD i true = false → ops[i]? = some oi → (∀ e ∈ oi.after, Region.binds .any e = true → L.getD e.on false = true) → ∀ K : Act → World → Prop, (∀ a w, Inv (L.setIfInBounds i true) a w → K a w) → if Region.wanted oi (yielded ops a.tmps) = true then Oper.wp P oi a w K Q else K (a.put oi.dst undef) w)
    (hend : ∀ (L : Array Bool) (a : Act) (w : World), Inv L a w → Region.ready .any ops L = [] → Q .normal a w) : (Code.region id ops true).wp P Q a w :=
  wp_region_any hm (wpAny_inv hstep hend _ _ _ _ (by simp) hI)
theorem getD_ltf {L : Array Bool} {i : Nat} (h : L.getD i true = false) : L.getD i false = false := by
  have hi : i < L.size := by
    rcases Nat.lt_or_ge i L.size with h' | h'
    · exact h'
    · simp [Array.getElem?_eq_none h'] at h
  simpa [hi] using h
theorem listed_of (deps : List Nat) {L : Array Bool} (hr : Region.ready md ops L = []) (i : Nat) {o : Oper} (ho : ops[i]? = some o) (hi : i < L.size) (hdeps : o.after.all (fun e => deps.contains e.on) = true) (h : ∀ j ∈ deps, L.getD j false = true) : L.getD i false = true := by
  rcases hb : L.getD i false with _ | _
  · exfalso
    have hm : i ∈ Region.ready md ops L := mem_ready.2 ⟨by simpa [hi] using hb, o, ho, fun e he _ => h e.on (by have := (Array.all_eq_true_iff_forall_mem.1 hdeps) e he; simpa using this)⟩
    rw [hr] at hm
    cases hm
  · rfl
theorem gset (L : Array Bool) (i : Nat) (hi : i < L.size) : (L.setIfInBounds i true).getD i false = true := by simp [hi]
theorem gne (L : Array Bool) (i : Nat) : ∀ j, i ≠ j → (L.setIfInBounds i true).getD j false = L.getD j false := fun _ h => getD_set_ne false h
end
end Go.Proofs.Ytfiganobjjjloaa
