/- Steps of a drawn region under S, one by one, for regions in which a guard leaves operations out (printed by heldgen.py). No condition but what each theorem names. -/
import Derived.Deep.RegionHeld3
namespace Go.Proofs.Yteepnimmbofmlaa
set_option linter.unusedVariables false
set_option linter.unusedSimpArgs false
set_option maxRecDepth 20000
open Go
section
variable {P : Program} {l : List Oper} {Q : Exit → Act → World → Prop} {md : Region.Mode} {S : World → Prop} {fuel : Nat} {listed : Array Bool} {a : Act} {w : World}
theorem held_take (i : Nat) {oi : Oper} {v : Value} (hi : l[i]? = some oi) (hs : Region.noSelect l.toArray = true) (hf : Region.free md l.toArray listed i = true) (hr : (Region.ready md l.toArray listed).contains i = true)
    (hQ : ∀ c a w, Q (.panic c) (a.put oi.dst v) w → Q (.panic c) a w) (hw : Region.wanted oi (yielded l.toArray a.tmps) = true) (hv : ∀ w, S w → (execOp a.eval oi).run P w = .ok (.value v) w) (hS : S w)
    (h : wpAnyH P md l.toArray Q S fuel (listed.setIfInBounds i true) (a.put oi.dst v) w) : wpAnyH P md l.toArray Q S (fuel + 1) listed a w :=
  wpAnyH_take (oi := oi) (by rw [List.getElem?_toArray]; exact hi) hs hf hr hQ (.inl ⟨hw, hv⟩) hS h
theorem held_skip (i : Nat) {oi : Oper} (hi : l[i]? = some oi) (hs : Region.noSelect l.toArray = true) (hf : Region.free md l.toArray listed i = true) (hr : (Region.ready md l.toArray listed).contains i = true)
    (hQ : ∀ c a w, Q (.panic c) (a.put oi.dst undef) w → Q (.panic c) a w) (hw : Region.wanted oi (yielded l.toArray a.tmps) = false) (hS : S w)
    (h : wpAnyH P md l.toArray Q S fuel (listed.setIfInBounds i true) (a.put oi.dst undef) w) : wpAnyH P md l.toArray Q S (fuel + 1) listed a w :=
  wpAnyH_take (oi := oi) (by rw [List.getElem?_toArray]; exact hi) hs hf hr hQ (.inr ⟨hw, rfl⟩) hS h
theorem held_skip1 (i : Nat) {oi : Oper} (hi : l[i]? = some oi) (hr : Region.ready md l.toArray listed = [i]) (hw : Region.wanted oi (yielded l.toArray a.tmps) = false) (hS : S w)
    (h : wpAnyH P md l.toArray Q S fuel (listed.setIfInBounds i true) (a.put oi.dst undef) w) : wpAnyH P md l.toArray Q S (fuel + 1) listed a w :=
  wpAnyH_ready hr (by simp) (AllReadyH.cons (o := oi) (by rw [List.getElem?_toArray]; exact hi) (fun K hK => by rw [hw]; exact hK.out _ _ hS (fun _ => h)) AllReadyH.nil)
theorem held_call (i : Nat) {oi : Oper} (hi : l[i]? = some oi) (hr : Region.ready md l.toArray listed = [i]) (hw : Region.wanted oi (yielded l.toArray a.tmps) = true)
    (h : ∀ K : Act → World → Prop, Shut (∀ a w, S w → (S w → wpAnyH P md l.toArray Q S fuel (listed.setIfInBounds i true) a w) → K a w) → Oper.wp P oi a w K Q) : wpAnyH P md l.toArray Q S (fuel + 1) listed a w :=
  wpAnyH_ready hr (by simp) (AllReadyH.cons (o := oi) (by rw [List.getElem?_toArray]; exact hi) (fun K hK => by rw [if_pos hw]; exact h K hK) AllReadyH.nil)
end
end Go.Proofs.Yteepnimmbofmlaa
