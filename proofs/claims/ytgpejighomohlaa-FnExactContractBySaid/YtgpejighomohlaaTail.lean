/- A region that draws its order: operations that are quiet in a class of worlds, and one operation that waits for all of them: one walk of the text's order serves. Over any program. -/
import Derived.Test.YtgpejighomohlaaLawK
import Derived.StillTail
import Derived.Deep.Quiet
import Derived.Lib.QuietBelow
import Derived.BigQuiet
namespace Go.Proofs.Ytgpejighomohlaa
set_option linter.unusedVariables false
set_option linter.unusedSimpArgs false
set_option maxRecDepth 20000
open Go.RowKit Go.Sort
section
variable {P : Program} {md : Region.Mode} {C : World → Prop} {Q' : Exit → Act → World → Prop}
/-- every operation waits only for such as stand ahead of it -/
def depsB (md : Region.Mode) (ops : Array Oper) : Bool :=
  (List.range ops.size).all fun i => match ops[i]? with
    | some o => o.after.all fun e => !(Region.binds md e) || decide (e.on < i)
    | none => true
theorem depsB_spec {ops : Array Oper} (h : depsB md ops = true) {i : Nat} {o : Oper} (hi : ops[i]? = some o) : ∀ e ∈ o.after, Region.binds md e = true → e.on < i := by
  have hlt : i < ops.size := (Array.getElem?_eq_some_iff.1 hi).1
  have h1 := List.all_eq_true.1 h i (List.mem_range.2 hlt)
  rw [hi] at h1
  intro e he hb
  have h2 := (Array.all_eq_true'.1 h1) e he
  simp only [hb, Bool.not_true, Bool.false_or, decide_eq_true_eq] at h2
  exact h2
theorem ready_done {ops : Array Oper} {listed : Array Bool} (hsz : listed.size = ops.size) (h : ∀ i, i < ops.size → listed.getD i true = true) : Region.ready md ops listed = [] := by
  rw [List.eq_nil_iff_forall_not_mem]
  intro i hi
  obtain ⟨h1, o, h2, _⟩ := mem_ready.1 hi
  have hlt : i < ops.size := (Array.getElem?_eq_some_iff.1 h2).1
  rw [h i hlt] at h1
  cases h1
theorem getD_tf {l : Array Bool} {i : Nat} (hi : i < l.size) : l.getD i true = l.getD i false := by simp [hi]
/-- where nothing is ready, all is listed -/
theorem all_listed {ops : Array Oper} {listed : Array Bool} (hsz : listed.size = ops.size) (hd : depsB md ops = true) (h : Region.ready md ops listed = []) : ∀ i, i < ops.size → listed.getD i true = true := by
  intro i
  induction i using Nat.strongRecOn with
  | _ i ih =>
    intro hi
    cases hl : listed.getD i true with
    | true => rfl
    | false =>
      exfalso
      have : i ∈ Region.ready md ops listed := by
        refine mem_ready.2 ⟨hl, ops[i], by simp [hi], fun e he hb => ?_⟩
        have hlt := depsB_spec hd (i := i) (o := ops[i]) (by simp [hi]) e he hb
        rw [← getD_tf (by omega)]
        exact ih e.on hlt (by omega)
      rw [h] at this
      cases this
variable {l : List Oper} {o : Oper}
theorem push_getD {listed : Array Bool} (i : Nat) (d : Bool) : (listed.push false).getD i d = if i = listed.size then false else listed.getD i d := by
  by_cases h : i = listed.size
  · subst h; simp
  · rw [if_neg h]
    rcases Nat.lt_or_ge i listed.size with h1 | h1
    · simp [Array.getD_eq_getD_getElem?, Array.getElem?_push, h]
    · simp [Array.getD_eq_getD_getElem?, Array.getElem?_push, h]
theorem ops_at {i : Nat} (hi : i < l.length) : (l ++ [o]).toArray[i]? = l.toArray[i]? := by simp [List.getElem?_append_left hi]
theorem ops_end : (l ++ [o]).toArray[l.length]? = some o := by simp
theorem ready_head {listed : Array Bool} (hsz : listed.size = l.length) {i : Nat} (hi : i < l.length) :
    i ∈ Region.ready md (l ++ [o]).toArray (listed.push false) ↔ i ∈ Region.ready md l.toArray listed := by
  rw [mem_ready, mem_ready, ops_at hi, push_getD, if_neg (by omega)]
  have e : ∀ j, (listed.push false).getD j false = listed.getD j false := by
    intro j
    rw [push_getD]
    split
    · rename_i h; subst h; simp
    · rfl
  simp only [e]
/-- the last operation, all others done -/
theorem tail_now {w : World} {a : Act} {listed : Array Bool} (hsz : listed.size = l.length) (hd : depsB md (l ++ [o]).toArray = true) (hall : ∀ i, i < l.length → listed.getD i true = true)
    (h : wpList P (l ++ [o]).toArray Q' [o] a w) (g : Nat) : wpAny P md (l ++ [o]).toArray Q' (g + 1) (listed.push false) a w := by
  have hr : ∀ i, i ∈ Region.ready md (l ++ [o]).toArray (listed.push false) ↔ i = l.length := by
    intro i
    constructor
    · intro hi
      obtain ⟨h1, oi, h2, _⟩ := mem_ready.1 hi
      have hlt := (Array.getElem?_eq_some_iff.1 h2).1
      simp at hlt
      rcases Nat.lt_or_ge i l.length with hl | hl
      · rw [push_getD, if_neg (by omega), hall i hl] at h1; cases h1
      · omega
    · rintro rfl
      refine mem_ready.2 ⟨by rw [push_getD, if_pos hsz.symm], o, ops_end, fun e he hb => ?_⟩
      have hlt := depsB_spec hd ops_end e he hb
      rw [push_getD, if_neg (by omega), ← getD_tf (by omega)]
      exact hall _ hlt
  have hdone : Region.ready md (l ++ [o]).toArray ((listed.push false).setIfInBounds l.length true) = [] := by
    refine ready_done (by simp [hsz]) fun i hi => ?_
    simp at hi
    by_cases e : i = l.length
    · subst e
      simp [Array.getD_eq_getD_getElem?, hsz]
    · have := hall i (by omega)
      rw [Array.getD_eq_getD_getElem?, Array.getElem?_setIfInBounds, if_neg (Ne.symm e), ← Array.getD_eq_getD_getElem?, push_getD, if_neg (by omega)]
      exact this
  refine ⟨fun h0 => ?_, fun i hi => ?_⟩
  · have := (hr l.length).2 rfl
    rw [h0] at this; cases this
  · obtain rfl := (hr i).1 hi
    have hK : wpAny P md (l ++ [o]).toArray Q' g ((listed.push false).setIfInBounds l.length true) = wpList P (l ++ [o]).toArray Q' [] := by
      funext a w
      cases g with
      | zero => simp [wpAny, wpList, hdone]
      | succ g => simp [wpAny, wpList, hdone]
    rw [hK]
    unfold wpOp
    rw [ops_end]
    exact h
theorem qOp_up {i : Nat} {K : Act → Prop} {a : Act} (hi : i < l.length) (hg : l.all (fun o => o.guard.isNone) = true) (h : qOp P l.toArray C i K a) : qOp P (l ++ [o]).toArray C i K a := by
  unfold qOp at *
  rw [ops_at hi]
  have e : l.toArray[i]? = some l[i] := by simp [hi]
  rw [e] at h ⊢
  have hgi : (l[i]).guard = none := by
    have := List.all_eq_true.1 hg l[i] (List.getElem_mem hi)
    simpa using this
  simp only [Region.wanted, hgi, if_true] at h ⊢
  exact h
theorem transfer {Q0 : Act → Prop} (hd : depsB md (l ++ [o]).toArray = true) (hdl : depsB md l.toArray = true) (hs : Region.sinkB md (l ++ [o]).toArray l.length = true) (hc : Region.chainB md (l ++ [o]).toArray l.length = true) (hg : l.all (fun o => o.guard.isNone) = true)
    (hQ : ∀ a w, C w → Q0 a → wpList P (l ++ [o]).toArray Q' [o] a w) :
    ∀ (f : Nat) (listed : Array Bool) (a : Act) (w : World), C w → listed.size = l.length → HeadInv md (l ++ [o]).toArray l.length (listed.push false) →
      wpAnyQ P md l.toArray C Q0 f listed a → wpAny P md (l ++ [o]).toArray Q' (f + 1) (listed.push false) a w := by
  intro f
  induction f with
  | zero =>
    intro listed a w hw hsz _ h
    exact tail_now hsz hd (by have := all_listed (by simpa using hsz) hdl h.1; simpa using this) (hQ _ _ hw h.2) 0
  | succ f ih =>
    intro listed a w hw hsz inv h
    by_cases hr : Region.ready md l.toArray listed = []
    · exact tail_now hsz hd (by have := all_listed (by simpa using hsz) hdl hr; simpa using this) (hQ _ _ hw (h.1 hr)) (f + 1)
    · obtain ⟨i0, hi0⟩ := List.exists_mem_of_ne_nil _ hr
      obtain ⟨hu0, oi0, ho0, _⟩ := mem_ready.1 hi0
      have hlt0 : i0 < l.length := by have := (Array.getElem?_eq_some_iff.1 ho0).1; simpa using this
      have hno : ∀ t, l.length ≤ t → t ∉ Region.ready md (l ++ [o]).toArray (listed.push false) :=
        tail_waits hs hc (by simp) inv (l.length - i0) i0 rfl hlt0 (by rw [push_getD, if_neg (by omega)]; exact hu0)
      refine ⟨fun h0 => ?_, fun i hi => ?_⟩
      · have := (ready_head (md := md) (o := o) hsz hlt0).2 hi0
        rw [h0] at this; cases this
      · have hil : i < l.length := by
          rcases Nat.lt_or_ge i l.length with h | h
          · exact h
          · exact absurd hi (hno i h)
        have hi' := (ready_head (md := md) (o := o) hsz hil).1 hi
        have hset : (listed.push false).setIfInBounds i true = (listed.setIfInBounds i true).push false := by
          apply Array.ext_getElem?
          intro j
          simp only [Array.getElem?_setIfInBounds, Array.getElem?_push, Array.size_push, Array.size_setIfInBounds]
          by_cases e : i = j
          · subst e
            rw [if_pos rfl, if_pos (by omega), if_neg (by omega), if_pos rfl, if_pos (by omega)]
          · rw [if_neg e, if_neg e]
        rw [hset]
        refine wpOp_of_qOp hw (fun a' w' hw' hk => ih _ a' w' hw' (by simpa using hsz) ?_ hk) (qOp_up hil hg (h.2 i hi'))
        rw [← hset]
        exact inv.set hi hil
end
/-- the region's wp: the head, quiet in the class, walked in the text's order; then the last operation, from every world of the class -/
theorem wp_region_quiet_last {P : Program} {C : World → Prop} {id : Nat} {Q : Exit → Act → World → Prop} {a : Act} {w : World} (n : Nat) {L : List Oper} (hm : P.follows .mixedOrders = true)
    (hL : (L.length == n + 1) = true) (hB : Region.lexB .any (L.take n).toArray = true) (hd : depsB .any L.toArray = true) (hdl : depsB .any (L.take n).toArray = true) (hs : Region.sinkB .any L.toArray n = true) (hc : Region.chainB .any L.toArray n = true) (hg : (L.take n).all (fun o => o.guard.isNone) = true)
    (hC : C w.drew)
    (h : wpQuiet P (L.take n).toArray C (fun a' => ∀ w', C w' → wpList P L.toArray Q (L.drop n) a' w') (L.take n) a) : (Code.region id L.toArray true).wp P Q a w := by
  have hL' : L.length = n + 1 := by simpa using hL
  obtain ⟨o, ho⟩ : ∃ o, L.drop n = [o] := by
    have : (L.drop n).length = 1 := by simp; omega
    exact List.length_eq_one_iff.1 this
  have hLo : L.take n ++ [o] = L := by rw [← ho]; exact List.take_append_drop n L
  have hln : (L.take n).length = n := by simp; omega
  rw [ho] at h
  simp only [Region.lexB, Bool.and_eq_true] at hB
  have hq := wpAnyQ_lex (C := C) (md := .any) hB.1 (L.take n) 0 (Array.replicate (L.take n).toArray.size false) a (by simp) (by simpa using hB.2) h
  refine wp_region_any hm ?_
  have hX := transfer (P := P) (md := .any) (C := C) (Q' := Q) (l := L.take n) (o := o) (Q0 := fun a' => ∀ w', C w' → wpList P L.toArray Q [o] a' w') (by rw [hLo]; exact hd) hdl (by rw [hLo, hln]; exact hs) (by rw [hLo, hln]; exact hc) hg (fun a w hw h => by rw [hLo]; exact h w hw) (L.take n).length (Array.replicate (L.take n).toArray.size false) a w.drew hC (by simp) ?_ hq
  · rw [hLo, hln] at hX
    have e : (Array.replicate (L.take n).toArray.size false).push false = Array.replicate L.toArray.size false := by
      rw [← Array.replicate_succ]; congr 1; simp; omega
    rw [e] at hX
    have e2 : L.toArray.size = n + 1 := by simpa using hL'
    rw [e2] at hX ⊢
    exact hX
  · refine ⟨by simp, fun j oj hj hl e he hb => ?_, fun t ht ht2 => ?_⟩
    · exfalso
      rw [push_getD] at hl
      split at hl
      · cases hl
      · rw [getD_replicate_false] at hl; cases hl
    · rw [hLo] at ht2
      rw [push_getD, if_pos]
      simp at ht2 ht ⊢
      omega
end Go.Proofs.Ytgpejighomohlaa
