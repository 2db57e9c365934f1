/- FnExactParseAlgebra: for every input the law returns true and every argument reads as it did. Under the tables that the row lists, tied to the text by the card. -/
import Derived.Test.YtnkcjekfjlbcdaaGreatDoorRows
import Derived.Test.YtnkcjekfjlbcdaaGreatDoorLawFnExactParseAlgebra
import Derived.Test.YtnkcjekfjlbcdaaGreatDoorErr
import Derived.Test.YtnkcjekfjlbcdaaGreatDoorTie
import Derived.Test.YtnkcjekfjlbcdaaGreatDoorCards
import Derived.LaidMore
import Derived.Lay
import Derived.Stop.Joined
import Derived.SevenTiedAt
import Derived.LaidSub
import Derived.MakeChecks
import Derived.Lib.LaidTab
import Derived.Lib.AppendIntMem
import Derived.WalkKit
import Derived.ProofKit
import Derived.OpenShut
import Derived.ShutString
import Derived.ChangeOld
import Derived.Below
import Derived.Lib.SmallJoins
namespace Go.Proofs.YtnkcjekfjlbcdaaGreatDoor.fnExactParseAlgebra
open Go.ChangeShapes Go.WideShapes Go.ChangeAt Go.RowKit Go.Joins
open Go.ChangeMaps (open_string shut_string)
set_option linter.unusedVariables false
set_option linter.unusedSimpArgs false
theorem own : ownKnob Tryz.prog.godebug = none := by kernel_rfl
theorem laidOut : laidOutB Tryz.prog = true := by kernel_rfl
abbrev laid1 : List (String × DataW Unit) := Rows.fnExactParseAlgebraRow.laid
theorem tab_of {W : World} (h : laidMetH Tryz.prog laid1 W) : Tabs W.heap.size W := by
  refine Lib.tabBelow_of_tabIs ?_
  have h1 : laidMetH Tryz.prog [(Tryz.tabN, Lib.tabData .u64 Lib.pow10Tab)] W := h.filter fun x => x.1 == Tryz.tabN
  rw [Go.MakeChecks.laidMetH_plain _ _ _ (by rfl)] at h1
  exact Lib.tabIs_of_head (g := 5) (t := 119) (e := 89) (n := 20) (by kernel_rfl) (by kernel_rfl) Tryz.underlying119 Tryz.underlying89 (by kernel_rfl) (by kernel_rfl) h1
set_option maxRecDepth 100000 in
theorem lifted (os : Os) (started : os.Started) (H : Type) (enc : TypeId × Value → H) :
    ReturnsInHanded {} Tryz.checked os 3 .any (fun w args => (Rows.fnExactParseAlgebraSpec.pre enc Tryz.prog Tryz.f3 [] false w args ∧ laidMetH Tryz.prog laid1 w) ∧ sizedMet enc Tryz.prog Tryz.f3 (OpenSpec.ofChange Rows.fnExactParseAlgebraSpec) false w args)
      (Rows.fnExactParseAlgebraSpec.post enc Tryz.prog Tryz.f3 false true false false) := by
  refine returnsInHanded_of_calls own started (by kernel_rfl)
    (ChangeSpec.witness_shaped (enc := enc) (C := Tryz.checked) (os := os) (X := fun w _ => laidMetH Tryz.prog laid1 w) false (World.laidAll Tryz.prog os laid1) #[.string ByteArray.empty] 8 (World.laidAll_os _ _ _) (World.shaped_of_ZipB (by kernel_rfl) (by kernel_rfl)) (by kernel_rfl) (by kernel_rfl) (by kernel_rfl)
      (by rw [Go.MakeChecks.laidMetH_plain _ _ _ (by kernel_rfl)]; exact laidMet_laidAll _ (by kernel_rfl) (by kernel_rfl))) ?_
  intro w tape i _ hsh _ hok hpre _
  obtain ⟨_, _, _, fn', hfn', _, _, _, _, hval0⟩ := hok
  obtain rfl : Tryz.f3 = fn' := Option.some.inj (Tryz.func3.symm.trans hfn')
  obtain ⟨⟨⟨ds, gs, before, hw, _⟩, hL0⟩, _⟩ := hpre
  have hW := DataW.Whole.of_heap (w' := w.forCall tape i) (by rfl) hw
  have hL : laidMetH Tryz.prog laid1 (w.forCall tape i) := hL0.of_heap (by rfl)
  clear hw hL0
  suffices H : Calls Tryz.checked.prog 3 i.args (w.forCall tape i) fun e W' => ∃ v, e = .returned v ∧ Rows.fnExactParseAlgebraSpec.post enc Tryz.prog Tryz.f3 false true false false (w.forCall tape i) i.args v W' from
    H.mono fun e W' ⟨v, he, hp⟩ => by subst he; exact ChangeSpec.post_blind hp
  generalize w.forCall tape i = W at hsh hval0 hW hL ⊢
  generalize i.args = args at hval0 hW ⊢
  generalize w.heap.size = base at hval0
  have hval : ∀ (j : Nat) t v, Tryz.f3.params[j]? = some t → args[j]? = some v → Value.okWide Tryz.prog W .any base t v := hval0
  have hW' := hW
  obtain ⟨p, q, hA0, hV, rfl, hfz, hnd⟩ := hW
  have hA : DataW.TrodAll enc Tryz.prog W 0 (fun _ => true) true Tryz.f3.params.toList args.toList ds p := hA0
  rw [Tryz.params3] at hA hval
  obtain ⟨v0, vs0, d0, ds0, p0, q0, hargs, rfl, rfl, h0, r0⟩ := trodAll_cons hA
  obtain ⟨rfl, rfl, rfl⟩ := trodAll_nil r0
  obtain rfl : args = #[v0] := by cases args; simp_all
  obtain ⟨rfl, rfl⟩ := trodVars_none hV
  have k0 := h0
  have lt0 : ∀ x ∈ p0, x.block < W.heap.size := by obtain ⟨m, hm⟩ := k0; exact DataW.trod_lt m _ _ _ hm
  obtain ⟨a0, rfl, e0, f0, w0⟩ := open_string Tryz.underlying9 (hval 0 9 v0 rfl rfl) h0
  clear hA0 hval0
  have ht := tab_of hL
  have hz1 := (show laidMetH Tryz.prog [("strconv.ErrSyntax", Rows.laid_strconv_ErrSyntax)] W from hL.filter fun x => x.1 == "strconv.ErrSyntax")
  have hz2 := (show laidMetH Tryz.prog [("strconv.ErrRange", Rows.laid_strconv_ErrRange)] W from hL.filter fun x => x.1 == "strconv.ErrRange")
  rw [Go.MakeChecks.laidMetH_plain _ _ _ (by rfl)] at hz1 hz2
  have he := errs_of hz1 hz2 hsh
  refine (walk_FnExactParseAlgebra a0 w0 ht he (w := W)).mono fun e W' ⟨he, bel⟩ => ?_
  subst he
  exact ⟨_, rfl, _, _, _, [], _, [], hW', trodAll_mk1 (shut_bool Tryz.underlying4 _), (trodAll_cons_mk (Below.trod laidOut (by kernel_rfl) (of_decide_eq_true (by kernel_rfl)) k0 bel lt0) trodAll_mk0), rfl, bel.frame _, fun h => by cases h⟩
theorem over : Rows.fnExactParseAlgebraRow.holds Tryz.pinned (OpenSpec.ofChange Rows.fnExactParseAlgebraSpec) :=
  OpenClaim.holds_of_wide 3 Tryz.f3 rfl rfl rfl rfl rfl rfl rfl ⟨rfl, rfl, rfl, rfl, rfl⟩ rfl rfl rfl rfl rfl (by kernel_rfl) Tryz.func3 (by kernel_rfl)
    (of_decide_eq_true (by kernel_rfl)) (by unfold Func.isWrapper; first | (rw [if_pos (by decide +kernel)]; kernel_rfl) | (rw [if_neg (by decide +kernel)]; exact ⟨rfl, rfl⟩))
    (fun os started H enc _ => lifted os started H enc)
theorem proved : Rows.FnExactParseAlgebraCardSaid :=
  Claim7.holds_tied_plain_at .later [] [.data, .data, .data, .data, .sentinel, .sentinel, .pinned] true (true, "d020eb3b1a4826e3e979d6c126af49b49bfcc3feafee1b4f297d1967dcba5825") true
    over (fun _ h => by cases h) (by kernel_rfl) (fun _ h => by cases h) fnExactParseAlgebra_row_tie rfl ⟨rfl, rfl⟩ (by kernel_rfl) rfl
    (fun f fn hf hfn => by
      obtain rfl : f = 3 := Option.some.inj ((show Tryz.prog.funcNamed Rows.fnExactParseAlgebraRow.func = some 3 by kernel_rfl).symm.trans hf) |>.symm
      obtain rfl : fn = Tryz.f3 := (Option.some.inj (Tryz.func3.symm.trans hfn)).symm
      exact ⟨by kernel_rfl, fun j t ht => by
        rw [Tryz.params3] at ht
        have h3 : t = 9 := by
          rcases j with _ | j
          · simpa using ht.symm
          · simp at ht
        subst h3
        exact (show Tryz.prog.wantsStandIn 9 = false by kernel_rfl)⟩)
    (by kernel_rfl)
#print axioms proved
end Go.Proofs.YtnkcjekfjlbcdaaGreatDoor.fnExactParseAlgebra
