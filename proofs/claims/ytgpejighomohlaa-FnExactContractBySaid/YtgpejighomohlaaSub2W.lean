/- SubsetsOf of both packages. No condition but what each theorem names. -/
import Derived.Test.YtgpejighomohlaaSubW
import Derived.Test.YtgpejighomohlaaTblW
namespace Go.Proofs.Ytgpejighomohlaa
set_option linter.unusedVariables false
set_option linter.unusedSimpArgs false
set_option maxRecDepth 20000
open Go.RowKit
set_option maxHeartbeats 1000000
theorem iSub_ok (n k : Nat) (w : World) (hn : n ≤ 7) (hk : k ≤ n) :
    Calls Try.prog 72 #[.int .i64 n, .int .i64 k] w (RetT (subs n k 0) w) := by
  have e1 : (decide (0 ≤ (n : Int)) && decide ((n : Int) ≤ 7)) = true := by simp; omega
  have e2 : (decide (0 ≤ (k : Int)) && decide ((k : Int) ≤ (n : Int))) = true := by simp; omega
  go_enter Try.func72, Try.ntmps72
  go_wp2_with (first | (go_at_call 71; refine (inside_any _ _ _ _).mono ?_; rintro e w' ⟨rfl, rfl⟩) | (go_at_call 78; refine (iSubs_any n hn k k 0 0 _ (by omega) (by omega) (Lib.hid rfl) (Lib.hid rfl)).mono ?_; rintro e w1 ⟨A, m, c, rfl, hd, hb, hs, hT⟩))
  go_ret
  exact ⟨_, _, _, rfl, hd, hb, hs, hT⟩
theorem iSub_bad (n k : Int) (w : World) (h : ¬ ((0 ≤ n ∧ n ≤ 7) ∧ 0 ≤ k ∧ k ≤ n)) :
    Calls Try.prog 72 #[.int .i64 n, .int .i64 k] w (RetT [] w) := by
  have HC : (decide (0 ≤ n) && decide (n ≤ 7)) = false ∨ ((decide (0 ≤ n) && decide (n ≤ 7)) = true ∧ (decide (0 ≤ k) && decide (k ≤ n)) = false) := by
    rcases e : (decide (0 ≤ n) && decide (n ≤ 7)) with _ | _
    · exact .inl rfl
    · refine .inr ⟨rfl, ?_⟩
      rcases e2 : (decide (0 ≤ k) && decide (k ≤ n)) with _ | _
      · rfl
      · exfalso; apply h
        simp at e e2
        exact ⟨e, e2⟩
  clear h
  rcases HC with e1 | ⟨e1, e2⟩
  all_goals
    go_enter Try.func72, Try.ntmps72
    go_wp2_with (go_at_call 71; refine (inside_any _ _ _ _).mono ?_; rintro e w' ⟨rfl, rfl⟩)
    go_ret
    exact ⟨_, _, _, rfl, Hd.nil, Below.refl _ _, _, OwT.nil _ _ _⟩
/-- what a statement that calls for a table leaves -/
theorem subs_flat (n k : Nat) (hn : n ≤ 7) (hk : k ≤ 8) : flen (subs n k 0) ≤ 1073741824 := by
  have h : ∀ xss : List (List Int), (∀ r ∈ xss, r.length = k) → xss.flatten.length = xss.length * k := by
    intro xss
    induction xss with
    | nil => intro _; simp
    | cons a r ih =>
      intro h
      rw [List.flatten_cons, List.length_append, ih (fun x hx => h x (List.mem_cons_of_mem _ hx)), h a (List.mem_cons_self ..), List.length_cons, Nat.add_mul]
      omega
  show (subs n k 0).flatten.length ≤ _
  rw [h _ (subs_len n k 0)]
  have h1 := subs_count n k 0
  have h2 := pow_bd hn hk
  calc (subs n k 0).length * k ≤ 5764801 * 8 := Nat.mul_le_mul (by omega) hk
    _ ≤ 1073741824 := by decide
end Go.Proofs.Ytgpejighomohlaa
