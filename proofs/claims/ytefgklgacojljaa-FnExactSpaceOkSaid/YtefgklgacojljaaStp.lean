/- append as one step of a region that draws: integers, one slice more on a table. No condition but what each theorem names. -/
import Derived.Test.YtefgklgacojljaaCln
import Derived.Deep.RegionLaw
namespace Go.Proofs.Ytefgklgacojljaa
set_option linter.unusedVariables false
set_option linter.unusedSimpArgs false
open Go.RowKit
theorem step_apI {ops : Array Oper} {o : Oper} {a : Act} {K : Act → World → Prop} {Q : Exit → Act → World → Prop} {E : Prop} {w : World} {B lo n m c : Nat} {A : Option Addr} {xs ys : List Int} {v : Value} (hgd : o.guard = none) (s x : Operand)
    (ho : o.op = .call { callee := .builtin .append, args := #[s, x], argTypes := #[22, 22] })
    (hs : a.eval s = v) (hown : w.ownsRow lo 3 1 v n (xs.map (Value.int .i64))) (hx : a.eval x = .slice A m c) (hr : RdI w B A m ys) (hd : Hd A m c) (hn : n + m ≤ 1073741824) (hlo : lo ≤ w.heap.size)
    (h : ∀ v' w', w'.ownsRow lo 3 1 v' (n + m) ((xs ++ ys).map (Value.int .i64)) → w.grownBy w' v.ownBlock → (v'.ownBlock = v.ownBlock ∨ v'.ownBlock = some w.heap.size) → K (a.put o.dst v') w') :
    if Region.wanted o (yielded ops a.tmps) = true then Oper.wp Try.prog o a w K Q else E := by
  obtain ⟨i, h2, h3, h4, h5⟩ := info_parts Try.infoI
  have hw : Region.wanted o (yielded ops a.tmps) = true := by simp [Region.wanted, hgd]
  rw [if_pos hw]
  have HR : ∃ v' w', (Builtin.append_ #[22, 22] o.type #[v, .slice A m c]).run Try.prog w = .ok v' w' ∧ w'.ownsRow lo 3 1 v' (n + m) ((xs ++ ys).map (Value.int .i64)) ∧ w.grownBy w' v.ownBlock ∧ (v'.ownBlock = v.ownBlock ∨ v'.ownBlock = some w.heap.size) := by
    rcases A with _ | ad
    · have hm : m = 0 := by
        rcases Nat.eq_zero_or_pos m with h0 | h0
        · exact h0
        · obtain ⟨b, o', e, _⟩ := hr.2.2 h0; cases e
      subst hm
      have hy := hr.nilOf
      subst hy
      have hc : c = 0 := by
        rcases hd with ⟨_, _, e⟩ | ⟨b, o', e, _⟩
        · exact e
        · cases e
      subst hc
      exact ⟨v, w, run_append_owned_none (P := Try.prog) (w := w) lo 22 o.type 3 i 1 Try.underlying22 h2 v n _ hown, by simpa using hown, grown_refl _ _, .inl rfl⟩
    · rcases Nat.eq_zero_or_pos m with h0 | h0
      · subst h0
        have hy := hr.nilOf
        subst hy
        have := run_append_at (P := Try.prog) w lo 22 o.type 3 i (.int .i64 0) Try.underlying22 h2 h3 h4 rfl v n _ hown ad 0 c [] rfl (fun j u h => by simp at h) (fun u h => by simp at h) (by rw [h5]; omega) (by rw [h5]; omega) hlo
        simpa using this
      · obtain ⟨b, o', e, hb, hc⟩ := hr.2.2 h0
        injection e with e
        subst e
        have hl := hr.1
        have := run_append_at (P := Try.prog) w lo 22 o.type 3 i (.int .i64 0) Try.underlying22 h2 h3 h4 rfl v n _ hown ⟨b, o', none⟩ m c (ys.map (Value.int .i64)) (by simpa using hl) (fun j u hj => by
          have hjl : j < ys.length := by
            rcases Nat.lt_or_ge j ys.length with h | h
            · exact h
            · rw [List.getElem?_eq_none (by simpa using h)] at hj; cases hj
          rw [add_mk, hc j (by omega)]
          simp [hjl] at hj
          rw [← hj, gI_lt hjl]) (fun u hu => by
          obtain ⟨q, _, rfl⟩ := List.mem_map.1 hu
          rfl) (by rw [h5]; omega) (by rw [h5]; omega) hlo
        simpa using this
  obtain ⟨v', w', hrun, e1, e2, e3⟩ := HR
  unfold Oper.wp execOp
  simp only [ho, resolve, invoke, builtin, Sem.run_bind, Sem.run_pure, Result.andThen_ok, List.map_toArray, List.map_cons, List.map_nil, hs, hx, hrun]
  exact h v' w' e1 e2 e3
theorem step_apT {ops : Array Oper} {o : Oper} {a : Act} {K : Act → World → Prop} {Q : Exit → Act → World → Prop} {E : Prop} {w : World} {lo n c b : Nat} {hs : List Value} {u v : Value} (hgd : o.guard = none) (s x : Operand)
    (ho : o.op = .call { callee := .builtin .append, args := #[s, x], argTypes := #[50, 50] })
    (hs' : a.eval s = v) (hown : w.ownsRow lo 22 1 v n hs) (hx : a.eval x = .slice (some ⟨b, 0, none⟩) 1 c) (hr : w.cell? ⟨b, 0, none⟩ = some u) (hu : u.oneCell' = true) (hn : n ≤ 1073741824) (hlo : lo ≤ w.heap.size)
    (h : ∀ v' w', w'.ownsRow lo 22 1 v' (n + 1) (hs ++ [u]) → w.grownBy w' v.ownBlock → (v'.ownBlock = v.ownBlock ∨ v'.ownBlock = some w.heap.size) → K (a.put o.dst v') w') :
    if Region.wanted o (yielded ops a.tmps) = true then Oper.wp Try.prog o a w K Q else E := by
  obtain ⟨i, h2, h3, h4, h5⟩ := info_parts Try.infoS
  have hw : Region.wanted o (yielded ops a.tmps) = true := by simp [Region.wanted, hgd]
  rw [if_pos hw]
  obtain ⟨v', w', hrun, e1, e2, e3⟩ := run_append_at (P := Try.prog) w lo 50 o.type 22 i (.slice none 0 0) Try.underlying50 h2 h3 h4 rfl v n hs hown ⟨b, 0, none⟩ 1 c [u] rfl (fun j q hj => by
    rcases j with _ | j
    · simp at hj; subst hj; rw [add_mk]; exact hr
    · simp at hj) (fun q hq => by simp at hq; subst hq; exact hu) (by rw [h5]; omega) (by rw [h5]; omega) hlo
  unfold Oper.wp execOp
  simp only [ho, resolve, invoke, builtin, Sem.run_bind, Sem.run_pure, Result.andThen_ok, List.map_toArray, List.map_cons, List.map_nil, hs', hx, hrun]
  exact h v' w' e1 e2 e3
end Go.Proofs.Ytefgklgacojljaa
