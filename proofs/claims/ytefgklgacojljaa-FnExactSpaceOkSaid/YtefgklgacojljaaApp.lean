/- append to a slice of the call's own, of integers or of slices, from any source; where the result lies. No condition but what each theorem names. -/
import Derived.Test.YtefgklgacojljaaLawK
namespace Go.Proofs.Ytefgklgacojljaa
set_option linter.unusedVariables false
set_option linter.unusedSimpArgs false
open Go.RowKit
theorem Try.infoS : (Try.prog.info? 22).map (fun i => (i.zero, i.size, i.bytes)) = some (some (.slice none 0 0), 1, 24) := by kernel_rfl
/-- append to an own row, and where the result lies: where the row lay, or in the block that is made -/
theorem run_append_at {P : Program} (w : World) (base : Nat) (t ty e : TypeId) (i : TypeInfo) (z : Value) (ht : P.underlying t = some (.slice e)) (hi : P.info? e = some i) (hz : i.zero = some z)
    (hsize : i.size = 1) (hzs : z.cells.size = 1)
    (v : Value) (n : Nat) (xs : List Value) (hown : w.ownsRow base e 1 v n xs)
    (a : Addr) (m c : Nat) (news : List Value) (hl : news.length = m) (hnews : ∀ j u, news[j]? = some u → w.cell? (a.add j) = some u) (h1 : ∀ u ∈ news, u.oneCell' = true)
    (hbytes : (n + m) * i.bytes ≤ 140737488355328) (hb0 : 0 < i.bytes) (hbase : base ≤ w.heap.size) :
    ∃ v' w', (Builtin.append_ #[t, t] ty #[v, .slice (some a) m c]).run P w = .ok v' w' ∧ w'.ownsRow base e 1 v' (n + m) (xs ++ news) ∧ w.grownBy w' v.ownBlock ∧ (v'.ownBlock = v.ownBlock ∨ v'.ownBlock = some w.heap.size) := by
  have hnm : n + m ≤ 140737488355328 := Nat.le_trans (Nat.le_mul_of_pos_right _ hb0) hbytes
  have h63 : n + m ≤ maxLen := by unfold maxLen; omega
  obtain ⟨v', w', hr, h2, h3, h4⟩ := run_append_own (P := P) w base t ty e i z 1 i.bytes ht hi hz hsize rfl hzs (by omega) v n xs hown a m c news (by omega) hnews h1 h63 hbytes hbase
  refine ⟨v', w', hr, h2, h3, ?_⟩
  rcases hown.2 with ⟨rfl, rfl⟩ | ⟨g, cap, cur, rfl, hbg, hg, hnc, hcm, hcs, htake⟩
  · rcases Nat.eq_zero_or_pos m with h0 | h0
    · have : v' = .slice none 0 0 := h4.2 ⟨rfl, h0⟩
      rw [this]; exact .inl rfl
    · have hr2 := run_append_nil (P := P) w t ty e i z ht hi hz a m c news (by rw [hsize]; omega) hnews h0 (by omega) (by simp only [Nat.zero_add] at hbytes; omega)
      rw [hr] at hr2
      injection hr2 with e1 e2
      rw [e1]; exact .inr rfl
  · by_cases hroom : n + m ≤ cap
    · have hr2 := run_append_room (P := P) w t ty e i ht hi g n cap cur hg a m c news (by rw [hsize]; omega) hnews h1 hroom (by rw [hsize, hcs]; omega)
      rw [hr] at hr2
      injection hr2 with e1 e2
      rw [e1]; exact .inl rfl
    · have holds : ∀ j u, xs[j]? = some u → w.cell? ((⟨g, 0, none⟩ : Addr).add j) = some u := hown.cells (g := g) rfl
      have hr2 := run_append_grow (P := P) w t ty e i z ht hi hz ⟨g, 0, none⟩ n cap xs (by rw [hsize]; exact hown.1) holds a m c news (by rw [hsize]; omega) hnews (by omega) (by omega) (growslice_fits (by omega) hbytes)
      rw [hr] at hr2
      injection hr2 with e1 e2
      rw [e1]; exact .inr rfl
/-- the addresses of a slice's elements -/
theorem add_mk (b o j : Nat) : (⟨b, o, none⟩ : Addr).add j = ⟨b, o + j, none⟩ := by
  by_cases hj0 : j = 0
  · subst hj0; simp [Addr.add]
  · simp [Addr.add, hj0]
theorem grown_refl (w : World) (r : Option Nat) : w.grownBy w r := ⟨rfl, rfl, rfl, Nat.le_refl _, fun _ _ _ => rfl⟩
/-- 'append(xs, ys...)' of integers: xs nil or the call's own, ys any -/
theorem wpList_apI {ops : Array Oper} {rest : List Oper} {o : Oper} {a : Act} {Q : Exit → Act → World → Prop} {w : World} {B lo n m c : Nat} {A : Option Addr} {xs ys : List Int} {v : Value} (hgd : o.guard = none) (s x : Operand)
    (ho : o.op = .call { callee := .builtin .append, args := #[s, x], argTypes := #[22, 22] })
    (hs : a.eval s = v) (hown : w.ownsRow lo 3 1 v n (xs.map (Value.int .i64))) (hx : a.eval x = .slice A m c) (hr : RdI w B A m ys) (hd : Hd A m c) (hn : n + m ≤ 1073741824) (hlo : lo ≤ w.heap.size)
    (h : ∀ v' w', w'.ownsRow lo 3 1 v' (n + m) ((xs ++ ys).map (Value.int .i64)) → w.grownBy w' v.ownBlock → (v'.ownBlock = v.ownBlock ∨ v'.ownBlock = some w.heap.size) → wpList Try.prog ops Q rest (a.put o.dst v') w') :
    wpList Try.prog ops Q (o :: rest) a w := by
  obtain ⟨i, h2, h3, h4, h5⟩ := info_parts Try.infoI
  refine wpList_plain hgd fun K hK => ?_
  have HR : ∃ v' w', (Builtin.append_ #[22, 22] o.type #[v, .slice A m c]).run Try.prog w = .ok v' w' ∧ w'.ownsRow lo 3 1 v' (n + m) ((xs ++ ys).map (Value.int .i64)) ∧ w.grownBy w' v.ownBlock ∧ (v'.ownBlock = v.ownBlock ∨ v'.ownBlock = some w.heap.size) := by
    rcases A with _ | ad
    · have hm : m = 0 := by
        rcases Nat.eq_zero_or_pos m with h0 | h0
        · exact h0
        · obtain ⟨b, o', e, _⟩ := hr.2.2 h0; cases e
      subst hm
      have hy := hr.nilOf
      subst hy
      have hc : c = 0 := by
        rcases hd with ⟨_, _, e⟩ | ⟨b, o', e, _⟩
        · exact e
        · cases e
      subst hc
      exact ⟨v, w, run_append_owned_none (P := Try.prog) (w := w) lo 22 o.type 3 i 1 Try.underlying22 h2 v n _ hown, by simpa using hown, grown_refl _ _, .inl rfl⟩
    · rcases Nat.eq_zero_or_pos m with h0 | h0
      · subst h0
        have hy := hr.nilOf
        subst hy
        have := run_append_at (P := Try.prog) w lo 22 o.type 3 i (.int .i64 0) Try.underlying22 h2 h3 h4 rfl v n _ hown ad 0 c [] rfl (fun j u h => by simp at h) (fun u h => by simp at h) (by rw [h5]; omega) (by rw [h5]; omega) hlo
        simpa using this
      · obtain ⟨b, o', e, hb, hc⟩ := hr.2.2 h0
        injection e with e
        subst e
        have hl := hr.1
        have := run_append_at (P := Try.prog) w lo 22 o.type 3 i (.int .i64 0) Try.underlying22 h2 h3 h4 rfl v n _ hown ⟨b, o', none⟩ m c (ys.map (Value.int .i64)) (by simpa using hl) (fun j u hj => by
          have hjl : j < ys.length := by
            rcases Nat.lt_or_ge j ys.length with h | h
            · exact h
            · rw [List.getElem?_eq_none (by simpa using h)] at hj; cases hj
          rw [add_mk, hc j (by omega)]
          simp [hjl] at hj
          rw [← hj, gI_lt hjl]) (fun u hu => by
          obtain ⟨q, _, rfl⟩ := List.mem_map.1 hu
          rfl) (by rw [h5]; omega) (by rw [h5]; omega) hlo
        simpa using this
  obtain ⟨v', w', hrun, e1, e2, e3⟩ := HR
  unfold Oper.wp execOp
  simp only [ho, resolve, invoke, builtin, Sem.run_bind, Sem.run_pure, Result.andThen_ok, List.map_toArray, List.map_cons, List.map_nil, hs, hx, hrun]
  exact hK _ _ (h v' w' e1 e2 e3)
/-- 'append(xss, xs)': one slice more, onto a table that is nil or the call's own -/
theorem wpList_apT {ops : Array Oper} {rest : List Oper} {o : Oper} {a : Act} {Q : Exit → Act → World → Prop} {w : World} {lo n c b : Nat} {hs : List Value} {u v : Value} (hgd : o.guard = none) (s x : Operand)
    (ho : o.op = .call { callee := .builtin .append, args := #[s, x], argTypes := #[50, 50] })
    (hs' : a.eval s = v) (hown : w.ownsRow lo 22 1 v n hs) (hx : a.eval x = .slice (some ⟨b, 0, none⟩) 1 c) (hr : w.cell? ⟨b, 0, none⟩ = some u) (hu : u.oneCell' = true) (hn : n ≤ 1073741824) (hlo : lo ≤ w.heap.size)
    (h : ∀ v' w', w'.ownsRow lo 22 1 v' (n + 1) (hs ++ [u]) → w.grownBy w' v.ownBlock → (v'.ownBlock = v.ownBlock ∨ v'.ownBlock = some w.heap.size) → wpList Try.prog ops Q rest (a.put o.dst v') w') :
    wpList Try.prog ops Q (o :: rest) a w := by
  obtain ⟨i, h2, h3, h4, h5⟩ := info_parts Try.infoS
  refine wpList_plain hgd fun K hK => ?_
  obtain ⟨v', w', hrun, e1, e2, e3⟩ := run_append_at (P := Try.prog) w lo 50 o.type 22 i (.slice none 0 0) Try.underlying50 h2 h3 h4 rfl v n hs hown ⟨b, 0, none⟩ 1 c [u] rfl (fun j q hj => by
    rcases j with _ | j
    · simp at hj; subst hj; rw [add_mk]; exact hr
    · simp at hj) (fun q hq => by simp at hq; subst hq; exact hu) (by rw [h5]; omega) (by rw [h5]; omega) hlo
  unfold Oper.wp execOp
  simp only [ho, resolve, invoke, builtin, Sem.run_bind, Sem.run_pure, Result.andThen_ok, List.map_toArray, List.map_cons, List.map_nil, hs', hx, hrun]
  exact hK _ _ (h v' w' e1 e2 e3)
end Go.Proofs.Ytefgklgacojljaa
