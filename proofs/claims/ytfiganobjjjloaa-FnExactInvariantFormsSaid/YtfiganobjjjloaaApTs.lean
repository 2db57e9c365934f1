/- append of a whole table to a table, as one step of a region that draws; what is read then. No condition but what each theorem names. -/
import Derived.Test.YtfiganobjjjloaaTbl
import Derived.Test.YtfiganobjjjloaaRwo
namespace Go.Proofs.Ytfiganobjjjloaa
set_option linter.unusedVariables false
set_option linter.unusedSimpArgs false
set_option maxRecDepth 20000
open Go.RowKit
theorem step_apTs {ops : Array Oper} {o : Oper} {a : Act} {K : Act → World → Prop} {Q : Exit → Act → World → Prop} {E : Prop} {w : World} {B lo n m c : Nat} {A : Option Addr} {hs : List Value} {hs2 : List Hdr} {xss2 : List (List Int)} {v : Value} (hgd : o.guard = none) (s x : Operand)
    (ho : o.op = .call { callee := .builtin .append, args := #[s, x], argTypes := #[68, 68] })
    (hs' : a.eval s = v) (hown : w.ownsRow lo 22 1 v n hs) (hx : a.eval x = .slice A m c) (hr : RdT w B A m hs2 xss2) (hl2 : hs2.length = m) (hd : Hd A m c) (hn : n + m ≤ 1073741824) (hlo : lo ≤ w.heap.size)
    (h : ∀ v' w', w'.ownsRow lo 22 1 v' (n + m) (hs ++ hs2.map slv) → w.grownBy w' v.ownBlock → (v'.ownBlock = v.ownBlock ∨ v'.ownBlock = some w.heap.size) → K (a.put o.dst v') w') :
    if Region.wanted o (yielded ops a.tmps) = true then Oper.wp Try.prog o a w K Q else E := by
  obtain ⟨i, h2, h3, h4, h5⟩ := info_parts Try.infoS
  have hw : Region.wanted o (yielded ops a.tmps) = true := by simp [Region.wanted, hgd]
  rw [if_pos hw]
  have HR : ∃ v' w', (Builtin.append_ #[68, 68] o.type #[v, .slice A m c]).run Try.prog w = .ok v' w' ∧ w'.ownsRow lo 22 1 v' (n + m) (hs ++ hs2.map slv) ∧ w.grownBy w' v.ownBlock ∧ (v'.ownBlock = v.ownBlock ∨ v'.ownBlock = some w.heap.size) := by
    rcases A with _ | ad
    · have hm : m = 0 := by
        rcases Nat.eq_zero_or_pos m with h0 | h0
        · exact h0
        · obtain ⟨b, o', e, _⟩ := hr.tbl h0; cases e
      subst hm
      have hy := List.eq_nil_of_length_eq_zero hl2
      subst hy
      have hc : c = 0 := by
        rcases hd with ⟨_, _, e⟩ | ⟨b, o', e, _⟩
        · exact e
        · cases e
      subst hc
      exact ⟨v, w, run_append_owned_none (P := Try.prog) (w := w) lo 68 o.type 22 i 1 Try.underlying68 h2 v n _ hown, by simpa using hown, grown_refl _ _, .inl rfl⟩
    · rcases Nat.eq_zero_or_pos m with h0 | h0
      · subst h0
        have hy := List.eq_nil_of_length_eq_zero hl2
        subst hy
        have := run_append_at (P := Try.prog) w lo 68 o.type 22 i (.slice none 0 0) Try.underlying68 h2 h3 h4 rfl v n _ hown ad 0 c [] rfl (fun j u h => by simp at h) (fun u h => by simp at h) (by rw [h5]; omega) (by rw [h5]; omega) hlo
        simpa using this
      · obtain ⟨b, o', e, hb, hc⟩ := hr.tbl h0
        injection e with e
        subst e
        have := run_append_at (P := Try.prog) w lo 68 o.type 22 i (.slice none 0 0) Try.underlying68 h2 h3 h4 rfl v n _ hown ⟨b, o', none⟩ m c (hs2.map slv) (by simpa using hl2) (fun j u hj => by
          have hjl : j < hs2.length := by
            rcases Nat.lt_or_ge j hs2.length with h | h
            · exact h
            · rw [List.getElem?_eq_none (by simpa using h)] at hj; cases hj
          rw [add_mk, hc j (by omega)]
          simp [hjl] at hj
          rw [← hj, hdr_lt hjl]) (fun u hu => by
          obtain ⟨q, _, rfl⟩ := List.mem_map.1 hu
          rfl) (by rw [h5]; omega) (by rw [h5]; omega) hlo
        exact this
  obtain ⟨v', w', hrun, e1, e2, e3⟩ := HR
  unfold Oper.wp execOp
  simp only [ho, resolve, invoke, builtin, Sem.run_bind, Sem.run_pure, Result.andThen_ok, List.map_toArray, List.map_cons, List.map_nil, hs', hx, hrun]
  exact h v' w' e1 e2 e3
theorem hdr_appL {hs hs2 : List Hdr} {j : Nat} (h : j < hs.length) : hdr (hs ++ hs2) j = hdr hs j := by
  unfold hdr; simp only [List.getD_eq_getElem?_getD]; rw [List.getElem?_append_left h]
theorem hdr_appR {hs hs2 : List Hdr} {j : Nat} (h : hs.length ≤ j) : hdr (hs ++ hs2) j = hdr hs2 (j - hs.length) := by
  unfold hdr; simp only [List.getD_eq_getElem?_getD]; rw [List.getElem?_append_right h]
theorem row_appL {xs ys : List (List Int)} {j : Nat} (h : j < xs.length) : row (xs ++ ys) j = row xs j := by
  unfold row; simp only [List.getD_eq_getElem?_getD]; rw [List.getElem?_append_left h]
theorem row_appR {xs ys : List (List Int)} {j : Nat} (h : xs.length ≤ j) : row (xs ++ ys) j = row ys (j - xs.length) := by
  unfold row; simp only [List.getD_eq_getElem?_getD]; rw [List.getElem?_append_right h]
/-- what an own row holds, read -/
theorem ownsRow_cells {w : World} {lo n c : Nat} {A : Option Addr} {hs : List Hdr} (h : w.ownsRow lo 22 1 (.slice A n c) n (hs.map slv)) (hn : 0 < n) : ∃ b o, A = some ⟨b, o, none⟩ ∧ b < w.heap.size ∧ ∀ j, j < n → w.cell? ⟨b, o + j, none⟩ = some (slv (hdr hs j)) := by
  have hl : hs.length = n := by simpa using h.1
  rcases h.2 with ⟨_, h1⟩ | ⟨g, cap, cur, e, hb, hg, h1, h2, h3, h4⟩
  · omega
  · injection e with e1
    subst e1
    refine ⟨g, 0, rfl, ?_, fun j hj => ?_⟩
    · rcases Nat.lt_or_ge g w.heap.size with h | h
      · exact h
      · rw [Array.getElem?_eq_none h] at hg; cases hg
    · rw [Nat.zero_add, cell_of_row w g _ cur _ (0, 0) hg]
      have h5 : (cur.toList.take (n * 1))[j]? = (hs.map slv)[j]? := by rw [h4]
      rw [List.getElem?_take, if_pos (by omega)] at h5
      have hj' : j < hs.length := by omega
      simp [hj'] at h5
      simp [h5, hdr_lt hj']
/-- two tables in one, read -/
theorem RdT.joined {w w' : World} {lo hi lo2 hi2 n m c : Nat} {A : Option Addr} {v v2 : Value} {hs hs2 : List Hdr} {xss xss2 : List (List Int)} (h : OwT w lo hi v n hs xss) (h2 : OwT w lo2 hi2 v2 m hs2 xss2) (hd : hi ≤ lo2 ∨ hi2 ≤ lo) (hh : hi ≤ w.heap.size) (hh2 : hi2 ≤ w.heap.size)
    (hown : w'.ownsRow lo 22 1 (.slice A (n + m) c) (n + m) (hs.map slv ++ hs2.map slv)) (hg : w.grownBy w' v.ownBlock) (hm : n + m ≤ maxLen) : RdT w' w'.heap.size A (n + m) (hs ++ hs2) (xss ++ xss2) := by
  rw [← List.map_append] at hown
  have hl := h.hlen
  have hl2 := h2.hlen
  have hx := h.len
  have hx2 := h2.len
  have hsz := hg.size
  refine ⟨by simp [hx, hx2], hm, fun h0 => ownsRow_cells hown h0, fun j hj => ?_⟩
  rcases Nat.lt_or_ge j n with hjn | hjn
  · rw [hdr_appL (by omega), row_appL (by omega)]
    obtain ⟨r1, r2⟩ := h.rows j hjn
    refine ⟨?_, r2⟩
    refine ⟨r1.1, r1.2.1, fun h0 => ?_⟩
    obtain ⟨b, o, e, hb0, hb1, hc⟩ := r1.2.2 h0
    have hne := h.sepT j b o hjn h0 e
    refine ⟨b, o, e, by omega, fun q hq => ?_⟩
    rw [← (hc q hq).1]
    exact World.cell?_of_block (w := w) (hg.block b (by omega) (fun e => hne e.symm))
  · rw [hdr_appR (by omega), row_appR (by omega), hl, hx]
    obtain ⟨r1, r2⟩ := h2.rows (j - n) (by omega)
    refine ⟨?_, r2⟩
    refine ⟨r1.1, r1.2.1, fun h0 => ?_⟩
    obtain ⟨b, o, e, hb0, hb1, hc⟩ := r1.2.2 h0
    refine ⟨b, o, e, by omega, fun q hq => ?_⟩
    rw [← (hc q hq).1]
    refine World.cell?_of_block (w := w) (hg.block b (by omega) (fun e => ?_))
    have h3 := h.blk b e.symm
    have h4 := (h.tbl.lt b e.symm).1
    omega
end Go.Proofs.Ytfiganobjjjloaa
