/- append of a whole table to a table, as one step of a region that draws; what is read then. No condition but what each theorem names. -/
import Derived.Test.YteepnimmbofmlaaTbl
import Derived.Test.YteepnimmbofmlaaRwo
import Derived.Test.YteepnimmbofmlaaBothW
import Derived.Test.YteepnimmbofmlaaL1SpW
import Derived.Test.YteepnimmbofmlaaSolW
import Derived.Deep.RegionHeld3
namespace Go.Proofs.Yteepnimmbofmlaa
set_option linter.unusedVariables false
set_option linter.unusedSimpArgs false
set_option maxRecDepth 20000
open Go.RowKit
theorem step_apTs {ops : Array Oper} {o : Oper} {a : Act} {K : Act → World → Prop} {Q : Exit → Act → World → Prop} {E : Prop} {w : World} {B lo n m c : Nat} {A : Option Addr} {hs : List Value} {hs2 : List Hdr} {xss2 : List (List Int)} {v : Value} (hgd : o.guard = none) (s x : Operand)
    (ho : o.op = .call { callee := .builtin .append, args := #[s, x], argTypes := #[36, 36] })
    (hs' : a.eval s = v) (hown : w.ownsRow lo 22 1 v n hs) (hx : a.eval x = .slice A m c) (hr : RdT w B A m hs2 xss2) (hl2 : hs2.length = m) (hd : Hd A m c) (hn : n + m ≤ 1073741824) (hlo : lo ≤ w.heap.size)
    (h : ∀ v' w', w'.ownsRow lo 22 1 v' (n + m) (hs ++ hs2.map slv) → w.grownBy w' v.ownBlock → (v'.ownBlock = v.ownBlock ∨ v'.ownBlock = some w.heap.size) → K (a.put o.dst v') w') :
    if Region.wanted o (yielded ops a.tmps) = true then Oper.wp Try.prog o a w K Q else E := by
  obtain ⟨i, h2, h3, h4, h5⟩ := info_parts Try.infoS
  have hw : Region.wanted o (yielded ops a.tmps) = true := by simp [Region.wanted, hgd]
  rw [if_pos hw]
  have HR : ∃ v' w', (Builtin.append_ #[36, 36] o.type #[v, .slice A m c]).run Try.prog w = .ok v' w' ∧ w'.ownsRow lo 22 1 v' (n + m) (hs ++ hs2.map slv) ∧ w.grownBy w' v.ownBlock ∧ (v'.ownBlock = v.ownBlock ∨ v'.ownBlock = some w.heap.size) := by
    rcases A with _ | ad
    · have hm : m = 0 := by
        rcases Nat.eq_zero_or_pos m with h0 | h0
        · exact h0
        · obtain ⟨b, o', e, _⟩ := hr.tbl h0; cases e
      subst hm
      have hy := List.eq_nil_of_length_eq_zero hl2
      subst hy
      have hc : c = 0 := by
        rcases hd with ⟨_, _, e⟩ | ⟨b, o', e, _⟩
        · exact e
        · cases e
      subst hc
      exact ⟨v, w, run_append_owned_none (P := Try.prog) (w := w) lo 36 o.type 22 i 1 Try.underlying36 h2 v n _ hown, by simpa using hown, grown_refl _ _, .inl rfl⟩
    · rcases Nat.eq_zero_or_pos m with h0 | h0
      · subst h0
        have hy := List.eq_nil_of_length_eq_zero hl2
        subst hy
        have := run_append_at (P := Try.prog) w lo 36 o.type 22 i (.slice none 0 0) Try.underlying36 h2 h3 h4 rfl v n _ hown ad 0 c [] rfl (fun j u h => by simp at h) (fun u h => by simp at h) (by rw [h5]; omega) (by rw [h5]; omega) hlo
        simpa using this
      · obtain ⟨b, o', e, hb, hc⟩ := hr.tbl h0
        injection e with e
        subst e
        have := run_append_at (P := Try.prog) w lo 36 o.type 22 i (.slice none 0 0) Try.underlying36 h2 h3 h4 rfl v n _ hown ⟨b, o', none⟩ m c (hs2.map slv) (by simpa using hl2) (fun j u hj => by
          have hjl : j < hs2.length := by
            rcases Nat.lt_or_ge j hs2.length with h | h
            · exact h
            · rw [List.getElem?_eq_none (by simpa using h)] at hj; cases hj
          rw [add_mk, hc j (by omega)]
          simp [hjl] at hj
          rw [← hj, hdr_lt hjl]) (fun u hu => by
          obtain ⟨q, _, rfl⟩ := List.mem_map.1 hu
          rfl) (by rw [h5]; omega) (by rw [h5]; omega) hlo
        exact this
  obtain ⟨v', w', hrun, e1, e2, e3⟩ := HR
  unfold Oper.wp execOp
  simp only [ho, resolve, invoke, builtin, Sem.run_bind, Sem.run_pure, Result.andThen_ok, List.map_toArray, List.map_cons, List.map_nil, hs', hx, hrun]
  exact h v' w' e1 e2 e3
theorem hdr_appL {hs hs2 : List Hdr} {j : Nat} (h : j < hs.length) : hdr (hs ++ hs2) j = hdr hs j := by
  unfold hdr; simp only [List.getD_eq_getElem?_getD]; rw [List.getElem?_append_left h]
theorem hdr_appR {hs hs2 : List Hdr} {j : Nat} (h : hs.length ≤ j) : hdr (hs ++ hs2) j = hdr hs2 (j - hs.length) := by
  unfold hdr; simp only [List.getD_eq_getElem?_getD]; rw [List.getElem?_append_right h]
theorem row_appL {xs ys : List (List Int)} {j : Nat} (h : j < xs.length) : row (xs ++ ys) j = row xs j := by
  unfold row; simp only [List.getD_eq_getElem?_getD]; rw [List.getElem?_append_left h]
theorem row_appR {xs ys : List (List Int)} {j : Nat} (h : xs.length ≤ j) : row (xs ++ ys) j = row ys (j - xs.length) := by
  unfold row; simp only [List.getD_eq_getElem?_getD]; rw [List.getElem?_append_right h]
/-- what an own row holds, read -/
theorem ownsRow_cells {w : World} {lo n c : Nat} {A : Option Addr} {hs : List Hdr} (h : w.ownsRow lo 22 1 (.slice A n c) n (hs.map slv)) (hn : 0 < n) : ∃ b o, A = some ⟨b, o, none⟩ ∧ b < w.heap.size ∧ ∀ j, j < n → w.cell? ⟨b, o + j, none⟩ = some (slv (hdr hs j)) := by
  have hl : hs.length = n := by simpa using h.1
  rcases h.2 with ⟨_, h1⟩ | ⟨g, cap, cur, e, hb, hg, h1, h2, h3, h4⟩
  · omega
  · injection e with e1
    subst e1
    refine ⟨g, 0, rfl, ?_, fun j hj => ?_⟩
    · rcases Nat.lt_or_ge g w.heap.size with h | h
      · exact h
      · rw [Array.getElem?_eq_none h] at hg; cases hg
    · rw [Nat.zero_add, cell_of_row w g _ cur _ (0, 0) hg]
      have h5 : (cur.toList.take (n * 1))[j]? = (hs.map slv)[j]? := by rw [h4]
      rw [List.getElem?_take, if_pos (by omega)] at h5
      have hj' : j < hs.length := by omega
      simp [hj'] at h5
      simp [h5, hdr_lt hj']
/-- two tables in one, read -/
theorem RdT.joined {w w' : World} {lo hi lo2 hi2 n m c : Nat} {A : Option Addr} {v v2 : Value} {hs hs2 : List Hdr} {xss xss2 : List (List Int)} (h : OwT w lo hi v n hs xss) (h2 : OwT w lo2 hi2 v2 m hs2 xss2) (hd : hi ≤ lo2 ∨ hi2 ≤ lo) (hh : hi ≤ w.heap.size) (hh2 : hi2 ≤ w.heap.size)
    (hown : w'.ownsRow lo 22 1 (.slice A (n + m) c) (n + m) (hs.map slv ++ hs2.map slv)) (hg : w.grownBy w' v.ownBlock) (hm : n + m ≤ maxLen) : RdT w' w'.heap.size A (n + m) (hs ++ hs2) (xss ++ xss2) := by
  rw [← List.map_append] at hown
  have hl := h.hlen
  have hl2 := h2.hlen
  have hx := h.len
  have hx2 := h2.len
  have hsz := hg.size
  refine ⟨by simp [hx, hx2], hm, fun h0 => ownsRow_cells hown h0, fun j hj => ?_⟩
  rcases Nat.lt_or_ge j n with hjn | hjn
  · rw [hdr_appL (by omega), row_appL (by omega)]
    obtain ⟨r1, r2⟩ := h.rows j hjn
    refine ⟨?_, r2⟩
    refine ⟨r1.1, r1.2.1, fun h0 => ?_⟩
    obtain ⟨b, o, e, hb0, hb1, hc⟩ := r1.2.2 h0
    have hne := h.sepT j b o hjn h0 e
    refine ⟨b, o, e, by omega, fun q hq => ?_⟩
    rw [← (hc q hq).1]
    exact World.cell?_of_block (w := w) (hg.block b (by omega) (fun e => hne e.symm))
  · rw [hdr_appR (by omega), row_appR (by omega), hl, hx]
    obtain ⟨r1, r2⟩ := h2.rows (j - n) (by omega)
    refine ⟨?_, r2⟩
    refine ⟨r1.1, r1.2.1, fun h0 => ?_⟩
    obtain ⟨b, o, e, hb0, hb1, hc⟩ := r1.2.2 h0
    refine ⟨b, o, e, by omega, fun q hq => ?_⟩
    rw [← (hc q hq).1]
    refine World.cell?_of_block (w := w) (hg.block b (by omega) (fun e => ?_))
    have h3 := h.blk b e.symm
    have h4 := (h.tbl.lt b e.symm).1
    omega
end Go.Proofs.Yteepnimmbofmlaa
namespace Go.Proofs.Yteepnimmbofmlaa
set_option linter.unusedVariables false
set_option linter.unusedSimpArgs false
set_option maxRecDepth 20000
open Go.RowKit
set_option maxHeartbeats 4000000
theorem sum_FF (R1 R2 C : Nat) (d1 d2 : List Int) (h1 : d1.length = R1 * C) (h2 : d2.length = R2 * C) : FF (tabR R1 C (matF d1 C) ++ tabR R2 C (matF d2 C)) (R1 + R2) C (matF (d1 ++ d2) C) := by
  intro i hi
  rcases Nat.lt_or_ge i R1 with h | h
  · rw [row_appL (by rw [tabR_len]; exact h)]
    obtain ⟨e1, e2⟩ := tabR_FF R1 C (matF d1 C) i h
    refine ⟨e1, fun j hj => (e2 j hj).trans ?_⟩
    unfold matF gI
    rw [List.getD_eq_getElem?_getD, List.getD_eq_getElem?_getD, List.getElem?_append_left (by rw [h1]; exact idx_lt h hj)]
  · rw [row_appR (by rw [tabR_len]; exact h), tabR_len]
    obtain ⟨e1, e2⟩ := tabR_FF R2 C (matF d2 C) (i - R1) (by omega)
    refine ⟨e1, fun j hj => (e2 j hj).trans ?_⟩
    have e : i * C + j = R1 * C + ((i - R1) * C + j) := by
      have : i = R1 + (i - R1) := by omega
      conv => lhs; rw [this, Nat.add_mul]
      omega
    unfold matF gI
    rw [e, List.getD_eq_getElem?_getD, List.getD_eq_getElem?_getD, List.getElem?_append_right (by rw [h1]; omega), h1, Nat.add_sub_cancel_left]
theorem both_ok {p r c q s t : Int} {d1 d2 : List Int} (h : bothB p r c d1 q s t d2 = true) : okM p r c d1 = true ∧ okM q s t d2 = true := by
  unfold bothB at h
  simp only [Bool.and_eq_true] at h
  exact ⟨spB_ok1 h.1.1.1, spB_ok1 h.1.1.2⟩
theorem l1Ints_own {B : Nat} (A : Option Addr) (n c : Nat) (xs : List Int) (w : World) (h : RdI w B A n xs) (hd : Hd A n c) (hB : B ≤ w.heap.size) (hn : n ≤ 1073741824) :
    Calls Try.prog 40 #[.slice A n c] w (RetO xs w) := by
  have HL := Lib.hid h.1
  go_enter Try.func40, Try.ntmps40
  go_wp2_with (at_builtin; refine wpList_apI (v := .slice (some ⟨w.heap.size, 0, none⟩) 0 0) (w := w.alloc (.cells #[] 3)) (lo := w.heap.size) (n := 0) (xs := []) rfl (.tmp 3) (.tmp 4) rfl rfl (World.ownsRow_lit w #[] 0 (Nat.le_refl _) (by unfold maxLen; omega) rfl) rfl (h.alloc hB _) hd (by omega) (by simp) ?_; intro v1 w1 ho hg hv)
  have hb : Below w.heap.size w w1 := ((Below.refl _ _).alloc (Nat.le_refl _) _).grown hg (by simp) (fun q e => by injection e with e; have e' : w.heap.size = q := e; omega)
  go_ret
  rw [Nat.zero_add] at ho
  exact ⟨_, rfl, by rw [HL.out]; simpa using ho, hb⟩
set_option maxRecDepth 100000 in
theorem l1Join_any {B : Nat} (p : Int) (R1 R2 C n1 k1 n2 k2 : Nat) (q t : Int) (A1 A2 : Option Addr) (d1 d2 : List Int) (w : World) (h1 : RdI w B A1 n1 d1) (hd1 : Hd A1 n1 k1) (h2 : RdI w B A2 n2 d2) (hd2 : Hd A2 n2 k2) (hB : B ≤ w.heap.size) (hl1 : n1 = R1 * C) (hl2 : n2 = R2 * C) (hR1 : R1 ≤ 1000) (hR2 : R2 ≤ 1000) (hC : C ≤ 1000) (hp : isP p = true) (hr1 : resB d1 p = true) (hr2 : resB d2 p = true) :
    Calls Try.prog 37 #[.agg #[.int .i64 p, .int .i64 R1, .int .i64 C, .slice A1 n1 k1], .agg #[.int .i64 q, .int .i64 R2, .int .i64 t, .slice A2 n2 k2]] w (RetM p (rr (R1 + R2) p (matF (d1 ++ d2) C) C).rk C (tab (rr (R1 + R2) p (matF (d1 ++ d2) C) C).rk C (rr (R1 + R2) p (matF (d1 ++ d2) C) C).f) w) := by
  have HP := Lib.hid hp
  have hb1 : n1 ≤ 1000000 := by rw [hl1]; exact Nat.mul_le_mul hR1 hC
  have hb2 : n2 ≤ 1000000 := by rw [hl2]; exact Nat.mul_le_mul hR2 hC
  have HL := Lib.hid (show n1 + n2 = (R1 + R2) * C by rw [hl1, hl2, Nat.add_mul])
  have HR := Lib.hid (show resB (d1 ++ d2) p = true by unfold resB at hr1 hr2 ⊢; rw [List.all_append, hr1, hr2]; rfl)
  have hC1 : IntKind.i64.wrap ((R1 : Int) + (R2 : Int)) = (R1 : Int) + (R2 : Int) := IntWalk.i64_in _ (by omega)
  clear hl1 hl2 hp hr1 hr2
  obtain ⟨s, hs⟩ : ∃ s, s = rr (R1 + R2) p (matF (d1 ++ d2) C) C := ⟨_, rfl⟩
  have HSS := Lib.hid hs
  rw [← hs]
  clear hs
  have hx := ((Box.new w #[.int .i64 p, .int .i64 R1, .int .i64 C, .slice A1 n1 k1] 27).alloc (.cells #[.int .i64 q, .int .i64 R2, .int .i64 t, .slice A2 n2 k2] 27)).alloc (.cells #[.int .i64 0, .int .i64 0, .int .i64 0, .slice none 0 0] 27)
  have hy := (Box.new (w.alloc (.cells #[.int .i64 p, .int .i64 R1, .int .i64 C, .slice A1 n1 k1] 27)) #[.int .i64 q, .int .i64 R2, .int .i64 t, .slice A2 n2 k2] 27).alloc (.cells #[.int .i64 0, .int .i64 0, .int .i64 0, .slice none 0 0] 27)
  have hz := Box.new ((w.alloc (.cells #[.int .i64 p, .int .i64 R1, .int .i64 C, .slice A1 n1 k1] 27)).alloc (.cells #[.int .i64 q, .int .i64 R2, .int .i64 t, .slice A2 n2 k2] 27)) #[.int .i64 0, .int .i64 0, .int .i64 0, .slice none 0 0] 27
  have hq : Below w.heap.size w (((w.alloc (.cells #[.int .i64 p, .int .i64 R1, .int .i64 C, .slice A1 n1 k1] 27)).alloc (.cells #[.int .i64 q, .int .i64 R2, .int .i64 t, .slice A2 n2 k2] 27)).alloc (.cells #[.int .i64 0, .int .i64 0, .int .i64 0, .slice none 0 0] 27)) := (by repeat' (first | (with_reducible exact Below.refl _ _) | (with_reducible refine Below.setCell ?_ (by first | exact Nat.le_refl _ | omega | (simp only [World.size_alloc, World.size_setCell, World.heap_drewN]; omega) | (simp; omega)) _) | (with_reducible refine Below.alloc ?_ (by first | exact Nat.le_refl _ | omega | (simp only [World.size_alloc, World.size_setCell, World.heap_drewN]; omega) | (simp; omega)) _) | (with_reducible refine below_drewN ?_ _) | (with_reducible refine Below.drew ?_)))
  have ha1 := h1.below hq hB
  have ha2 := h2.below hq hB
  have hBW : w.heap.size + 3 ≤ (((w.alloc (.cells #[.int .i64 p, .int .i64 R1, .int .i64 C, .slice A1 n1 k1] 27)).alloc (.cells #[.int .i64 q, .int .i64 R2, .int .i64 t, .slice A2 n2 k2] 27)).alloc (.cells #[.int .i64 0, .int .i64 0, .int .i64 0, .slice none 0 0] 27)).heap.size := by simp
  rw [World.size_alloc] at hy
  rw [World.size_alloc, World.size_alloc] at hz
  clear h1 h2
  go_enter Try.func37, Try.ntmps37
  go_wp2_with fail
  generalize ((w.alloc (.cells #[.int .i64 p, .int .i64 R1, .int .i64 C, .slice A1 n1 k1] 27)).alloc (.cells #[.int .i64 q, .int .i64 R2, .int .i64 t, .slice A2 n2 k2] 27)).alloc (.cells #[.int .i64 0, .int .i64 0, .int .i64 0, .slice none 0 0] 27) = W at hx hy hz hq ha1 ha2 hBW ⊢
  go_region_held3 (fun w' => (w'.cell? ⟨w.heap.size, 0, none⟩ = some (.int .i64 p) ∧ w'.cell? ⟨w.heap.size, 1, none⟩ = some (.int .i64 R1) ∧ w'.cell? ⟨w.heap.size, 2, none⟩ = some (.int .i64 C) ∧ w'.cell? ⟨w.heap.size, 3, none⟩ = some (.slice A1 n1 k1)) ∧ w'.cell? ⟨w.heap.size + 1, 0, none⟩ = some (.int .i64 q) ∧ w'.cell? ⟨w.heap.size + 1, 1, none⟩ = some (.int .i64 R2) ∧ w'.cell? ⟨w.heap.size + 1, 2, none⟩ = some (.int .i64 t) ∧ w'.cell? ⟨w.heap.size + 1, 3, none⟩ = some (.slice A2 n2 k2)) (first | exact ⟨hx.four, hy.four⟩ | exact ⟨(hx.below (B := w.heap.size + 1 + 1) (((((Below.refl _ _).setCell (by exact Nat.le_refl _) _).setCell (by exact Nat.le_refl _) _).setCell (by exact Nat.le_refl _) _).setCell (by exact Nat.le_refl _) _) (by omega)).four, (hy.below (B := w.heap.size + 1 + 1) (((((Below.refl _ _).setCell (by exact Nat.le_refl _) _).setCell (by exact Nat.le_refl _) _).setCell (by exact Nat.le_refl _) _).setCell (by exact Nat.le_refl _) _) (by omega)).four⟩)
    (first
      | (go_at_call 40; refine (l1Ints_own A1 n1 k1 d1 W.drew (B := B) (by exact ha1) hd1 (by rw [size_drew]; omega) (by omega)).mono ?_; rintro e wc ⟨v3, rfl, ho3, hb⟩; rw [size_drew] at ho3; have hb := Below.ofDrew hb; have hsz := hb.size; have hx := hx.step hb; have hy := hy.step hb; have hz := hz.step hb; have ha2 := ha2.below hb (by omega); have hq := hq.trans (hb.mono hq.size); have hn3 : d1.length = n1 := ha1.1; rw [hn3] at ho3; have hlo3 := fun b e => (ho3.lt b e).1)
      | (refine step_apI (v := v3) (w := wc) (lo := W.heap.size) (n := n1) (xs := d1) (ys := d2) (m := n2) rfl (.tmp 16) (.tmp 18) rfl rfl ho3 rfl ha2 hd2 (by omega) hsz ?_; intro v4 w4 ho4 hg4 hv4; obtain ⟨A4, c4, rfl, hd4⟩ := own_hd ho4; have hb := (Below.refl W.heap.size wc).grown hg4 hsz (fun q e => hlo3 q e); have hs4 := hb.size; have hx := hx.below hb (by omega); have hy := hy.below hb (by omega); have hz := hz.below hb (by omega); have hq := hq.trans (hb.mono (by omega)); have hor := ofOwn' ho4 (by unfold maxLen; omega))
      | (go_at_call 35; refine (l1Span_any p (R1 + R2) C (n1 + n2) c4 A4 (d1 ++ d2) _ (B := w4.heap.size) hor.rd hd4 (Nat.le_refl _) HL.out (by omega) (by omega) (by omega) HP.out HR.out).mono ?_; rintro e w5 ⟨A5, n5, k5, rfl, hd5, hb, ho5⟩; rw [← HSS.out] at ho5 ⊢; have hs5 := hb.size; have hx := hx.step hb; have hy := hy.step hb; have hz := hz.step hb; have hq := hq.trans (hb.mono hq.size); obtain ⟨z0, z1, z2, z3⟩ := hz.four; have zf := hz.fz))
  go_wp2
  exact bodyPost_ret (v := .agg #[.int .i64 p, .int .i64 s.rk, .int .i64 C, .slice A5 n5 k5]) (by simp [results, Try.results37, go_sem, z0, z1, z2, z3]) rfl (retM4 (R := w.heap.size + 2) hq ho5 (by omega) (by omega) (Nat.le_refl _) _ _ _ _)
end Go.Proofs.Yteepnimmbofmlaa
namespace Go.Proofs.Yteepnimmbofmlaa
set_option linter.unusedVariables false
set_option linter.unusedSimpArgs false
set_option maxRecDepth 20000
open Go.RowKit
set_option maxHeartbeats 4000000
end Go.Proofs.Yteepnimmbofmlaa
