/- slices.Grow of nil, slices.Concat, matrixOf; tables as lists of rows. No condition but what each theorem names. -/
import Derived.Test.YteepnimmbofmlaaRedW
import Derived.Lib.AppendZerosOnto
namespace Go.Proofs.Yteepnimmbofmlaa
set_option linter.unusedVariables false
set_option linter.unusedSimpArgs false
set_option maxRecDepth 20000
open Go.RowKit Go.Lib
set_option maxHeartbeats 2000000
/-- the list of rows of a table -/
def tabR (m C : Nat) (f : Tb) : List (List Int) := (List.range m).map fun i => (List.range C).map fun j => f i j
theorem tabR_len (m C : Nat) (f : Tb) : (tabR m C f).length = m := by simp [tabR]
theorem tabR_row {m C i : Nat} {f : Tb} (h : i < m) : row (tabR m C f) i = (List.range C).map fun j => f i j := by
  rw [row_lt (by rw [tabR_len]; exact h)]; simp [tabR]
theorem tabR_FF (m C : Nat) (f : Tb) : FF (tabR m C f) m C f := by
  intro i hi
  rw [tabR_row hi]
  refine ⟨by simp, fun j hj => ?_⟩
  rw [gI_lt (by simpa using hj)]; simp
theorem FF.eq_tabR {xss : List (List Int)} {m C : Nat} {f : Tb} (h : FF xss m C f) (hx : xss.length = m) : xss = tabR m C f := by
  refine ext_row (by rw [hx, tabR_len]) fun i hi => ?_
  rw [hx] at hi
  obtain ⟨h1, h2⟩ := h i hi
  obtain ⟨h3, h4⟩ := tabR_FF m C f i hi
  exact ext_gI (by rw [h1, h3]) fun j hj => by rw [h1] at hj; rw [h2 j hj, h4 j hj]
theorem tabR_congr {m C : Nat} {f g : Tb} (h : ∀ i j, i < m → j < C → f i j = g i j) : tabR m C f = tabR m C g :=
  ((tabR_FF m C f).congr h).eq_tabR (tabR_len _ _ _)
theorem tabR_succ (m C : Nat) (f : Tb) : tabR (m + 1) C f = tabR m C f ++ [(List.range C).map fun j => f m j] := by simp [tabR, List.range_succ]
theorem flat_tabR (m C : Nat) (f : Tb) : (tabR m C f).flatten = tab m C f := by
  have hl : ∀ m, (tabR m C f).flatten.length = m * C := by
    intro m
    induction m with
    | zero => simp [tabR]
    | succ m ih => rw [tabR_succ, List.flatten_append, List.length_append, ih, Nat.add_mul]; simp
  have hg : ∀ m i j, i < m → j < C → gI (tabR m C f).flatten (i * C + j) = f i j := by
    intro m
    induction m with
    | zero => intro i j hi; omega
    | succ m ih =>
      intro i j hi hj
      rw [tabR_succ, List.flatten_append]
      unfold gI
      rw [List.getD_eq_getElem?_getD]
      by_cases e : i < m
      · rw [List.getElem?_append_left (by rw [hl]; exact idx_lt e hj), ← List.getD_eq_getElem?_getD]
        exact ih i j e hj
      · have : i = m := by omega
        subst this
        rw [List.getElem?_append_right (by rw [hl]; omega), hl, show i * C + j - i * C = j by omega]
        simp [hj]
  exact eq_tab (hl m) fun i j hi hj => hg m i j hi hj
theorem tabR_take {m C k : Nat} {f : Tb} (h : k ≤ m) : (tabR m C f).take k = tabR k C f := by
  unfold tabR
  rw [← List.map_take, List.take_range, Nat.min_eq_left h]
theorem rowsD_tabR {R C : Nat} {d : List Int} (hl : R * C ≤ d.length) : rowsD C d R = tabR R C (matF d C) := by
  refine FF.eq_tabR (fun i hi => ?_) (rowsD_len _ _ _)
  rw [rowsD_row hi]
  have h1 : i * C + C ≤ R * C := by
    calc i * C + C = (i + 1) * C := by rw [Nat.add_mul]; omega
      _ ≤ R * C := Nat.mul_le_mul_right _ (by omega)
  exact ⟨sub_len (by omega), fun j hj => by rw [sub_get hj]; rfl⟩
/-- how many numbers the first m rows hold -/
def tot' (xss : List (List Int)) : Nat → Nat
  | 0 => 0
  | m + 1 => tot' xss m + (row xss m).length
/-- a call that hands back an empty slice with room -/
def RetOwn0 (w : World) (e : Ending) (w' : World) : Prop := ∃ v, e = .returned v ∧ w'.ownsRow w.heap.size 3 1 v 0 [] ∧ Below w.heap.size w w'
/-- 'append(nil, make([]int, n)...)': room for n numbers -/
theorem wpList_gr0 {ops : Array Oper} {rest : List Oper} {o : Oper} {a : Act} {Q : Exit → Act → World → Prop} {w : World} {n : Nat} (hgd : o.guard = none) (s x : Operand)
    (ho : o.op = .call { callee := .builtin .append, args := #[s, x], argTypes := #[22, 3] }) (hs : a.eval s = .slice none 0 0) (hx : a.eval x = .int .i64 n) (h0 : 0 < n) (hn : n ≤ 1073741824)
    (h : ∀ G w', 0 < G → n ≤ G → G ≤ 9223372036854775807 → w'.ownsRow w.heap.size 3 1 (.slice (some ⟨w.heap.size, 0, none⟩) 0 G) 0 [] → Below w.heap.size w w' → wpList Try.prog ops Q rest (a.put o.dst (.slice (some ⟨w.heap.size, 0, none⟩) n G)) w') :
    wpList Try.prog ops Q (o :: rest) a w := by
  obtain ⟨i, h2, h3, h4, h5⟩ := info_parts Try.infoI
  have hold : (Builtin.firstCells i.size 0 (.slice none 0 0)).run Try.prog w.drew = .ok [].toArray w.drew := run_firstCells_none w.drew i.size 0 0 0
  have hrz := Lib.run_append_grow_zeros w 22 3 o.type 3 i (.int .i64 0) .i64 .i64 Try.underlying22 Try.underlying3 h2 h3 none 0 0 [] hold n (by omega) (by omega) (by omega) (by omega)
        (by rw [h5]; omega) (by rw [Nat.zero_add]; exact growslice_fits (by omega) (by rw [h5]; omega))
  rw [Nat.zero_add] at hrz
  have hGn := grownCap_ge w n 0 3
  obtain ⟨G, hG⟩ : ∃ G, G = grownCap w n 0 3 := ⟨_, rfl⟩
  rw [← hG] at hrz hGn
  have hG63 : G ≤ 9223372036854775807 := by
    have := grownCap_le_maxLen w n 0 3 (by unfold maxLen; omega)
    rw [← hG] at this
    unfold maxLen at this
    omega
  have hz : ∀ m, (Builtin.zeroCells (Value.cells (.int .i64 0)) m).size = m := fun m => by
    have : Value.cells (.int .i64 0) = #[.int .i64 0] := rfl
    rw [this]; simp [Builtin.zeroCells]
  refine wpList_plain hgd fun K hK => ?_
  unfold Oper.wp execOp
  simp only [ho, resolve, invoke, builtin, Sem.run_bind, Sem.run_pure, Result.andThen_ok, List.map_toArray, List.map_cons, List.map_nil, hs, hx, hrz]
  refine hK _ _ (h G _ (by omega) hGn hG63 ?_ ?_)
  · exact ⟨by simp, .inr ⟨w.heap.size, G, _, rfl, Nat.le_refl _, heap_alloc_new w.drew _, by omega, by unfold maxLen; omega, by simp only [Array.size_append, hz]; simp; omega, by simp⟩⟩
  · exact (Below.drew1 _ (Below.refl _ _)).alloc (Nat.le_refl _) _
theorem grow_nil (n : Nat) (w : World) (hn : n ≤ 1073741824) : Calls Try.prog 102 #[.slice none 0 0, .int .i64 n] w (RetOwn0 w) := by
  rcases Nat.eq_zero_or_pos n with h0 | h0
  · subst h0
    go_enter Try.func102, Try.ntmps102
    go_wp2
    go_ret
    exact ⟨_, rfl, World.ownsRow_nil _ _ _ _, Below.refl _ _⟩
  · have hgt : (n : Int) > 0 := by omega
    go_enter Try.func102, Try.ntmps102
    go_wp2_with (at_builtin; refine wpList_gr0 (n := n) rfl (.tmp 20) (.tmp 21) rfl rfl rfl h0 hn ?_; intro G w' hG0 hG1 hG2 hown hb)
    go_ret
    exact ⟨_, rfl, hown, hb⟩
theorem tot_flat (xss : List (List Int)) : tot' xss xss.length = xss.flatten.length := by
  have e1 : ∀ (a : List Int) (r : List (List Int)) m, tot' (a :: r) (m + 1) = a.length + tot' r m := by
    intro a r m
    induction m with
    | zero => simp [tot', row]
    | succ m ih => rw [tot', ih, tot']; simp [row]; omega
  induction xss with
  | nil => rfl
  | cons a r ih => rw [List.length_cons, e1, ih]; simp
theorem tot'_mono (xss : List (List Int)) {i j : Nat} (h : i ≤ j) : tot' xss i ≤ tot' xss j := by
  induction j with
  | zero => rw [show i = 0 by omega]; exact Nat.le_refl _
  | succ j ih =>
    by_cases e : i = j + 1
    · subst e; exact Nat.le_refl _
    · have := ih (by omega); simp only [tot']; omega
theorem flat_take {xss : List (List Int)} {j : Nat} (h : j < xss.length) : (xss.take (j + 1)).flatten = (xss.take j).flatten ++ row xss j := by
  rw [List.take_succ_eq_append_getElem h, ← row_lt h, List.flatten_append]; simp
theorem flat_take_len (xss : List (List Int)) : ∀ j, j ≤ xss.length → (xss.take j).flatten.length = tot' xss j := by
  intro j
  induction j with
  | zero => intro _; simp [tot']
  | succ j ih => intro h; rw [flat_take (by omega), List.length_append, ih (by omega)]; rfl
theorem concat_any {B : Nat} (A : Option Addr) (m c : Nat) (hs : List Hdr) (xss : List (List Int)) (w : World) (h : RdT w B A m hs xss) (hB : B ≤ w.heap.size) (hn : xss.flatten.length ≤ 1000000000) :
    Calls Try.prog 98 #[.slice A m c] w (RetI xss.flatten w) := by
  have hm := h.max
  unfold maxLen at hm
  have HL := Lib.hid h.len
  have HT := Lib.hid (tot_flat xss)
  have hA : 0 < m → ∃ b o, A = some ⟨b, o, none⟩ ∧ b < B ∧ ∀ j, j < m → w.cell? ⟨b, o + j, none⟩ = some (slv (hdr hs j)) := h.tbl
  go_enter Try.func98, Try.ntmps98
  go_wp2_with fail
  go_loop [3, 11] (fun s i => ∃ j : Nat, j ≤ m ∧ i = .int .i64 j ∧ s = .int .i64 (tot' xss j)) (fun _ i => m - (intOf i).toNat)
  case atStart => exact ⟨0, by omega, rfl, rfl⟩
  case round =>
    obtain ⟨j, hj, rfl, rfl⟩ := hrel
    by_cases hlt : j < m
    · obtain ⟨b, o, rfl, hb, hc⟩ := hA (by omega)
      have hcj := hc j hlt
      unfold slv at hcj
      have hlen : (row xss j).length = (hdr hs j).2.1 := (h.rows j hlt).1.1
      have t1 := tot'_mono xss (show j + 1 ≤ m by omega)
      have t2 : tot' xss m = xss.flatten.length := by rw [← HT.out, HL.out]
      have t3 : tot' xss (j + 1) = tot' xss j + (hdr hs j).2.1 := by rw [← hlen]; rfl
      have t4 : tot' xss j + (hdr hs j).2.1 ≤ 1000000000 := by omega
      have T3 := Lib.hid t3
      clear t1 t2 t3 hA hc hlen
      go_wp2
      go_round
      case rel => exact ⟨j + 1, by omega, by go_num, by rw [T3.out]; go_num⟩
      case measure => simp [intOf]; omega
    · obtain rfl : m = j := by omega
      have t2 : tot' xss m = xss.flatten.length := by rw [← HT.out, HL.out]
      have t4 : tot' xss m ≤ 1000000000 := by omega
      clear t2
      go_wp2_with (go_at_call 102; refine (grow_nil _ _ (by omega)).mono ?_; rintro e w1 ⟨v1, rfl, ho1, hb1⟩)
      have hs1 := hb1.size
      go_loopw [6, 27] (fun v i wr => ∃ j : Nat, j ≤ m ∧ i = .int .i64 j ∧ wr.ownsRow w.heap.size 3 1 v (tot' xss j) (((xss.take j).flatten).map (Value.int .i64)) ∧ Below w.heap.size w wr) (fun _ i _ => m - (intOf i).toNat)
      case atStart => exact ⟨0, by omega, rfl, by simpa [tot'] using ho1, hb1⟩
      case round =>
        clear ho1 hb1
        obtain ⟨j, hj, rfl, ho, hb⟩ := hrel
        have hsz := hb.size
        by_cases hlt : j < m
        · obtain ⟨b, o, rfl, hbb, hc⟩ := hA (by omega)
          have hcj := (hb.cell (p := ⟨b, o + j, none⟩) (by show b < _; omega)).trans (hc j hlt)
          unfold slv at hcj
          obtain ⟨hr, hd⟩ := h.rows j hlt
          have hr' := hr.below hb hB
          have hlen : (row xss j).length = (hdr hs j).2.1 := hr.1
          have t1 := tot'_mono xss (show j + 1 ≤ m by omega)
          have t3 : tot' xss (j + 1) = tot' xss j + (hdr hs j).2.1 := by rw [← hlen]; rfl
          have t5 : tot' xss j + (hdr hs j).2.1 ≤ 1073741824 := by omega
          have T3 := Lib.hid t3
          have HF := Lib.hid (flat_take (xss := xss) (j := j) (by rw [HL.out]; exact hlt))
          clear t1 t3 hA hc hlen hr
          go_wp2_with (at_builtin; refine wpList_apI (v := u6) (w := wr) (lo := w.heap.size) (n := tot' xss j) (xs := (xss.take j).flatten) rfl (.tmp 31) (.tmp 32) rfl rfl ho rfl hr' hd t5 hsz ?_; intro v2 w2 ho2 hg2 hv2)
          have hb2 := hb.grown hg2 hsz (fun q e => (ho.lt q e).1)
          clear hr' ho hb hv2 hg2
          go_wp2
          go_roundw
          case rel => exact ⟨j + 1, by omega, by go_num, by rw [T3.out, HF.out]; exact ho2, hb2⟩
          case measure => simp [intOf]; omega
        · obtain rfl : m = j := by omega
          obtain ⟨A2, c2, rfl, hd2⟩ := own_hd ho
          have ho2 := ofOwn' ho (by unfold maxLen; omega)
          have HX := Lib.hid (show (xss.take m).flatten = xss.flatten by rw [List.take_of_length_le (by rw [HL.out]; exact Nat.le_refl _)])
          go_wp2
          go_ret
          exact ⟨_, _, _, rfl, hd2, hb, by rw [← HX.out]; exact ho2⟩
theorem matrixOf_any {B : Nat} (p : Int) (c : Int) (A : Option Addr) (m k : Nat) (hs : List Hdr) (xss : List (List Int)) (w : World) (h : RdT w B A m hs xss) (hB : B ≤ w.heap.size) (hn : xss.flatten.length ≤ 1000000000) :
    Calls Try.prog 86 #[.int .i64 p, .int .i64 c, .slice A m k] w (RetM p m c xss.flatten w) := by
  have hz := Box.new w #[.int .i64 0, .int .i64 0, .int .i64 0, .slice none 0 0] 27
  have h' := h.alloc hB (.cells #[.int .i64 0, .int .i64 0, .int .i64 0, .slice none 0 0] 27)
  go_enter Try.func86, Try.ntmps86
  go_wp2_with (go_at_call 98; refine (concat_any A m k hs xss _ h' (by simp; omega) hn).mono ?_; rintro e w1 ⟨A1, n1, c1, rfl, hd1, hb1, ho1⟩; have hz1 := hz.below hb1 (by simp); obtain ⟨z0, z1, z2, z3⟩ := hz1.four; have zf := hz1.fz)
  have hs1 := hb1.size
  simp only [World.size_alloc] at hs1 ho1
  exact bodyPost_ret (v := .agg #[.int .i64 p, .int .i64 m, .int .i64 c, .slice A1 n1 c1]) (by simp [results, Try.results86, go_sem, z0, z1, z2, z3]) rfl (retM4 (((Below.refl _ _).alloc (Nat.le_refl _) _).trans (hb1.mono (by simp))) ho1 (by omega) (by omega) (Nat.le_refl _) _ _ _ _)
end Go.Proofs.Yteepnimmbofmlaa
