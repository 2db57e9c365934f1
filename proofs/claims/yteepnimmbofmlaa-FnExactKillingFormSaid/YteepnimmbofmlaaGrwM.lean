/- A list of square matrices of the call's own that grows by append, matrix by matrix: one word for what a loop's relation needs. No condition but what each theorem names. -/
import Derived.Test.YteepnimmbofmlaaGrwT
namespace Go.Proofs.Yteepnimmbofmlaa
set_option linter.unusedVariables false
set_option linter.unusedSimpArgs false
set_option maxRecDepth 20000
open Go.RowKit
theorem Try.infoM : (Try.prog.info? 27).map (fun i => (i.zero, i.size, i.bytes)) = some (some (.agg #[.int .i64 0, .int .i64 0, .int .i64 0, .slice none 0 0]), 4, 48) := by kernel_rfl
/-- the cells of a list of matrices of N rows and N columns over p: their data lie where hs says -/
def mCells (p N : Int) (h : Hdr) : List Value := [.int .i64 p, .int .i64 N, .int .i64 N, slv h]
def mRow (p N : Int) (hs : List Hdr) : List Value := hs.flatMap (mCells p N)
theorem mRow_len (p N : Int) : ∀ hs : List Hdr, (mRow p N hs).length = hs.length * 4
  | [] => rfl
  | h :: hs => by
    have := mRow_len p N hs
    unfold mRow at this ⊢
    rw [List.flatMap_cons, List.length_append, this, List.length_cons]
    show 4 + hs.length * 4 = _
    omega
theorem mRow_at (p N : Int) : ∀ (hs : List Hdr) (j : Nat), j < hs.length → (mRow p N hs)[j * 4]? = some (.int .i64 p) ∧ (mRow p N hs)[j * 4 + 1]? = some (.int .i64 N) ∧ (mRow p N hs)[j * 4 + 2]? = some (.int .i64 N) ∧ (mRow p N hs)[j * 4 + 3]? = some (slv (hdr hs j))
  | [], j, h => absurd h (by simp)
  | h :: hs, 0, _ => ⟨rfl, rfl, rfl, rfl⟩
  | h :: hs, j + 1, hj => by
    have ih := mRow_at p N hs j (by simpa using hj)
    have e : ∀ t, (mRow p N (h :: hs))[(j + 1) * 4 + t]? = (mRow p N hs)[j * 4 + t]? := fun t => by
      unfold mRow
      rw [List.flatMap_cons, List.getElem?_append_right (by show 4 ≤ _; omega)]
      congr 1
      show (j + 1) * 4 + t - 4 = _
      omega
    exact ⟨(e 0).trans ih.1, (e 1).trans ih.2.1, (e 2).trans ih.2.2.1, (e 3).trans ih.2.2.2⟩
theorem mRow_snoc (p N : Int) (hs : List Hdr) (h : Hdr) : mRow p N (hs ++ [h]) = mRow p N hs ++ mCells p N h := by simp [mRow]
/-- the list of matrices lies in a block of the call's own (g, or one made after w0); its data in other blocks; since w0 nothing else has turned -/
structure GrwM (g : Nat) (w0 wr : World) (p N : Int) (v : Value) (n : Nat) (hs : List Hdr) (xss : List (List Int)) : Prop where
  own : wr.ownsRow g 27 4 v n (mRow p N hs)
  chg : Chg g (g + 1) w0 wr
  blk : ∀ b, v.ownBlock = some b → b = g ∨ w0.heap.size ≤ b
  lt : g < w0.heap.size
  hlen : hs.length = n
  len : xss.length = n
  rows : ∀ j, j < n → RdI wr wr.heap.size (hdr hs j).1 (hdr hs j).2.1 (row xss j) ∧ Hd (hdr hs j).1 (hdr hs j).2.1 (hdr hs j).2.2
  sepT : ∀ j b o, j < n → 0 < (hdr hs j).2.1 → (hdr hs j).1 = some ⟨b, o, none⟩ → v.ownBlock ≠ some b
section
variable {g n m c lo2 : Nat} {p N : Int} {w0 wr w1 w3 : World} {v v' : Value} {hs : List Hdr} {xss : List (List Int)} {ys : List Int} {A : Option Addr}
theorem GrwM.start' (w : World) (T : TypeId) {w1 : World} (p N : Int) (hT : T = 27) (hb : Below (w.heap.size + 1) (w.alloc (.cells #[] T)) w1) : GrwM w.heap.size w1 w1 p N (.slice (some ⟨w.heap.size, 0, none⟩) 0 0) 0 [] [] := by
  subst hT
  have hs := hb.size
  rw [World.size_alloc] at hs
  have h := World.ownsRow_lit (base := w.heap.size) (e := 27) (size := 4) w #[] 0 (Nat.le_refl _) (by unfold maxLen; omega) rfl
  refine ⟨⟨rfl, ?_⟩, Chg.refl _ _ _, fun b e => .inl (by injection e with e; exact e.symm), by omega, rfl, rfl, fun j h => absurd h (by omega), fun j b o h => absurd h (by omega)⟩
  rcases h.2 with ⟨h1, _⟩ | ⟨g, cap, cur, e1, h0, hg, r⟩
  · cases h1
  · have e2 := e1
    injection e2 with e2; injection e2 with e2; injection e2 with e2
    exact .inr ⟨g, cap, cur, e1, h0, (hb.block g (by omega)).trans hg, r⟩
theorem GrwM.start (w : World) (T : TypeId) (p N : Int) (hT : T = 27) : GrwM w.heap.size (w.alloc (.cells #[] T)) (w.alloc (.cells #[] T)) p N (.slice (some ⟨w.heap.size, 0, none⟩) 0 0) 0 [] [] := GrwM.start' w T p N hT (Below.refl _ _)
theorem GrwM.size (h : GrwM g w0 wr p N v n hs xss) : w0.heap.size ≤ wr.heap.size := h.chg.size
theorem own_below {w w' : World} {base size : Nat} {e : TypeId} {v : Value} {n : Nat} {xs : List Value} (h : w.ownsRow base e size v n xs) (hb : Below w.heap.size w w') : w'.ownsRow base e size v n xs := by
  refine ⟨h.1, ?_⟩
  rcases h.2 with h1 | ⟨g', cap, cur, e1, h0, hg, r⟩
  · exact .inl h1
  · have hlt : g' < w.heap.size := by
      rcases Nat.lt_or_ge g' w.heap.size with h | h
      · exact h
      · rw [Array.getElem?_eq_none h] at hg; cases hg
    exact .inr ⟨g', cap, cur, e1, h0, (hb.block g' hlt).trans hg, r⟩
theorem GrwM.step (h : GrwM g w0 wr p N v n hs xss) (hb : Below wr.heap.size wr w1) : GrwM g w0 w1 p N v n hs xss :=
  ⟨own_below h.own hb, h.chg.trans (Chg.ofBelow hb (Nat.le_refl _)), h.blk, h.lt, h.hlen, h.len, fun j hj => ⟨((h.rows j hj).1.below hb (Nat.le_refl _)).up hb.size, (h.rows j hj).2⟩, h.sepT⟩
theorem GrwM.push {T : TypeId} (h : GrwM g w0 wr p N v n hs xss) (hb : Below wr.heap.size wr w1) (hr : OwI w1 lo2 w1.heap.size A m ys) (hlo2 : wr.heap.size ≤ lo2) (hd : Hd A m c) {cs : Array Value}
    (hown : w3.ownsRow g 27 4 v' (n + 1) (mRow p N hs ++ mCells p N (A, m, c))) (hg : (w1.alloc (.cells cs T)).grownBy w3 v.ownBlock) (hv : v'.ownBlock = v.ownBlock ∨ v'.ownBlock = some (w1.alloc (.cells cs T)).heap.size) :
    GrwM g w0 w3 p N v' (n + 1) (hs ++ [(A, m, c)]) (xss ++ [ys]) := by
  have hsz := h.chg.size
  have hbs := hb.size
  have hlt := h.lt
  have hgs := hg.size
  rw [World.size_alloc] at hgs
  have hc := (h.chg.trans (Chg.ofBelow hb (Nat.le_refl _))).alloc (.cells cs T)
  have hvl := fun b e => (h.own.lt b e).2
  have hl := h.hlen
  have hx := h.len
  have keep : ∀ b, b < w1.heap.size → v.ownBlock ≠ some b → w3.heap[b]? = w1.heap[b]? := fun b hb1 hne =>
    (hg.block b (by rw [World.size_alloc]; omega) (fun e => hne e.symm)).trans (Below.heap_alloc _ _ _ hb1)
  have hnew : ∀ b o, 0 < m → A = some ⟨b, o, none⟩ → v.ownBlock ≠ some b ∧ b < w1.heap.size := fun b o hm e => by
    subst e
    have := hr.blk hm
    exact ⟨fun e => by have := hvl b e; omega, this.2⟩
  have hold : ∀ j b o, j < n → 0 < (hdr hs j).2.1 → (hdr hs j).1 = some ⟨b, o, none⟩ → b < wr.heap.size := fun j b o hj hm e => by
    obtain ⟨b', o', e', hb', _⟩ := (h.rows j hj).1.2.2 hm
    rw [e] at e'
    injection e' with e'; injection e' with e'
    omega
  refine ⟨by rw [mRow_snoc]; exact hown, ⟨hg.os.trans hc.os, hg.tape.trans hc.tape, hg.output.trans hc.output, by omega, fun k hk hh => (hg.block k (by rw [World.size_alloc]; omega) fun e => ?_).trans (hc.block k hk hh)⟩, fun b e => ?_, hlt, by simp [hl], by simp [hx], ?_, ?_⟩
  · have := h.blk k e.symm
    omega
  · rcases hv with hv | hv
    · exact h.blk b (hv ▸ e)
    · rw [hv, World.size_alloc] at e
      injection e with e
      omega
  · intro j hj
    by_cases hjn : j < n
    · rw [hdr_app (by omega), row_app (by omega)]
      obtain ⟨r1, r2⟩ := h.rows j hjn
      refine ⟨⟨r1.1, r1.2.1, fun hp => ?_⟩, r2⟩
      obtain ⟨b, o, e, hb1, hcl⟩ := r1.2.2 hp
      have hk := keep b (by omega) (h.sepT j b o hjn hp e)
      exact ⟨b, o, e, by omega, fun i hi => (World.cell?_of_block (w := w1) hk).trans ((hb.cell (p := ⟨b, o + i, none⟩) hb1).trans (hcl i hi))⟩
    · obtain rfl : j = n := by omega
      rw [show hdr (hs ++ [(A, m, c)]) j = (A, m, c) by rw [← hl]; exact hdr_end, show row (xss ++ [ys]) j = ys by rw [← hx]; exact row_end]
      refine ⟨⟨hr.1, hr.2.1, fun hp => ?_⟩, hd⟩
      obtain ⟨b, o, e, hb0, hb1, hcl⟩ := hr.2.2 hp
      have hk := keep b hb1 (hnew b o hp e).1
      exact ⟨b, o, e, by omega, fun i hi => (World.cell?_of_block (w := w1) hk).trans (hcl i hi).1⟩
  · intro j b o hj hp e
    have hb2 : v.ownBlock ≠ some b ∧ b < w1.heap.size := by
      by_cases hjn : j < n
      · rw [hdr_app (by omega)] at hp e
        exact ⟨h.sepT j b o hjn hp e, by have := hold j b o hjn hp e; omega⟩
      · obtain rfl : j = n := by omega
        rw [show hdr (hs ++ [(A, m, c)]) j = (A, m, c) by rw [← hl]; exact hdr_end] at hp e
        exact hnew b o hp e
    rcases hv with hv | hv
    · rw [hv]; exact hb2.1
    · rw [hv, World.size_alloc]; intro e; injection e with e; omega
theorem GrwM.below (h : GrwM g w0 wr p N v n hs xss) : Below g w0 wr := h.chg.below (Nat.le_of_lt h.lt)
/-- the list read: the cells of matrix j -/
theorem GrwM.addr (h : GrwM g w0 wr p N v n hs xss) (hn : 0 < n) : ∃ b c, v = .slice (some ⟨b, 0, none⟩) n c ∧ b < wr.heap.size ∧ ∀ j, j < n → wr.cell? ⟨b, j * 4, none⟩ = some (.int .i64 p) ∧ wr.cell? ⟨b, j * 4 + 1, none⟩ = some (.int .i64 N) ∧ wr.cell? ⟨b, j * 4 + 2, none⟩ = some (.int .i64 N) ∧ wr.cell? ⟨b, j * 4 + 3, none⟩ = some (slv (hdr hs j)) := by
  have hl := h.hlen
  rcases h.own.2 with ⟨h1, h2⟩ | ⟨g', cap, cur, e1, h0, hg, r⟩
  · omega
  · refine ⟨g', cap, e1, (h.own.lt g' (by rw [e1]; rfl)).2, fun j hj => ?_⟩
    have ho := h.own
    rw [e1] at ho
    obtain ⟨m0, m1, m2, m3⟩ := mRow_at p N hs j (by omega)
    exact ⟨(ho.cellAt _ (by omega)).trans m0, (ho.cellAt _ (by omega)).trans m1, (ho.cellAt _ (by omega)).trans m2, (ho.cellAt _ (by omega)).trans m3⟩
end
/-- append to an own row of structs, and where the result lies -/
theorem run_append_atZ {P : Program} (w : World) (base : Nat) (t ty e : TypeId) (i : TypeInfo) (z : Value) (size : Nat) (ht : P.underlying t = some (.slice e)) (hi : P.info? e = some i) (hz : i.zero = some z)
    (hsize : i.size = size) (hzs : z.cells.size = size) (hsz : 0 < size)
    (v : Value) (n : Nat) (xs : List Value) (hown : w.ownsRow base e size v n xs)
    (a : Addr) (m c : Nat) (news : List Value) (hl : news.length = m * size) (hnews : ∀ j u, news[j]? = some u → w.cell? (a.add j) = some u) (h1 : ∀ u ∈ news, u.oneCell' = true)
    (hbytes : (n + m) * i.bytes ≤ 140737488355328) (hb0 : 0 < i.bytes) (hbase : base ≤ w.heap.size) :
    ∃ v' w', (Builtin.append_ #[t, t] ty #[v, .slice (some a) m c]).run P w = .ok v' w' ∧ w'.ownsRow base e size v' (n + m) (xs ++ news) ∧ w.grownBy w' v.ownBlock ∧ (v'.ownBlock = v.ownBlock ∨ v'.ownBlock = some w.heap.size) := by
  have hnm : n + m ≤ 140737488355328 := Nat.le_trans (Nat.le_mul_of_pos_right _ hb0) hbytes
  have h63 : n + m ≤ maxLen := by unfold maxLen; omega
  obtain ⟨v', w', hr, h2, h3, h4⟩ := run_append_own (P := P) w base t ty e i z size i.bytes ht hi hz hsize rfl hzs hsz v n xs hown a m c news hl hnews h1 h63 hbytes hbase
  refine ⟨v', w', hr, h2, h3, ?_⟩
  rcases hown.2 with ⟨rfl, rfl⟩ | ⟨g, cap, cur, rfl, hbg, hg, hnc, hcm, hcs, htake⟩
  · rcases Nat.eq_zero_or_pos m with h0 | h0
    · have : v' = .slice none 0 0 := h4.2 ⟨rfl, h0⟩
      rw [this]; exact .inl rfl
    · have hr2 := run_append_nil (P := P) w t ty e i z ht hi hz a m c news (by rw [hsize]; exact hl) hnews h0 (by omega) (by simp only [Nat.zero_add] at hbytes; omega)
      rw [hr] at hr2
      injection hr2 with e1 e2
      rw [e1]; exact .inr rfl
  · by_cases hroom : n + m ≤ cap
    · have hr2 := run_append_room (P := P) w t ty e i ht hi g n cap cur hg a m c news (by rw [hsize]; exact hl) hnews h1 hroom (by rw [hsize, hl, hcs, ← Nat.add_mul]; exact Nat.mul_le_mul_right _ hroom)
      rw [hr] at hr2
      injection hr2 with e1 e2
      rw [e1]; exact .inl rfl
    · have holds : ∀ j u, xs[j]? = some u → w.cell? ((⟨g, 0, none⟩ : Addr).add j) = some u := hown.cells (g := g) rfl
      have hr2 := run_append_grow (P := P) w t ty e i z ht hi hz ⟨g, 0, none⟩ n cap xs (by rw [hsize]; exact hown.1) holds a m c news (by rw [hsize]; exact hl) hnews (by omega) (by omega) (growslice_fits (by omega) hbytes)
      rw [hr] at hr2
      injection hr2 with e1 e2
      rw [e1]; exact .inr rfl
/-- 'append(l, m)' of one matrix more -/
theorem runM {w : World} {ty : TypeId} {lo n c b : Nat} {hs : List Value} {u0 u1 u2 u3 v : Value} (hown : w.ownsRow lo 27 4 v n hs) (hr : Box w b #[u0, u1, u2, u3]) (hu : u0.oneCell' = true ∧ u1.oneCell' = true ∧ u2.oneCell' = true ∧ u3.oneCell' = true) (hn : n ≤ 1073741824) (hlo : lo ≤ w.heap.size) :
    ∃ v' w', (Builtin.append_ #[64, 64] ty #[v, .slice (some ⟨b, 0, none⟩) 1 c]).run Try.prog w = .ok v' w' ∧ w'.ownsRow lo 27 4 v' (n + 1) (hs ++ [u0, u1, u2, u3]) ∧ w.grownBy w' v.ownBlock ∧ (v'.ownBlock = v.ownBlock ∨ v'.ownBlock = some w.heap.size) := by
  obtain ⟨i, h2, h3, h4, h5⟩ := info_parts Try.infoM
  obtain ⟨c0, c1, c2, c3⟩ := hr.four
  exact run_append_atZ (P := Try.prog) w lo 64 ty 27 i _ 4 Try.underlying64 h2 h3 h4 rfl (by omega) v n hs hown ⟨b, 0, none⟩ 1 c [u0, u1, u2, u3] rfl (fun j q hj => by
    match j, hj with
    | 0, hj => simp at hj; subst hj; exact c0
    | 1, hj => simp at hj; subst hj; exact c1
    | 2, hj => simp at hj; subst hj; exact c2
    | 3, hj => simp at hj; subst hj; exact c3
    | j + 4, hj => simp at hj) (fun q hq => by simp at hq; rcases hq with rfl | rfl | rfl | rfl; exact hu.1; exact hu.2.1; exact hu.2.2.1; exact hu.2.2.2) (by rw [h5]; omega) (by rw [h5]; omega) hlo
theorem wpList_apM {ops : Array Oper} {rest : List Oper} {o : Oper} {a : Act} {Q : Exit → Act → World → Prop} {w : World} {lo n c b : Nat} {hs : List Value} {u0 u1 u2 u3 v : Value} (hgd : o.guard = none) (s x : Operand)
    (ho : o.op = .call { callee := .builtin .append, args := #[s, x], argTypes := #[64, 64] })
    (hs' : a.eval s = v) (hown : w.ownsRow lo 27 4 v n hs) (hx : a.eval x = .slice (some ⟨b, 0, none⟩) 1 c) (hr : Box w b #[u0, u1, u2, u3]) (hu : u0.oneCell' = true ∧ u1.oneCell' = true ∧ u2.oneCell' = true ∧ u3.oneCell' = true) (hn : n ≤ 1073741824) (hlo : lo ≤ w.heap.size)
    (h : ∀ v' w', w'.ownsRow lo 27 4 v' (n + 1) (hs ++ [u0, u1, u2, u3]) → w.grownBy w' v.ownBlock → (v'.ownBlock = v.ownBlock ∨ v'.ownBlock = some w.heap.size) → wpList Try.prog ops Q rest (a.put o.dst v') w') :
    wpList Try.prog ops Q (o :: rest) a w := by
  refine wpList_plain hgd fun K hK => ?_
  obtain ⟨v', w', hrun, e1, e2, e3⟩ := runM (ty := o.type) (c := c) hown hr hu hn hlo
  unfold Oper.wp execOp
  simp only [ho, resolve, invoke, builtin, Sem.run_bind, Sem.run_pure, Result.andThen_ok, List.map_toArray, List.map_cons, List.map_nil, hs', hx, hrun]
  exact hK _ _ (h v' w' e1 e2 e3)
theorem step_apM {ops : Array Oper} {o : Oper} {a : Act} {K : Act → World → Prop} {Q : Exit → Act → World → Prop} {E : Prop} {w : World} {lo n c b : Nat} {hs : List Value} {u0 u1 u2 u3 v : Value} (hgd : o.guard = none) (s x : Operand)
    (ho : o.op = .call { callee := .builtin .append, args := #[s, x], argTypes := #[64, 64] })
    (hs' : a.eval s = v) (hown : w.ownsRow lo 27 4 v n hs) (hx : a.eval x = .slice (some ⟨b, 0, none⟩) 1 c) (hr : Box w b #[u0, u1, u2, u3]) (hu : u0.oneCell' = true ∧ u1.oneCell' = true ∧ u2.oneCell' = true ∧ u3.oneCell' = true) (hn : n ≤ 1073741824) (hlo : lo ≤ w.heap.size)
    (h : ∀ v' w', w'.ownsRow lo 27 4 v' (n + 1) (hs ++ [u0, u1, u2, u3]) → w.grownBy w' v.ownBlock → (v'.ownBlock = v.ownBlock ∨ v'.ownBlock = some w.heap.size) → K (a.put o.dst v') w') :
    if Region.wanted o (yielded ops a.tmps) = true then Oper.wp Try.prog o a w K Q else E := by
  have hw : Region.wanted o (yielded ops a.tmps) = true := by simp [Region.wanted, hgd]
  rw [if_pos hw]
  obtain ⟨v', w', hrun, e1, e2, e3⟩ := runM (ty := o.type) (c := c) hown hr hu hn hlo
  unfold Oper.wp execOp
  simp only [ho, resolve, invoke, builtin, Sem.run_bind, Sem.run_pure, Result.andThen_ok, List.map_toArray, List.map_cons, List.map_nil, hs', hx, hrun]
  exact h v' w' e1 e2 e3
end Go.Proofs.Yteepnimmbofmlaa
