/- append to a slice of the call's own, of integers or of slices, from any source; where the result lies. No condition but what each theorem names. -/
import Derived.Test.YtnkcjekfjlbcdaaGreatDoorLawK
import Derived.Test.YtnkcjekfjlbcdaaGreatDoorTab
import Derived.Deep.RegionLaw
namespace Go.Proofs.YtnkcjekfjlbcdaaGreatDoor
set_option linter.unusedVariables false
set_option linter.unusedSimpArgs false
set_option maxRecDepth 20000
open Go.RowKit
theorem Tryz.infoS : (Tryz.prog.info? 22).map (fun i => (i.zero, i.size, i.bytes)) = some (some (.slice none 0 0), 1, 24) := by kernel_rfl
/-- append to an own row, and where the result lies: where the row lay, or in the block that is made -/
theorem run_append_at {P : Program} (w : World) (base : Nat) (t ty e : TypeId) (i : TypeInfo) (z : Value) (ht : P.underlying t = some (.slice e)) (hi : P.info? e = some i) (hz : i.zero = some z)
    (hsize : i.size = 1) (hzs : z.cells.size = 1)
    (v : Value) (n : Nat) (xs : List Value) (hown : w.ownsRow base e 1 v n xs)
    (a : Addr) (m c : Nat) (news : List Value) (hl : news.length = m) (hnews : ∀ j u, news[j]? = some u → w.cell? (a.add j) = some u) (h1 : ∀ u ∈ news, u.oneCell' = true)
    (hbytes : (n + m) * i.bytes ≤ 140737488355328) (hb0 : 0 < i.bytes) (hbase : base ≤ w.heap.size) :
    ∃ v' w', (Builtin.append_ #[t, t] ty #[v, .slice (some a) m c]).run P w = .ok v' w' ∧ w'.ownsRow base e 1 v' (n + m) (xs ++ news) ∧ w.grownBy w' v.ownBlock ∧ (v'.ownBlock = v.ownBlock ∨ v'.ownBlock = some w.heap.size) := by
  have hnm : n + m ≤ 140737488355328 := Nat.le_trans (Nat.le_mul_of_pos_right _ hb0) hbytes
  have h63 : n + m ≤ maxLen := by unfold maxLen; omega
  obtain ⟨v', w', hr, h2, h3, h4⟩ := run_append_own (P := P) w base t ty e i z 1 i.bytes ht hi hz hsize rfl hzs (by omega) v n xs hown a m c news (by omega) hnews h1 h63 hbytes hbase
  refine ⟨v', w', hr, h2, h3, ?_⟩
  rcases hown.2 with ⟨rfl, rfl⟩ | ⟨g, cap, cur, rfl, hbg, hg, hnc, hcm, hcs, htake⟩
  · rcases Nat.eq_zero_or_pos m with h0 | h0
    · have : v' = .slice none 0 0 := h4.2 ⟨rfl, h0⟩
      rw [this]; exact .inl rfl
    · have hr2 := run_append_nil (P := P) w t ty e i z ht hi hz a m c news (by rw [hsize]; omega) hnews h0 (by omega) (by simp only [Nat.zero_add] at hbytes; omega)
      rw [hr] at hr2
      injection hr2 with e1 e2
      rw [e1]; exact .inr rfl
  · by_cases hroom : n + m ≤ cap
    · have hr2 := run_append_room (P := P) w t ty e i ht hi g n cap cur hg a m c news (by rw [hsize]; omega) hnews h1 hroom (by rw [hsize, hcs]; omega)
      rw [hr] at hr2
      injection hr2 with e1 e2
      rw [e1]; exact .inl rfl
    · have holds : ∀ j u, xs[j]? = some u → w.cell? ((⟨g, 0, none⟩ : Addr).add j) = some u := hown.cells (g := g) rfl
      have hr2 := run_append_grow (P := P) w t ty e i z ht hi hz ⟨g, 0, none⟩ n cap xs (by rw [hsize]; exact hown.1) holds a m c news (by rw [hsize]; omega) hnews (by omega) (by omega) (growslice_fits (by omega) hbytes)
      rw [hr] at hr2
      injection hr2 with e1 e2
      rw [e1]; exact .inr rfl
/-- the addresses of a slice's elements -/
theorem add_mk (b o j : Nat) : (⟨b, o, none⟩ : Addr).add j = ⟨b, o + j, none⟩ := by
  by_cases hj0 : j = 0
  · subst hj0; simp [Addr.add]
  · simp [Addr.add, hj0]
theorem grown_refl (w : World) (r : Option Nat) : w.grownBy w r := ⟨rfl, rfl, rfl, Nat.le_refl _, fun _ _ _ => rfl⟩
/-- 'append(xs, ys...)' of integers: xs nil or the call's own, ys any -/
theorem wpList_apI {ops : Array Oper} {rest : List Oper} {o : Oper} {a : Act} {Q : Exit → Act → World → Prop} {w : World} {B lo n m c : Nat} {A : Option Addr} {xs ys : List Int} {v : Value} (hgd : o.guard = none) (s x : Operand)
    (ho : o.op = .call { callee := .builtin .append, args := #[s, x], argTypes := #[22, 22] })
    (hs : a.eval s = v) (hown : w.ownsRow lo 3 1 v n (xs.map (Value.int .i64))) (hx : a.eval x = .slice A m c) (hr : RdI w B A m ys) (hd : Hd A m c) (hn : n + m ≤ 1073741824) (hlo : lo ≤ w.heap.size)
    (h : ∀ v' w', w'.ownsRow lo 3 1 v' (n + m) ((xs ++ ys).map (Value.int .i64)) → w.grownBy w' v.ownBlock → (v'.ownBlock = v.ownBlock ∨ v'.ownBlock = some w.heap.size) → wpList Tryz.prog ops Q rest (a.put o.dst v') w') :
    wpList Tryz.prog ops Q (o :: rest) a w := by
  obtain ⟨i, h2, h3, h4, h5⟩ := info_parts Tryz.infoI
  refine wpList_plain hgd fun K hK => ?_
  have HR : ∃ v' w', (Builtin.append_ #[22, 22] o.type #[v, .slice A m c]).run Tryz.prog w = .ok v' w' ∧ w'.ownsRow lo 3 1 v' (n + m) ((xs ++ ys).map (Value.int .i64)) ∧ w.grownBy w' v.ownBlock ∧ (v'.ownBlock = v.ownBlock ∨ v'.ownBlock = some w.heap.size) := by
    rcases A with _ | ad
    · have hm : m = 0 := by
        rcases Nat.eq_zero_or_pos m with h0 | h0
        · exact h0
        · obtain ⟨b, o', e, _⟩ := hr.2.2 h0; cases e
      subst hm
      have hy := hr.nilOf
      subst hy
      have hc : c = 0 := by
        rcases hd with ⟨_, _, e⟩ | ⟨b, o', e, _⟩
        · exact e
        · cases e
      subst hc
      exact ⟨v, w, run_append_owned_none (P := Tryz.prog) (w := w) lo 22 o.type 3 i 1 Tryz.underlying22 h2 v n _ hown, by simpa using hown, grown_refl _ _, .inl rfl⟩
    · rcases Nat.eq_zero_or_pos m with h0 | h0
      · subst h0
        have hy := hr.nilOf
        subst hy
        have := run_append_at (P := Tryz.prog) w lo 22 o.type 3 i (.int .i64 0) Tryz.underlying22 h2 h3 h4 rfl v n _ hown ad 0 c [] rfl (fun j u h => by simp at h) (fun u h => by simp at h) (by rw [h5]; omega) (by rw [h5]; omega) hlo
        simpa using this
      · obtain ⟨b, o', e, hb, hc⟩ := hr.2.2 h0
        injection e with e
        subst e
        have hl := hr.1
        have := run_append_at (P := Tryz.prog) w lo 22 o.type 3 i (.int .i64 0) Tryz.underlying22 h2 h3 h4 rfl v n _ hown ⟨b, o', none⟩ m c (ys.map (Value.int .i64)) (by simpa using hl) (fun j u hj => by
          have hjl : j < ys.length := by
            rcases Nat.lt_or_ge j ys.length with h | h
            · exact h
            · rw [List.getElem?_eq_none (by simpa using h)] at hj; cases hj
          rw [add_mk, hc j (by omega)]
          simp [hjl] at hj
          rw [← hj, gI_lt hjl]) (fun u hu => by
          obtain ⟨q, _, rfl⟩ := List.mem_map.1 hu
          rfl) (by rw [h5]; omega) (by rw [h5]; omega) hlo
        simpa using this
  obtain ⟨v', w', hrun, e1, e2, e3⟩ := HR
  unfold Oper.wp execOp
  simp only [ho, resolve, invoke, builtin, Sem.run_bind, Sem.run_pure, Result.andThen_ok, List.map_toArray, List.map_cons, List.map_nil, hs, hx, hrun]
  exact hK _ _ (h v' w' e1 e2 e3)
/-- 'append(xss, xs)': one slice more, onto a table that is nil or the call's own -/
theorem wpList_apT {ops : Array Oper} {rest : List Oper} {o : Oper} {a : Act} {Q : Exit → Act → World → Prop} {w : World} {lo n c b : Nat} {hs : List Value} {u v : Value} (hgd : o.guard = none) (s x : Operand)
    (ho : o.op = .call { callee := .builtin .append, args := #[s, x], argTypes := #[146, 146] })
    (hs' : a.eval s = v) (hown : w.ownsRow lo 22 1 v n hs) (hx : a.eval x = .slice (some ⟨b, 0, none⟩) 1 c) (hr : w.cell? ⟨b, 0, none⟩ = some u) (hu : u.oneCell' = true) (hn : n ≤ 1073741824) (hlo : lo ≤ w.heap.size)
    (h : ∀ v' w', w'.ownsRow lo 22 1 v' (n + 1) (hs ++ [u]) → w.grownBy w' v.ownBlock → (v'.ownBlock = v.ownBlock ∨ v'.ownBlock = some w.heap.size) → wpList Tryz.prog ops Q rest (a.put o.dst v') w') :
    wpList Tryz.prog ops Q (o :: rest) a w := by
  obtain ⟨i, h2, h3, h4, h5⟩ := info_parts Tryz.infoS
  refine wpList_plain hgd fun K hK => ?_
  obtain ⟨v', w', hrun, e1, e2, e3⟩ := run_append_at (P := Tryz.prog) w lo 146 o.type 22 i (.slice none 0 0) Tryz.underlying146 h2 h3 h4 rfl v n hs hown ⟨b, 0, none⟩ 1 c [u] rfl (fun j q hj => by
    rcases j with _ | j
    · simp at hj; subst hj; rw [add_mk]; exact hr
    · simp at hj) (fun q hq => by simp at hq; subst hq; exact hu) (by rw [h5]; omega) (by rw [h5]; omega) hlo
  unfold Oper.wp execOp
  simp only [ho, resolve, invoke, builtin, Sem.run_bind, Sem.run_pure, Result.andThen_ok, List.map_toArray, List.map_cons, List.map_nil, hs', hx, hrun]
  exact hK _ _ (h v' w' e1 e2 e3)
end Go.Proofs.YtnkcjekfjlbcdaaGreatDoor
namespace Go.Proofs.YtnkcjekfjlbcdaaGreatDoor
set_option linter.unusedVariables false
set_option linter.unusedSimpArgs false
set_option maxRecDepth 20000
open Go.RowKit
abbrev Hdr := Option Addr × Nat × Nat
def slv (h : Hdr) : Value := .slice h.1 h.2.1 h.2.2
def hdr (hs : List Hdr) (j : Nat) : Hdr := hs.getD j (none, 0, 0)
def row (xss : List (List Int)) (j : Nat) : List Int := xss.getD j []
theorem hdr_lt {hs : List Hdr} {j : Nat} (h : j < hs.length) : hdr hs j = hs[j] := by simp [hdr, h]
theorem row_lt {xss : List (List Int)} {j : Nat} (h : j < xss.length) : row xss j = xss[j] := by simp [row, h]
theorem hdr_app {hs : List Hdr} {h : Hdr} {j : Nat} (hj : j < hs.length) : hdr (hs ++ [h]) j = hdr hs j := by
  rw [hdr_lt (by simp; omega), hdr_lt hj, List.getElem_append_left hj]
theorem hdr_end {hs : List Hdr} {h : Hdr} : hdr (hs ++ [h]) hs.length = h := by rw [hdr_lt (by simp)]; simp
theorem row_app {xss : List (List Int)} {xs : List Int} {j : Nat} (hj : j < xss.length) : row (xss ++ [xs]) j = row xss j := by
  rw [row_lt (by simp; omega), row_lt hj, List.getElem_append_left hj]
theorem row_end {xss : List (List Int)} {xs : List Int} : row (xss ++ [xs]) xss.length = xs := by rw [row_lt (by simp)]; simp
theorem row_set {xss : List (List Int)} {xs : List Int} {i j : Nat} (hi : i < xss.length) : row (xss.set i xs) j = if j = i then xs else row xss j := by
  unfold row
  by_cases h : j = i
  · subst h; simp [hi]
  · rw [if_neg h]; simp [List.getElem?_set, Ne.symm h]
theorem ext_row {a b : List (List Int)} (h : a.length = b.length) (hg : ∀ k, k < a.length → row a k = row b k) : a = b := by
  apply List.ext_getElem h
  intro i h1 h2
  have := hg i h1
  rwa [row_lt h1, row_lt h2] at this
section
variable {w w' : World} {B B0 lo hi n : Nat} {A : Option Addr} {xs : List Int}
theorem OwI.keepH (h : OwI w B0 B A n xs) (hk : ∀ b, B0 ≤ b → b < B → b < w.heap.size → w'.heap[b]? = w.heap[b]?) : OwI w' B0 B A n xs :=
  ⟨h.1, h.2.1, fun hn => by
    obtain ⟨b, o, e, h0, hb, hc⟩ := h.2.2 hn
    have hlt : b < w.heap.size := by
      rcases Nat.lt_or_ge b w.heap.size with h | h
      · exact h
      · have := (hc 0 hn).1; simp [World.cell?, Array.getElem?_eq_none h] at this
    have hk' := hk b h0 hb hlt
    exact ⟨b, o, e, h0, hb, fun j hj => ⟨(World.cell?_of_block (w := w) hk').trans (hc j hj).1, (World.frozen?_of_block (w := w) hk').trans (hc j hj).2⟩⟩⟩
/-- own numbers in their very block -/
theorem OwI.tight {b o : Nat} (h : OwI w B0 B (some ⟨b, o, none⟩) n xs) : OwI w b (b + 1) (some ⟨b, o, none⟩) n xs :=
  ⟨h.1, h.2.1, fun hn => by
    obtain ⟨b', o', e, h0, hb, hc⟩ := h.2.2 hn
    obtain ⟨rfl, rfl⟩ : b = b' ∧ o = o' := by injection e with e; injection e with e1 e2; exact ⟨e1, e2⟩
    exact ⟨b, o, rfl, Nat.le_refl _, by omega, hc⟩⟩
theorem OwI.wide {b o : Nat} (h : OwI w b (b + 1) A n xs) (h0 : B0 ≤ b) (h1 : b < B) : OwI w B0 B A n xs := (h.down h0).up (by omega)
theorem OwI.ltS {b o : Nat} (h : OwI w B0 B (some ⟨b, o, none⟩) n xs) (hn : 0 < n) : b < w.heap.size := by
  have := (h.at_ hn).1
  rcases Nat.lt_or_ge b w.heap.size with h | h
  · exact h
  · simp [World.cell?, Array.getElem?_eq_none h] at this
end
theorem Chg.ofNone {w w' : World} {B0 B : Nat} (h : Chg 0 0 w w') : Chg B0 B w w' := ⟨h.os, h.tape, h.output, h.size, fun k hk _ => h.block k hk (.inr (Nat.zero_le _))⟩
/-- a table of the call's own: its headers hs, its rows xss, blocks from lo on, below hi; no two rows in one block, none in the table's -/
structure OwT (w : World) (lo hi : Nat) (v : Value) (n : Nat) (hs : List Hdr) (xss : List (List Int)) : Prop where
  tbl : w.ownsRow lo 22 1 v n (hs.map slv)
  blk : ∀ b, v.ownBlock = some b → b < hi
  len : xss.length = n
  rows : ∀ j, j < n → OwI w lo hi (hdr hs j).1 (hdr hs j).2.1 (row xss j) ∧ Hd (hdr hs j).1 (hdr hs j).2.1 (hdr hs j).2.2
  sepT : ∀ j b o, j < n → 0 < (hdr hs j).2.1 → (hdr hs j).1 = some ⟨b, o, none⟩ → v.ownBlock ≠ some b
  sep : ∀ i j b o b' o', i < j → j < n → 0 < (hdr hs i).2.1 → 0 < (hdr hs j).2.1 → (hdr hs i).1 = some ⟨b, o, none⟩ → (hdr hs j).1 = some ⟨b', o', none⟩ → b ≠ b'
/-- a table that is read, below block B -/
structure RdT (w : World) (B : Nat) (A : Option Addr) (n : Nat) (hs : List Hdr) (xss : List (List Int)) : Prop where
  len : xss.length = n
  max : n ≤ maxLen
  tbl : 0 < n → ∃ b o, A = some ⟨b, o, none⟩ ∧ b < B ∧ ∀ j, j < n → w.cell? ⟨b, o + j, none⟩ = some (slv (hdr hs j))
  rows : ∀ j, j < n → RdI w B (hdr hs j).1 (hdr hs j).2.1 (row xss j) ∧ Hd (hdr hs j).1 (hdr hs j).2.1 (hdr hs j).2.2
section
variable {w w' : World} {B B0 lo hi n : Nat} {v : Value} {A : Option Addr} {hs : List Hdr} {xss : List (List Int)}
theorem OwT.nil (w : World) (lo hi : Nat) : OwT w lo hi (.slice none 0 0) 0 [] [] :=
  ⟨World.ownsRow_nil _ _ _ _, fun b h => (by cases h), rfl, fun j h => absurd h (by omega), fun j b o h => absurd h (by omega), fun i j b o b' o' _ h => absurd h (by omega)⟩
theorem OwT.hlen (h : OwT w lo hi v n hs xss) : hs.length = n := by have := h.tbl.1; simpa using this
theorem OwT.keep (h : OwT w lo hi v n hs xss) (hk : ∀ b, lo ≤ b → b < hi → b < w.heap.size → w'.heap[b]? = w.heap[b]?) : OwT w' lo hi v n hs xss := by
  refine ⟨⟨h.tbl.1, ?_⟩, h.blk, h.len, fun j hj => ⟨(h.rows j hj).1.keepH hk, (h.rows j hj).2⟩, h.sepT, h.sep⟩
  rcases h.tbl.2 with h1 | ⟨g, cap, cur, e, hb, hg, r⟩
  · exact .inl h1
  · have hlt : g < w.heap.size := by
      rcases Nat.lt_or_ge g w.heap.size with h | h
      · exact h
      · rw [Array.getElem?_eq_none h] at hg; cases hg
    exact .inr ⟨g, cap, cur, e, hb, (hk g hb (h.blk g (by rw [e]; rfl)) hlt).trans hg, r⟩
theorem OwT.below (h : OwT w lo hi v n hs xss) (hb : Below B w w') (hB : hi ≤ B) : OwT w' lo hi v n hs xss := h.keep fun b _ hlt _ => hb.block b (by omega)
theorem OwT.chgHi (h : OwT w lo hi v n hs xss) (hc : Chg B0 B w w') (h0 : B ≤ lo) (_ : hi ≤ w.heap.size) : OwT w' lo hi v n hs xss := h.keep fun b hl _ hs => hc.block b hs (.inr (by omega))
theorem OwT.alloc (h : OwT w lo hi v n hs xss) (hB : hi ≤ w.heap.size) (o : Obj) : OwT (w.alloc o) lo hi v n hs xss := h.below ((Below.refl hi w).alloc hB o) (Nat.le_refl _)
theorem OwT.up {hi' : Nat} (h : OwT w lo hi v n hs xss) (hB : hi ≤ hi') : OwT w lo hi' v n hs xss :=
  ⟨h.tbl, fun b e => Nat.lt_of_lt_of_le (h.blk b e) hB, h.len, fun j hj => ⟨(h.rows j hj).1.up hB, (h.rows j hj).2⟩, h.sepT, h.sep⟩
theorem OwT.down {lo' : Nat} (h : OwT w lo hi v n hs xss) (hB : lo' ≤ lo) : OwT w lo' hi v n hs xss := by
  refine ⟨⟨h.tbl.1, ?_⟩, h.blk, h.len, fun j hj => ⟨(h.rows j hj).1.down hB, (h.rows j hj).2⟩, h.sepT, h.sep⟩
  rcases h.tbl.2 with h1 | ⟨g, cap, cur, e, hb, r⟩
  · exact .inl h1
  · exact .inr ⟨g, cap, cur, e, by omega, r⟩
theorem OwT.addr (h : OwT w lo hi v n hs xss) (hn : 0 < n) : ∃ g c, v = .slice (some ⟨g, 0, none⟩) n c ∧ lo ≤ g ∧ g < hi ∧ n ≤ c ∧ c ≤ maxLen ∧ ∀ j, j < n → w.cell? ⟨g, j, none⟩ = some (slv (hdr hs j)) ∧ w.frozen? ⟨g, j, none⟩ = false := by
  rcases h.tbl.2 with ⟨_, h1⟩ | ⟨g, cap, cur, e, hb, hg, h1, h2, h3, h4⟩
  · omega
  · refine ⟨g, cap, e, hb, h.blk g (by rw [e]; rfl), h1, h2, fun j hj => ⟨?_, frozen_of_row w g _ cur _ hg⟩⟩
    rw [cell_of_row w g _ cur _ (0, 0) hg]
    have hl := h.hlen
    have h5 : (cur.toList.take (n * 1))[j]? = (hs.map slv)[j]? := by rw [h4]
    rw [List.getElem?_take, if_pos (by omega)] at h5
    have hj' : j < hs.length := by omega
    simp [hj'] at h5
    simp [h5, hdr_lt hj']
theorem OwT.max (h : OwT w lo hi v n hs xss) : n ≤ maxLen := by
  rcases h.tbl.2 with ⟨_, h1⟩ | ⟨g, cap, cur, e, hb, hg, h1, h2, _⟩
  · subst h1; unfold maxLen; omega
  · omega
theorem OwT.rd {c m : Nat} (h : OwT w lo hi (.slice A m c) n hs xss) : RdT w hi A n hs xss := by
  refine ⟨h.len, h.max, fun hn => ?_, fun j hj => ⟨(h.rows j hj).1.rd, (h.rows j hj).2⟩⟩
  obtain ⟨g, k, e, _, hb, _, _, hc⟩ := h.addr hn
  injection e with e1
  subst e1
  exact ⟨g, 0, rfl, hb, fun j hj => by rw [Nat.zero_add]; exact (hc j hj).1⟩
theorem OwT.hd (h : OwT w lo hi v n hs xss) : ∃ A c, v = .slice A n c ∧ Hd A n c := by
  rcases h.tbl.2 with ⟨h1, h2⟩ | ⟨g, cap, cur, e, _, _, h1, h2, _⟩
  · subst h2; exact ⟨none, 0, h1, Hd.nil⟩
  · exact ⟨_, _, e, Hd.mk h1 h2⟩
theorem RdT.below (h : RdT w B A n hs xss) {B' : Nat} (hb : Below B' w w') (hB : B ≤ B') : RdT w' B A n hs xss :=
  ⟨h.len, h.max, fun hn => by
    obtain ⟨b, o, e, hlt, hc⟩ := h.tbl hn
    exact ⟨b, o, e, hlt, fun j hj => (hb.cell (by show b < B'; omega)).trans (hc j hj)⟩, fun j hj => ⟨(h.rows j hj).1.below hb hB, (h.rows j hj).2⟩⟩
theorem RdT.up (h : RdT w B A n hs xss) {B' : Nat} (hB : B ≤ B') : RdT w B' A n hs xss :=
  ⟨h.len, h.max, fun hn => by
    obtain ⟨b, o, e, hlt, hc⟩ := h.tbl hn
    exact ⟨b, o, e, by omega, hc⟩, fun j hj => ⟨(h.rows j hj).1.up hB, (h.rows j hj).2⟩⟩
theorem RdT.alloc (h : RdT w B A n hs xss) (hB : B ≤ w.heap.size) (o : Obj) : RdT (w.alloc o) B A n hs xss := h.below ((Below.refl B w).alloc hB o) (Nat.le_refl _)
/-- one row more -/
theorem OwT.push {v' : Value} {hd : Hdr} {lo2 hi2 : Nat} {ys : List Int} (h : OwT w lo hi v n hs xss) (hown : w'.ownsRow lo 22 1 v' (n + 1) (hs.map slv ++ [slv hd])) (hg : w.grownBy w' v.ownBlock)
    (hv : v'.ownBlock = v.ownBlock ∨ v'.ownBlock = some w.heap.size) (hr : OwI w lo2 hi2 hd.1 hd.2.1 ys) (hhd : Hd hd.1 hd.2.1 hd.2.2) (h0 : lo ≤ lo2) (h1 : hi ≤ lo2) (h2 : hi2 ≤ w.heap.size) (h3 : hi ≤ w.heap.size) :
    OwT w' lo w'.heap.size v' (n + 1) (hs ++ [hd]) (xss ++ [ys]) := by
  have hl := h.hlen
  have hx := h.len
  have hgs := hg.size
  have old : ∀ j, j < n → ∀ b o, 0 < (hdr hs j).2.1 → (hdr hs j).1 = some ⟨b, o, none⟩ → b < hi ∧ lo ≤ b := by
    intro j hj b o hp e
    have := (h.rows j hj).1
    rw [e] at this
    have := this.blk hp
    exact ⟨this.2, this.1⟩
  have hvb : ∀ b, v.ownBlock = some b → b < hi := h.blk
  refine ⟨by rw [List.map_append]; exact hown, fun b e => (hown.lt b e).2, by simp [hx], ?_, ?_, ?_⟩
  · intro j hj
    by_cases hjn : j < n
    · rw [hdr_app (by omega), row_app (by omega)]
      obtain ⟨r1, r2⟩ := h.rows j hjn
      refine ⟨?_, r2⟩
      refine ⟨r1.1, r1.2.1, fun hp => ?_⟩
      obtain ⟨b, o, e, hb0, hb1, hc⟩ := r1.2.2 hp
      have hne := h.sepT j b o hjn hp e
      have hk := hg.block b (by omega) (fun e => hne e.symm)
      exact ⟨b, o, e, hb0, by omega, fun i hi => ⟨(World.cell?_of_block (w := w) hk).trans (hc i hi).1, (World.frozen?_of_block (w := w) hk).trans (hc i hi).2⟩⟩
    · have : j = n := by omega
      subst this
      rw [show hdr (hs ++ [hd]) j = hd by rw [← hl]; exact hdr_end, show row (xss ++ [ys]) j = ys by rw [← hx]; exact row_end]
      refine ⟨?_, hhd⟩
      refine ⟨hr.1, hr.2.1, fun hp => ?_⟩
      obtain ⟨b, o, e, hb0, hb1, hc⟩ := hr.2.2 hp
      have hk := hg.block b (by omega) (fun e => by have := hvb b e.symm; omega)
      exact ⟨b, o, e, by omega, by omega, fun i hi => ⟨(World.cell?_of_block (w := w) hk).trans (hc i hi).1, (World.frozen?_of_block (w := w) hk).trans (hc i hi).2⟩⟩
  · intro j b o hj hp e
    by_cases hjn : j < n
    · rw [hdr_app (by omega)] at hp e
      rcases hv with hv | hv
      · rw [hv]; exact h.sepT j b o hjn hp e
      · rw [hv]; have := old j hjn b o hp e
        intro e; injection e with e; omega
    · have : j = n := by omega
      subst this
      rw [show hdr (hs ++ [hd]) j = hd by rw [← hl]; exact hdr_end] at hp e
      have hr' := hr
      rw [e] at hr'
      have := hr'.blk hp
      rcases hv with hv | hv
      · rw [hv]; intro e; have := hvb b e; omega
      · rw [hv]; intro e; injection e with e; omega
  · intro i j b o b' o' hij hj hp hp' e e'
    by_cases hjn : j < n
    · rw [hdr_app (by omega)] at hp' e'
      rw [hdr_app (by omega)] at hp e
      exact h.sep i j b o b' o' hij hjn hp hp' e e'
    · have : j = n := by omega
      subst this
      rw [hdr_app (by omega)] at hp e
      rw [show hdr (hs ++ [hd]) j = hd by rw [← hl]; exact hdr_end] at hp' e'
      have hr' := hr
      rw [e'] at hr'
      have := hr'.blk hp'
      have := old i (by omega) b o hp e
      omega
/-- a row written anew in its block -/
theorem OwT.setRow {j b o : Nat} {ys : List Int} (h : OwT w lo hi v n hs xss) (hj : j < n) (hp : 0 < (hdr hs j).2.1) (e : (hdr hs j).1 = some ⟨b, o, none⟩) (hc : Chg b (b + 1) w w') (ho : OwI w' b (b + 1) (some ⟨b, o, none⟩) (hdr hs j).2.1 ys) : OwT w' lo hi v n hs (xss.set j ys) := by
  have hx := h.len
  have hbl : lo ≤ b ∧ b < hi := by
    have := (h.rows j hj).1
    rw [e] at this
    exact this.blk hp
  refine ⟨⟨h.tbl.1, ?_⟩, h.blk, by simp [hx], fun i hi => ?_, h.sepT, h.sep⟩
  · rcases h.tbl.2 with h1 | ⟨g, cap, cur, e1, hb, hg, r⟩
    · exact .inl h1
    · have hlt : g < w.heap.size := by
        rcases Nat.lt_or_ge g w.heap.size with h | h
        · exact h
        · rw [Array.getElem?_eq_none h] at hg; cases hg
      have hne : g ≠ b := fun e2 => h.sepT j b o hj hp e (by rw [e1, ← e2]; rfl)
      exact .inr ⟨g, cap, cur, e1, hb, (hc.block g hlt (by omega)).trans hg, r⟩
  · rw [row_set (by omega)]
    by_cases hij : i = j
    · subst hij
      rw [if_pos rfl]
      exact ⟨by rw [e]; exact ho.wide (o := o) hbl.1 hbl.2, (h.rows i hi).2⟩
    · rw [if_neg hij]
      obtain ⟨r1, r2⟩ := h.rows i hi
      refine ⟨⟨r1.1, r1.2.1, fun hq => ?_⟩, r2⟩
      obtain ⟨b', o', e', hb0, hb1, hcl⟩ := r1.2.2 hq
      have hne : b' ≠ b := by
        rcases Nat.lt_or_ge i j with hlt | hge
        · exact h.sep i j b' o' b o hlt hj hq hp e' e
        · exact (h.sep j i b o b' o' (by omega) hi hp hq e e').symm
      have hlt : b' < w.heap.size := by
        have h1 := r1; rw [e'] at h1; exact h1.ltS hq
      have hk := hc.block b' hlt (by omega)
      exact ⟨b', o', e', hb0, hb1, fun t ht => ⟨(World.cell?_of_block (w := w) hk).trans (hcl t ht).1, (World.frozen?_of_block (w := w) hk).trans (hcl t ht).2⟩⟩
end
theorem OwT.made (w : World) : OwT (w.alloc (.cells #[] 22)) w.heap.size (w.heap.size + 1) (.slice (some ⟨w.heap.size, 0, none⟩) 0 0) 0 [] [] :=
  ⟨World.ownsRow_lit w #[] 0 (Nat.le_refl _) (by unfold maxLen; omega) rfl, fun b e => (by injection e with e; have e' : w.heap.size = b := e; omega), rfl, fun j h => absurd h (by omega), fun j b o h => absurd h (by omega), fun i j b o b' o' _ h => absurd h (by omega)⟩
theorem OwT.one (w : World) (T : TypeId) : OwT ((w.alloc (.cells #[] T)).alloc (.cells #[.slice (some ⟨w.heap.size, 0, none⟩) 0 0] 22)) w.heap.size (w.heap.size + 2) (.slice (some ⟨w.heap.size + 1, 0, none⟩) 1 1) 1 [(some ⟨w.heap.size, 0, none⟩, 0, 0)] [[]] := by
  refine ⟨?_, fun b e => (by injection e with e; have e' : w.heap.size + 1 = b := e; omega), rfl, fun j h => ?_, fun j b o h hp => ?_, fun i j b o b' o' hij h => absurd h (by omega)⟩
  · have := World.ownsRow_lit (base := w.heap.size) (e := 22) (size := 1) (w.alloc (.cells #[] T)) #[.slice (some ⟨w.heap.size, 0, none⟩) 0 0] 1 (by simp) (by unfold maxLen; omega) rfl
    rw [World.size_alloc] at this
    exact this
  · obtain rfl : j = 0 := by omega
    exact ⟨OwI.emp _ _ _ _, (show Hd (some ⟨w.heap.size, 0, none⟩) 0 0 from Hd.self (by unfold maxLen; omega))⟩
  · obtain rfl : j = 0 := by omega
    exact absurd hp (by simp [hdr])
/-- a call that hands back a new table -/
def RetT (xss : List (List Int)) (w : World) (e : Ending) (w' : World) : Prop :=
  ∃ A n c, e = .returned (.slice A n c) ∧ Hd A n c ∧ Below w.heap.size w w' ∧ ∃ hs, OwT w' w.heap.size w'.heap.size (.slice A n c) n hs xss
end Go.Proofs.YtnkcjekfjlbcdaaGreatDoor
namespace Go.Proofs.YtnkcjekfjlbcdaaGreatDoor
set_option linter.unusedVariables false
set_option linter.unusedSimpArgs false
set_option maxRecDepth 20000
open Go.RowKit
set_option maxHeartbeats 1000000
theorem own_hd {w : World} {base : Nat} {e : TypeId} {v : Value} {n : Nat} {xs : List Value} (h : w.ownsRow base e 1 v n xs) : ∃ A c, v = .slice A n c ∧ Hd A n c := by
  rcases h.2 with ⟨h1, h2⟩ | ⟨g, cap, cur, e, _, _, h1, h2, _⟩
  · subst h2; exact ⟨none, 0, h1, Hd.nil⟩
  · exact ⟨_, _, e, Hd.mk h1 h2⟩
theorem ofOwn' {w : World} {base n c : Nat} {A : Option Addr} {e : TypeId} {xs : List Int} (h : w.ownsRow base e 1 (.slice A n c) n (xs.map (Value.int .i64))) (hn : n ≤ maxLen) : OwI w base w.heap.size A n xs := OwI.ofOwn h hn
theorem clone_any {B : Nat} (A : Option Addr) (n c : Nat) (xs : List Int) (w : World) (h : RdI w B A n xs) (hd : Hd A n c) (hB : B ≤ w.heap.size) (hn : n ≤ 1073741824) :
    Calls Tryz.prog 46 #[.slice A n c] w (RetI xs w) := by
  have hnil := fun (w : World) (a : Option Addr) (n c n' c' : Nat) => Lib.run_eql_slice_nil (P := Tryz.prog) w 22 3 a n c n' c' Tryz.underlying22
  rcases hd with ⟨rfl, rfl, rfl⟩ | ⟨b, o, rfl, h1, h2⟩
  · have hx := h.nilOf
    subst hx
    go_enter Tryz.func46, Tryz.ntmps46
    go_wp2
    go_ret
    exact ⟨_, _, _, rfl, Hd.nil, Below.refl _ _, OwI.emp _ _ _ _⟩
  · go_enter Tryz.func46, Tryz.ntmps46
    go_wp2_with (at_builtin; refine wpList_apI (v := .slice (some ⟨w.heap.size, 0, none⟩) 0 0) (w := w.alloc (.cells #[] 3)) (lo := w.heap.size) (n := 0) (xs := []) rfl (.tmp 5) (.tmp 6) rfl rfl (World.ownsRow_lit w #[] 0 (Nat.le_refl _) (by unfold maxLen; omega) rfl) rfl (h.alloc hB _) (Hd.mk h1 h2) (by omega) (by simp) ?_; intro v1 w1 ho hg hv; obtain ⟨A', c', rfl, hd'⟩ := own_hd ho)
    have hr := ofOwn' ho (by unfold maxLen; omega)
    have hb : Below w.heap.size w w1 := ((Below.refl _ _).alloc (Nat.le_refl _) _).grown hg (by simp) (fun q e => by injection e with e; have e' : w.heap.size = q := e; omega)
    go_ret
    rw [Nat.zero_add] at *
    exact ⟨_, _, _, rfl, hd', hb, by simpa using hr⟩
/-- a part of a slice: the value once told; where it lies does not matter -/
theorem part_run {A : Option Addr} {n k lo hi : Nat} (L H : Int) (hL : L = lo) (hH : H = hi) (hd : Hd A n k) (h1 : lo ≤ hi) (h2 : hi ≤ n) :
    ∃ A', Hd A' (hi - lo) (k - lo) ∧ (∀ (w : World) (B : Nat) (d : List Int), RdI w B A n d → RdI w B A' (hi - lo) (sub d lo (hi - lo))) ∧
      ∀ w : World, Sem.run Tryz.prog (Instr.sliceAt 22 (.slice A n k) (some (.int .i64 L)) (some (.int .i64 H)) none) w = .ok (.slice A' (hi - lo) (k - lo)) w := by
  subst hL hH
  rcases hd with ⟨rfl, rfl, rfl⟩ | ⟨b, o, rfl, h3, h4⟩
  · have e1 : hi = 0 := by omega
    have e2 : lo = 0 := by omega
    subst e1 e2
    refine ⟨none, Hd.nil, fun w B d h => ?_, fun w => ?_⟩
    · have := h.nilOf; subst this; exact h
    · rw [run_sliceAt_slice _ _ _ _ _ _ Tryz.underlying22, run_slice_lh _ _ _ _ _ Tryz.underlying22 _ _ _ _ (by omega) (by omega) (by omega)]
      rfl
  · unfold maxLen at h4
    by_cases e : k = lo
    · refine ⟨some ⟨b, o, none⟩, Hd.mk (by omega) (by unfold maxLen; omega), fun w B d h => ?_, fun w => ?_⟩
      · have e1 : hi - lo = 0 := by omega
        rw [e1]
        have : sub d lo 0 = [] := by simp [sub]
        rw [this]; exact RdI.emp _ _ _
      · rw [run_sliceAt_slice _ _ _ _ _ _ Tryz.underlying22, run_slice_lh _ _ _ _ _ Tryz.underlying22 _ _ _ _ (by omega) (by omega) (by omega)]
        simp only [Int.toNat_natCast, sliced, if_pos e]
        rfl
    · refine ⟨some ⟨b, o + lo, none⟩, Hd.mk (by omega) (by unfold maxLen; omega), fun w B d h => h.part (by omega), fun w => ?_⟩
      rw [run_sliceAt_slice _ _ _ _ _ _ Tryz.underlying22, run_slice_lh _ _ _ _ _ Tryz.underlying22 _ _ _ _ (by omega) (by omega) (by omega)]
      simp only [Int.toNat_natCast, sliced, if_neg e]
      have : (sizeOf (Program.elem Tryz.prog 22)).run Tryz.prog w = .ok 1 w := by kernel_rfl
      rw [this]
      simp only [Result.andThen, Option.map_some, add_mk, Nat.mul_one]
end Go.Proofs.YtnkcjekfjlbcdaaGreatDoor
namespace Go.Proofs.YtnkcjekfjlbcdaaGreatDoor
set_option linter.unusedVariables false
set_option linter.unusedSimpArgs false
set_option maxRecDepth 20000
open Go.RowKit
theorem step_apI {ops : Array Oper} {o : Oper} {a : Act} {K : Act → World → Prop} {Q : Exit → Act → World → Prop} {E : Prop} {w : World} {B lo n m c : Nat} {A : Option Addr} {xs ys : List Int} {v : Value} (hgd : o.guard = none) (s x : Operand)
    (ho : o.op = .call { callee := .builtin .append, args := #[s, x], argTypes := #[22, 22] })
    (hs : a.eval s = v) (hown : w.ownsRow lo 3 1 v n (xs.map (Value.int .i64))) (hx : a.eval x = .slice A m c) (hr : RdI w B A m ys) (hd : Hd A m c) (hn : n + m ≤ 1073741824) (hlo : lo ≤ w.heap.size)
    (h : ∀ v' w', w'.ownsRow lo 3 1 v' (n + m) ((xs ++ ys).map (Value.int .i64)) → w.grownBy w' v.ownBlock → (v'.ownBlock = v.ownBlock ∨ v'.ownBlock = some w.heap.size) → K (a.put o.dst v') w') :
    if Region.wanted o (yielded ops a.tmps) = true then Oper.wp Tryz.prog o a w K Q else E := by
  obtain ⟨i, h2, h3, h4, h5⟩ := info_parts Tryz.infoI
  have hw : Region.wanted o (yielded ops a.tmps) = true := by simp [Region.wanted, hgd]
  rw [if_pos hw]
  have HR : ∃ v' w', (Builtin.append_ #[22, 22] o.type #[v, .slice A m c]).run Tryz.prog w = .ok v' w' ∧ w'.ownsRow lo 3 1 v' (n + m) ((xs ++ ys).map (Value.int .i64)) ∧ w.grownBy w' v.ownBlock ∧ (v'.ownBlock = v.ownBlock ∨ v'.ownBlock = some w.heap.size) := by
    rcases A with _ | ad
    · have hm : m = 0 := by
        rcases Nat.eq_zero_or_pos m with h0 | h0
        · exact h0
        · obtain ⟨b, o', e, _⟩ := hr.2.2 h0; cases e
      subst hm
      have hy := hr.nilOf
      subst hy
      have hc : c = 0 := by
        rcases hd with ⟨_, _, e⟩ | ⟨b, o', e, _⟩
        · exact e
        · cases e
      subst hc
      exact ⟨v, w, run_append_owned_none (P := Tryz.prog) (w := w) lo 22 o.type 3 i 1 Tryz.underlying22 h2 v n _ hown, by simpa using hown, grown_refl _ _, .inl rfl⟩
    · rcases Nat.eq_zero_or_pos m with h0 | h0
      · subst h0
        have hy := hr.nilOf
        subst hy
        have := run_append_at (P := Tryz.prog) w lo 22 o.type 3 i (.int .i64 0) Tryz.underlying22 h2 h3 h4 rfl v n _ hown ad 0 c [] rfl (fun j u h => by simp at h) (fun u h => by simp at h) (by rw [h5]; omega) (by rw [h5]; omega) hlo
        simpa using this
      · obtain ⟨b, o', e, hb, hc⟩ := hr.2.2 h0
        injection e with e
        subst e
        have hl := hr.1
        have := run_append_at (P := Tryz.prog) w lo 22 o.type 3 i (.int .i64 0) Tryz.underlying22 h2 h3 h4 rfl v n _ hown ⟨b, o', none⟩ m c (ys.map (Value.int .i64)) (by simpa using hl) (fun j u hj => by
          have hjl : j < ys.length := by
            rcases Nat.lt_or_ge j ys.length with h | h
            · exact h
            · rw [List.getElem?_eq_none (by simpa using h)] at hj; cases hj
          rw [add_mk, hc j (by omega)]
          simp [hjl] at hj
          rw [← hj, gI_lt hjl]) (fun u hu => by
          obtain ⟨q, _, rfl⟩ := List.mem_map.1 hu
          rfl) (by rw [h5]; omega) (by rw [h5]; omega) hlo
        simpa using this
  obtain ⟨v', w', hrun, e1, e2, e3⟩ := HR
  unfold Oper.wp execOp
  simp only [ho, resolve, invoke, builtin, Sem.run_bind, Sem.run_pure, Result.andThen_ok, List.map_toArray, List.map_cons, List.map_nil, hs, hx, hrun]
  exact h v' w' e1 e2 e3
theorem step_apT {ops : Array Oper} {o : Oper} {a : Act} {K : Act → World → Prop} {Q : Exit → Act → World → Prop} {E : Prop} {w : World} {lo n c b : Nat} {hs : List Value} {u v : Value} (hgd : o.guard = none) (s x : Operand)
    (ho : o.op = .call { callee := .builtin .append, args := #[s, x], argTypes := #[146, 146] })
    (hs' : a.eval s = v) (hown : w.ownsRow lo 22 1 v n hs) (hx : a.eval x = .slice (some ⟨b, 0, none⟩) 1 c) (hr : w.cell? ⟨b, 0, none⟩ = some u) (hu : u.oneCell' = true) (hn : n ≤ 1073741824) (hlo : lo ≤ w.heap.size)
    (h : ∀ v' w', w'.ownsRow lo 22 1 v' (n + 1) (hs ++ [u]) → w.grownBy w' v.ownBlock → (v'.ownBlock = v.ownBlock ∨ v'.ownBlock = some w.heap.size) → K (a.put o.dst v') w') :
    if Region.wanted o (yielded ops a.tmps) = true then Oper.wp Tryz.prog o a w K Q else E := by
  obtain ⟨i, h2, h3, h4, h5⟩ := info_parts Tryz.infoS
  have hw : Region.wanted o (yielded ops a.tmps) = true := by simp [Region.wanted, hgd]
  rw [if_pos hw]
  obtain ⟨v', w', hrun, e1, e2, e3⟩ := run_append_at (P := Tryz.prog) w lo 146 o.type 22 i (.slice none 0 0) Tryz.underlying146 h2 h3 h4 rfl v n hs hown ⟨b, 0, none⟩ 1 c [u] rfl (fun j q hj => by
    rcases j with _ | j
    · simp at hj; subst hj; rw [add_mk]; exact hr
    · simp at hj) (fun q hq => by simp at hq; subst hq; exact hu) (by rw [h5]; omega) (by rw [h5]; omega) hlo
  unfold Oper.wp execOp
  simp only [ho, resolve, invoke, builtin, Sem.run_bind, Sem.run_pure, Result.andThen_ok, List.map_toArray, List.map_cons, List.map_nil, hs', hx, hrun]
  exact h v' w' e1 e2 e3
end Go.Proofs.YtnkcjekfjlbcdaaGreatDoor
