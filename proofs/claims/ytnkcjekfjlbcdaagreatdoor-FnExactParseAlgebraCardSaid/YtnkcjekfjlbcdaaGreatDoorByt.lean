/- Bytes of the call's own that grow by strings: begun by a conversion, read back by one. No condition but what each theorem names. -/
import Derived.Test.YtnkcjekfjlbcdaaGreatDoorFmsW
import Derived.Lib.FrozenHead
import Derived.Lib.ConvBytes
import Derived.Laws.IdiomStrings
namespace Go.Proofs.YtnkcjekfjlbcdaaGreatDoor
set_option linter.unusedVariables false
set_option linter.unusedSimpArgs false
set_option maxRecDepth 20000
open Go Go.RowKit
set_option maxHeartbeats 1000000
/-- no cell ahead of n is frozen -/
def FreeTo (n : Nat) (fz : Nat × Nat) : Prop := ∀ j, j < n → ¬ (fz.1 ≤ j ∧ j < fz.2)
theorem run_storeCells_free (P : Program) (g o : Nat) (t : TypeId) (fz : Nat × Nat) : ∀ (vs : List Value) (i : Nat) (cur : Array Value) (w : World), w.heap[g]? = some (.cells cur t fz) → FreeTo cur.size fz → o + i + vs.length ≤ cur.size → (∀ v ∈ vs, v.oneCell' = true) →
    (storeCells ⟨g, o, none⟩ vs i).run P w = .ok () (w.setRow g (cur.toList.take (o + i) ++ vs ++ cur.toList.drop (o + i + vs.length)).toArray)
  | [], i, cur, w, hg, _, _, _ => by
    simp only [storeCells, List.append_nil, List.length_nil, Nat.add_zero, List.take_append_drop, Array.toArray_toList]
    rw [setRow_self w g cur t fz hg]
    rfl
  | v :: rest, i, cur, w, hg, hfz, hl, h1 => by
    have hi : o + i < cur.size := by simp at hl; omega
    have hadd : (⟨g, o, none⟩ : Addr).add i = ⟨g, o + i, none⟩ := by unfold Addr.add; split <;> simp_all
    have hcell : w.cell? ⟨g, o + i, none⟩ = some cur[o + i] := by simp [World.cell?, hg, hi]
    have hfro : w.frozen? ⟨g, o + i, none⟩ = false := by
      have := hfz (o + i) hi
      obtain ⟨lo, hi'⟩ := fz
      simp only [World.frozen?, hg, Bool.and_eq_false_iff, decide_eq_false_iff_not]
      simp only at this
      omega
    have hst : (store ((⟨g, o, none⟩ : Addr).add i) v).run P w = .ok () (w.setRow g (cur.setIfInBounds (o + i) v)) := by
      rw [hadd, run_store P w _ v _ (h1 v (by simp)), hcell]
      simp [hfro, setCell_eq_setRow w g (o + i) cur t fz v hg]
    have ih := run_storeCells_free P g o t fz rest (i + 1) (cur.setIfInBounds (o + i) v) (w.setRow g (cur.setIfInBounds (o + i) v)) (setRow_heap w g cur _ t _ hg) (by rw [Array.size_setIfInBounds]; exact hfz) (by simp at hl ⊢; omega) (fun x hx => h1 x (by simp [hx]))
    simp only [storeCells, Sem.run_bind, hst, Result.andThen_ok, ih, setRow_setRow]
    congr 3
    have e := list_seg_step cur.toList (o + i) v rest (by simp at hl ⊢; omega)
    simpa [Array.toList_setIfInBounds, Nat.add_assoc] using e
def byV (bs : List UInt8) : List Value := bs.map fun b => Value.int .u8 b.toNat
theorem strCells_mk (bs : List UInt8) : Lib.strCells ⟨bs.toArray⟩ = byV bs := by simp [Lib.strCells, byV]
/-- the slice value v is the call's own and reads as the bytes bs -/
def OwnB (w : World) (base : Nat) (e : TypeId) (v : Value) (bs : List UInt8) : Prop :=
  ∃ g cap cur fz, v = .slice (some ⟨g, 0, none⟩) bs.length cap ∧ base ≤ g ∧ w.heap[g]? = some (.cells cur e fz) ∧ FreeTo cur.size fz ∧ bs.length ≤ cap ∧ cap ≤ maxLen ∧ cur.size = cap ∧ cur.toList.take bs.length = byV bs
theorem OwnB.lt {w : World} {base : Nat} {e : TypeId} {v : Value} {bs : List UInt8} (h : OwnB w base e v bs) : ∀ k, v.ownBlock = some k → base ≤ k ∧ k < w.heap.size := by
  intro k hk
  obtain ⟨g, cap, cur, fz, rfl, hb, hg, _⟩ := h
  simp [Value.ownBlock] at hk
  subst hk
  exact ⟨hb, (Array.getElem?_eq_some_iff.1 hg).1⟩
theorem OwnB.cell {w : World} {base : Nat} {e : TypeId} {v : Value} {bs : List UInt8} (h : OwnB w base e v bs) : ∃ g cap, v = .slice (some ⟨g, 0, none⟩) bs.length cap ∧ bs.length ≤ cap ∧ ∀ j (hj : j < bs.length), w.cell? ⟨g, j, none⟩ = some (.int .u8 (bs[j].toNat : Int)) := by
  obtain ⟨g, cap, cur, fz, rfl, hb, hg, _, h1, _, _, ht⟩ := h
  refine ⟨g, cap, rfl, h1, fun j hj => ?_⟩
  rw [cell_of_row w g j cur e fz hg]
  have e1 : (cur.toList.take bs.length)[j]? = cur[j]? := by rw [List.getElem?_take, if_pos hj]; simp
  rw [← e1, ht]
  simp [byV, hj]
theorem byV_len (bs : List UInt8) : (byV bs).length = bs.length := by simp [byV]
theorem byV_app (a b : List UInt8) : byV (a ++ b) = byV a ++ byV b := by simp [byV]
theorem byV_one (bs : List UInt8) : ∀ u ∈ byV bs, u.oneCell' = true := by
  intro u hu
  obtain ⟨q, _, rfl⟩ := List.mem_map.1 hu
  rfl
theorem run_append_byt {P : Program} (w : World) (base : Nat) (t u ty e : TypeId) (i : TypeInfo) (ht : P.underlying t = some (.slice e)) (hu : P.underlying u = some .string) (hi : P.info? e = some i) (hz : i.zero = some (.int .u8 0))
    (hsize : i.size = 1) (hby : i.bytes = 1) (v : Value) (bs ys : List UInt8) (hown : OwnB w base e v bs) (hn : bs.length + ys.length ≤ 1073741824) (hbase : base ≤ w.heap.size) :
    ∃ v' w', (Builtin.append_ #[t, u] ty #[v, .string ⟨ys.toArray⟩]).run P w = .ok v' w' ∧ OwnB w' base e v' (bs ++ ys) ∧ w.grownBy w' v.ownBlock ∧ (v'.ownBlock = v.ownBlock ∨ v'.ownBlock = some w.heap.size) := by
  obtain ⟨g, cap, cur, fz, rfl, hbg, hg, hfz, hnc, hcm, hcs, htake⟩ := hown
  have hss : (⟨ys.toArray⟩ : ByteArray).size = ys.length := by simp [ByteArray.size]
  by_cases hroom : bs.length + ys.length ≤ cap
  · have hf := Lib.run_firstCells_string (P := P) w 1 ⟨ys.toArray⟩
    rw [strCells_mk, hss] at hf
    have hst := run_storeCells_free P g bs.length e fz (byV ys) 0 cur w hg hfz (by rw [byV_len]; omega) (byV_one ys)
    simp only [Nat.add_zero, byV_len] at hst
    refine ⟨.slice (some ⟨g, 0, none⟩) (bs.length + ys.length) cap, _, by simp [Builtin.append_, run_underlying ht, run_underlying hu, sizeOf, typeInfo, hi, hsize, Builtin.lenOf, hroom, hss, hf, Addr.add_lit, hst]; rfl, ⟨g, cap, _, fz, by rw [List.length_append], hbg, setRow_heap w g cur _ e _ hg, ?_, by rw [List.length_append]; exact hroom, hcm, ?_, ?_⟩, ⟨rfl, rfl, rfl, by simp, fun k _ hk => setRow_other w g k _ (fun e => hk (by simp [Value.ownBlock, e]))⟩, .inl rfl⟩
    · have : (cur.toList.take bs.length ++ (byV ys ++ cur.toList.drop (bs.length + ys.length))).toArray.size = cur.size := by
        simp only [List.size_toArray, List.length_append, List.length_take, List.length_drop, Array.length_toList, byV_len]
        omega
      rw [this]; exact hfz
    · simp only [List.size_toArray, List.length_append, List.length_take, List.length_drop, Array.length_toList, byV_len]
      omega
    · rw [htake, byV_app]
      have hl : (bs ++ ys).length = (byV bs ++ byV ys).length := by simp [byV]
      rw [hl, ← List.append_assoc]
      exact List.take_left
  · have holds : ∀ j u, (byV bs)[j]? = some u → w.cell? ((⟨g, 0, none⟩ : Addr).add j) = some u := fun j u hj => by
      have hadd : (⟨g, 0, none⟩ : Addr).add j = ⟨g, j, none⟩ := by unfold Addr.add; split <;> simp_all
      rw [hadd, cell_of_row w g j cur e fz hg]
      rw [← htake, List.getElem?_take] at hj
      split at hj
      · simpa using hj
      · cases hj
    have hr := Lib.run_append_grow_string (P := P) w t u ty e i (.int .u8 0) ht hu hi hz ⟨g, 0, none⟩ bs.length cap (byV bs) (by rw [hsize, byV_len]; omega) holds ⟨ys.toArray⟩ (by omega) (by rw [hss]; omega) (by rw [hby, hss]; exact growslice_fits (by omega) (by omega))
    rw [strCells_mk, hss] at hr
    have hge := grownCap_ge w (bs.length + ys.length) cap e
    have hcm2 : grownCap w (bs.length + ys.length) cap e ≤ maxLen := grownCap_le_maxLen w (bs.length + ys.length) cap e (by unfold maxLen; omega)
    refine ⟨_, _, hr, ⟨w.heap.size, _, _, (0, 0), by rw [List.length_append], hbase, heap_alloc_new w.drew _, fun j _ h => by simp at h, by rw [List.length_append]; exact hge, hcm2, ?_, ?_⟩, ⟨rfl, rfl, rfl, by simp, fun k hk _ => Below.heap_alloc w.drew _ k hk⟩, .inr rfl⟩
    · have hz1 : (Value.int IntKind.u8 0).cells.size = 1 := rfl
      simp only [Array.size_append, List.size_toArray, size_zeroCells, hz1, byV_len]
      omega
    · simp only [Array.toList_append, List.append_assoc]
      rw [← List.append_assoc, ← byV_app, ← byV_len (bs ++ ys)]
      exact List.take_left
theorem Tryz.infoB : (Tryz.prog.info? 5).map (fun i => (i.zero, i.size, i.bytes)) = some (some (.int .u8 0), 1, 1) := by kernel_rfl
theorem run_apB {w : World} {base : Nat} {ty : TypeId} {v : Value} {bs ys : List UInt8} (hown : OwnB w base 5 v bs) (hn : bs.length + ys.length ≤ 1073741824) (hbase : base ≤ w.heap.size) :
    ∃ v' w', (Builtin.append_ #[54, 9] ty #[v, .string ⟨ys.toArray⟩]).run Tryz.prog w = .ok v' w' ∧ OwnB w' base 5 v' (bs ++ ys) ∧ w.grownBy w' v.ownBlock ∧ (v'.ownBlock = v.ownBlock ∨ v'.ownBlock = some w.heap.size) := by
  obtain ⟨i, h2, h3, h4, h5⟩ := info_parts Tryz.infoB
  exact run_append_byt w base _ _ ty _ i Tryz.underlying54 Tryz.underlying9 h2 h3 h4 h5 v bs ys hown hn hbase
theorem wpList_apB {ops : Array Oper} {rest : List Oper} {o : Oper} {a : Act} {Q : Exit → Act → World → Prop} {w : World} {base : Nat} {v : Value} {bs ys : List UInt8} (hgd : o.guard = none) (s x : Operand)
    (ho : o.op = .call { callee := .builtin .append, args := #[s, x], argTypes := #[54, 9] })
    (hs' : a.eval s = v) (hown : OwnB w base 5 v bs) (hx : a.eval x = .string ⟨ys.toArray⟩) (hn : bs.length + ys.length ≤ 1073741824) (hbase : base ≤ w.heap.size)
    (h : ∀ v' w', OwnB w' base 5 v' (bs ++ ys) → w.grownBy w' v.ownBlock → (v'.ownBlock = v.ownBlock ∨ v'.ownBlock = some w.heap.size) → wpList Tryz.prog ops Q rest (a.put o.dst v') w') :
    wpList Tryz.prog ops Q (o :: rest) a w := by
  refine wpList_plain hgd fun K hK => ?_
  obtain ⟨v', w', hrun, e1, e2, e3⟩ := run_apB (ty := o.type) hown hn hbase
  unfold Oper.wp execOp
  simp only [ho, resolve, invoke, builtin, Sem.run_bind, Sem.run_pure, Result.andThen_ok, List.map_toArray, List.map_cons, List.map_nil, hs', hx, hrun]
  exact hK _ _ (h v' w' e1 e2 e3)
/-- the world behind '[]byte(s)', and what the value is -/
theorem conv_own (w : World) (s : List UInt8) (hn : s.length ≤ 1073741824) : OwnB (Lib.bytesWorld w 5 ⟨s.toArray⟩) w.heap.size 5 (.slice (some ⟨w.heap.size, 0, none⟩) s.length (grownCap w s.length 0 5)) s := by
  have hge := grownCap_ge w s.length 0 5
  have hcm : grownCap w s.length 0 5 ≤ maxLen := grownCap_le_maxLen w s.length 0 5 (by unfold maxLen; omega)
  have hss : (⟨s.toArray⟩ : ByteArray).size = s.length := by simp [ByteArray.size]
  have hsz : (Lib.bytesCells w 5 ⟨s.toArray⟩).size = grownCap w s.length 0 5 := by
    unfold Lib.bytesCells
    rw [Array.size_append, Array.size_replicate, Array.size_map, hss]
    simp
    omega
  refine ⟨w.heap.size, _, _, _, rfl, Nat.le_refl _, Lib.bytesWorld_at_new w _ _, fun j hj h => by simp only at h; omega, hge, hcm, hsz, ?_⟩
  unfold Lib.bytesCells
  rw [Array.toList_append]
  have : ((⟨s.toArray⟩ : ByteArray).data.map fun b => Value.int .u8 (b.toNat : Int)).toList = byV s := by simp [byV]
  rw [this, ← byV_len s]
  exact List.take_left
theorem below_bytes (w : World) (e : TypeId) (s : ByteArray) : Below w.heap.size w (Lib.bytesWorld w e s) :=
  ⟨rfl, rfl, rfl, by rw [Lib.bytesWorld_size]; omega, fun k hk => Lib.bytesWorld_at_old w e s k hk⟩
theorem run_str2b (w : World) (s : List UInt8) : (convert 9 54 (.string ⟨s.toArray⟩)).run Tryz.prog w = .ok (.slice (some ⟨w.heap.size, 0, none⟩) s.length (grownCap w s.length 0 5)) (Lib.bytesWorld w 5 ⟨s.toArray⟩) := by
  have := Lib.run_convert_string_bytes (P := Tryz.prog) w 9 54 5 ⟨s.toArray⟩ Tryz.underlying9 Tryz.underlying54 Tryz.underlying5
  simpa [ByteArray.size] using this
theorem run_b2str {w : World} {base : Nat} {e : TypeId} {v : Value} {bs : List UInt8} (h : OwnB w base e v bs) : (convert 54 9 v).run Tryz.prog w = .ok (.string ⟨bs.toArray⟩) w := by
  obtain ⟨g, cap, rfl, _, hc⟩ := h.cell
  exact run_convert_bytes_back w _ _ 5 ⟨g, 0, none⟩ cap bs Tryz.underlying54 Tryz.underlying5 Tryz.underlying9 fun j hj => by rw [add_mk, Nat.zero_add]; exact hc j hj
/-- the bytes bs lie in a block of the call's own (g, or one made after w0); since w0 nothing else has turned -/
structure GrwB (g : Nat) (w0 wr : World) (v : Value) (bs : List UInt8) : Prop where
  own : OwnB wr g 5 v bs
  chg : Chg g (g + 1) w0 wr
  blk : ∀ b, v.ownBlock = some b → b = g ∨ w0.heap.size ≤ b
  lt : g < w0.heap.size
section
variable {g : Nat} {w0 wr w1 w3 : World} {v v' : Value} {bs ys : List UInt8}
theorem GrwB.start (w : World) (s : List UInt8) (hn : s.length ≤ 1073741824) : GrwB w.heap.size (Lib.bytesWorld w 5 ⟨s.toArray⟩) (Lib.bytesWorld w 5 ⟨s.toArray⟩) (.slice (some ⟨w.heap.size, 0, none⟩) s.length (grownCap w s.length 0 5)) s :=
  ⟨conv_own w s hn, Chg.refl _ _ _, fun b e => .inl (by injection e with e; exact e.symm), by rw [Lib.bytesWorld_size]; omega⟩
theorem GrwB.size (h : GrwB g w0 wr v bs) : w0.heap.size ≤ wr.heap.size := h.chg.size
theorem GrwB.step (h : GrwB g w0 wr v bs) (hb : Below wr.heap.size wr w1) : GrwB g w0 w1 v bs := by
  refine ⟨?_, h.chg.trans (Chg.ofBelow hb (Nat.le_refl _)), h.blk, h.lt⟩
  obtain ⟨g', cap, cur, fz, e1, h0, hg, r⟩ := h.own
  have hlt : g' < wr.heap.size := by
    rcases Nat.lt_or_ge g' wr.heap.size with h | h
    · exact h
    · rw [Array.getElem?_eq_none h] at hg; cases hg
  exact ⟨g', cap, cur, fz, e1, h0, (hb.block g' hlt).trans hg, r⟩
theorem GrwB.push (h : GrwB g w0 w1 v bs) (hown : OwnB w3 g 5 v' (bs ++ ys)) (hg : w1.grownBy w3 v.ownBlock) (hv : v'.ownBlock = v.ownBlock ∨ v'.ownBlock = some w1.heap.size) : GrwB g w0 w3 v' (bs ++ ys) := by
  have hs := h.chg.size
  have hgs := hg.size
  have hc := h.chg
  refine ⟨hown, ⟨hg.os.trans hc.os, hg.tape.trans hc.tape, hg.output.trans hc.output, by omega, fun k hk hh => (hg.block k (by omega) fun e => ?_).trans (hc.block k hk hh)⟩, fun b e => ?_, h.lt⟩
  · have := h.blk k e.symm
    have := h.lt
    omega
  · rcases hv with hv | hv
    · exact h.blk b (hv ▸ e)
    · rw [hv] at e
      injection e with e
      omega
theorem GrwB.re (h : GrwB g w0 wr v bs) (hv : v.ownBlock = some g) : GrwB g wr wr v bs :=
  ⟨h.own, Chg.refl _ _ _, fun b e => .inl (by rw [hv] at e; injection e with e; exact e.symm), Nat.lt_of_lt_of_le h.lt h.chg.size⟩
theorem GrwB.below (h : GrwB g w0 wr v bs) : Below g w0 wr := h.chg.below (Nat.le_of_lt h.lt)
end
end Go.Proofs.YtnkcjekfjlbcdaaGreatDoor
