/- A list of the call's own that grows by append, number by number: one word for what a loop's relation needs. No condition but what each theorem names. -/
import Derived.Test.YtnkcjekfjlbcdaaGreatDoorTbl
import Derived.Test.YtnkcjekfjlbcdaaGreatDoorRwo
namespace Go.Proofs.YtnkcjekfjlbcdaaGreatDoor
set_option linter.unusedVariables false
set_option linter.unusedSimpArgs false
set_option maxRecDepth 20000
open Go.RowKit
/-- the list xs lies in a block of the call's own (g, or one made after w0); since w0 nothing else has turned -/
structure Grw (g : Nat) (w0 wr : World) (v : Value) (n : Nat) (xs : List Int) : Prop where
  own : wr.ownsRow g 3 1 v n (xs.map (Value.int .i64))
  chg : Chg g (g + 1) w0 wr
  blk : ∀ b, v.ownBlock = some b → b = g ∨ w0.heap.size ≤ b
  lt : g < w0.heap.size
section
variable {g n : Nat} {w0 wr w1 w3 : World} {v v' : Value} {xs : List Int}
theorem Grw.start' (w : World) (T : TypeId) {w1 : World} (hT : T = 3) (hb : Below (w.heap.size + 1) (w.alloc (.cells #[] T)) w1) : Grw w.heap.size w1 w1 (.slice (some ⟨w.heap.size, 0, none⟩) 0 0) 0 [] := by
  subst hT
  have h := World.ownsRow_lit (base := w.heap.size) (e := 3) (size := 1) w #[] 0 (Nat.le_refl _) (by unfold maxLen; omega) rfl
  have hs := hb.size
  rw [World.size_alloc] at hs
  refine ⟨⟨rfl, ?_⟩, Chg.refl _ _ _, fun b e => .inl (by injection e with e; exact e.symm), by omega⟩
  rcases h.2 with ⟨h1, _⟩ | ⟨g, cap, cur, e1, h0, hg, r⟩
  · cases h1
  · have e2 := e1
    injection e2 with e2; injection e2 with e2; injection e2 with e2
    exact .inr ⟨g, cap, cur, e1, h0, (hb.block g (by omega)).trans hg, r⟩
theorem Grw.start (w : World) (T : TypeId) (hT : T = 3) : Grw w.heap.size (w.alloc (.cells #[] T)) (w.alloc (.cells #[] T)) (.slice (some ⟨w.heap.size, 0, none⟩) 0 0) 0 [] := Grw.start' w T hT (Below.refl _ _)
theorem Grw.size (h : Grw g w0 wr v n xs) : w0.heap.size ≤ wr.heap.size := h.chg.size
theorem Grw.step (h : Grw g w0 wr v n xs) (hb : Below wr.heap.size wr w1) : Grw g w0 w1 v n xs := by
  refine ⟨⟨h.own.1, ?_⟩, h.chg.trans (Chg.ofBelow hb (Nat.le_refl _)), h.blk, h.lt⟩
  rcases h.own.2 with h1 | ⟨g', cap, cur, e1, h0, hg, r⟩
  · exact .inl h1
  · have hlt : g' < wr.heap.size := by
      rcases Nat.lt_or_ge g' wr.heap.size with h | h
      · exact h
      · rw [Array.getElem?_eq_none h] at hg; cases hg
    exact .inr ⟨g', cap, cur, e1, h0, (hb.block g' hlt).trans hg, r⟩
theorem Grw.push {x : Int} {T : TypeId} (h : Grw g w0 w1 v n xs) (hown : w3.ownsRow g 3 1 v' (n + 1) ((xs ++ [x]).map (Value.int .i64))) (hg : (w1.alloc (.cells #[.int .i64 x] T)).grownBy w3 v.ownBlock)
    (hv : v'.ownBlock = v.ownBlock ∨ v'.ownBlock = some (w1.alloc (.cells #[.int .i64 x] T)).heap.size) : Grw g w0 w3 v' (n + 1) (xs ++ [x]) := by
  have hs := h.chg.size
  have hgs := hg.size
  rw [World.size_alloc] at hgs
  have hc := h.chg.alloc (.cells #[.int .i64 x] T)
  refine ⟨hown, ⟨hg.os.trans hc.os, hg.tape.trans hc.tape, hg.output.trans hc.output, by omega, fun k hk hh => (hg.block k (by rw [World.size_alloc]; omega) fun e => ?_).trans (hc.block k hk hh)⟩, fun b e => ?_, h.lt⟩
  · have := h.blk k e.symm
    have := h.lt
    omega
  · rcases hv with hv | hv
    · exact h.blk b (hv ▸ e)
    · rw [hv, World.size_alloc] at e
      injection e with e
      omega
theorem Grw.ret (h : Grw g w0 wr v n xs) (hn : n ≤ 1073741824) : ∃ A c, v = .slice A n c ∧ Hd A n c ∧ OwI wr g wr.heap.size A n xs := by
  obtain ⟨A, c, rfl, hd⟩ := own_hd h.own
  exact ⟨A, c, rfl, hd, ofOwn' h.own (by unfold maxLen; omega)⟩
theorem Grw.below (h : Grw g w0 wr v n xs) : Below g w0 wr := h.chg.below (Nat.le_of_lt h.lt)
end
end Go.Proofs.YtnkcjekfjlbcdaaGreatDoor
namespace Go.Proofs.YtnkcjekfjlbcdaaGreatDoor
set_option linter.unusedVariables false
set_option linter.unusedSimpArgs false
set_option maxRecDepth 20000
open Go.RowKit
/-- the table xss lies in a block of the call's own (g, or one made after w0), its rows in blocks of their own; since w0 nothing else has turned -/
structure GrwT (g : Nat) (w0 wr : World) (v : Value) (n : Nat) (xss : List (List Int)) : Prop where
  own : ∃ hs hi, OwT wr g hi v n hs xss ∧ hi ≤ wr.heap.size
  chg : Chg g (g + 1) w0 wr
  blk : ∀ b, v.ownBlock = some b → b = g ∨ w0.heap.size ≤ b
  lt : g < w0.heap.size
section
variable {g n m c lo2 : Nat} {w0 wr w1 w3 : World} {v v' : Value} {xss : List (List Int)} {ys : List Int} {A : Option Addr}
theorem GrwT.start' (w : World) (T : TypeId) {w1 : World} (hT : T = 22) (hb : Below (w.heap.size + 1) (w.alloc (.cells #[] T)) w1) : GrwT w.heap.size w1 w1 (.slice (some ⟨w.heap.size, 0, none⟩) 0 0) 0 [] := by
  subst hT
  have hs := hb.size
  rw [World.size_alloc] at hs
  exact ⟨⟨[], w.heap.size + 1, (OwT.made w).below hb (Nat.le_refl _), hs⟩, Chg.refl _ _ _, fun b e => .inl (by injection e with e; exact e.symm), by omega⟩
theorem GrwT.start (w : World) (T : TypeId) (hT : T = 22) : GrwT w.heap.size (w.alloc (.cells #[] T)) (w.alloc (.cells #[] T)) (.slice (some ⟨w.heap.size, 0, none⟩) 0 0) 0 [] := GrwT.start' w T hT (Below.refl _ _)
theorem GrwT.size (h : GrwT g w0 wr v n xss) : w0.heap.size ≤ wr.heap.size := h.chg.size
theorem GrwT.step (h : GrwT g w0 wr v n xss) (hb : Below wr.heap.size wr w1) : GrwT g w0 w1 v n xss := by
  obtain ⟨hs, hi, hT, hh⟩ := h.own
  exact ⟨⟨hs, hi, hT.below hb hh, Nat.le_trans hh hb.size⟩, h.chg.trans (Chg.ofBelow hb (Nat.le_refl _)), h.blk, h.lt⟩
/-- the table's header row, for append -/
theorem GrwT.tbl (h : GrwT g w0 wr v n xss) : ∃ hs, hs.length = n ∧ wr.ownsRow g 22 1 v n (hs.map slv) ∧ ∃ hi, OwT wr g hi v n hs xss ∧ hi ≤ wr.heap.size := by
  obtain ⟨hs, hi, hT, hh⟩ := h.own
  exact ⟨hs, hT.hlen, hT.tbl, hi, hT, hh⟩
theorem GrwT.push {T : TypeId} {hs : List Hdr} {hi : Nat} (h : GrwT g w0 wr v n xss) (hT : OwT wr g hi v n hs xss) (hhi : hi ≤ wr.heap.size) (hb : Below wr.heap.size wr w1) (hr : OwI w1 lo2 w1.heap.size A m ys) (hlo2 : wr.heap.size ≤ lo2) (hd : Hd A m c)
    (hown : w3.ownsRow g 22 1 v' (n + 1) (hs.map slv ++ [.slice A m c])) (hg : (w1.alloc (.cells #[.slice A m c] T)).grownBy w3 v.ownBlock) (hv : v'.ownBlock = v.ownBlock ∨ v'.ownBlock = some (w1.alloc (.cells #[.slice A m c] T)).heap.size) :
    GrwT g w0 w3 v' (n + 1) (xss ++ [ys]) := by
  have hsz := h.chg.size
  have hbs := hb.size
  have hlt := h.lt
  obtain ⟨hT3, _⟩ := hT.pushed hhi hb hr hlo2 hd (by omega) hown hg hv
  have hgs := hg.size
  rw [World.size_alloc] at hgs
  have hc := (h.chg.trans (Chg.ofBelow hb (Nat.le_refl _))).alloc (.cells #[.slice A m c] T)
  refine ⟨⟨_, _, hT3, Nat.le_refl _⟩, ⟨hg.os.trans hc.os, hg.tape.trans hc.tape, hg.output.trans hc.output, by omega, fun k hk hh => (hg.block k (by rw [World.size_alloc]; omega) fun e => ?_).trans (hc.block k hk hh)⟩, fun b e => ?_, hlt⟩
  · have := h.blk k e.symm
    omega
  · rcases hv with hv | hv
    · exact h.blk b (hv ▸ e)
    · rw [hv, World.size_alloc] at e
      injection e with e
      omega
theorem GrwT.ret (h : GrwT g w0 wr v n xss) : ∃ A c, v = .slice A n c ∧ Hd A n c ∧ ∃ hs, OwT wr g wr.heap.size (.slice A n c) n hs xss := by
  obtain ⟨hs, hi, hT, hh⟩ := h.own
  obtain ⟨A, c, rfl, hd⟩ := hT.hd
  exact ⟨A, c, rfl, hd, hs, hT.up hh⟩
theorem GrwT.below (h : GrwT g w0 wr v n xss) : Below g w0 wr := h.chg.below (Nat.le_of_lt h.lt)
end
end Go.Proofs.YtnkcjekfjlbcdaaGreatDoor
