/- l1Ints, l1Copy of the reference. No condition but what each theorem names. -/
import Derived.Test.YteepnimmbofmlaaTbl
import Derived.Test.YteepnimmbofmlaaLawK
import Derived.Deep.RegionHeld3
namespace Go.Proofs.Yteepnimmbofmlaa
set_option linter.unusedVariables false
set_option linter.unusedSimpArgs false
set_option maxRecDepth 20000
open Go.RowKit
set_option maxHeartbeats 1000000
theorem l1Ints_any {B : Nat} (A : Option Addr) (n c : Nat) (xs : List Int) (w : World) (h : RdI w B A n xs) (hd : Hd A n c) (hB : B ≤ w.heap.size) (hn : n ≤ 1073741824) :
    Calls Try.prog 40 #[.slice A n c] w (RetI xs w) := by
  go_enter Try.func40, Try.ntmps40
  go_wp2_with (at_builtin; refine wpList_apI (v := .slice (some ⟨w.heap.size, 0, none⟩) 0 0) (w := w.alloc (.cells #[] 3)) (lo := w.heap.size) (n := 0) (xs := []) rfl (.tmp 3) (.tmp 4) rfl rfl (World.ownsRow_lit w #[] 0 (Nat.le_refl _) (by unfold maxLen; omega) rfl) rfl (h.alloc hB _) hd (by omega) (by simp) ?_; intro v1 w1 ho hg hv; obtain ⟨A', c', rfl, hd'⟩ := own_hd ho)
  have hr := ofOwn' ho (by unfold maxLen; omega)
  have hb : Below w.heap.size w w1 := ((Below.refl _ _).alloc (Nat.le_refl _) _).grown hg (by simp) (fun q e => by injection e with e; have e' : w.heap.size = q := e; omega)
  go_ret
  rw [Nat.zero_add] at *
  exact ⟨_, _, _, rfl, hd', hb, by simpa using hr⟩
theorem l1Copy_any {B : Nat} (p r c : Int) (A : Option Addr) (n k : Nat) (d : List Int) (w : World) (h : RdI w B A n d) (hd : Hd A n k) (hB : B ≤ w.heap.size) (hn : n ≤ 1073741824) :
    Calls Try.prog 88 #[.agg #[.int .i64 p, .int .i64 r, .int .i64 c, .slice A n k]] w (RetM p r c d w) := by
  have hx := (Box.new w #[.int .i64 p, .int .i64 r, .int .i64 c, .slice A n k] 27).alloc (.cells #[.int .i64 0, .int .i64 0, .int .i64 0, .slice none 0 0] 27)
  have hz := Box.new (w.alloc (.cells #[.int .i64 p, .int .i64 r, .int .i64 c, .slice A n k] 27)) #[.int .i64 0, .int .i64 0, .int .i64 0, .slice none 0 0] 27
  rw [World.size_alloc] at hz
  have hr : RdI ((w.alloc (.cells #[.int .i64 p, .int .i64 r, .int .i64 c, .slice A n k] 27)).alloc (.cells #[.int .i64 0, .int .i64 0, .int .i64 0, .slice none 0 0] 27)) B A n d := (h.alloc hB _).alloc (by simp; omega) _
  have hq : Below w.heap.size w ((w.alloc (.cells #[.int .i64 p, .int .i64 r, .int .i64 c, .slice A n k] 27)).alloc (.cells #[.int .i64 0, .int .i64 0, .int .i64 0, .slice none 0 0] 27)) := ((Below.refl _ _).alloc (Nat.le_refl _) _).alloc (by simp) _
  have hsz : ((w.alloc (.cells #[.int .i64 p, .int .i64 r, .int .i64 c, .slice A n k] 27)).alloc (.cells #[.int .i64 0, .int .i64 0, .int .i64 0, .slice none 0 0] 27)).heap.size = w.heap.size + 2 := by simp
  go_enter Try.func88, Try.ntmps88
  go_wp2_with fail
  generalize ((w.alloc (.cells #[.int .i64 p, .int .i64 r, .int .i64 c, .slice A n k] 27)).alloc (.cells #[.int .i64 0, .int .i64 0, .int .i64 0, .slice none 0 0] 27)) = W at hx hz hr hq hsz ⊢
  go_region_held3 (fun w' => w'.cell? ⟨w.heap.size, 0, none⟩ = some (.int .i64 p) ∧ w'.cell? ⟨w.heap.size, 1, none⟩ = some (.int .i64 r) ∧ w'.cell? ⟨w.heap.size, 2, none⟩ = some (.int .i64 c) ∧ w'.cell? ⟨w.heap.size, 3, none⟩ = some (.slice A n k)) (first | exact hx.four | exact (hx.drew.below hb1 (by show w.heap.size < W.heap.size; omega)).four | exact (((((hx.drew.below hb1 (by show w.heap.size < W.heap.size; omega)).other (by show w.heap.size ≠ w.heap.size + 1; omega) _).other (by show w.heap.size ≠ w.heap.size + 1; omega) _).other (by show w.heap.size ≠ w.heap.size + 1; omega) _).other (by show w.heap.size ≠ w.heap.size + 1; omega) _).four) (first | (go_at_call 40; refine (l1Ints_any A n k d W.drew (B := B) hr hd (by show B ≤ W.heap.size; omega) hn).mono ?_; rintro e w1 ⟨A1, n1, c1, rfl, hd1, hb1, ho1⟩; have hz1 := hz.drew.below hb1 (by show w.heap.size + 1 < W.heap.size; omega); obtain ⟨z0, z1, z2, z3⟩ := hz1.four; have zf := hz1.fz; have zs : w.heap.size + 1 < w1.heap.size := by have := hb1.size; rw [size_drew] at this; omega))
  have hbb : Below w.heap.size w w1 := (Below.drew1 _ hq).trans (hb1.mono (by rw [size_drew]; omega))
  rw [size_drew] at ho1
  go_wp2
  exact bodyPost_ret (v := .agg #[.int .i64 p, .int .i64 r, .int .i64 c, .slice A1 n1 c1]) (by simp [results, Try.results88, go_sem, z0, z1, z2, z3]) rfl (retM4 hbb ho1 (by omega) (by omega) (Nat.le_refl _) _ _ _ _)
end Go.Proofs.Yteepnimmbofmlaa
