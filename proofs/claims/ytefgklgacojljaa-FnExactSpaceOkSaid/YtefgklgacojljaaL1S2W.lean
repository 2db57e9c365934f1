/- l1Span of the reference. No condition but what each theorem names. -/
import Derived.Test.YtefgklgacojljaaL1SpW
import Derived.Outline
namespace Go.Proofs.Ytefgklgacojljaa
set_option linter.unusedVariables false
set_option linter.unusedSimpArgs false
open Go.RowKit
set_option maxHeartbeats 2000000
theorem ipart_run {A : Option Addr} {n k hi : Nat} (H : Int) (hH : H = hi) (hd : Hd A n k) (h2 : hi ≤ n) :
    ∀ w : World, Sem.run Try.prog (Instr.sliceAt 22 (.slice A n k) none (some (.int .i64 H)) none) w = .ok (.slice A hi k) w := by
  subst hH
  intro w
  have hk : n ≤ k := by rcases hd with ⟨_, h1, h2⟩ | ⟨b, o, _, h1, _⟩ <;> omega
  rw [run_sliceAt_slice _ _ _ _ _ _ Try.underlying22, run_slice_h _ _ _ _ _ Try.underlying22 _ _ (by omega) (by omega)]
  simp only [Int.toNat_natCast, sliced]
  have : (sizeOf (Program.elem Try.prog 22)).run Try.prog w = .ok 1 w := by kernel_rfl
  rw [this]
  simp only [Result.andThen]
  by_cases e : k = 0
  · rw [if_pos e]; rfl
  · rw [if_neg e]
    rcases hd with ⟨rfl, h1, h3⟩ | ⟨b, o, rfl, _, _⟩
    · rfl
    · simp [Addr.add]
theorem OwI.take {w : World} {lo hi n m : Nat} {A : Option Addr} {d : List Int} (h : OwI w lo hi A n d) (hm : m ≤ n) : OwI w lo hi A m (d.take m) := by
  refine ⟨by rw [List.length_take, h.1]; omega, by have := h.2.1; omega, fun hp => ?_⟩
  obtain ⟨b, o, e, h0, h1, hc⟩ := h.2.2 (by omega)
  refine ⟨b, o, e, h0, h1, fun j hj => ?_⟩
  have := hc j (by omega)
  have e : gI (d.take m) j = gI d j := by unfold gI; simp [List.getD_eq_getElem?_getD, List.getElem?_take, hj]
  rwa [e]
theorem tab_take {r m c : Nat} {f : Tb} (h : m ≤ r) : (tab r c f).take (m * c) = tab m c f := by
  unfold tab
  rw [← List.map_take, List.take_range, Nat.min_eq_left (Nat.mul_le_mul_right _ h)]
theorem Hd.take {A : Option Addr} {n k m : Nat} (h : Hd A n k) (hm : m ≤ n) : Hd A m k := by
  rcases h with ⟨h1, h2, h3⟩ | ⟨b, o, h1, h2, h3⟩
  · exact .inl ⟨h1, by omega, h3⟩
  · exact .inr ⟨b, o, h1, by omega, h3⟩
theorem RetM.alloc {p r c : Int} {d : List Int} {w w' : World} {e : Ending} (h : RetM p r c d w e w') (o : Obj) : RetM p r c d w e (w'.alloc o) := by
  obtain ⟨A, n, k, rfl, h1, h2, h3⟩ := h
  exact ⟨A, n, k, rfl, h1, h2.alloc h2.size _, (h3.alloc (Nat.le_refl _) _).up (by simp)⟩
theorem l1Span_any {B : Nat} (p : Int) (R C n k : Nat) (A : Option Addr) (d : List Int) (w : World) (h : RdI w B A n d) (hd : Hd A n k) (hB : B ≤ w.heap.size) (hl : n = R * C) (hn : n ≤ 100000000) (hR : R ≤ 1000000) (hC : C ≤ 1000000) (hp : isP p = true) (hr : resB d p = true) :
    Calls Try.prog 58 #[.agg #[.int .i64 p, .int .i64 R, .int .i64 C, .slice A n k]] w (RetM p (rr R p (matF d C) C).rk C (tab (rr R p (matF d C) C).rk C (rr R p (matF d C) C).f) w) := by
  have HL := Lib.hid hl
  have HP := Lib.hid hp
  have HR := Lib.hid hr
  clear hl hp hr
  go_enter Try.func58, Try.ntmps58
  go_wp2_with fail
  refine (l1Reduce_any p R C n k A d _ (B := B) (by exact h.below ((by repeat' (first | (with_reducible exact Below.refl _ _) | (with_reducible refine Below.setCell ?_ (by first | exact Nat.le_refl _ | omega | (simp only [World.size_alloc, World.size_setCell, World.heap_drewN]; omega) | (simp; omega)) _) | (with_reducible refine Below.alloc ?_ (by first | exact Nat.le_refl _ | omega | (simp only [World.size_alloc, World.size_setCell, World.heap_drewN]; omega) | (simp; omega)) _) | (with_reducible refine below_drewN ?_ _) | (with_reducible refine Below.drew ?_))) : Below w.heap.size w _) hB) hd (by first | exact Nat.le_refl _ | omega | (simp only [World.size_alloc, World.size_setCell, World.heap_drewN]; omega) | (simp; omega)) HL.out hn hR hC HP.out HR.out).mono ?_
  rintro e w1 ⟨A1, n1, k1, A6, k6, mid, rfl, hd1, hd6, hb1, ho1, ho6, hm1, hm2⟩
  have hs1 := hb1.size
  simp only [World.size_alloc] at hs1 ho1 hm2
  have hz1 := ((Box.new (w.alloc _) _ _).below hb1 (by simp) : Box w1 (w.alloc (.cells #[.int .i64 p, .int .i64 R, .int .i64 C, .slice A n k] 28)).heap.size #[.int .i64 0, .int .i64 0, .int .i64 0, .slice none 0 0])
  rw [World.size_alloc] at hz1
  have hq1 : Below w.heap.size w w1 := (by repeat' (first | (with_reducible exact Below.refl _ _) | (with_reducible refine Below.setCell ?_ (by first | exact Nat.le_refl _ | omega | (simp only [World.size_alloc, World.size_setCell, World.heap_drewN]; omega) | (simp; omega)) _) | (with_reducible refine Below.alloc ?_ (by first | exact Nat.le_refl _ | omega | (simp only [World.size_alloc, World.size_setCell, World.heap_drewN]; omega) | (simp; omega)) _) | (with_reducible refine below_drewN ?_ _) | (with_reducible refine Below.drew ?_) | (with_reducible refine Below.trans ?_ (hb1.mono (by first | exact Nat.le_refl _ | omega | (simp only [World.size_alloc, World.size_setCell, World.heap_drewN]; omega) | (simp; omega))))))
  obtain ⟨hrk, hpl⟩ := rr_rk R p (matF d C) C
  generalize rr R p (matF d C) C = s at *
  have hl1 : n1 = R * C := by have := ho1.1; rw [tab_len] at this; exact this.symm
  have hrc : s.rk * C ≤ R * C := Nat.mul_le_mul_right _ hrk
  have HN := Lib.hid hl1
  have hbd : (s.rk : Int) * (C : Int) ≤ 100000000 := by
    have := HL.out
    have h2 : ((s.rk * C : Nat) : Int) ≤ 100000000 := by omega
    rwa [Int.natCast_mul] at h2
  have hbd0 : 0 ≤ (s.rk : Int) * (C : Int) := Int.mul_nonneg (by omega) (by omega)
  have hsl := ipart_run (A := A1) (n := n1) (k := k1) (hi := s.rk * C) ((s.rk : Int) * (C : Int)) (by rw [Int.natCast_mul]) hd1 (by rw [HN.out]; exact hrc)
  have HO := Lib.hid (ho1.take (m := s.rk * C) (by rw [HN.out]; exact hrc))
  have HT := Lib.hid (tab_take (c := C) (f := s.f) hrk)
  have hdt := hd1.take (m := s.rk * C) (by rw [HN.out]; exact hrc)
  obtain ⟨z0, z1, z2, z3⟩ := hz1.four
  have zf := hz1.fz
  have hsz : w.heap.size + 1 < w1.heap.size := by omega
  clear hl1 hrc hb1 ho1 ho6 hd1 hpl
  go_upto_region 4 with fail
  clear hsl hbd hbd0
  go_wp2
  have hoo := HO.out
  rw [HT.out] at hoo
  exact bodyPost_ret (v := .agg #[.int .i64 p, .int .i64 s.rk, .int .i64 C, .slice A1 (s.rk * C) k1]) (by simp [results, Try.results58, go_sem, z0, z1, z2, z3, hsz]) rfl ((retM4 hq1 hoo (R := w.heap.size + 1) (by omega) (by omega) (by omega) _ _ _ _ hdt).alloc _)
end Go.Proofs.Ytefgklgacojljaa
