/- l1Rows, l1Span of the reference. No condition but what each theorem names. -/
import Derived.Test.YteepnimmbofmlaaTbl
import Derived.Test.YteepnimmbofmlaaL1RW
import Derived.Test.YteepnimmbofmlaaCat
import Derived.Outline
namespace Go.Proofs.Yteepnimmbofmlaa
set_option linter.unusedVariables false
set_option linter.unusedSimpArgs false
set_option maxRecDepth 20000
open Go.RowKit
set_option maxHeartbeats 4000000
theorem ownsRow_other {w : World} {base : Nat} {e : TypeId} {v : Value} {n : Nat} {xs : List Value} (h : w.ownsRow base e 1 v n xs) {a : Addr} (ha : v.ownBlock ≠ some a.block) (u : Value) : (w.setCell a u).ownsRow base e 1 v n xs := by
  refine ⟨h.1, ?_⟩
  rcases h.2 with h1 | ⟨g, cap, cur, e1, hb, hg, r⟩
  · exact .inl h1
  · exact .inr ⟨g, cap, cur, e1, hb, (Below.heap_setCell _ _ _ _ (fun e2 => ha (by rw [e1, ← e2]; rfl))).trans hg, r⟩
theorem l1Rows_any {B : Nat} (p : Int) (c : Int) (A : Option Addr) (m k : Nat) (hs : List Hdr) (xss : List (List Int)) (w : World) (h : RdT w B A m hs xss) (hB : B ≤ w.heap.size) (hn : xss.flatten.length ≤ 1000000000) :
    Calls Try.prog 38 #[.int .i64 p, .int .i64 c, .slice A m k] w (RetM p m c xss.flatten w) := by
  have hm := h.max
  unfold maxLen at hm
  have HL := Lib.hid h.len
  have HT := Lib.hid (tot_flat xss)
  have hA : 0 < m → ∃ b o, A = some ⟨b, o, none⟩ ∧ b < B ∧ ∀ j, j < m → w.cell? ⟨b, o + j, none⟩ = some (slv (hdr hs j)) := h.tbl
  go_enter Try.func38, Try.ntmps38
  go_wp2_with fail
  go_loopw [8] (fun i wr => ∃ (j : Nat) (v : Value), j ≤ m ∧ i = .int .i64 j ∧ Box wr (w.heap.size + 1 + 1) #[.int .i64 p, .int .i64 m, .int .i64 c, v] ∧ Box wr w.heap.size #[.int .i64 0, .int .i64 0, .int .i64 0, .slice none 0 0] ∧ w.heap.size + 3 ≤ wr.heap.size ∧ wr.ownsRow (w.heap.size + 1) 3 1 v (tot' xss j) (((xss.take j).flatten).map (Value.int .i64)) ∧ v.ownBlock ≠ some (w.heap.size + 1 + 1) ∧ Below w.heap.size w wr) (fun i _ => m - (intOf i).toNat)
  case atStart =>
    refine ⟨0, _, by omega, rfl, Box.new2 _ _ _ (by simp), ((Box.new w _ _).alloc _).alloc _, by simp, ?_, ?_, (by repeat' (first | (with_reducible exact Below.refl _ _) | (with_reducible refine Below.setCell ?_ (by first | exact Nat.le_refl _ | omega | (simp only [World.size_alloc, World.size_setCell, World.heap_drewN]; omega) | (simp; omega)) _) | (with_reducible refine Below.alloc ?_ (by first | exact Nat.le_refl _ | omega | (simp only [World.size_alloc, World.size_setCell, World.heap_drewN]; omega) | (simp; omega)) _) | (with_reducible refine below_drewN ?_ _) | (with_reducible refine Below.drew ?_)))⟩
    · have h1 := World.ownsRow_lit (base := w.heap.size + 1) (e := 3) (size := 1) (w.alloc (.cells #[.int .i64 0, .int .i64 0, .int .i64 0, .slice none 0 0] 27)) #[] 0 (by simp) (by unfold maxLen; omega) rfl
      rw [World.size_alloc] at h1
      exact h1.alloc _
    · intro e; injection e with e; simp at e
  case round =>
    obtain ⟨j, v, hj, rfl, hbx, hbz, hsz, ho, hvb, hB1⟩ := hrel
    obtain ⟨x0, x1, x2, x3⟩ := hbx.four
    by_cases hlt : j < m
    · obtain ⟨b, o, rfl, hbb, hc⟩ := hA (by omega)
      have hcj := (hB1.cell (p := ⟨b, o + j, none⟩) (by show b < _; omega)).trans (hc j hlt)
      unfold slv at hcj
      obtain ⟨hr, hd⟩ := h.rows j hlt
      have hr' := hr.below hB1 hB
      have hlen : (row xss j).length = (hdr hs j).2.1 := hr.1
      have t1 := tot'_mono xss (show j + 1 ≤ m by omega)
      have t2 : tot' xss m = xss.flatten.length := by rw [← HT.out, HL.out]
      have t3 : tot' xss (j + 1) = tot' xss j + (hdr hs j).2.1 := by rw [← hlen]; rfl
      have t5 : tot' xss j + (hdr hs j).2.1 ≤ 1073741824 := by omega
      have T3 := Lib.hid t3
      have HF := Lib.hid (flat_take (xss := xss) (j := j) (by rw [HL.out]; exact hlt))
      have HO := Lib.hid ho
      have HBX := Lib.hid hbx
      clear t1 t2 t3 hA hc hlen hr ho hbx
      go_wp2_with fail
      go_region_law ((refine step_apI (v := v) (w := wr.drew) (lo := w.heap.size + 1) (n := tot' xss j) (xs := (xss.take j).flatten) rfl (.tmp 22) (.tmp 26) rfl rfl (ownsRow_keep HO.out (fun _ _ _ => rfl)) rfl (by exact hr') hd t5 (by rw [size_drew]; omega) ?_; intro v2 w2 ho2 hg2 hv2; obtain ⟨A2, c2, rfl, hd2⟩ := own_hd ho2; have hbx2 : Box w2 (w.heap.size + 1 + 1) _ := HBX.out.keep (hg2.block _ HBX.out.lt (fun e => hvb e.symm)); obtain ⟨y0, y1, y2, y3⟩ := hbx2.four; have yf := hbx2.fz))
      all_goals
        have hlo := fun b e => (HO.out.lt b e).1
        have hgs := hg2.size
        rw [size_drew] at hgs hv2
        have hB2 := (Below.drew1 _ hB1).grown hg2 (by rw [size_drew]; omega) (fun q e => by have := hlo q e; omega)
        have hbz2 : Box w2 w.heap.size _ := hbz.keep (hg2.block _ hbz.lt (fun e => by have := hlo _ e.symm; omega))
        have ho3 := ownsRow_other ho2 (a := ⟨w.heap.size + 1 + 1, 3, none⟩) (by
          show Value.ownBlock _ ≠ some (w.heap.size + 1 + 1)
          rcases hv2 with h1 | h1
          · rw [h1]; exact hvb
          · rw [h1]; intro e; injection e with e; omega) (.slice A2 (tot' xss j + (hdr hs j).2.1) c2)
        have hvb2 : (Value.slice A2 (tot' xss j + (hdr hs j).2.1) c2).ownBlock ≠ some (w.heap.size + 1 + 1) := by
          rcases hv2 with h1 | h1
          · rw [h1]; exact hvb
          · rw [h1]; intro e; injection e with e; omega
        clear hv2 ho2 hg2 HO HBX hbz hB1
        go_wp2
        go_roundw
        case rel => exact ⟨j + 1, _, by omega, by go_num, hbx2.set 3 _, hbz2.other (by show w.heap.size ≠ w.heap.size + 1 + 1; omega) _, by rw [World.size_setCell]; omega, by rw [T3.out, HF.out]; exact ho3, hvb2, hB2.setCell (by show w.heap.size ≤ w.heap.size + 1 + 1; omega) _⟩
        case measure => simp [intOf]; omega
    · obtain rfl : m = j := by omega
      obtain ⟨A2, c2, rfl, hd2⟩ := own_hd ho
      have t2 : tot' xss m = xss.flatten.length := by rw [← HT.out, HL.out]
      have ho2 := ofOwn' ho (by unfold maxLen; omega)
      have HX := Lib.hid (show (xss.take m).flatten = xss.flatten by rw [List.take_of_length_le (by rw [HL.out]; exact Nat.le_refl _)])
      rw [HX.out] at ho2
      obtain ⟨z0, z1, z2, z3⟩ := hbz.four
      have zf := hbz.fz
      clear t2
      go_wp2
      exact bodyPost_ret (v := .agg #[.int .i64 p, .int .i64 m, .int .i64 c, .slice A2 (tot' xss m) c2]) (by simp [results, Try.results38, go_sem, z0, z1, z2, z3]) rfl (retM4 hB1 ho2 (Nat.le_refl _) (by omega) (Nat.le_refl _) _ _ _ _)
end Go.Proofs.Yteepnimmbofmlaa
namespace Go.Proofs.Yteepnimmbofmlaa
set_option linter.unusedVariables false
set_option linter.unusedSimpArgs false
set_option maxRecDepth 20000
open Go.RowKit
set_option maxHeartbeats 2000000
theorem ipart_run {A : Option Addr} {n k hi : Nat} (H : Int) (hH : H = hi) (hd : Hd A n k) (h2 : hi ≤ n) :
    ∀ w : World, Sem.run Try.prog (Instr.sliceAt 22 (.slice A n k) none (some (.int .i64 H)) none) w = .ok (.slice A hi k) w := by
  subst hH
  intro w
  have hk : n ≤ k := by rcases hd with ⟨_, h1, h2⟩ | ⟨b, o, _, h1, _⟩ <;> omega
  rw [run_sliceAt_slice _ _ _ _ _ _ Try.underlying22, run_slice_h _ _ _ _ _ Try.underlying22 _ _ (by omega) (by omega)]
  simp only [Int.toNat_natCast, sliced]
  have : (sizeOf (Program.elem Try.prog 22)).run Try.prog w = .ok 1 w := by kernel_rfl
  rw [this]
  simp only [Result.andThen]
  by_cases e : k = 0
  · rw [if_pos e]; rfl
  · rw [if_neg e]
    rcases hd with ⟨rfl, h1, h3⟩ | ⟨b, o, rfl, _, _⟩
    · rfl
    · simp [Addr.add]
theorem OwI.take {w : World} {lo hi n m : Nat} {A : Option Addr} {d : List Int} (h : OwI w lo hi A n d) (hm : m ≤ n) : OwI w lo hi A m (d.take m) := by
  refine ⟨by rw [List.length_take, h.1]; omega, by have := h.2.1; omega, fun hp => ?_⟩
  obtain ⟨b, o, e, h0, h1, hc⟩ := h.2.2 (by omega)
  refine ⟨b, o, e, h0, h1, fun j hj => ?_⟩
  have := hc j (by omega)
  have e : gI (d.take m) j = gI d j := by unfold gI; simp [List.getD_eq_getElem?_getD, List.getElem?_take, hj]
  rwa [e]
theorem tab_take {r m c : Nat} {f : Tb} (h : m ≤ r) : (tab r c f).take (m * c) = tab m c f := by
  unfold tab
  rw [← List.map_take, List.take_range, Nat.min_eq_left (Nat.mul_le_mul_right _ h)]
theorem Hd.take {A : Option Addr} {n k m : Nat} (h : Hd A n k) (hm : m ≤ n) : Hd A m k := by
  rcases h with ⟨h1, h2, h3⟩ | ⟨b, o, h1, h2, h3⟩
  · exact .inl ⟨h1, by omega, h3⟩
  · exact .inr ⟨b, o, h1, by omega, h3⟩
theorem RetM.alloc {p r c : Int} {d : List Int} {w w' : World} {e : Ending} (h : RetM p r c d w e w') (o : Obj) : RetM p r c d w e (w'.alloc o) := by
  obtain ⟨A, n, k, rfl, h1, h2, h3⟩ := h
  exact ⟨A, n, k, rfl, h1, h2.alloc h2.size _, (h3.alloc (Nat.le_refl _) _).up (by simp)⟩
theorem l1Span_any {B : Nat} (p : Int) (R C n k : Nat) (A : Option Addr) (d : List Int) (w : World) (h : RdI w B A n d) (hd : Hd A n k) (hB : B ≤ w.heap.size) (hl : n = R * C) (hn : n ≤ 100000000) (hR : R ≤ 1000000) (hC : C ≤ 1000000) (hp : isP p = true) (hr : resB d p = true) :
    Calls Try.prog 35 #[.agg #[.int .i64 p, .int .i64 R, .int .i64 C, .slice A n k]] w (RetM p (rr R p (matF d C) C).rk C (tab (rr R p (matF d C) C).rk C (rr R p (matF d C) C).f) w) := by
  have HL := Lib.hid hl
  have HP := Lib.hid hp
  have HR := Lib.hid hr
  clear hl hp hr
  go_enter Try.func35, Try.ntmps35
  go_wp2_with fail
  refine (l1Reduce_any p R C n k A d _ (B := B) (by exact h.below ((by repeat' (first | (with_reducible exact Below.refl _ _) | (with_reducible refine Below.setCell ?_ (by first | exact Nat.le_refl _ | omega | (simp only [World.size_alloc, World.size_setCell, World.heap_drewN]; omega) | (simp; omega)) _) | (with_reducible refine Below.alloc ?_ (by first | exact Nat.le_refl _ | omega | (simp only [World.size_alloc, World.size_setCell, World.heap_drewN]; omega) | (simp; omega)) _) | (with_reducible refine below_drewN ?_ _) | (with_reducible refine Below.drew ?_))) : Below w.heap.size w _) hB) hd (by first | exact Nat.le_refl _ | omega | (simp only [World.size_alloc, World.size_setCell, World.heap_drewN]; omega) | (simp; omega)) HL.out hn hR hC HP.out HR.out).mono ?_
  rintro e w1 ⟨A1, n1, k1, A6, k6, mid, rfl, hd1, hd6, hb1, ho1, ho6, hm1, hm2⟩
  have hs1 := hb1.size
  simp only [World.size_alloc] at hs1 ho1 hm2
  have hz1 := ((Box.new (w.alloc _) _ _).below hb1 (by simp) : Box w1 (w.alloc (.cells #[.int .i64 p, .int .i64 R, .int .i64 C, .slice A n k] 27)).heap.size #[.int .i64 0, .int .i64 0, .int .i64 0, .slice none 0 0])
  rw [World.size_alloc] at hz1
  have hq1 : Below w.heap.size w w1 := (by repeat' (first | (with_reducible exact Below.refl _ _) | (with_reducible refine Below.setCell ?_ (by first | exact Nat.le_refl _ | omega | (simp only [World.size_alloc, World.size_setCell, World.heap_drewN]; omega) | (simp; omega)) _) | (with_reducible refine Below.alloc ?_ (by first | exact Nat.le_refl _ | omega | (simp only [World.size_alloc, World.size_setCell, World.heap_drewN]; omega) | (simp; omega)) _) | (with_reducible refine below_drewN ?_ _) | (with_reducible refine Below.drew ?_) | (with_reducible refine Below.trans ?_ (hb1.mono (by first | exact Nat.le_refl _ | omega | (simp only [World.size_alloc, World.size_setCell, World.heap_drewN]; omega) | (simp; omega))))))
  obtain ⟨hrk, hpl⟩ := rr_rk R p (matF d C) C
  generalize rr R p (matF d C) C = s at *
  have hl1 : n1 = R * C := by have := ho1.1; rw [tab_len] at this; exact this.symm
  have hrc : s.rk * C ≤ R * C := Nat.mul_le_mul_right _ hrk
  have HN := Lib.hid hl1
  have hbd : (s.rk : Int) * (C : Int) ≤ 100000000 := by
    have := HL.out
    have h2 : ((s.rk * C : Nat) : Int) ≤ 100000000 := by omega
    rwa [Int.natCast_mul] at h2
  have hbd0 : 0 ≤ (s.rk : Int) * (C : Int) := Int.mul_nonneg (by omega) (by omega)
  have hsl := ipart_run (A := A1) (n := n1) (k := k1) (hi := s.rk * C) ((s.rk : Int) * (C : Int)) (by rw [Int.natCast_mul]) hd1 (by rw [HN.out]; exact hrc)
  have HO := Lib.hid (ho1.take (m := s.rk * C) (by rw [HN.out]; exact hrc))
  have HT := Lib.hid (tab_take (c := C) (f := s.f) hrk)
  have hdt := hd1.take (m := s.rk * C) (by rw [HN.out]; exact hrc)
  obtain ⟨z0, z1, z2, z3⟩ := hz1.four
  have zf := hz1.fz
  have hsz : w.heap.size + 1 < w1.heap.size := by omega
  clear hl1 hrc hb1 ho1 ho6 hd1 hpl
  go_upto_region 4 with fail
  clear hsl hbd hbd0
  go_wp2
  have hoo := HO.out
  rw [HT.out] at hoo
  exact bodyPost_ret (v := .agg #[.int .i64 p, .int .i64 s.rk, .int .i64 C, .slice A1 (s.rk * C) k1]) (by simp [results, Try.results35, go_sem, z0, z1, z2, z3, hsz]) rfl ((retM4 hq1 hoo (R := w.heap.size + 1) (by omega) (by omega) (by omega) _ _ _ _ hdt).alloc _)
end Go.Proofs.Yteepnimmbofmlaa
