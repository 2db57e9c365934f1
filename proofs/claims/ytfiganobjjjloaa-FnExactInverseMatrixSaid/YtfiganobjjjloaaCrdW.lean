/- basis.coords of the program, where the first columns' pivots stand in order. No condition but what each theorem names. -/
import Derived.Test.YtfiganobjjjloaaBasW
import Derived.Test.YtfiganobjjjloaaL1SpW
import Derived.Outline
namespace Go.Proofs.Ytfiganobjjjloaa
set_option linter.unusedVariables false
set_option linter.unusedSimpArgs false
set_option maxRecDepth 20000
open Go.RowKit Go.Sort
set_option maxHeartbeats 8000000
theorem isfx_run {A : Option Addr} {n k lo : Nat} (L : Int) (hL : L = lo) (hd : Hd A n k) (h1 : lo ≤ n) :
    ∃ A', Hd A' (n - lo) (k - lo) ∧ (∀ (w : World) (B : Nat) (d : List Int), RdI w B A n d → RdI w B A' (n - lo) (sub d lo (n - lo))) ∧
      ∀ w : World, Sem.run Try.prog (Instr.sliceAt 22 (.slice A n k) (some (.int .i64 L)) none none) w = .ok (.slice A' (n - lo) (k - lo)) w := by
  subst hL
  rcases hd with ⟨rfl, rfl, rfl⟩ | ⟨b, o, rfl, h3, h4⟩
  · have e2 : lo = 0 := by omega
    subst e2
    refine ⟨none, Hd.nil, fun w B d h => ?_, fun w => ?_⟩
    · have := h.nilOf; subst this; exact h
    · rw [run_sliceAt_slice _ _ _ _ _ _ Try.underlying22, run_slice_l _ _ _ _ _ Try.underlying22 _ _ (by omega) (by omega)]
      rfl
  · unfold maxLen at h4
    by_cases e : k = lo
    · refine ⟨some ⟨b, o, none⟩, Hd.mk (by omega) (by unfold maxLen; omega), fun w B d h => ?_, fun w => ?_⟩
      · have e1 : n - lo = 0 := by omega
        rw [e1]
        have : sub d lo 0 = [] := by simp [sub]
        rw [this]; exact RdI.emp _ _ _
      · rw [run_sliceAt_slice _ _ _ _ _ _ Try.underlying22, run_slice_l _ _ _ _ _ Try.underlying22 _ _ (by omega) (by omega)]
        simp only [Int.toNat_natCast, sliced, if_pos e]
        rfl
    · refine ⟨some ⟨b, o + lo, none⟩, Hd.mk (by omega) (by unfold maxLen; omega), fun w B d h => h.part (by omega), fun w => ?_⟩
      rw [run_sliceAt_slice _ _ _ _ _ _ Try.underlying22, run_slice_l _ _ _ _ _ Try.underlying22 _ _ (by omega) (by omega)]
      simp only [Int.toNat_natCast, sliced, if_neg e]
      have : (sizeOf (Program.elem Try.prog 22)).run Try.prog w = .ok 1 w := by kernel_rfl
      rw [this]
      simp [Result.andThen, Addr.add]
theorem RdI.take {w : World} {B n m : Nat} {A : Option Addr} {xs : List Int} (h : RdI w B A n xs) (hm : m ≤ n) : RdI w B A m (xs.take m) := by
  have hl := h.1
  refine ⟨by rw [List.length_take]; omega, by have := h.2.1; omega, fun h0 => ?_⟩
  obtain ⟨b, o, e, hb, hc⟩ := h.2.2 (by omega)
  refine ⟨b, o, e, hb, fun j hj => ?_⟩
  rw [hc j (by omega)]
  unfold gI
  simp [List.getElem?_take, hj]
theorem take_map {xs : List Int} {N M : Nat} {g : Nat → Int} (hl : xs.length = M) (hN : N ≤ M) (h : ∀ j, j < M → gI xs j = g j) : xs.take N = (List.range N).map g := by
  refine ext_gI (by simp; omega) fun j hj => ?_
  rw [List.length_take] at hj
  rw [map_at (by omega), ← h j (by omega)]
  unfold gI
  simp [List.getElem?_take, show j < N by omega]
theorem sub_map {xs : List Int} {N : Nat} {g : Nat → Int} (hl : xs.length = N + N) (h : ∀ j, j < N + N → gI xs j = g j) : sub xs N N = (List.range N).map fun j => g (N + j) := by
  refine ext_gI (by rw [sub_len (by omega)]; simp) fun j hj => ?_
  rw [sub_len (by omega)] at hj
  rw [map_at hj, sub_get hj]
  exact h _ (by omega)
theorem OwI.other {w w' : World} {B B0 b0 b1 n : Nat} {A : Option Addr} {xs : List Int} (h : OwI w b0 b1 A n xs) (hc : Chg B0 B w w') (h0 : b1 ≤ B0) (h1 : b1 ≤ w.heap.size) : OwI w' b0 b1 A n xs :=
  h.keep (fun b o hb => hc.cell b o (.inl (by omega)) (by omega)) (fun b o hb => hc.frozen b o (.inl (by omega)) (by omega))
set_option maxRecDepth 100000 in
theorem coords_any {B : Nat} (p : Int) (N kt kp kv : Nat) (b : Bool) (At Ap Av : Option Addr) (f : Tb) (pv : List Nat) (v : List Int) (hs : List Hdr) (xss : List (List Int)) (w : World) (hT : RdT w B At N hs xss) (hF : FF xss N (N + N) f) (hres : ResF f p) (hPv : RdI w B Ap N (pvI pv)) (hpl : pv.length = N) (hpc : ∀ i, i < N → pg pv i = i)
    (hv : RdI w B Av N v) (hdv : Hd Av N kv) (hB : B ≤ w.heap.size) (hN : N ≤ 40) (hp1 : 2 ≤ p) (hp2 : p ≤ 10007) (hvr : ∀ j, 0 ≤ gI v j ∧ gI v j < p) :
    Calls Try.prog 67 #[.agg #[.bool b, .int .i64 p, .int .i64 N, .int .i64 N, .slice At N kt, .slice Ap N kp], .slice Av N kv] w (RetIB (crO N N p f (fun i => i) v N) (zeroB (crL N p f (fun i => i) v N)) w) := by
  have HFF := Lib.hid hF
  have HRS := Lib.hid hres
  have HPL := Lib.hid hpl
  have HPC := Lib.hid hpc
  have HVR := Lib.hid hvr
  have HLL := Lib.hid (fun m => crL_len N p f (fun i => i) v m)
  have HLV := Lib.hid hv.1
  have HLR := Lib.hid (fun m => crL_res (C := N) (p := p) (f := f) (pc := fun i => i) (v := v) (by omega) (by rw [hv.1]; exact Nat.le_refl _) hvr m)
  have HOR := Lib.hid (fun m => crO_res (C := N) (N := N) (p := p) (f := f) (pc := fun i => i) (v := v) (by omega) m)
  have hx0 := Box.new w #[.bool b, .int .i64 p, .int .i64 N, .int .i64 N, .slice At N kt, .slice Ap N kp] 77
  have hv1 := hv.alloc hB (.cells #[.bool b, .int .i64 p, .int .i64 N, .int .i64 N, .slice At N kt, .slice Ap N kp] 77)
  clear hF hres hpl hpc hvr
  go_enter Try.func67, Try.ntmps67
  go_wp2_with fail
  refine (clone_any (B := B) Av N kv v _ hv1 hdv (by rw [World.size_alloc]; omega) (by omega)).mono ?_
  rintro e w1 ⟨A1, n1, k1, rfl, hd1, hb1, ho1⟩
  rw [World.size_alloc] at ho1
  have hs1 := hb1.size
  simp only [World.size_alloc] at hs1
  obtain rfl : N = n1 := by rw [← ho1.1]; exact HLV.out.symm
  have hx1 := hx0.below hb1 (by simp)
  have hq1 : Below w.heap.size w w1 := (by repeat' (first | (with_reducible exact Below.refl _ _) | (with_reducible refine Below.setCell ?_ (by first | exact Nat.le_refl _ | omega | (simp only [World.size_alloc, World.size_setCell, World.heap_drewN]; omega) | (simp; omega)) _) | (with_reducible refine Below.alloc ?_ (by first | exact Nat.le_refl _ | omega | (simp only [World.size_alloc, World.size_setCell, World.heap_drewN]; omega) | (simp; omega)) _) | (with_reducible refine below_drewN ?_ _) | (with_reducible refine Below.drew ?_) | (with_reducible refine Below.trans ?_ (hb1.mono (by first | exact Nat.le_refl _ | omega | (simp only [World.size_alloc, World.size_setCell, World.heap_drewN]; omega) | (simp; omega))))))
  have y3 : w1.cell? ⟨w.heap.size, 3, none⟩ = some (.int .i64 N) := hx1.cell rfl
  go_wp2_with (at_make; refine wpList_mkI _ rfl _ _ 22 rfl 3 Try.underlying22 Try.infoI .i64 .i64 _ _ N rfl rfl (by omega) (by omega) (by omega) ?_; intro w2 ho2 hb2 hs2; have y5 : w2.cell? ⟨w.heap.size, 5, none⟩ = some (.slice Ap N kp) := (hx1.below hb2 (by omega)).cell rfl)
  have hx2 := hx1.below hb2 (by omega)
  have hq2 := hq1.trans (hb2.mono (by omega))
  have ho12 := ho1.below hb2 (Nat.le_refl _)
  clear y3 hx0 hx1 hv1 hb1 ho1 hq1
  rw [show List.replicate N (0 : Int) = crO N N p f (fun i => i) v 0 from rfl] at ho2
  go_loopw [19] (fun ii wr => ∃ t : Nat, t ≤ N ∧ ii = .int .i64 (t : Int) ∧ w2.heap.size ≤ wr.heap.size ∧ Chg (w.heap.size + 1) w2.heap.size w2 wr ∧ OwI wr (w.heap.size + 1) w1.heap.size A1 N (crL N p f (fun i => i) v t) ∧ OwI wr w1.heap.size w2.heap.size (some ⟨w1.heap.size, 0, none⟩) N (crO N N p f (fun i => i) v t)) (fun ii _ => N - (intOf ii).toNat)
  case atStart => exact ⟨0, by omega, rfl, Nat.le_refl _, Chg.refl _ _ _, ho12, ho2⟩
  case round =>
    clear ho2 ho12 y5
    obtain ⟨t, ht, rfl, hsr, hch, ho1, ho2⟩ := hrel
    have hx := hx2.chg hch (.inl (by omega))
    have hbw := hch.below (show w.heap.size + 1 ≤ w2.heap.size by omega)
    by_cases hlt : t < N
    · have hTr := (hT.below hq2 hB).below hbw (by omega)
      have hPr := (hPv.below hq2 hB).below hbw (by omega)
      obtain ⟨bP, oP, rfl⟩ := hPr.addr (by omega)
      have hpe := hPr.at_ hlt
      rw [pvI_get (by rw [HPL.out]; exact hlt), HPC.out t hlt] at hpe
      obtain ⟨bO, oO, rfl⟩ := ho1.addr (by omega)
      obtain ⟨hb0, hb1'⟩ := ho1.blk (by omega)
      obtain ⟨hoc, hof⟩ := ho1.at_ hlt
      obtain ⟨bT, oT, rfl, hbT, hcT⟩ := hTr.tbl (by omega)
      have hct := hcT t hlt
      unfold slv at hct
      obtain ⟨hrr, hDr⟩ := hTr.rows t hlt
      have hrl : (row xss t).length = N + N := (HFF.out t hlt).1
      have HFR := (HFF.out t hlt).2
      have hln : (hdr hs t).2.1 = N + N := by rw [← hrr.1]; exact hrl
      rw [hln] at hct hrr hDr
      generalize (hdr hs t).1 = A' at hct hrr hDr
      generalize (hdr hs t).2.2 = k' at hct hrr hDr
      have hv := HLR.out t t
      have HS1 := Lib.hid (show crL N p f (fun i => i) v (t + 1) = if gI (crL N p f (fun i => i) v t) t = 0 then crL N p f (fun i => i) v t else addAt (crL N p f (fun i => i) v t) 0 (p - gI (crL N p f (fun i => i) v t) t) ((List.range N).map (f t)) p N from rfl)
      have HS2 := Lib.hid (show crO N N p f (fun i => i) v (t + 1) = if gI (crL N p f (fun i => i) v t) t = 0 then crO N N p f (fun i => i) v t else addAt (crO N N p f (fun i => i) v t) 0 (gI (crL N p f (fun i => i) v t) t) ((List.range N).map fun j => f t (N + j)) p N from rfl)
      have y5 : wr.cell? ⟨w.heap.size, 5, none⟩ = some (.slice (some ⟨bP, oP, none⟩) N kp) := hx.cell rfl
      have y4 : wr.cell? ⟨w.heap.size, 4, none⟩ = some (.slice (some ⟨bT, oT, none⟩) N kt) := hx.cell rfl
      have y2 : wr.cell? ⟨w.heap.size, 2, none⟩ = some (.int .i64 N) := hx.cell rfl
      have y1 : wr.cell? ⟨w.heap.size, 1, none⟩ = some (.int .i64 p) := hx.cell rfl
      obtain ⟨kk, hkk⟩ : ∃ kk, kk = gI (crL N p f (fun i => i) v t) t := ⟨_, rfl⟩
      rw [← hkk] at hoc hv HS1 HS2
      clear hkk hcT hTr hPr
      by_cases hz : kk = 0
      · have HZ0 := Lib.hid hz
        have hz' : (kk == 0) = true := by simpa using hz
        clear hz
        go_wp2
        go_roundw
        case rel => exact ⟨t + 1, by omega, by go_num, hsr, hch, by rw [HS1.out, if_pos HZ0.out]; exact ho1, by rw [HS2.out, if_pos HZ0.out]; exact ho2⟩
        case measure => simp [intOf]; omega
      · have HZ0 := Lib.hid hz
        have hz' : (kk == 0) = false := by simpa using hz
        clear hz
        have hkw : IntKind.i64.wrap (p - kk) = p - kk := IntWalk.i64_in _ (by omega)
        have e1 := take_map (N := N) hrl (by omega) HFR
        have e2 := sub_map (N := N) hrl HFR
        have hr1 := hrr.take (show N ≤ N + N by omega)
        rw [e1] at hr1
        have hrunA := ipart_run (A := A') (n := N + N) (k := k') (hi := N) (N : Int) rfl hDr (by omega)
        obtain ⟨A2, hd2, hp2', hrunB⟩ := isfx_run (A := A') (n := N + N) (k := k') (lo := N) (N : Int) rfl hDr (by omega)
        rw [show N + N - N = N by omega] at hd2 hp2' hrunB
        have hr2 := hp2' _ _ _ hrr
        rw [e2] at hr2
        have hdis : 0 < N → ∀ b2 o2, A' = some ⟨b2, o2, none⟩ → b2 ≠ bO := by
          intro h0 b2 o2 e
          obtain ⟨b', o', e', hb', _⟩ := hr1.2.2 h0
          rw [e] at e'; injection e' with e'; injection e' with e1 e2; omega
        have hdis2 : 0 < N → ∀ b2 o2, A2 = some ⟨b2, o2, none⟩ → b2 ≠ w1.heap.size := by
          intro h0 b2 o2 e
          obtain ⟨b', o', e', hb', _⟩ := hr2.2.2 h0
          rw [e] at e'; injection e' with e'; injection e' with e1 e2; omega
        clear hp2' e1 e2 hrl hrr HFR
        go_wp2_with fail
        (refine wp_region_quiet_last (C := fun w' => ∃ nn, w' = wr.drewN nn) 15 (by kernel_rfl) (by kernel_rfl) (by kernel_rfl) (by kernel_rfl) (by kernel_rfl) (by kernel_rfl) (by kernel_rfl) (by kernel_rfl) ⟨1, rfl⟩ ?_; simp only [List.take_succ_cons, List.take_zero, List.drop_succ_cons, List.drop_zero]; (repeat (go_big_quiet_step (fail))); refine wpQuiet_nil ?_; rintro W ⟨nq, rfl⟩)
        go_wp2_with fail
        refine (addTo_any (B0 := w.heap.size + 1) (B := w1.heap.size) bO oO N 0 N k1 (crL N p f (fun i => i) v t) (p - kk) A' N _ ((List.range N).map (f t)) p _ (by exact ho1) (by omega) (by exact hr1) (by show B ≤ wr.heap.size; omega) hdis (Nat.le_refl _) (by omega) hp2 (by omega) (by omega) (fun j hj => by rw [map_at hj]; exact HRS.out t j) (fun j _ => HLR.out t _)).mono ?_
        rintro e w6 ⟨rfl, hs6, hc6, ho6⟩
        have hs6' : wr.heap.size ≤ w6.heap.size := by rw [hs6]; exact Nat.le_refl _
        have hc6' : Chg bO (bO + 1) wr w6 := ((Chg.refl bO (bO + 1) wr).drewN nq).trans hc6
        have ho2' := ho2.chgHi hc6' (by omega) (by omega)
        have hx6 := hx.chg hc6' (.inl (by omega))
        have hr2' := hr2.keep fun b o hlt => hc6'.cell b o (.inl (by omega)) (by omega)
        have y4 : w6.cell? ⟨w.heap.size, 4, none⟩ = some (.slice (some ⟨bT, oT, none⟩) N kt) := hx6.cell rfl
        have y2 : w6.cell? ⟨w.heap.size, 2, none⟩ = some (.int .i64 N) := hx6.cell rfl
        have y1 : w6.cell? ⟨w.heap.size, 1, none⟩ = some (.int .i64 p) := hx6.cell rfl
        have hct6 := (hc6'.cell bT (oT + t) (.inl (by omega)) (by omega)).trans hct
        clear hct hr1 hr2 ho1 ho2 hx hc6 hs6 hoc hof hpe
        go_wp2_with fail
        (refine wp_region_quiet_last (C := fun w' => ∃ nn, w' = w6.drewN nn) 12 (by kernel_rfl) (by kernel_rfl) (by kernel_rfl) (by kernel_rfl) (by kernel_rfl) (by kernel_rfl) (by kernel_rfl) (by kernel_rfl) ⟨1, rfl⟩ ?_; simp only [List.take_succ_cons, List.take_zero, List.drop_succ_cons, List.drop_zero]; (repeat (go_big_quiet_step (fail))); refine wpQuiet_nil ?_; rintro W ⟨nq, rfl⟩)
        go_wp2_with fail
        refine (addTo_z (B0 := w1.heap.size) (B := w2.heap.size) w1.heap.size N 0 N N (crO N N p f (fun i => i) v t) kk A2 N _ ((List.range N).map fun j => f t (N + j)) p _ (by exact ho2') (by omega) (by exact hr2') (by show B ≤ w6.heap.size; omega) hdis2 (Nat.le_refl _) (by omega) hp2 (by omega) (by omega) (fun j hj => by rw [map_at hj]; exact HRS.out t _) (fun j _ => HOR.out t _)).mono ?_
        rintro e w7 ⟨rfl, hs7, hc7, ho7⟩
        have hc7' : Chg w1.heap.size (w1.heap.size + 1) w6 w7 := ((Chg.refl w1.heap.size (w1.heap.size + 1) w6).drewN nq).trans hc7
        have hs7' : w6.heap.size ≤ w7.heap.size := by rw [hs7]; exact Nat.le_refl _
        have HO1 := Lib.hid (ho6.other hc7' (Nat.le_refl _) (by omega))
        have HO2 := Lib.hid ho7
        have HG := Lib.hid ((hch.trans (hc6'.mono (by omega) (by omega))).trans (hc7'.mono (by omega) (by omega)))
        clear ho6 ho7 ho2' hc6' hc7 hc7' hch y1 y2 y4 hct6 hr2' hx6
        go_wp2
        go_roundw
        case rel => exact ⟨t + 1, by omega, by go_num, by omega, HG.out, by rw [HS1.out, if_neg HZ0.out]; exact HO1.out, by rw [HS2.out, if_neg HZ0.out]; exact HO2.out⟩
        case measure => simp [intOf]; omega
    · obtain rfl : t = N := by omega
      have hqf := hq2.trans (hbw.mono (by omega))
      go_wp2_with (go_at_call 88; refine (isZero_any _ _ _ _ _ ho1.rd).mono ?_; rintro e w6 ⟨rfl, hsd⟩; obtain ⟨dd, rfl⟩ := hsd)
      go_ret2
      exact ⟨_, _, _, rfl, Hd.self (by unfold maxLen; omega), below_drewN hqf _, ((ho2.drewN _).down (by omega)).up (by show _ ≤ wr.heap.size; omega)⟩
end Go.Proofs.Ytfiganobjjjloaa
