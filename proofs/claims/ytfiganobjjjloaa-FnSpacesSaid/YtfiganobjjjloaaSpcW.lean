/- l1Equal, SpaceOk of both packages. No condition but what each theorem names. -/
import Derived.Test.YtfiganobjjjloaaL1SpW
import Derived.Test.YtfiganobjjjloaaKernW
import Derived.Deep.RegionHeld3
import Derived.Outline
import Derived.Test.YtfiganobjjjloaaHeld
namespace Go.Proofs.Ytfiganobjjjloaa
set_option linter.unusedVariables false
set_option linter.unusedSimpArgs false
set_option maxRecDepth 20000
open Go.RowKit Go.Sort
set_option maxHeartbeats 4000000
theorem Below.ofDrew {w w' : World} (h : Below w.drew.heap.size w.drew w') : Below w.heap.size w w' := ⟨h.os, h.tape, h.output, h.size, h.block⟩
/-- a space: a matrix that is its own reduced basis -/
def spB (p r c : Int) (d : List Int) : Bool := okM p r c d && ((rr r.toNat p (matF d c.toNat) c.toNat).rk == r.toNat && d == tab r.toNat c.toNat (rr r.toNat p (matF d c.toNat) c.toNat).f)
theorem spB_no {p r c : Int} {d : List Int} (h : okM p r c d = false) : spB p r c d = false := by unfold spB; rw [h]; rfl
theorem spB_ok {p : Int} {R C : Nat} {d : List Int} (h : okM p R C d = true) : spB p R C d = ((rr R p (matF d C) C).rk == R && d == tab R C (rr R p (matF d C) C).f) := by
  unfold spB; rw [h]; simp only [Int.toNat_natCast, Bool.true_and]
theorem iSp_no {B : Nat} (p r c : Int) (n k : Nat) (A : Option Addr) (d : List Int) (w : World) (h : RdI w B A n d) (hB : B ≤ w.heap.size) (hok : okM p r c d = false) :
    Calls Try.prog 40 #[.agg #[.int .i64 p, .int .i64 r, .int .i64 c, .slice A n k]] w (Rv (.bool false) w) := by
  have HK := Lib.hid hok
  have hx := Box.new w #[.int .i64 p, .int .i64 r, .int .i64 c, .slice A n k] 26
  have ha := h.alloc hB (.cells #[.int .i64 p, .int .i64 r, .int .i64 c, .slice A n k] 26)
  have hq : Below w.heap.size w (w.alloc (.cells #[.int .i64 p, .int .i64 r, .int .i64 c, .slice A n k] 26)) := (Below.refl _ _).alloc (Nat.le_refl _) _
  have hBW : B ≤ (w.alloc (.cells #[.int .i64 p, .int .i64 r, .int .i64 c, .slice A n k] 26)).heap.size := by simp; omega
  clear hok
  go_enter Try.func40, Try.ntmps40
  go_wp2_with fail
  generalize w.alloc (.cells #[.int .i64 p, .int .i64 r, .int .i64 c, .slice A n k] 26) = W0 at hx ha hq hBW ⊢
  have cA : ∀ d' os, Calls Try.prog 64 #[.agg #[.int .i64 p, .int .i64 r, .int .i64 c, .slice A n k]] (grow (redrawn W0 d') os) fun e w'' => e = .returned (.bool false) ∧ ∃ p : Regrown, w'' = grow (redrawn W0 p.d) p.os :=
    fun d' os => Calls.regrown_of (by have hh := iOkM_any p r c A n k d (grow (redrawn W0 d') os) (B := B) (ha.below (below_regrown W0 d' os) hBW) (by have := (below_regrown W0 d' os).size; omega); rw [HK.out] at hh; exact hh)
  obtain ⟨x0, x1, x2, x3⟩ := hx.four
  have q0 := cell_regrown x0
  have q1 := cell_regrown x1
  have q2 := cell_regrown x2
  have q3 := cell_regrown x3
  (refine wp_region_quiet_below (w := W0) (by kernel_rfl) (by kernel_rfl) ?_; (repeat (go_big_quiet_step (exact cA _ _))); refine wpQuiet_nil ?_; rintro W ⟨pp, hW⟩; have hbW : Below W0.heap.size W0 W := hW ▸ below_regrown _ _ _; clear hW)
  clear q0 q1 q2 q3 x0 x1 x2 x3
  go_wp2
  go_ret
  exact ⟨rfl, hq.trans (hbW.mono hq.size)⟩
theorem run_fld3 (x y z : Int) (A : Option Addr) (n k : Nat) (w : World) : (Instr.field 26 (.agg #[.int .i64 x, .int .i64 y, .int .i64 z, .slice A n k]) 3).run Try.prog w = .ok (.slice A n k) w := by kernel_rfl
theorem iSp_ok {B : Nat} (p : Int) (R C n k : Nat) (A : Option Addr) (d : List Int) (w : World) (h : RdI w B A n d) (hd : Hd A n k) (hB : B ≤ w.heap.size) (hok : okM p R C d = true) :
    Calls Try.prog 40 #[.agg #[.int .i64 p, .int .i64 R, .int .i64 C, .slice A n k]] w (Rv (.bool (spB p R C d)) w) := by
  obtain ⟨hp, ⟨_, hR⟩, ⟨_, hC⟩, hl, hr⟩ := okM_bd hok
  have hR : R ≤ 40 := by omega
  have hC : C ≤ 40 := by omega
  have HSP := Lib.hid (spB_ok hok)
  have HK := Lib.hid hok
  have HP := Lib.hid hp
  have HL := Lib.hid (show n = R * C by have := h.1; rw [← Int.natCast_mul] at hl; omega)
  have HDL := Lib.hid h.1
  have HR := Lib.hid hr
  have hle : n ≤ 1600 := by rw [HL.out]; exact Nat.mul_le_mul hR hC
  have hp2 := (isP_bd hp).1
  have hrk0 := (rr_rk R p (matF d C) C).1
  obtain ⟨s, hs⟩ : ∃ s, s = rr R p (matF d C) C := ⟨_, rfl⟩
  have HSS := Lib.hid hs
  rw [← hs] at hrk0
  have hrk : s.rk ≤ 40 := Nat.le_trans hrk0 hR
  have hx := Box.new w #[.int .i64 p, .int .i64 R, .int .i64 C, .slice A n k] 26
  have ha := h.alloc hB (.cells #[.int .i64 p, .int .i64 R, .int .i64 C, .slice A n k] 26)
  have hq : Below w.heap.size w (w.alloc (.cells #[.int .i64 p, .int .i64 R, .int .i64 C, .slice A n k] 26)) := (Below.refl _ _).alloc (Nat.le_refl _) _
  have hBW : B ≤ (w.alloc (.cells #[.int .i64 p, .int .i64 R, .int .i64 C, .slice A n k] 26)).heap.size := by simp; omega
  clear hok hp hl hr hs hrk0 h
  have HFL := Lib.hid (flat_tabR s.rk C s.f)
  have hfd := run_fld3
  have hfl2 : s.rk * C ≤ 1600 := Nat.mul_le_mul hrk hC
  rcases heq : (tab s.rk C s.f == d) with _ | _
  · have HEQ := Lib.hid heq
    have HV := Lib.hid (show spB p R C d = false by
      rw [HSP.out, ← HSS.out]
      by_cases e : s.rk = R
      · have e3 : (d == tab R C s.f) = false := by
          rw [e] at heq
          rw [beq_eq_false_iff_ne] at heq ⊢
          exact fun h => heq h.symm
        rw [e3]; simp
      · have e3 : (s.rk == R) = false := by simpa using e
        rw [e3]; simp)
    clear heq
    go_enter Try.func40, Try.ntmps40
    go_wp2_with fail
    generalize w.alloc (.cells #[.int .i64 p, .int .i64 R, .int .i64 C, .slice A n k] 26) = W at hx ha hq hBW ⊢
    refine wp_region_noPanic ?_
    refine wp_region_held_drew (S := (fun w' => w'.cell? ⟨w.heap.size, 0, none⟩ = some (.int .i64 p) ∧ w'.cell? ⟨w.heap.size, 1, none⟩ = some (.int .i64 R) ∧ w'.cell? ⟨w.heap.size, 2, none⟩ = some (.int .i64 C) ∧ w'.cell? ⟨w.heap.size, 3, none⟩ = some (.slice A n k))) (by kernel_rfl) (by first | exact hx.four | exact hx.drew.four) (fun hHeld => ?_)
    refine held_take 0 (v := ?hv0) rfl (by kernel_rfl) (by kernel_rfl) (by kernel_rfl) (fun _ _ _ h => h) (by rfl) ?hy0 (by assumption) ?hr0
    case hy0 => (intro w hSw; (try dsimp only at hSw); go_simp; (try with_reducible rfl))
    (try simp only [Act.put, List.setIfInBounds_toArray, List.set_cons_zero, List.set_cons_succ])
    refine held_call 1 rfl (by kernel_rfl) (by rfl) (fun K hK => ?_)
    go_simp
    (first | (go_at_call 64; refine (iOkM_any p R C A n k d W.drew (B := B) (by exact ha) (by exact hBW)).mono ?_; rintro e wc ⟨rfl, hb⟩; rw [HK.out]; have hb := Below.ofDrew hb; have hx := hx.step hb; have ha := ha.below hb hBW; have hq := hq.trans (hb.mono hq.size); have hBW := Nat.le_trans hBW hb.size) | (go_at_call 66; refine (rowsOf_any p R C n k A d _ (B := B) (by exact ha) hd (by exact hBW) (by omega) (by omega) HL.out (by omega)).mono ?_; rintro e wc ⟨A2, n2, k2, rfl, hd2, hb, hs2', hT2⟩; rw [rowsD_tabR (by rw [HDL.out, HL.out]; exact Nat.le_refl _)] at hT2; obtain rfl : R = n2 := (by rw [← hT2.len, tabR_len]); have hx := hx.step hb; have ha := ha.below hb hBW; have hq := hq.trans (hb.mono hq.size); have hBW := Nat.le_trans hBW hb.size) | (go_at_call 99; refine (span_any A2 R k2 C p (matF d C) hs2' _ _ hT2.rd (tabR_FF _ _ _) (Nat.le_refl _) (by omega) (by omega) HP.out (matF_res (by omega) HR.out)).mono ?_; rintro e wc ⟨A3, n3, k3, rfl, hd3, hb, hs3', hT3⟩; rw [← HSS.out] at hT3; obtain rfl : s.rk = n3 := (by rw [← hT3.len, tabR_len]); have hx := hx.step hb; have ha := ha.below hb hBW; have hq := hq.trans (hb.mono hq.size); have hBW := Nat.le_trans hBW hb.size) | (go_at_call 69; refine (matrixOf_any p C A3 s.rk k3 hs3' _ _ hT3.rd (Nat.le_refl _) (by rw [HFL.out, tab_len]; omega)).mono ?_; rintro e wc ⟨A4, n4, k4, rfl, hd4, hb, ho4⟩; rw [HFL.out] at ho4; have hx := hx.step hb; have ha := ha.below hb hBW; have hq := hq.trans (hb.mono hq.size); have hBW := Nat.le_trans hBW hb.size) | (go_at_call 102; refine (slEqual_any A4 A n4 k4 n k _ d _ ho4.rd ha).mono ?_; rintro e wd ⟨rfl, dd, rfl⟩; rw [HEQ.out]; have hx := hx.drewN dd; have ha := ha.drewN dd; have hq := below_drewN hq dd))
    refine hK.out _ _ (by first | exact hx.four) (fun hHeld => ?_)
    clear hK K
    (try simp only [Act.put, List.setIfInBounds_toArray, List.set_cons_zero, List.set_cons_succ])
    refine held_take 2 (v := ?hv2) rfl (by kernel_rfl) (by kernel_rfl) (by kernel_rfl) (fun _ _ _ h => h) (by rfl) ?hy2 (by assumption) ?hr2
    case hy2 => (intro w hSw; (try dsimp only at hSw); go_simp; (try with_reducible rfl))
    (try simp only [Act.put, List.setIfInBounds_toArray, List.set_cons_zero, List.set_cons_succ])
    refine held_take 3 (v := ?hv3) rfl (by kernel_rfl) (by kernel_rfl) (by kernel_rfl) (fun _ _ _ h => h) (by rfl) ?hy3 (by assumption) ?hr3
    case hy3 => (intro w hSw; (try dsimp only at hSw); go_simp; (try with_reducible rfl))
    (try simp only [Act.put, List.setIfInBounds_toArray, List.set_cons_zero, List.set_cons_succ])
    refine held_take 4 (v := ?hv4) rfl (by kernel_rfl) (by kernel_rfl) (by kernel_rfl) (fun _ _ _ h => h) (by rfl) ?hy4 (by assumption) ?hr4
    case hy4 => (intro w hSw; (try dsimp only at hSw); go_simp; (try with_reducible rfl))
    (try simp only [Act.put, List.setIfInBounds_toArray, List.set_cons_zero, List.set_cons_succ])
    refine held_take 5 (v := ?hv5) rfl (by kernel_rfl) (by kernel_rfl) (by kernel_rfl) (fun _ _ _ h => h) (by rfl) ?hy5 (by assumption) ?hr5
    case hy5 => (intro w hSw; (try dsimp only at hSw); go_simp; (try with_reducible rfl))
    (try simp only [Act.put, List.setIfInBounds_toArray, List.set_cons_zero, List.set_cons_succ])
    refine held_take 6 (v := ?hv6) rfl (by kernel_rfl) (by kernel_rfl) (by kernel_rfl) (fun _ _ _ h => h) (by rfl) ?hy6 (by assumption) ?hr6
    case hy6 => (intro w hSw; (try dsimp only at hSw); go_simp; (try with_reducible rfl))
    (try simp only [Act.put, List.setIfInBounds_toArray, List.set_cons_zero, List.set_cons_succ])
    refine held_take 7 (v := ?hv7) rfl (by kernel_rfl) (by kernel_rfl) (by kernel_rfl) (fun _ _ _ h => h) (by rfl) ?hy7 (by assumption) ?hr7
    case hy7 => (intro w hSw; (try dsimp only at hSw); go_simp; (try with_reducible rfl))
    (try simp only [Act.put, List.setIfInBounds_toArray, List.set_cons_zero, List.set_cons_succ])
    refine held_take 9 (v := ?hv9) rfl (by kernel_rfl) (by kernel_rfl) (by kernel_rfl) (fun _ _ _ h => h) (by rfl) ?hy9 (by assumption) ?hr9
    case hy9 => (intro w hSw; (try dsimp only at hSw); go_simp; (try with_reducible rfl))
    (try simp only [Act.put, List.setIfInBounds_toArray, List.set_cons_zero, List.set_cons_succ])
    refine held_take 10 (v := ?hv10) rfl (by kernel_rfl) (by kernel_rfl) (by kernel_rfl) (fun _ _ _ h => h) (by rfl) ?hy10 (by assumption) ?hr10
    case hy10 => (intro w hSw; (try dsimp only at hSw); go_simp; (try with_reducible rfl))
    (try simp only [Act.put, List.setIfInBounds_toArray, List.set_cons_zero, List.set_cons_succ])
    refine held_take 11 (v := ?hv11) rfl (by kernel_rfl) (by kernel_rfl) (by kernel_rfl) (fun _ _ _ h => h) (by rfl) ?hy11 (by assumption) ?hr11
    case hy11 => (intro w hSw; (try dsimp only at hSw); go_simp; (try with_reducible rfl))
    (try simp only [Act.put, List.setIfInBounds_toArray, List.set_cons_zero, List.set_cons_succ])
    refine held_take 12 (v := ?hv12) rfl (by kernel_rfl) (by kernel_rfl) (by kernel_rfl) (fun _ _ _ h => h) (by rfl) ?hy12 (by assumption) ?hr12
    case hy12 => (intro w hSw; (try dsimp only at hSw); go_simp; (try with_reducible rfl))
    (try simp only [Act.put, List.setIfInBounds_toArray, List.set_cons_zero, List.set_cons_succ])
    refine held_take 16 (v := ?hv16) rfl (by kernel_rfl) (by kernel_rfl) (by kernel_rfl) (fun _ _ _ h => h) (by rfl) ?hy16 (by assumption) ?hr16
    case hy16 => (intro w hSw; (try dsimp only at hSw); go_simp; (try with_reducible rfl))
    (try simp only [Act.put, List.setIfInBounds_toArray, List.set_cons_zero, List.set_cons_succ])
    refine held_take 17 (v := ?hv17) rfl (by kernel_rfl) (by kernel_rfl) (by kernel_rfl) (fun _ _ _ h => h) (by rfl) ?hy17 (by assumption) ?hr17
    case hy17 => (intro w hSw; (try dsimp only at hSw); go_simp; (try with_reducible rfl))
    (try simp only [Act.put, List.setIfInBounds_toArray, List.set_cons_zero, List.set_cons_succ])
    refine held_call 8 rfl (by kernel_rfl) (by rfl) (fun K hK => ?_)
    go_simp
    (first | (go_at_call 64; refine (iOkM_any p R C A n k d W.drew (B := B) (by exact ha) (by exact hBW)).mono ?_; rintro e wc ⟨rfl, hb⟩; rw [HK.out]; have hb := Below.ofDrew hb; have hx := hx.step hb; have ha := ha.below hb hBW; have hq := hq.trans (hb.mono hq.size); have hBW := Nat.le_trans hBW hb.size) | (go_at_call 66; refine (rowsOf_any p R C n k A d _ (B := B) (by exact ha) hd (by exact hBW) (by omega) (by omega) HL.out (by omega)).mono ?_; rintro e wc ⟨A2, n2, k2, rfl, hd2, hb, hs2', hT2⟩; rw [rowsD_tabR (by rw [HDL.out, HL.out]; exact Nat.le_refl _)] at hT2; obtain rfl : R = n2 := (by rw [← hT2.len, tabR_len]); have hx := hx.step hb; have ha := ha.below hb hBW; have hq := hq.trans (hb.mono hq.size); have hBW := Nat.le_trans hBW hb.size) | (go_at_call 99; refine (span_any A2 R k2 C p (matF d C) hs2' _ _ hT2.rd (tabR_FF _ _ _) (Nat.le_refl _) (by omega) (by omega) HP.out (matF_res (by omega) HR.out)).mono ?_; rintro e wc ⟨A3, n3, k3, rfl, hd3, hb, hs3', hT3⟩; rw [← HSS.out] at hT3; obtain rfl : s.rk = n3 := (by rw [← hT3.len, tabR_len]); have hx := hx.step hb; have ha := ha.below hb hBW; have hq := hq.trans (hb.mono hq.size); have hBW := Nat.le_trans hBW hb.size) | (go_at_call 69; refine (matrixOf_any p C A3 s.rk k3 hs3' _ _ hT3.rd (Nat.le_refl _) (by rw [HFL.out, tab_len]; omega)).mono ?_; rintro e wc ⟨A4, n4, k4, rfl, hd4, hb, ho4⟩; rw [HFL.out] at ho4; have hx := hx.step hb; have ha := ha.below hb hBW; have hq := hq.trans (hb.mono hq.size); have hBW := Nat.le_trans hBW hb.size) | (go_at_call 102; refine (slEqual_any A4 A n4 k4 n k _ d _ ho4.rd ha).mono ?_; rintro e wd ⟨rfl, dd, rfl⟩; rw [HEQ.out]; have hx := hx.drewN dd; have ha := ha.drewN dd; have hq := below_drewN hq dd))
    refine hK.out _ _ (by first | exact hx.four) (fun hHeld => ?_)
    clear hK K
    (try simp only [Act.put, List.setIfInBounds_toArray, List.set_cons_zero, List.set_cons_succ])
    refine held_call 13 rfl (by kernel_rfl) (by rfl) (fun K hK => ?_)
    go_simp
    (first | (go_at_call 64; refine (iOkM_any p R C A n k d W.drew (B := B) (by exact ha) (by exact hBW)).mono ?_; rintro e wc ⟨rfl, hb⟩; rw [HK.out]; have hb := Below.ofDrew hb; have hx := hx.step hb; have ha := ha.below hb hBW; have hq := hq.trans (hb.mono hq.size); have hBW := Nat.le_trans hBW hb.size) | (go_at_call 66; refine (rowsOf_any p R C n k A d _ (B := B) (by exact ha) hd (by exact hBW) (by omega) (by omega) HL.out (by omega)).mono ?_; rintro e wc ⟨A2, n2, k2, rfl, hd2, hb, hs2', hT2⟩; rw [rowsD_tabR (by rw [HDL.out, HL.out]; exact Nat.le_refl _)] at hT2; obtain rfl : R = n2 := (by rw [← hT2.len, tabR_len]); have hx := hx.step hb; have ha := ha.below hb hBW; have hq := hq.trans (hb.mono hq.size); have hBW := Nat.le_trans hBW hb.size) | (go_at_call 99; refine (span_any A2 R k2 C p (matF d C) hs2' _ _ hT2.rd (tabR_FF _ _ _) (Nat.le_refl _) (by omega) (by omega) HP.out (matF_res (by omega) HR.out)).mono ?_; rintro e wc ⟨A3, n3, k3, rfl, hd3, hb, hs3', hT3⟩; rw [← HSS.out] at hT3; obtain rfl : s.rk = n3 := (by rw [← hT3.len, tabR_len]); have hx := hx.step hb; have ha := ha.below hb hBW; have hq := hq.trans (hb.mono hq.size); have hBW := Nat.le_trans hBW hb.size) | (go_at_call 69; refine (matrixOf_any p C A3 s.rk k3 hs3' _ _ hT3.rd (Nat.le_refl _) (by rw [HFL.out, tab_len]; omega)).mono ?_; rintro e wc ⟨A4, n4, k4, rfl, hd4, hb, ho4⟩; rw [HFL.out] at ho4; have hx := hx.step hb; have ha := ha.below hb hBW; have hq := hq.trans (hb.mono hq.size); have hBW := Nat.le_trans hBW hb.size) | (go_at_call 102; refine (slEqual_any A4 A n4 k4 n k _ d _ ho4.rd ha).mono ?_; rintro e wd ⟨rfl, dd, rfl⟩; rw [HEQ.out]; have hx := hx.drewN dd; have ha := ha.drewN dd; have hq := below_drewN hq dd))
    refine hK.out _ _ (by first | exact hx.four) (fun hHeld => ?_)
    clear hK K
    (try simp only [Act.put, List.setIfInBounds_toArray, List.set_cons_zero, List.set_cons_succ])
    refine held_call 14 rfl (by kernel_rfl) (by rfl) (fun K hK => ?_)
    go_simp
    (first | (go_at_call 64; refine (iOkM_any p R C A n k d W.drew (B := B) (by exact ha) (by exact hBW)).mono ?_; rintro e wc ⟨rfl, hb⟩; rw [HK.out]; have hb := Below.ofDrew hb; have hx := hx.step hb; have ha := ha.below hb hBW; have hq := hq.trans (hb.mono hq.size); have hBW := Nat.le_trans hBW hb.size) | (go_at_call 66; refine (rowsOf_any p R C n k A d _ (B := B) (by exact ha) hd (by exact hBW) (by omega) (by omega) HL.out (by omega)).mono ?_; rintro e wc ⟨A2, n2, k2, rfl, hd2, hb, hs2', hT2⟩; rw [rowsD_tabR (by rw [HDL.out, HL.out]; exact Nat.le_refl _)] at hT2; obtain rfl : R = n2 := (by rw [← hT2.len, tabR_len]); have hx := hx.step hb; have ha := ha.below hb hBW; have hq := hq.trans (hb.mono hq.size); have hBW := Nat.le_trans hBW hb.size) | (go_at_call 99; refine (span_any A2 R k2 C p (matF d C) hs2' _ _ hT2.rd (tabR_FF _ _ _) (Nat.le_refl _) (by omega) (by omega) HP.out (matF_res (by omega) HR.out)).mono ?_; rintro e wc ⟨A3, n3, k3, rfl, hd3, hb, hs3', hT3⟩; rw [← HSS.out] at hT3; obtain rfl : s.rk = n3 := (by rw [← hT3.len, tabR_len]); have hx := hx.step hb; have ha := ha.below hb hBW; have hq := hq.trans (hb.mono hq.size); have hBW := Nat.le_trans hBW hb.size) | (go_at_call 69; refine (matrixOf_any p C A3 s.rk k3 hs3' _ _ hT3.rd (Nat.le_refl _) (by rw [HFL.out, tab_len]; omega)).mono ?_; rintro e wc ⟨A4, n4, k4, rfl, hd4, hb, ho4⟩; rw [HFL.out] at ho4; have hx := hx.step hb; have ha := ha.below hb hBW; have hq := hq.trans (hb.mono hq.size); have hBW := Nat.le_trans hBW hb.size) | (go_at_call 102; refine (slEqual_any A4 A n4 k4 n k _ d _ ho4.rd ha).mono ?_; rintro e wd ⟨rfl, dd, rfl⟩; rw [HEQ.out]; have hx := hx.drewN dd; have ha := ha.drewN dd; have hq := below_drewN hq dd))
    refine hK.out _ _ (by first | exact hx.four) (fun hHeld => ?_)
    clear hK K
    (try simp only [Act.put, List.setIfInBounds_toArray, List.set_cons_zero, List.set_cons_succ])
    refine held_take 15 (v := ?hv15) rfl (by kernel_rfl) (by kernel_rfl) (by kernel_rfl) (fun _ _ _ h => h) (by rfl) ?hy15 (by assumption) ?hr15
    case hy15 => (intro w hSw; (try dsimp only at hSw); go_simp; (try with_reducible rfl))
    (try simp only [Act.put, List.setIfInBounds_toArray, List.set_cons_zero, List.set_cons_succ])
    refine held_call 18 rfl (by kernel_rfl) (by rfl) (fun K hK => ?_)
    go_simp
    (first | (go_at_call 64; refine (iOkM_any p R C A n k d W.drew (B := B) (by exact ha) (by exact hBW)).mono ?_; rintro e wc ⟨rfl, hb⟩; rw [HK.out]; have hb := Below.ofDrew hb; have hx := hx.step hb; have ha := ha.below hb hBW; have hq := hq.trans (hb.mono hq.size); have hBW := Nat.le_trans hBW hb.size) | (go_at_call 66; refine (rowsOf_any p R C n k A d _ (B := B) (by exact ha) hd (by exact hBW) (by omega) (by omega) HL.out (by omega)).mono ?_; rintro e wc ⟨A2, n2, k2, rfl, hd2, hb, hs2', hT2⟩; rw [rowsD_tabR (by rw [HDL.out, HL.out]; exact Nat.le_refl _)] at hT2; obtain rfl : R = n2 := (by rw [← hT2.len, tabR_len]); have hx := hx.step hb; have ha := ha.below hb hBW; have hq := hq.trans (hb.mono hq.size); have hBW := Nat.le_trans hBW hb.size) | (go_at_call 99; refine (span_any A2 R k2 C p (matF d C) hs2' _ _ hT2.rd (tabR_FF _ _ _) (Nat.le_refl _) (by omega) (by omega) HP.out (matF_res (by omega) HR.out)).mono ?_; rintro e wc ⟨A3, n3, k3, rfl, hd3, hb, hs3', hT3⟩; rw [← HSS.out] at hT3; obtain rfl : s.rk = n3 := (by rw [← hT3.len, tabR_len]); have hx := hx.step hb; have ha := ha.below hb hBW; have hq := hq.trans (hb.mono hq.size); have hBW := Nat.le_trans hBW hb.size) | (go_at_call 69; refine (matrixOf_any p C A3 s.rk k3 hs3' _ _ hT3.rd (Nat.le_refl _) (by rw [HFL.out, tab_len]; omega)).mono ?_; rintro e wc ⟨A4, n4, k4, rfl, hd4, hb, ho4⟩; rw [HFL.out] at ho4; have hx := hx.step hb; have ha := ha.below hb hBW; have hq := hq.trans (hb.mono hq.size); have hBW := Nat.le_trans hBW hb.size) | (go_at_call 102; refine (slEqual_any A4 A n4 k4 n k _ d _ ho4.rd ha).mono ?_; rintro e wd ⟨rfl, dd, rfl⟩; rw [HEQ.out]; have hx := hx.drewN dd; have ha := ha.drewN dd; have hq := below_drewN hq dd))
    refine hK.out _ _ (by first | exact hx.four) (fun hHeld => ?_)
    clear hK K
    (try simp only [Act.put, List.setIfInBounds_toArray, List.set_cons_zero, List.set_cons_succ])
    refine held_take 19 (v := ?hv19) rfl (by kernel_rfl) (by kernel_rfl) (by kernel_rfl) (fun _ _ _ h => h) (by rfl) ?hy19 (by assumption) ?hr19
    case hy19 => (intro w hSw; (try dsimp only at hSw); go_simp; (try with_reducible rfl))
    (try simp only [Act.put, List.setIfInBounds_toArray, List.set_cons_zero, List.set_cons_succ])
    refine held_take 20 (v := ?hv20) rfl (by kernel_rfl) (by kernel_rfl) (by kernel_rfl) (fun _ _ _ h => h) (by rfl) ?hy20 (by assumption) ?hr20
    case hy20 => (intro w hSw; (try dsimp only at hSw); go_simp; (try with_reducible rfl))
    (try simp only [Act.put, List.setIfInBounds_toArray, List.set_cons_zero, List.set_cons_succ])
    (first | refine held_skip 21 rfl (by kernel_rfl) (by kernel_rfl) (by kernel_rfl) (fun _ _ _ h => h) (by rfl) (by assumption) ?_ | refine held_skip1 21 rfl (by kernel_rfl) (by rfl) (by assumption) ?_)
    (try simp only [Act.put, List.setIfInBounds_toArray, List.set_cons_zero, List.set_cons_succ])
    (first | refine held_skip 23 rfl (by kernel_rfl) (by kernel_rfl) (by kernel_rfl) (fun _ _ _ h => h) (by rfl) (by assumption) ?_ | refine held_skip1 23 rfl (by kernel_rfl) (by rfl) (by assumption) ?_)
    (try simp only [Act.put, List.setIfInBounds_toArray, List.set_cons_zero, List.set_cons_succ])
    (first | refine held_skip 24 rfl (by kernel_rfl) (by kernel_rfl) (by kernel_rfl) (fun _ _ _ h => h) (by rfl) (by assumption) ?_ | refine held_skip1 24 rfl (by kernel_rfl) (by rfl) (by assumption) ?_)
    (try simp only [Act.put, List.setIfInBounds_toArray, List.set_cons_zero, List.set_cons_succ])
    (first | refine held_skip 25 rfl (by kernel_rfl) (by kernel_rfl) (by kernel_rfl) (fun _ _ _ h => h) (by rfl) (by assumption) ?_ | refine held_skip1 25 rfl (by kernel_rfl) (by rfl) (by assumption) ?_)
    (try simp only [Act.put, List.setIfInBounds_toArray, List.set_cons_zero, List.set_cons_succ])
    (first | refine held_skip 26 rfl (by kernel_rfl) (by kernel_rfl) (by kernel_rfl) (fun _ _ _ h => h) (by rfl) (by assumption) ?_ | refine held_skip1 26 rfl (by kernel_rfl) (by rfl) (by assumption) ?_)
    (try simp only [Act.put, List.setIfInBounds_toArray, List.set_cons_zero, List.set_cons_succ])
    (first | refine held_skip 29 rfl (by kernel_rfl) (by kernel_rfl) (by kernel_rfl) (fun _ _ _ h => h) (by rfl) (by assumption) ?_ | refine held_skip1 29 rfl (by kernel_rfl) (by rfl) (by assumption) ?_)
    (try simp only [Act.put, List.setIfInBounds_toArray, List.set_cons_zero, List.set_cons_succ])
    (first | refine held_skip 30 rfl (by kernel_rfl) (by kernel_rfl) (by kernel_rfl) (fun _ _ _ h => h) (by rfl) (by assumption) ?_ | refine held_skip1 30 rfl (by kernel_rfl) (by rfl) (by assumption) ?_)
    (try simp only [Act.put, List.setIfInBounds_toArray, List.set_cons_zero, List.set_cons_succ])
    (first | refine held_skip 22 rfl (by kernel_rfl) (by kernel_rfl) (by kernel_rfl) (fun _ _ _ h => h) (by rfl) (by assumption) ?_ | refine held_skip1 22 rfl (by kernel_rfl) (by rfl) (by assumption) ?_)
    (try simp only [Act.put, List.setIfInBounds_toArray, List.set_cons_zero, List.set_cons_succ])
    (first | refine held_skip 27 rfl (by kernel_rfl) (by kernel_rfl) (by kernel_rfl) (fun _ _ _ h => h) (by rfl) (by assumption) ?_ | refine held_skip1 27 rfl (by kernel_rfl) (by rfl) (by assumption) ?_)
    (try simp only [Act.put, List.setIfInBounds_toArray, List.set_cons_zero, List.set_cons_succ])
    (first | refine held_skip 28 rfl (by kernel_rfl) (by kernel_rfl) (by kernel_rfl) (fun _ _ _ h => h) (by rfl) (by assumption) ?_ | refine held_skip1 28 rfl (by kernel_rfl) (by rfl) (by assumption) ?_)
    (try simp only [Act.put, List.setIfInBounds_toArray, List.set_cons_zero, List.set_cons_succ])
    (first | refine held_skip 31 rfl (by kernel_rfl) (by kernel_rfl) (by kernel_rfl) (fun _ _ _ h => h) (by rfl) (by assumption) ?_ | refine held_skip1 31 rfl (by kernel_rfl) (by rfl) (by assumption) ?_)
    (try simp only [Act.put, List.setIfInBounds_toArray, List.set_cons_zero, List.set_cons_succ])
    refine held_take 32 (v := ?hv32) rfl (by kernel_rfl) (by kernel_rfl) (by kernel_rfl) (fun _ _ _ h => h) (by rfl) ?hy32 (by assumption) ?hr32
    case hy32 => (intro w hSw; (try dsimp only at hSw); go_simp; (try with_reducible rfl))
    (try simp only [Act.put, List.setIfInBounds_toArray, List.set_cons_zero, List.set_cons_succ])
    refine held_take 33 (v := ?hv33) rfl (by kernel_rfl) (by kernel_rfl) (by kernel_rfl) (fun _ _ _ h => h) (by rfl) ?hy33 (by assumption) ?hr33
    case hy33 => (intro w hSw; (try dsimp only at hSw); go_simp; (try with_reducible rfl))
    (try simp only [Act.put, List.setIfInBounds_toArray, List.set_cons_zero, List.set_cons_succ])
    refine wpAnyH_done (by kernel_rfl) ?_ _
    refine NoPanic.normal ?_
    go_wp2
    go_ret
    exact ⟨by rw [HV.out]; rfl, hq⟩
  · have HEQ := Lib.hid heq
    have HV := Lib.hid (show spB p R C d = ((s.rk : Int) == (R : Int)) by
      rw [HSP.out, ← HSS.out]
      by_cases e : s.rk = R
      · rw [e] at heq ⊢
        have : d = tab R C s.f := (beq_iff_eq.1 heq).symm
        rw [← this]; simp
      · have e3 : (s.rk == R) = false := by simpa using e
        have e2 : ((s.rk : Int) == (R : Int)) = false := by simp; omega
        rw [e3, e2]; simp)
    clear heq
    go_enter Try.func40, Try.ntmps40
    go_wp2_with fail
    generalize w.alloc (.cells #[.int .i64 p, .int .i64 R, .int .i64 C, .slice A n k] 26) = W at hx ha hq hBW ⊢
    go_region_held3 (fun w' => w'.cell? ⟨w.heap.size, 0, none⟩ = some (.int .i64 p) ∧ w'.cell? ⟨w.heap.size, 1, none⟩ = some (.int .i64 R) ∧ w'.cell? ⟨w.heap.size, 2, none⟩ = some (.int .i64 C) ∧ w'.cell? ⟨w.heap.size, 3, none⟩ = some (.slice A n k)) (first | exact hx.four) (first | (go_at_call 64; refine (iOkM_any p R C A n k d W.drew (B := B) (by exact ha) (by exact hBW)).mono ?_; rintro e wc ⟨rfl, hb⟩; rw [HK.out]; have hb := Below.ofDrew hb; have hx := hx.step hb; have ha := ha.below hb hBW; have hq := hq.trans (hb.mono hq.size); have hBW := Nat.le_trans hBW hb.size) | (go_at_call 66; refine (rowsOf_any p R C n k A d _ (B := B) (by exact ha) hd (by exact hBW) (by omega) (by omega) HL.out (by omega)).mono ?_; rintro e wc ⟨A2, n2, k2, rfl, hd2, hb, hs2', hT2⟩; rw [rowsD_tabR (by rw [HDL.out, HL.out]; exact Nat.le_refl _)] at hT2; obtain rfl : R = n2 := (by rw [← hT2.len, tabR_len]); have hx := hx.step hb; have ha := ha.below hb hBW; have hq := hq.trans (hb.mono hq.size); have hBW := Nat.le_trans hBW hb.size) | (go_at_call 99; refine (span_any A2 R k2 C p (matF d C) hs2' _ _ hT2.rd (tabR_FF _ _ _) (Nat.le_refl _) (by omega) (by omega) HP.out (matF_res (by omega) HR.out)).mono ?_; rintro e wc ⟨A3, n3, k3, rfl, hd3, hb, hs3', hT3⟩; rw [← HSS.out] at hT3; obtain rfl : s.rk = n3 := (by rw [← hT3.len, tabR_len]); have hx := hx.step hb; have ha := ha.below hb hBW; have hq := hq.trans (hb.mono hq.size); have hBW := Nat.le_trans hBW hb.size) | (go_at_call 69; refine (matrixOf_any p C A3 s.rk k3 hs3' _ _ hT3.rd (Nat.le_refl _) (by rw [HFL.out, tab_len]; omega)).mono ?_; rintro e wc ⟨A4, n4, k4, rfl, hd4, hb, ho4⟩; rw [HFL.out] at ho4; have hx := hx.step hb; have ha := ha.below hb hBW; have hq := hq.trans (hb.mono hq.size); have hBW := Nat.le_trans hBW hb.size) | (go_at_call 102; refine (slEqual_any A4 A n4 k4 n k _ d _ ho4.rd ha).mono ?_; rintro e wd ⟨rfl, dd, rfl⟩; rw [HEQ.out]; have hx := hx.drewN dd; have ha := ha.drewN dd; have hq := below_drewN hq dd))
    go_wp2
    go_ret
    exact ⟨by rw [HV.out]; rfl, hq⟩
end Go.Proofs.Ytfiganobjjjloaa
