/- ExtendBy of the reference. No condition but what each theorem names. -/
import Derived.Test.YticebbkmakpkjaaExtW
import Derived.Test.YticebbkmakpkjaaL2SW
import Derived.Deep.RegionHeld3
namespace Go.Proofs.Yticebbkmakpkjaa
set_option linter.unusedVariables false
set_option linter.unusedSimpArgs false
set_option maxRecDepth 20000
open Go.RowKit Go.Sort
set_option maxHeartbeats 4000000
theorem l2Sum_1 {B : Nat} (p : Int) (N n1 k1 n2 k2 : Nat) (A1 A2 : Option Addr) (d1 : List Int) (w : World) (h1 : RdI w B A1 n1 d1) (h2 : RdI w B A2 n2 [0]) (hB : B ≤ w.heap.size) (hN : N + 1 ≤ 100) (hl1 : n1 = N * N * N) (hl2 : n2 = 1) :
    Calls Try.prog 109 #[.agg #[.int .i64 p, .int .i64 N, .slice A1 n1 k1], .agg #[.int .i64 p, .int .i64 1, .slice A2 n2 k2]] w (RetA p ((N + 1 : Nat) : Int) (tb3 (N + 1) (smT N 1 d1 [0])) w) :=
  l2Sum_any p p N 1 n1 k1 n2 k2 A1 A2 d1 [0] w h1 h2 hB hN hl1 hl2
theorem sGrow_any {B : Nat} (p : Int) (N n k : Nat) (A : Option Addr) (d : List Int) (w : World) (h : RdI w B A n d) (hB : B ≤ w.heap.size) (hN : N + 1 ≤ 28) (hp : isP p = true) (hl : n = N * N * N) :
    Calls Try.prog 116 #[.agg #[.int .i64 p, .int .i64 N, .slice A n k]] w (RetA p ((N + 1 : Nat) : Int) (tb3 (N + 1) (smT N 1 d [0])) w) := by
  obtain ⟨hp1, hp2⟩ := isP_bd hp
  have HL := Lib.hid hl
  have HAB := Lib.hid (show okAb p 1 from ⟨hp, by omega, by omega⟩)
  have hx := (Box.new w #[.int .i64 p, .int .i64 N, .slice A n k] 27).alloc (.cells #[.int .i64 0, .int .i64 0, .slice none 0 0] 27)
  have hz := Box.new (w.alloc (.cells #[.int .i64 p, .int .i64 N, .slice A n k] 27)) #[.int .i64 0, .int .i64 0, .slice none 0 0] 27
  have hq : Below w.heap.size w ((w.alloc (.cells #[.int .i64 p, .int .i64 N, .slice A n k] 27)).alloc (.cells #[.int .i64 0, .int .i64 0, .slice none 0 0] 27)) := (by repeat' (first | (with_reducible exact Below.refl _ _) | (with_reducible refine Below.setCell ?_ (by first | exact Nat.le_refl _ | omega | (simp only [World.size_alloc, World.size_setCell, World.heap_drewN]; omega) | (simp; omega)) _) | (with_reducible refine Below.alloc ?_ (by first | exact Nat.le_refl _ | omega | (simp only [World.size_alloc, World.size_setCell, World.heap_drewN]; omega) | (simp; omega)) _) | (with_reducible refine below_drewN ?_ _) | (with_reducible refine Below.drew ?_)))
  have ha := h.below hq hB
  have hBW : w.heap.size + 2 ≤ ((w.alloc (.cells #[.int .i64 p, .int .i64 N, .slice A n k] 27)).alloc (.cells #[.int .i64 0, .int .i64 0, .slice none 0 0] 27)).heap.size := by simp
  rw [World.size_alloc] at hz
  obtain ⟨T, hT⟩ : ∃ T, T = tb3 (N + 1) (smT N 1 d [0]) := ⟨_, rfl⟩
  have HT := Lib.hid hT
  rw [← hT]
  clear h hl hp hT
  go_enter Try.func116, Try.ntmps116
  go_wp2_with fail
  generalize ((w.alloc (.cells #[.int .i64 p, .int .i64 N, .slice A n k] 27)).alloc (.cells #[.int .i64 0, .int .i64 0, .slice none 0 0] 27)) = wc at hx hz hq ha hBW ⊢
  have hBc : B ≤ wc.heap.size := by omega
  go_region_held3 (fun w' => (w'.cell? ⟨w.heap.size, 0, none⟩ = some (.int .i64 p) ∧ w'.cell? ⟨w.heap.size, 1, none⟩ = some (.int .i64 N) ∧ w'.cell? ⟨w.heap.size, 2, none⟩ = some (.slice A n k))) (first | exact hx.three | exact (((hx.other (by show w.heap.size ≠ w.heap.size + 1; omega) _).other (by show w.heap.size ≠ w.heap.size + 1; omega) _).other (by show w.heap.size ≠ w.heap.size + 1; omega) _).three)
    (first
      | (go_at_call 149; (with_reducible refine (sAb_ok p 1 _ HAB.out).mono ?_); rintro e wc ⟨A2, n2, c2, rfl, hd2, hb, ho2⟩; have hb := (by first | with_reducible exact bel_ofDrew hb | exact hb : Below _ _ wc); have hsz2 := hb.size; have hx := hx.step hb; have hz := hz.step hb; have ha := ha.below hb hBc; have hq := hq.trans (hb.mono hq.size); have hBc : B ≤ wc.heap.size := (by omega); have hr2 : RdI wc wc.heap.size A2 n2 [0] := ho2.rd; obtain rfl : n2 = 1 := (hr2.1.symm); clear hb ho2)
      | (go_at_call 109; (with_reducible refine (l2Sum_1 (B := wc.heap.size) p N n k 1 c2 A A2 d _ (ha.up hBc) hr2 (Nat.le_refl _) (by omega) HL.out rfl).mono ?_); rw [← HT.out]; rintro e wc ⟨A5, n5, c5, rfl, hd5, hb, ho5⟩; have hlo5 := hq.size; have hsz2 := hb.size; have hx := hx.step hb; have hz := hz.step hb; have hq := hq.trans (hb.mono hq.size); obtain ⟨z0, z1, z2⟩ := hz.three; have zf := hz.fz; clear ha hr2))
  go_wp2
  refine bodyPost_ret (v := .agg #[.int .i64 p, .int .i64 ((N + 1 : Nat) : Int), .slice A5 n5 c5]) (by simp [results, Try.results116, go_sem, z0, z1, z2]) rfl ⟨_, _, _, rfl, hd5, (by repeat' (first | (with_reducible exact Below.refl _ _) | (with_reducible refine Below.setCell ?_ (by first | exact Nat.le_refl _ | omega | (simp only [World.size_alloc, World.size_setCell, World.heap_drewN]; omega) | (simp; omega)) _) | (with_reducible refine Below.alloc ?_ (by first | exact Nat.le_refl _ | omega | (simp only [World.size_alloc, World.size_setCell, World.heap_drewN]; omega) | (simp; omega)) _) | (with_reducible refine below_drewN ?_ _) | (with_reducible refine Below.drew ?_) | (with_reducible refine Below.trans ?_ (hq.mono (by first | exact Nat.le_refl _ | omega | (simp only [World.size_alloc, World.size_setCell, World.heap_drewN]; omega) | (simp; omega)))))), ?_⟩
  simp only [World.size_setCell]
  exact ((((ho5.setLow (by simp; omega) _).setLow (by simp; omega) _).setLow (by simp; omega) _).down (by omega)).up (by omega)

theorem sGrow1 {B : Nat} (p : Int) (N n k : Nat) (A : Option Addr) (d : List Int) (w : World) (h : RdI w B A n d) (hB : B ≤ w.heap.size) (hN : N + 1 ≤ 28) (hp : isP p = true) (hl : n = N * N * N) :
    Calls Try.prog 116 #[.agg #[.int .i64 p, .int .i64 N, .slice A n k]] w (RetA p ((N : Int) + 1) (tb3 (N + 1) (smT N 1 d [0])) w) := by
  have h := sGrow_any (k := k) p N n A d w h hB hN hp hl
  rwa [Int.natCast_add, Int.natCast_one] at h
theorem e3_bd {N i j : Nat} (hi : i < N) (hj : j < N) (hN : N + 1 ≤ 28) :
    0 ≤ (i : Int) * ((N : Int) + 1) ∧ (i : Int) * ((N : Int) + 1) + j ≤ 10000 ∧ 0 ≤ ((i : Int) * ((N : Int) + 1) + j) * ((N : Int) + 1) ∧ ((i : Int) * ((N : Int) + 1) + j) * ((N : Int) + 1) + N ≤ 1000000 ∧ ((i : Int) * ((N : Int) + 1) + j) * ((N : Int) + 1) + N = (((i * (N + 1) + j) * (N + 1) + N : Nat) : Int) ∧ (i * (N + 1) + j) * (N + 1) + N < (N + 1) * (N + 1) * (N + 1) := by
  obtain ⟨c1, c2, c3, c4, c5, c6⟩ := i3_bd (n := N + 1) (show i < N + 1 by omega) (show j < N + 1 by omega) (show N < N + 1 by omega) (show N + 1 ≤ 100 by omega)
  refine ⟨?_, ?_, ?_, ?_, ?_, c6⟩
  · simp only [Int.natCast_add, Int.natCast_one] at c1; exact c1
  · simp only [Int.natCast_add, Int.natCast_one] at c2; exact c2
  · simp only [Int.natCast_add, Int.natCast_one] at c3; exact c3
  · simp only [Int.natCast_add, Int.natCast_one] at c4; exact c4
  · simp only [Int.natCast_add, Int.natCast_mul, Int.natCast_one]
set_option maxRecDepth 100000 in
theorem sExt_ok {B : Nat} (p : Int) (N n k n2 k2 : Nat) (A A2 : Option Addr) (d d2 : List Int) (w : World) (h : RdI w B A n d) (hd : Hd A n k) (h2 : RdI w B A2 n2 d2) (hd2 : Hd A2 n2 k2) (hB : B ≤ w.heap.size) (hex : exB p N d p N N d2 = true) (hN : N + 1 ≤ 28) (hp : isP p = true) (hl : d.length = N * N * N) (hr : resB d p = true) (hl2 : d2.length = N * N) (hr2 : resB d2 p = true) :
    Calls Try.prog 49 #[.agg #[.int .i64 p, .int .i64 N, .slice A n k], .agg #[.int .i64 p, .int .i64 N, .int .i64 N, .slice A2 n2 k2]] w (RetAB p ((N + 1 : Nat) : Int) (tb3 (N + 1) (exT N d d2)) true w) := by
  obtain ⟨hp1, hp2⟩ := isP_bd hp
  have HP := Lib.hid hp
  have HC := Lib.hid hex
  have HL := Lib.hid (show n = N * N * N by rw [← hl]; exact h.1.symm)
  have HL2 := Lib.hid (show n2 = N * N by rw [← hl2]; exact h2.1.symm)
  have hle2 : n2 ≤ 28 * 28 := by rw [HL2.out]; exact Nat.mul_le_mul (by omega) (by omega)
  have hdn : decide (28 < (N : Int) + 1) = false := by simp; omega
  clear hex hl hr hl2 hr2 hp
  go_enter Try.func49, Try.ntmps49
  go_wp2_with fail
  refine (sCocR p N n k n2 k2 A A2 d p N N d2 _ (B := B) (by exact h.below ((by repeat' (first | (with_reducible exact Below.refl _ _) | (with_reducible refine Below.setCell ?_ (by first | exact Nat.le_refl _ | omega | (simp only [World.size_alloc, World.size_setCell, World.heap_drewN]; omega) | (simp; omega)) _) | (with_reducible refine Below.alloc ?_ (by first | exact Nat.le_refl _ | omega | (simp only [World.size_alloc, World.size_setCell, World.heap_drewN]; omega) | (simp; omega)) _) | (with_reducible refine below_drewN ?_ _) | (with_reducible refine Below.drew ?_))) : Below w.heap.size w _) hB) hd (by exact h2.below ((by repeat' (first | (with_reducible exact Below.refl _ _) | (with_reducible refine Below.setCell ?_ (by first | exact Nat.le_refl _ | omega | (simp only [World.size_alloc, World.size_setCell, World.heap_drewN]; omega) | (simp; omega)) _) | (with_reducible refine Below.alloc ?_ (by first | exact Nat.le_refl _ | omega | (simp only [World.size_alloc, World.size_setCell, World.heap_drewN]; omega) | (simp; omega)) _) | (with_reducible refine below_drewN ?_ _) | (with_reducible refine Below.drew ?_))) : Below w.heap.size w _) hB) hd2 (by first | exact Nat.le_refl _ | omega | (simp only [World.size_alloc, World.size_setCell, World.heap_drewN]; omega) | (simp; omega))).mono ?_
  rintro e w1 ⟨rfl, hb1⟩
  have b1 : Box w1 (w.heap.size) #[.int .i64 p, .int .i64 N, .slice A n k] := by
    have hq := (((Box.new w #[.int .i64 p, .int .i64 N, .slice A n k] 27).alloc _).alloc _).below hb1 (by first | omega | (simp only [World.size_alloc]; omega) | (simp; omega))
    (try simp only [World.size_alloc] at hq)
    exact hq
  have b2 : Box w1 (w.heap.size + 1) #[.int .i64 p, .int .i64 N, .int .i64 N, .slice A2 n2 k2] := by
    have hq := ((Box.new (w.alloc (.cells #[.int .i64 p, .int .i64 N, .slice A n k] 27)) #[.int .i64 p, .int .i64 N, .int .i64 N, .slice A2 n2 k2] 53).alloc _).below hb1 (by first | omega | (simp only [World.size_alloc]; omega) | (simp; omega))
    (try simp only [World.size_alloc] at hq)
    exact hq
  have b3 : Box w1 (w.heap.size + 1 + 1) #[.int .i64 0, .int .i64 0, .slice none 0 0] := by
    have hq := (Box.new ((w.alloc (.cells #[.int .i64 p, .int .i64 N, .slice A n k] 27)).alloc (.cells #[.int .i64 p, .int .i64 N, .int .i64 N, .slice A2 n2 k2] 53)) #[.int .i64 0, .int .i64 0, .slice none 0 0] 27).below hb1 (by first | omega | (simp only [World.size_alloc]; omega) | (simp; omega))
    (try simp only [World.size_alloc] at hq)
    exact hq
  have hq1 : Below w.heap.size w w1 := (by repeat' (first | (with_reducible exact Below.refl _ _) | (with_reducible refine Below.setCell ?_ (by first | exact Nat.le_refl _ | omega | (simp only [World.size_alloc, World.size_setCell, World.heap_drewN]; omega) | (simp; omega)) _) | (with_reducible refine Below.alloc ?_ (by first | exact Nat.le_refl _ | omega | (simp only [World.size_alloc, World.size_setCell, World.heap_drewN]; omega) | (simp; omega)) _) | (with_reducible refine below_drewN ?_ _) | (with_reducible refine Below.drew ?_) | (with_reducible refine Below.trans ?_ (hb1.mono (by first | exact Nat.le_refl _ | omega | (simp only [World.size_alloc, World.size_setCell, World.heap_drewN]; omega) | (simp; omega))))))
  have hs1 := hb1.size
  simp only [World.size_alloc] at hs1
  have g1 := h.below hq1 hB
  have g2 := h2.below hq1 hB
  clear hb1
  rw [HC.out]
  obtain ⟨x0, x1, x2⟩ := b1.three
  clear h h2
  have hBB : B ≤ w1.heap.size := by omega
  go_wp2_with (go_at_call 116; refine (sGrow1 p N n k A d _ g1 hBB hN HP.out HL.out).mono ?_; rintro e w3 ⟨A5, m5, c5, rfl, hd5, hb3, ho5⟩; clear x0 x1 x2; have hs3 := hb3.size; have b1 := (b1.below hb3 (by omega)).alloc (.cells #[.int .i64 p, .int .i64 ((N : Int) + 1), .slice A5 m5 c5] 27); have b2 := (b2.below hb3 (by omega)).alloc (.cells #[.int .i64 p, .int .i64 ((N : Int) + 1), .slice A5 m5 c5] 27); have b3 := (b3.below hb3 (by omega)).alloc (.cells #[.int .i64 p, .int .i64 ((N : Int) + 1), .slice A5 m5 c5] 27); have hy := Box.new w3 #[.int .i64 p, .int .i64 ((N : Int) + 1), .slice A5 m5 c5] 27; have g2 := (g2.below hb3 hBB).alloc (by omega) (.cells #[.int .i64 p, .int .i64 ((N : Int) + 1), .slice A5 m5 c5] 27); have hq : Below w.heap.size w (w3.alloc (.cells #[.int .i64 p, .int .i64 ((N : Int) + 1), .slice A5 m5 c5] 27)) := (by repeat' (first | (with_reducible exact Below.refl _ _) | (with_reducible refine Below.setCell ?_ (by first | exact Nat.le_refl _ | omega | (simp only [World.size_alloc, World.size_setCell, World.heap_drewN]; omega) | (simp; omega)) _) | (with_reducible refine Below.alloc ?_ (by first | exact Nat.le_refl _ | omega | (simp only [World.size_alloc, World.size_setCell, World.heap_drewN]; omega) | (simp; omega)) _) | (with_reducible refine below_drewN ?_ _) | (with_reducible refine Below.drew ?_) | (with_reducible refine Below.trans ?_ (hb3.mono (by first | exact Nat.le_refl _ | omega | (simp only [World.size_alloc, World.size_setCell, World.heap_drewN]; omega) | (simp; omega)))) | (with_reducible refine Below.trans ?_ (hq1.mono (by first | exact Nat.le_refl _ | omega | (simp only [World.size_alloc, World.size_setCell, World.heap_drewN]; omega) | (simp; omega)))))); have ho := ho5.alloc (Nat.le_refl _) (.cells #[.int .i64 p, .int .i64 ((N : Int) + 1), .slice A5 m5 c5] 27); obtain ⟨x0, x1, x2⟩ := b1.three)
  have hs4 : (w3.alloc (.cells #[.int .i64 p, .int .i64 ((N : Int) + 1), .slice A5 m5 c5] 27)).heap.size = w3.heap.size + 1 := by rw [World.size_alloc]
  generalize (w3.alloc (.cells #[.int .i64 p, .int .i64 ((N : Int) + 1), .slice A5 m5 c5] 27)) = W0 at *
  clear g1 hb3 ho5 x0 x1 x2
  rw [exW_zero N d d2] at ho
  have hm5 : m5 = (N + 1) * (N + 1) * (N + 1) := by rw [← ho.1]; exact tb3_len _ _
  have HM5 := Lib.hid hm5
  have hpos : 0 < m5 := by rw [hm5]; exact Nat.mul_pos (Nat.mul_pos (by omega) (by omega)) (by omega)
  have hle5 : m5 ≤ 28 * 28 * 28 := by rw [hm5]; exact Nat.mul_le_mul (Nat.mul_le_mul hN hN) hN
  clear hm5
  obtain ⟨bA, oA, rfl⟩ := ho.addr hpos
  obtain ⟨hbA, hbA2⟩ := ho.blk hpos
  go_loopw [8] (fun ii wr => ∃ i : Nat, i ≤ N ∧ ii = .int .i64 i ∧ Chg w1.heap.size w3.heap.size W0 wr ∧ OwI wr w1.heap.size w3.heap.size (some ⟨bA, oA, none⟩) m5 (exW N d d2 i 0)) (fun ii _ => N - (intOf ii).toNat)
  case atStart => exact ⟨0, by omega, rfl, Chg.refl _ _ _, ho⟩
  case round =>
    clear ho
    obtain ⟨i, hi, rfl, hch, ho⟩ := hrel
    have hsz := hch.size
    by_cases hlti : i < N
    · go_wp2_with fail
      go_loopw [9] (fun jj wr => ∃ j : Nat, j ≤ N ∧ jj = .int .i64 j ∧ Chg w1.heap.size w3.heap.size W0 wr ∧ OwI wr w1.heap.size w3.heap.size (some ⟨bA, oA, none⟩) m5 (exW N d d2 i j)) (fun jj _ => N - (intOf jj).toNat)
      case atStart => exact ⟨0, by omega, rfl, hch, ho⟩
      case round =>
        clear hch ho hsz
        obtain ⟨j, hj, rfl, hch, ho⟩ := hrel
        have hsz := hch.size
        by_cases hltj : j < N
        · have hmr := hy.chg hch (by omega)
          obtain ⟨m0, m1, m2⟩ := hmr.three
          have hfr := b2.chg hch (by omega)
          obtain ⟨f0, f1, f2, f3⟩ := hfr.four
          have g2r := g2.below (hch.below (by omega)) (by omega)
          obtain ⟨c1, c2, c3, c4, c5', c6⟩ := e3_bd hlti hltj hN
          rw [← HM5.out] at c6
          have c7 : (((i : Int) * ((N : Int) + 1) + j) * ((N : Int) + 1) + N).toNat = (i * (N + 1) + j) * (N + 1) + N := by omega
          have c8 : ((i : Int) * ((N : Int) + 1) + j) * ((N : Int) + 1) + N < m5 := by omega
          have HST := Lib.hid (exW_step d d2 hlti hltj)
          have hin : i * N + j < n2 := by rw [HL2.out]; exact idx_lt hlti hltj
          have cG : ∀ d' os, Calls Try.prog 117 #[.agg #[.int .i64 p, .int .i64 N, .int .i64 N, .slice A2 n2 k2], .int .i64 i, .int .i64 j] (grow (redrawn wr d') os) fun e w'' => e = .returned (.int .i64 (matF d2 N i j)) ∧ ∃ pp : Regrown, w'' = grow (redrawn wr pp.d) pp.os :=
            fun d' os => Calls.regrown_of (l1At_any (B := B) p N N i j n2 k2 A2 d2 _ (g2r.below (below_regrown wr d' os) (by omega)) (by have := (below_regrown wr d' os).size; omega) hin (by omega))
          generalize matF d2 N i j = x at *
          clear c5'
          go_wp2_with fail
          have q0 := cell_regrown m0
          have q1 := cell_regrown m1
          have q2 := cell_regrown m2
          have q3 := cell_regrown f0
          have q4 := cell_regrown f1
          have q5 := cell_regrown f2
          have q6 := cell_regrown f3
          clear m0 m1 m2 f0 f1 f2 f3
          (refine wp_region_quiet_last (C := fun w' => ∃ p : Regrown, w' = grow (redrawn wr p.d) p.os) 18 (by kernel_rfl) (by kernel_rfl) (by kernel_rfl) (by kernel_rfl) (by kernel_rfl) (by kernel_rfl) (by kernel_rfl) (by kernel_rfl) ⟨⟨wr.drawn + 1, #[]⟩, by rw [grow_empty]; rfl⟩ ?_; simp only [List.take_succ_cons, List.take_zero, List.drop_succ_cons, List.drop_zero]; (repeat (go_big_quiet_step (exact cG _ _))); refine wpQuiet_nil ?_; rintro W ⟨pp, hW⟩; have hbW : Below wr.heap.size wr W := hW ▸ below_regrown _ _ _; clear hW)
          have hoW := ho.below hbW (by omega)
          have hoE := hoW.store (v := x) c6
          obtain ⟨f1, f2⟩ := hoW.at_ c6
          rw [HST.out] at hoE
          have hcW := (hch.trans (Chg.ofBelow hbW (Nat.le_refl _))).setCell (p := ⟨bA, oA + ((i * (N + 1) + j) * (N + 1) + N), none⟩) (by exact hbA) (by exact hbA2) (.int .i64 x)
          clear q0 q1 q2 q3 q4 q5 q6 cG hoW ho hch
          go_wp2
          go_roundw
          case rel => exact ⟨j + 1, by omega, by go_num, hcW, hoE⟩
          case measure => simp [intOf]; omega
        · obtain rfl : N = j := by omega
          rw [exW_row] at ho
          go_wp2
          go_roundw
          case rel => exact ⟨i + 1, by omega, by go_num, hch, ho⟩
          case measure => simp [intOf]; omega
    · obtain rfl : N = i := by omega
      rw [exW_end] at ho
      have hyr := hy.chg hch (by omega)
      have hzr := b3.chg hch (by omega)
      have hbW : Below w.heap.size w wr := hq.trans ((hch.below (by omega)).mono (by omega))
      obtain ⟨y0, y1, y2⟩ := hyr.three
      obtain ⟨z0, z1, z2⟩ := hzr.three
      have zf := hzr.fz
      clear hyr hzr
      go_wp2
      refine bodyPost_ret (v := .tuple #[.agg #[.int .i64 p, .int .i64 ((N : Int) + 1), .slice (some ⟨bA, oA, none⟩) m5 c5], .bool true]) (by simp [results, Try.results49, go_sem, z0, z1, z2]) rfl ⟨_, _, _, rfl, hd5, (by repeat' (first | (with_reducible exact Below.refl _ _) | (with_reducible refine Below.setCell ?_ (by first | exact Nat.le_refl _ | omega | (simp only [World.size_alloc, World.size_setCell, World.heap_drewN]; omega) | (simp; omega)) _) | (with_reducible refine Below.alloc ?_ (by first | exact Nat.le_refl _ | omega | (simp only [World.size_alloc, World.size_setCell, World.heap_drewN]; omega) | (simp; omega)) _) | (with_reducible refine below_drewN ?_ _) | (with_reducible refine Below.drew ?_) | (with_reducible refine Below.trans ?_ (hbW.mono (by first | exact Nat.le_refl _ | omega | (simp only [World.size_alloc, World.size_setCell, World.heap_drewN]; omega) | (simp; omega)))))), ?_⟩
      simp only [World.size_setCell]
      exact ((((ho.setLow (by simp; omega) _).setLow (by simp; omega) _).setLow (by simp; omega) _).down (by omega)).up (by omega)
end Go.Proofs.Yticebbkmakpkjaa
