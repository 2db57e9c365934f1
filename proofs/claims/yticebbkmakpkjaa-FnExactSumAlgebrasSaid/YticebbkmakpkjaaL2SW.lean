/- l2Sum: the algebra of two parts (the reference). No condition but what the theorem names. -/
import Derived.Test.YticebbkmakpkjaaTbyW
import Derived.Deep.DeepCutAuto
namespace Go.Proofs.Yticebbkmakpkjaa
set_option linter.unusedVariables false
set_option linter.unusedSimpArgs false
set_option maxRecDepth 20000
open Go.RowKit Go.Sort
set_option maxHeartbeats 4000000
/-- what 'Algebra{.., Table: make(..)}' leaves: its box g, its table's block b, in whichever order -/
def MadeA (N : Nat) (p q : Int) (n : Nat) (W : World) (s : Value) (wx : World) : Prop :=
  ∃ g b, s = .pointer (some ⟨g, 0, none⟩) ∧ Box wx g #[.int .i64 p, .int .i64 q, .slice (some ⟨b, 0, none⟩) n n] ∧ OwI wx b (b + 1) (some ⟨b, 0, none⟩) n (List.replicate n 0) ∧ Below N W wx ∧ wx.heap.size = N + 2 ∧ N ≤ g ∧ g < N + 2 ∧ N ≤ b ∧ b < N + 2 ∧ g ≠ b
theorem MadeA.one {p q : Int} {n N : Nat} (hn : n ≤ 1073741824) (W : World) (hN : W.heap.size = N) (T T' : TypeId) :
    MadeA N p q n W (.pointer (some ⟨N + 1, 0, none⟩)) (((W.alloc (.cells (zrow n) T)).alloc (.cells #[.int .i64 p, .int .i64 q, .slice (some ⟨N, 0, none⟩) n n] T')).drew) := by
  subst hN
  have hb := Box.new (W.alloc (.cells (zrow n) T)) #[.int .i64 p, .int .i64 q, .slice (some ⟨W.heap.size, 0, none⟩) n n] T'
  rw [World.size_alloc] at hb
  exact ⟨_, _, rfl, hb, (OwI.zrow W n T hn).alloc (by simp) _, Below.drew1 _ (((Below.refl _ _).alloc (Nat.le_refl _) _).alloc (by simp) _), by show (World.alloc _ _).heap.size = _; simp, by omega, by omega, by omega, by omega, by omega⟩
theorem MadeA.two {p q : Int} {n N : Nat} (hn : n ≤ 1073741824) (W : World) (hN : W.heap.size = N) (T T' : TypeId) :
    MadeA N p q n W (.pointer (some ⟨N, 0, none⟩)) (((W.alloc (.cells #[.int .i64 p, .int .i64 q, .slice (some ⟨N + 1, 0, none⟩) n n] T')).alloc (.cells (zrow n) T)).drew) := by
  subst hN
  have hb := (Box.new W #[.int .i64 p, .int .i64 q, .slice (some ⟨W.heap.size + 1, 0, none⟩) n n] T').alloc (.cells (zrow n) T)
  have hz := OwI.zrow (W.alloc (.cells #[.int .i64 p, .int .i64 q, .slice (some ⟨W.heap.size + 1, 0, none⟩) n n] T')) n T hn
  rw [World.size_alloc] at hz
  exact ⟨_, _, rfl, hb, hz, Below.drew1 _ (((Below.refl _ _).alloc (Nat.le_refl _) _).alloc (by simp) _), by show (World.alloc _ _).heap.size = _; simp, by omega, by omega, by omega, by omega, by omega⟩
/-- the table of a sum, as far as the first part is done -/
def s1F (N1 : Nat) (d1 : List Int) (i j k a b c : Nat) : Int := if (a < N1 ∧ b < N1 ∧ c < N1) ∧ (a < i ∨ (a = i ∧ (b < j ∨ (b = j ∧ c < k)))) then tA N1 d1 a b c else 0
/-- .. and the second -/
def s2F (N1 N2 : Nat) (d1 d2 : List Int) (i j k a b c : Nat) : Int :=
  if (N1 ≤ a ∧ N1 ≤ b ∧ N1 ≤ c) ∧ (a < N1 + i ∨ (a = N1 + i ∧ (b < N1 + j ∨ (b = N1 + j ∧ c < N1 + k)))) then tA N2 d2 (a - N1) (b - N1) (c - N1) else if a < N1 ∧ b < N1 ∧ c < N1 then tA N1 d1 a b c else 0
def s1W (M N1 : Nat) (d1 : List Int) (i j k : Nat) : List Int := tb3 M (s1F N1 d1 i j k)
def s2W (M N1 N2 : Nat) (d1 d2 : List Int) (i j k : Nat) : List Int := tb3 M (s2F N1 N2 d1 d2 i j k)
theorem s1W_zero (M N1 : Nat) (d1 : List Int) : List.replicate (M * M * M) (0 : Int) = s1W M N1 d1 0 0 0 := by
  rw [tb3_zero]
  refine tb3_congr fun a b c _ _ _ => ?_
  unfold s1F
  rw [if_neg (by omega)]
theorem s1W_step {M N1 i j k : Nat} (d1 : List Int) (hM : N1 ≤ M) (hi : i < N1) (hj : j < N1) (hk : k < N1) : (s1W M N1 d1 i j k).set ((i * M + j) * M + k) (tA N1 d1 i j k) = s1W M N1 d1 i j (k + 1) := by
  unfold s1W
  rw [tb3_set _ _ (by omega) (by omega) (by omega)]
  refine tb3_congr fun a b c _ _ _ => ?_
  by_cases e : a = i ∧ b = j ∧ c = k
  · obtain ⟨rfl, rfl, rfl⟩ := e
    rw [if_pos ⟨rfl, rfl, rfl⟩]
    unfold s1F
    rw [if_pos (by omega)]
  · rw [if_neg e]
    unfold s1F
    exact iteC (by omega) rfl rfl
theorem s1W_col (M : Nat) {N1 : Nat} (d1 : List Int) (i j : Nat) : s1W M N1 d1 i j N1 = s1W M N1 d1 i (j + 1) 0 := by
  refine tb3_congr fun a b c _ _ _ => ?_
  unfold s1F
  exact iteC (by omega) rfl rfl
theorem s1W_row (M : Nat) {N1 : Nat} (d1 : List Int) (i : Nat) : s1W M N1 d1 i N1 0 = s1W M N1 d1 (i + 1) 0 0 := by
  refine tb3_congr fun a b c _ _ _ => ?_
  unfold s1F
  exact iteC (by omega) rfl rfl
theorem s12 (M N1 N2 : Nat) (d1 d2 : List Int) : s1W M N1 d1 N1 0 0 = s2W M N1 N2 d1 d2 0 0 0 := by
  refine tb3_congr fun a b c _ _ _ => ?_
  unfold s1F s2F
  rw [if_neg (show ¬ ((N1 ≤ a ∧ N1 ≤ b ∧ N1 ≤ c) ∧ (a < N1 + 0 ∨ (a = N1 + 0 ∧ (b < N1 + 0 ∨ (b = N1 + 0 ∧ c < N1 + 0))))) by omega)]
  exact iteC (by omega) rfl rfl
theorem s2W_step {M N1 N2 i j k : Nat} (d1 d2 : List Int) (hM : N1 + N2 = M) (hi : i < N2) (hj : j < N2) (hk : k < N2) : (s2W M N1 N2 d1 d2 i j k).set (((N1 + i) * M + (N1 + j)) * M + (N1 + k)) (tA N2 d2 i j k) = s2W M N1 N2 d1 d2 i j (k + 1) := by
  unfold s2W
  rw [tb3_set _ _ (by omega) (by omega) (by omega)]
  refine tb3_congr fun a b c _ _ _ => ?_
  by_cases e : a = N1 + i ∧ b = N1 + j ∧ c = N1 + k
  · obtain ⟨rfl, rfl, rfl⟩ := e
    rw [if_pos ⟨rfl, rfl, rfl⟩]
    unfold s2F
    rw [if_pos (by omega), show N1 + i - N1 = i by omega, show N1 + j - N1 = j by omega, show N1 + k - N1 = k by omega]
  · rw [if_neg e]
    unfold s2F
    exact iteC (by omega) rfl rfl
theorem s2W_col {M N1 N2 : Nat} (d1 d2 : List Int) (hM : N1 + N2 = M) (i j : Nat) : s2W M N1 N2 d1 d2 i j N2 = s2W M N1 N2 d1 d2 i (j + 1) 0 := by
  refine tb3_congr fun a b c _ _ _ => ?_
  unfold s2F
  exact iteC (by omega) rfl rfl
theorem s2W_row {M N1 N2 : Nat} (d1 d2 : List Int) (hM : N1 + N2 = M) (i : Nat) : s2W M N1 N2 d1 d2 i N2 0 = s2W M N1 N2 d1 d2 (i + 1) 0 0 := by
  refine tb3_congr fun a b c _ _ _ => ?_
  unfold s2F
  exact iteC (by omega) rfl rfl
/-- the table of a sum -/
def smT (N1 N2 : Nat) (d1 d2 : List Int) (a b c : Nat) : Int := if N1 ≤ a ∧ N1 ≤ b ∧ N1 ≤ c then tA N2 d2 (a - N1) (b - N1) (c - N1) else if a < N1 ∧ b < N1 ∧ c < N1 then tA N1 d1 a b c else 0
theorem s2W_end {M N1 N2 : Nat} (d1 d2 : List Int) (hM : N1 + N2 = M) : s2W M N1 N2 d1 d2 N2 0 0 = tb3 M (smT N1 N2 d1 d2) := by
  refine tb3_congr fun a b c _ _ _ => ?_
  unfold s2F smT
  exact iteC (by omega) rfl rfl
theorem i3c_bd {N1 M i j k : Nat} (hi : N1 + i < M) (hj : N1 + j < M) (hk : N1 + k < M) (hM : M ≤ 100) : 0 ≤ ((N1 : Int) + i) * M ∧ ((N1 : Int) + i) * M + N1 + j ≤ 10000 ∧ 0 ≤ (((N1 : Int) + i) * M + N1 + j) * M ∧ (((N1 : Int) + i) * M + N1 + j) * M + N1 + k ≤ 1000000 ∧ (((N1 : Int) + i) * M + N1 + j) * M + N1 + k = ((((N1 + i) * M + (N1 + j)) * M + (N1 + k) : Nat) : Int) ∧ ((N1 + i) * M + (N1 + j)) * M + (N1 + k) < M * M * M := by
  obtain ⟨b1, b2, b3, b4, b5, b6⟩ := i3_bd hi hj hk hM
  simp only [Int.natCast_add, ← Int.add_assoc] at b1 b2 b3 b4 b5
  refine ⟨b1, b2, b3, b4, ?_, b6⟩
  rw [b5]
  simp only [Int.natCast_add, Int.natCast_mul, ← Int.add_assoc]
set_option maxRecDepth 100000 in
theorem l2Sum_any {B : Nat} (p p2 : Int) (N1 N2 n1 k1 n2 k2 : Nat) (A1 A2 : Option Addr) (d1 d2 : List Int) (w : World) (h1 : RdI w B A1 n1 d1) (h2 : RdI w B A2 n2 d2) (hB : B ≤ w.heap.size) (hN : N1 + N2 ≤ 100) (hl1 : n1 = N1 * N1 * N1) (hl2 : n2 = N2 * N2 * N2) :
    Calls Try.prog 109 #[.agg #[.int .i64 p, .int .i64 N1, .slice A1 n1 k1], .agg #[.int .i64 p2, .int .i64 N2, .slice A2 n2 k2]] w (RetA p ((N1 + N2 : Nat) : Int) (tb3 (N1 + N2) (smT N1 N2 d1 d2)) w) := by
  have HL1 := Lib.hid hl1
  have HL2 := Lib.hid hl2
  obtain ⟨M, hM⟩ : ∃ M, M = N1 + N2 := ⟨_, rfl⟩
  have HM := Lib.hid (show N1 + N2 = M from hM.symm)
  have hMw : IntKind.i64.wrap ((N1 : Int) + (N2 : Int)) = (M : Int) := by rw [show (N1 : Int) + (N2 : Int) = (M : Int) by omega]; exact IntWalk.i64_in _ (by omega)
  have hM1 : N1 + N2 ≤ M := by omega
  have hM2 : M ≤ N1 + N2 := by omega
  rw [← hM]
  obtain ⟨N3, hN3⟩ : ∃ N3, N3 = M * M * M := ⟨_, rfl⟩
  have HN3 := Lib.hid hN3
  have hnn : M * M * M ≤ 100 * 100 * 100 := Nat.mul_le_mul (Nat.mul_le_mul (by omega) (by omega)) (by omega)
  have hn2 : M * M ≤ 100 * 100 := Nat.mul_le_mul (by omega) (by omega)
  have e2 : (M : Int) * M = ((M * M : Nat) : Int) := by rw [Int.natCast_mul]
  have e3 : (M : Int) * M * M = ((M * M * M : Nat) : Int) := by rw [Int.natCast_mul, Int.natCast_mul]
  have hm1 : 0 ≤ (M : Int) * M := by omega
  have hm2 : (M : Int) * M ≤ 10000 := by omega
  have hm3 : 0 ≤ (M : Int) * M * M := by omega
  have hm4 : (M : Int) * M * M ≤ 1000000 := by omega
  rw [← hN3] at e3 hnn
  have hmw1 : IntKind.i64.wrap ((M : Int) * M) = (M : Int) * M := IntWalk.i64_in _ (by omega)
  have hmw2 : IntKind.i64.wrap ((M : Int) * M * M) = (N3 : Int) := by rw [e3]; exact IntWalk.i64_in _ (by omega)
  have hmk := mkI_run (N3 : Int) N3 rfl (by omega)
  have hx0 := ((Box.new w #[.int .i64 p, .int .i64 N1, .slice A1 n1 k1] 27).alloc (.cells #[.int .i64 p2, .int .i64 N2, .slice A2 n2 k2] 27)).alloc (.cells #[.int .i64 0, .int .i64 0, .slice none 0 0] 27)
  have hy0 := (Box.new (w.alloc (.cells #[.int .i64 p, .int .i64 N1, .slice A1 n1 k1] 27)) #[.int .i64 p2, .int .i64 N2, .slice A2 n2 k2] 27).alloc (.cells #[.int .i64 0, .int .i64 0, .slice none 0 0] 27)
  have hz0 := Box.new ((w.alloc (.cells #[.int .i64 p, .int .i64 N1, .slice A1 n1 k1] 27)).alloc (.cells #[.int .i64 p2, .int .i64 N2, .slice A2 n2 k2] 27)) #[.int .i64 0, .int .i64 0, .slice none 0 0] 27
  rw [World.size_alloc] at hy0
  rw [World.size_alloc, World.size_alloc] at hz0
  have hq0 : Below w.heap.size w (((w.alloc (.cells #[.int .i64 p, .int .i64 N1, .slice A1 n1 k1] 27)).alloc (.cells #[.int .i64 p2, .int .i64 N2, .slice A2 n2 k2] 27)).alloc (.cells #[.int .i64 0, .int .i64 0, .slice none 0 0] 27)) := (by repeat' (first | (with_reducible exact Below.refl _ _) | (with_reducible refine Below.setCell ?_ (by first | exact Nat.le_refl _ | omega | (simp only [World.size_alloc, World.size_setCell, World.heap_drewN]; omega) | (simp; omega)) _) | (with_reducible refine Below.alloc ?_ (by first | exact Nat.le_refl _ | omega | (simp only [World.size_alloc, World.size_setCell, World.heap_drewN]; omega) | (simp; omega)) _) | (with_reducible refine below_drewN ?_ _) | (with_reducible refine Below.drew ?_)))
  have g10 := h1.below hq0 hB
  have g20 := h2.below hq0 hB
  have hWs : (((w.alloc (.cells #[.int .i64 p, .int .i64 N1, .slice A1 n1 k1] 27)).alloc (.cells #[.int .i64 p2, .int .i64 N2, .slice A2 n2 k2] 27)).alloc (.cells #[.int .i64 0, .int .i64 0, .slice none 0 0] 27)).heap.size = w.heap.size + 3 := by simp
  obtain ⟨x0, x1, x2⟩ := hx0.three
  obtain ⟨y0, y1, y2⟩ := hy0.three
  clear hl1 hl2 hM hN3 h1 h2 e2 e3
  go_enter Try.func109, Try.ntmps109
  go_upto_region 2 with fail
  generalize (((w.alloc (.cells #[.int .i64 p, .int .i64 N1, .slice A1 n1 k1] 27)).alloc (.cells #[.int .i64 p2, .int .i64 N2, .slice A2 n2 k2] 27)).alloc (.cells #[.int .i64 0, .int .i64 0, .slice none 0 0] 27)) = W0 at *
  go_cut [6] (fun s6 wx => MadeA (w.heap.size + 3) p M N3 W0 s6 wx)
  case first =>
    go_region
    all_goals (go_wp2_with fail; go_meet; first | exact MadeA.one (by omega) W0 hWs _ _ | exact MadeA.two (by omega) W0 hWs _ _)
  case rest =>
    obtain ⟨g, b, rfl, hm, ho, hb, hs, hg0, hg1, hb0, hb1, hgb⟩ := hcut
    have hx := hx0.below hb (by omega)
    have hy := hy0.below hb (by omega)
    have hz := hz0.below hb (by omega)
    have g1 := g10.below hb (by omega)
    have g2 := g20.below hb (by omega)
    have hq : Below w.heap.size w wc := hq0.trans (hb.mono (by omega))
    rw [HN3.out, s1W_zero M N1 d1, ← HN3.out] at ho
    have HS := Lib.hid hs
    clear hb hmk x0 x1 x2 y0 y1 y2 hx0 hy0 hz0 g10 g20 hq0 hmw1 hmw2
    go_wp2_with fail
    go_loopw [7] (fun ii wr => ∃ i : Nat, i ≤ N1 ∧ ii = .int .i64 i ∧ Chg b (b + 1) wc wr ∧ OwI wr b (b + 1) (some ⟨b, 0, none⟩) N3 (s1W M N1 d1 i 0 0)) (fun ii _ => N1 - (intOf ii).toNat)
    case atStart => exact ⟨0, by omega, rfl, Chg.refl _ _ _, ho⟩
    case round =>
      clear ho
      obtain ⟨i, hi, rfl, hch, ho⟩ := hrel
      have hsz := hch.size
      by_cases hlti : i < N1
      · have hxr := hx.chg hch (by omega)
        obtain ⟨x0, x1, x2⟩ := hxr.three
        go_wp2_with fail
        clear x0 x1 x2
        go_loopw [8] (fun jj wr => ∃ j : Nat, j ≤ N1 ∧ jj = .int .i64 j ∧ Chg b (b + 1) wc wr ∧ OwI wr b (b + 1) (some ⟨b, 0, none⟩) N3 (s1W M N1 d1 i j 0)) (fun jj _ => N1 - (intOf jj).toNat)
        case atStart => exact ⟨0, by omega, rfl, hch, ho⟩
        case round =>
          clear hch ho hxr hsz
          obtain ⟨j, hj, rfl, hch, ho⟩ := hrel
          have hsz := hch.size
          have hxr := hx.chg hch (by omega)
          obtain ⟨x0, x1, x2⟩ := hxr.three
          by_cases hltj : j < N1
          · go_wp2_with fail
            clear x0 x1 x2
            go_loopw [9] (fun kk wr => ∃ k : Nat, k ≤ N1 ∧ kk = .int .i64 k ∧ Chg b (b + 1) wc wr ∧ OwI wr b (b + 1) (some ⟨b, 0, none⟩) N3 (s1W M N1 d1 i j k)) (fun kk _ => N1 - (intOf kk).toNat)
            case atStart => exact ⟨0, by omega, rfl, hch, ho⟩
            case round =>
              clear hch ho hxr hsz
              obtain ⟨k, hk, rfl, hch, ho⟩ := hrel
              have hsz := hch.size
              have hxr := hx.chg hch (by omega)
              obtain ⟨x0, x1, x2⟩ := hxr.three
              by_cases hltk : k < N1
              · have hmr := hm.chg hch (by omega)
                obtain ⟨m0, m1, m2⟩ := hmr.three
                have g1r := g1.below (hch.below (by omega)) (by omega)
                obtain ⟨c1, c2, c3, c4, c5, c6⟩ := i3_bd (show i < M by omega) (show j < M by omega) (show k < M by omega) (show M ≤ 100 by omega)
                rw [← HN3.out] at c6
                have c7 : (((i : Int) * M + j) * M + k).toNat = (i * M + j) * M + k := by omega
                have c8 : ((i : Int) * M + j) * M + k < N3 := by omega
                have HST := Lib.hid (s1W_step (M := M) d1 (by omega) hlti hltj hltk)
                have cG : ∀ d' os, Calls Try.prog 132 #[.agg #[.int .i64 p, .int .i64 N1, .slice A1 n1 k1], .int .i64 i, .int .i64 j, .int .i64 k] (grow (redrawn wr d') os) fun e w'' => e = .returned (.int .i64 (tA N1 d1 i j k)) ∧ ∃ pp : Regrown, w'' = grow (redrawn wr pp.d) pp.os :=
                  fun d' os => Calls.regrown_of (l2Get_any (B := B) _ (g1r.below (below_regrown wr d' os) (by omega)) (by have := (below_regrown wr d' os).size; omega) HL1.out hlti hltj hltk (by omega))
                generalize tA N1 d1 i j k = x at *
                clear c5
                go_wp2_with fail
                have q0 := cell_regrown x0
                have q1 := cell_regrown x1
                have q2 := cell_regrown x2
                have q3 := cell_regrown m0
                have q4 := cell_regrown m1
                have q5 := cell_regrown m2
                clear x0 x1 x2 m0 m1 m2
                (refine wp_region_quiet_last (C := fun w' => ∃ p : Regrown, w' = grow (redrawn wr p.d) p.os) 17 (by kernel_rfl) (by kernel_rfl) (by kernel_rfl) (by kernel_rfl) (by kernel_rfl) (by kernel_rfl) (by kernel_rfl) (by kernel_rfl) ⟨⟨wr.drawn + 1, #[]⟩, by rw [grow_empty]; rfl⟩ ?_; simp only [List.take_succ_cons, List.take_zero, List.drop_succ_cons, List.drop_zero]; (repeat (go_big_quiet_step (exact cG _ _))); refine wpQuiet_nil ?_; rintro W ⟨pp, hW⟩; have hbW : Below wr.heap.size wr W := hW ▸ below_regrown _ _ _; clear hW)
                have hoW := ho.below hbW (by omega)
                have hoE := hoW.store (v := x) c6
                obtain ⟨f1, f2⟩ := hoW.at_ c6
                rw [Nat.zero_add] at f1 f2 hoE
                rw [HST.out] at hoE
                have hcW := (hch.trans (Chg.ofBelow hbW (Nat.le_refl _))).setCell (p := ⟨b, (i * M + j) * M + k, none⟩) (by exact Nat.le_refl _) (by exact Nat.lt_succ_self _) (.int .i64 x)
                clear q0 q1 q2 q3 q4 q5 cG hoW ho hch
                go_wp2
                go_roundw
                case rel => exact ⟨k + 1, by omega, by go_num, hcW, hoE⟩
                case measure => simp [intOf]; omega
              · obtain rfl : N1 = k := by omega
                rw [s1W_col] at ho
                go_wp2
                go_roundw
                case rel => exact ⟨j + 1, by omega, by go_num, hch, ho⟩
                case measure => simp [intOf]; omega
          · obtain rfl : N1 = j := by omega
            rw [s1W_row] at ho
            go_wp2
            go_roundw
            case rel => exact ⟨i + 1, by omega, by go_num, hch, ho⟩
            case measure => simp [intOf]; omega
      · obtain rfl : N1 = i := by omega
        rw [s12 M N1 N2 d1 d2] at ho
        have hxr := hx.chg hch (by omega)
        have hyr := hy.chg hch (by omega)
        obtain ⟨x0, x1, x2⟩ := hxr.three
        obtain ⟨y0, y1, y2⟩ := hyr.three
        go_wp2_with fail
        clear x0 x1 x2 y0 y1 y2
        go_loopw [10] (fun ii wr => ∃ i : Nat, i ≤ N2 ∧ ii = .int .i64 i ∧ Chg b (b + 1) wc wr ∧ OwI wr b (b + 1) (some ⟨b, 0, none⟩) N3 (s2W M N1 N2 d1 d2 i 0 0)) (fun ii _ => N2 - (intOf ii).toNat)
        case atStart => exact ⟨0, by omega, rfl, hch, ho⟩
        case round =>
          clear hch ho hxr hyr hsz
          obtain ⟨i, hi, rfl, hch, ho⟩ := hrel
          have hsz := hch.size
          have hyr := hy.chg hch (by omega)
          obtain ⟨y0, y1, y2⟩ := hyr.three
          by_cases hlti : i < N2
          · go_wp2_with fail
            clear y0 y1 y2
            go_loopw [11] (fun jj wr => ∃ j : Nat, j ≤ N2 ∧ jj = .int .i64 j ∧ Chg b (b + 1) wc wr ∧ OwI wr b (b + 1) (some ⟨b, 0, none⟩) N3 (s2W M N1 N2 d1 d2 i j 0)) (fun jj _ => N2 - (intOf jj).toNat)
            case atStart => exact ⟨0, by omega, rfl, hch, ho⟩
            case round =>
              clear hch ho hyr hsz
              obtain ⟨j, hj, rfl, hch, ho⟩ := hrel
              have hsz := hch.size
              have hyr := hy.chg hch (by omega)
              obtain ⟨y0, y1, y2⟩ := hyr.three
              by_cases hltj : j < N2
              · go_wp2_with fail
                clear y0 y1 y2
                go_loopw [12] (fun kk wr => ∃ k : Nat, k ≤ N2 ∧ kk = .int .i64 k ∧ Chg b (b + 1) wc wr ∧ OwI wr b (b + 1) (some ⟨b, 0, none⟩) N3 (s2W M N1 N2 d1 d2 i j k)) (fun kk _ => N2 - (intOf kk).toNat)
                case atStart => exact ⟨0, by omega, rfl, hch, ho⟩
                case round =>
                  clear hch ho hyr hsz
                  obtain ⟨k, hk, rfl, hch, ho⟩ := hrel
                  have hsz := hch.size
                  have hxr := hx.chg hch (by omega)
                  have hyr := hy.chg hch (by omega)
                  obtain ⟨x0, x1, x2⟩ := hxr.three
                  obtain ⟨y0, y1, y2⟩ := hyr.three
                  by_cases hltk : k < N2
                  · have hmr := hm.chg hch (by omega)
                    obtain ⟨m0, m1, m2⟩ := hmr.three
                    have g2r := g2.below (hch.below (by omega)) (by omega)
                    obtain ⟨c1, c2, c3, c4, c5, c6⟩ := i3c_bd (N1 := N1) (M := M) (show N1 + i < M by omega) (show N1 + j < M by omega) (show N1 + k < M by omega) (show M ≤ 100 by omega)
                    rw [← HN3.out] at c6
                    have c7 : ((((N1 : Int) + i) * M + N1 + j) * M + N1 + k).toNat = ((N1 + i) * M + (N1 + j)) * M + (N1 + k) := by omega
                    have c8 : (((N1 : Int) + i) * M + N1 + j) * M + N1 + k < N3 := by omega
                    have HST := Lib.hid (s2W_step (M := M) d1 d2 HM.out hlti hltj hltk)
                    have cG : ∀ d' os, Calls Try.prog 132 #[.agg #[.int .i64 p2, .int .i64 N2, .slice A2 n2 k2], .int .i64 i, .int .i64 j, .int .i64 k] (grow (redrawn wr d') os) fun e w'' => e = .returned (.int .i64 (tA N2 d2 i j k)) ∧ ∃ pp : Regrown, w'' = grow (redrawn wr pp.d) pp.os :=
                      fun d' os => Calls.regrown_of (l2Get_any (B := B) _ (g2r.below (below_regrown wr d' os) (by omega)) (by have := (below_regrown wr d' os).size; omega) HL2.out hlti hltj hltk (by omega))
                    generalize tA N2 d2 i j k = x at *
                    clear c5
                    go_wp2_with fail
                    have q0 := cell_regrown x0
                    have q1 := cell_regrown x1
                    have q2 := cell_regrown x2
                    have q3 := cell_regrown m0
                    have q4 := cell_regrown m1
                    have q5 := cell_regrown m2
                    have q6 := cell_regrown y0
                    have q7 := cell_regrown y1
                    have q8 := cell_regrown y2
                    clear x0 x1 x2 m0 m1 m2 y0 y1 y2
                    (refine wp_region_quiet_last (C := fun w' => ∃ p : Regrown, w' = grow (redrawn wr p.d) p.os) 26 (by kernel_rfl) (by kernel_rfl) (by kernel_rfl) (by kernel_rfl) (by kernel_rfl) (by kernel_rfl) (by kernel_rfl) (by kernel_rfl) ⟨⟨wr.drawn + 1, #[]⟩, by rw [grow_empty]; rfl⟩ ?_; simp only [List.take_succ_cons, List.take_zero, List.drop_succ_cons, List.drop_zero]; (repeat (go_big_quiet_step (exact cG _ _))); refine wpQuiet_nil ?_; rintro W ⟨pp, hW⟩; have hbW : Below wr.heap.size wr W := hW ▸ below_regrown _ _ _; clear hW)
                    have hoW := ho.below hbW (by omega)
                    have hoE := hoW.store (v := x) c6
                    obtain ⟨f1, f2⟩ := hoW.at_ c6
                    rw [Nat.zero_add] at f1 f2 hoE
                    rw [HST.out] at hoE
                    have hcW := (hch.trans (Chg.ofBelow hbW (Nat.le_refl _))).setCell (p := ⟨b, ((N1 + i) * M + (N1 + j)) * M + (N1 + k), none⟩) (by exact Nat.le_refl _) (by exact Nat.lt_succ_self _) (.int .i64 x)
                    clear q0 q1 q2 q3 q4 q5 q6 q7 q8 cG hoW ho hch
                    go_wp2
                    go_roundw
                    case rel => exact ⟨k + 1, by omega, by go_num, hcW, hoE⟩
                    case measure => simp [intOf]; omega
                  · obtain rfl : N2 = k := by omega
                    rw [s2W_col d1 d2 HM.out] at ho
                    go_wp2
                    go_roundw
                    case rel => exact ⟨j + 1, by omega, by go_num, hch, ho⟩
                    case measure => simp [intOf]; omega
              · obtain rfl : N2 = j := by omega
                rw [s2W_row d1 d2 HM.out] at ho
                go_wp2
                go_roundw
                case rel => exact ⟨i + 1, by omega, by go_num, hch, ho⟩
                case measure => simp [intOf]; omega
          · obtain rfl : N2 = i := by omega
            rw [s2W_end d1 d2 HM.out] at ho
            have hmr := hm.chg hch (by omega)
            have hzr := hz.chg hch (by omega)
            have hqr := hq.trans ((hch.below (by omega)).mono (by omega))
            obtain ⟨m0, m1, m2⟩ := hmr.three
            obtain ⟨z0, z1, z2⟩ := hzr.three
            have zf := hzr.fz
            go_wp2
            refine bodyPost_ret (v := .agg #[.int .i64 p, .int .i64 M, .slice (some ⟨b, 0, none⟩) N3 N3]) (by simp [results, Try.results109, go_sem, z0, z1, z2]) rfl ⟨_, _, _, rfl, (by first | assumption | exact Hd.nil | exact Hd.self (by first | omega | (unfold maxLen; omega))), (by repeat' (first | (with_reducible exact Below.refl _ _) | (with_reducible refine Below.setCell ?_ (by first | exact Nat.le_refl _ | omega | (simp only [World.size_alloc, World.size_setCell, World.heap_drewN]; omega) | (simp; omega)) _) | (with_reducible refine Below.alloc ?_ (by first | exact Nat.le_refl _ | omega | (simp only [World.size_alloc, World.size_setCell, World.heap_drewN]; omega) | (simp; omega)) _) | (with_reducible refine below_drewN ?_ _) | (with_reducible refine Below.drew ?_) | (with_reducible refine Below.trans ?_ (hqr.mono (by first | exact Nat.le_refl _ | omega | (simp only [World.size_alloc, World.size_setCell, World.heap_drewN]; omega) | (simp; omega)))))), ?_⟩
            simp only [World.size_setCell]
            exact ((((ho.setLow (by simp; omega) _).setLow (by simp; omega) _).setLow (by simp; omega) _).down (by omega)).up (by omega)
end Go.Proofs.Yticebbkmakpkjaa
