/- SumAlgebras of the program. No condition but what each theorem names. -/
import Derived.Test.YticebbkmakpkjaaSmaW
import Derived.Test.YticebbkmakpkjaaTbyW
import Derived.Test.YticebbkmakpkjaaRin
import Derived.Deep.DeepCutAuto
namespace Go.Proofs.Yticebbkmakpkjaa
set_option linter.unusedVariables false
set_option linter.unusedSimpArgs false
set_option maxRecDepth 20000
open Go.RowKit Go.Sort
set_option maxHeartbeats 8000000
set_option maxRecDepth 100000 in
theorem iSma_ok {B : Nat} (p : Int) (N1 N2 n1 k1 n2 k2 : Nat) (A1 A2 : Option Addr) (d1 d2 : List Int) (w : World) (h1 : RdI w B A1 n1 d1) (hd1 : Hd A1 n1 k1) (h2 : RdI w B A2 n2 d2) (hd2 : Hd A2 n2 k2) (hB : B ≤ w.heap.size) (hok : okA p N1 d1 = true) (hok2 : okA p N2 d2 = true) (hN : N1 + N2 ≤ 28) (hp : isP p = true) (hl1 : d1.length = N1 * N1 * N1) (hl2 : d2.length = N2 * N2 * N2) (hr1 : resB d1 p = true) (hr2 : resB d2 p = true) :
    Calls Try.prog 41 #[.agg #[.int .i64 p, .int .i64 N1, .slice A1 n1 k1], .agg #[.int .i64 p, .int .i64 N2, .slice A2 n2 k2]] w (RetAB p ((N1 + N2 : Nat) : Int) (tbV (N1 + N2) (smL N1 N2 d1 d2) p) true w) := by
  obtain ⟨hp1, hp2⟩ := isP_bd hp
  have HC := Lib.hid hok
  have HC2 := Lib.hid hok2
  have HL1 := Lib.hid (show n1 = N1 * N1 * N1 by rw [← hl1]; exact h1.1.symm)
  have HL2 := Lib.hid (show n2 = N2 * N2 * N2 by rw [← hl2]; exact h2.1.symm)
  have HLR := Lib.hid (show ∀ i j, j < i → i < N1 + N2 → ∀ t, 0 ≤ gI (smL N1 N2 d1 d2 i j) t ∧ gI (smL N1 N2 d1 d2 i j) t < p from fun i j _ _ t => by
    rcases Nat.lt_or_ge t (N1 + N2) with h | h
    · rw [smL_get d1 d2 i j h]
      have t1 := tA_bd (n := N1) (by omega) hr1 i j t
      have t2 := tA_bd (n := N2) (by omega) hr2 (i - N1) (j - N1) (t - N1)
      split
      · split
        · exact t1
        · omega
      · split
        · exact t2
        · omega
    · rw [gI_ge (by rw [smL_len]; exact h)]; omega)
  have hdd : decide (28 < (N1 : Int) + (N2 : Int)) = false := by simp; omega
  obtain ⟨M, hM⟩ : ∃ M, M = N1 + N2 := ⟨_, rfl⟩
  have hMw : IntKind.i64.wrap ((N1 : Int) + (N2 : Int)) = (M : Int) := by rw [show (N1 : Int) + (N2 : Int) = (M : Int) by omega]; exact IntWalk.i64_in _ (by omega)
  have hd28 : decide (28 < (M : Int)) = false := by simp; omega
  rw [← hM] at HLR ⊢
  have HM := Lib.hid hM
  clear hok hok2 hl1 hl2 hr1 hr2 hM
  go_enter Try.func41, Try.ntmps41
  go_wp2_with fail
  refine (iAlg_any p N1 n1 k1 A1 d1 _ (B := B) (by exact h1.below ((by repeat' (first | (with_reducible exact Below.refl _ _) | (with_reducible refine Below.setCell ?_ (by first | exact Nat.le_refl _ | omega | (simp only [World.size_alloc, World.size_setCell, World.heap_drewN]; omega) | (simp; omega)) _) | (with_reducible refine Below.alloc ?_ (by first | exact Nat.le_refl _ | omega | (simp only [World.size_alloc, World.size_setCell, World.heap_drewN]; omega) | (simp; omega)) _) | (with_reducible refine below_drewN ?_ _) | (with_reducible refine Below.drew ?_))) : Below w.heap.size w _) hB) hd1 (by first | exact Nat.le_refl _ | omega | (simp only [World.size_alloc, World.size_setCell, World.heap_drewN]; omega) | (simp; omega))).mono ?_
  rintro e w1 ⟨rfl, hb1⟩
  have b1 : Box w1 (w.heap.size) #[.int .i64 p, .int .i64 N1, .slice A1 n1 k1] := by
    have hq := (((Box.new w #[.int .i64 p, .int .i64 N1, .slice A1 n1 k1] 27).alloc _).alloc _).below hb1 (by first | omega | (simp only [World.size_alloc]; omega) | (simp; omega))
    (try simp only [World.size_alloc] at hq)
    exact hq
  have b2 : Box w1 (w.heap.size + 1) #[.int .i64 p, .int .i64 N2, .slice A2 n2 k2] := by
    have hq := ((Box.new (w.alloc (.cells #[.int .i64 p, .int .i64 N1, .slice A1 n1 k1] 27)) #[.int .i64 p, .int .i64 N2, .slice A2 n2 k2] 27).alloc _).below hb1 (by first | omega | (simp only [World.size_alloc]; omega) | (simp; omega))
    (try simp only [World.size_alloc] at hq)
    exact hq
  have b3 : Box w1 (w.heap.size + 1 + 1) #[.int .i64 0, .int .i64 0, .slice none 0 0] := by
    have hq := (Box.new ((w.alloc (.cells #[.int .i64 p, .int .i64 N1, .slice A1 n1 k1] 27)).alloc (.cells #[.int .i64 p, .int .i64 N2, .slice A2 n2 k2] 27)) #[.int .i64 0, .int .i64 0, .slice none 0 0] 27).below hb1 (by first | omega | (simp only [World.size_alloc]; omega) | (simp; omega))
    (try simp only [World.size_alloc] at hq)
    exact hq
  have hq1 : Below w.heap.size w w1 := (by repeat' (first | (with_reducible exact Below.refl _ _) | (with_reducible refine Below.setCell ?_ (by first | exact Nat.le_refl _ | omega | (simp only [World.size_alloc, World.size_setCell, World.heap_drewN]; omega) | (simp; omega)) _) | (with_reducible refine Below.alloc ?_ (by first | exact Nat.le_refl _ | omega | (simp only [World.size_alloc, World.size_setCell, World.heap_drewN]; omega) | (simp; omega)) _) | (with_reducible refine below_drewN ?_ _) | (with_reducible refine Below.drew ?_) | (with_reducible refine Below.trans ?_ (hb1.mono (by first | exact Nat.le_refl _ | omega | (simp only [World.size_alloc, World.size_setCell, World.heap_drewN]; omega) | (simp; omega))))))
  have hs1 := hb1.size
  simp only [World.size_alloc] at hs1
  have g1 := h1.below hq1 hB
  have g2 := h2.below hq1 hB
  clear hb1
  rw [HC.out]
  obtain ⟨y0, y1, y2⟩ := b2.three
  go_wp2_with fail
  refine (iAlg_any p N2 n2 k2 A2 d2 _ (B := B) g2 hd2 (by omega)).mono ?_
  rintro e w2 ⟨rfl, hb2⟩
  rw [HC2.out]
  have hs2 := hb2.size
  have b1 := b1.below hb2 (by omega)
  have b2 := b2.below hb2 (by omega)
  have b3 := b3.below hb2 (by omega)
  have g1 := g1.below hb2 (by omega)
  have g2 := g2.below hb2 (by omega)
  have hq2 := hq1.trans (hb2.mono (by omega))
  clear y0 y1 y2
  obtain ⟨x0, x1, x2⟩ := b1.three
  obtain ⟨y0, y1, y2⟩ := b2.three
  clear x0 x1 x2 y0 y1 y2
  obtain ⟨x0, x1, x2⟩ := b1.three
  obtain ⟨y0, y1, y2⟩ := b2.three
  go_upto_region 3 with fail
  go_cut [6, 7] (fun s6 s7 wx => TwoL w2 #[.int .i64 p, .int .i64 N1, .slice A1 n1 k1] #[.int .i64 p, .int .i64 N2, .slice A2 n2 k2] s6 s7 wx)
  case first =>
    refine wp_region_inv (Inv := fun L a wx => L.size = 8 ∧ ∃ v6 v7 v32 v33 v34 v35 : Value, a = (⟨#[.agg #[.int .i64 p, .int .i64 N1, .slice A1 n1 k1], .agg #[.int .i64 p, .int .i64 N2, .slice A2 n2 k2], .pointer (some ⟨w.heap.size, 0, none⟩), .pointer (some ⟨w.heap.size + 1, 0, none⟩), .pointer (some ⟨w.heap.size + 1 + 1, 0, none⟩), .bool false, v6, v7, .agg #[.int .i64 p, .int .i64 N1, .slice A1 n1 k1], .bool true, .bool false, .bool false, .agg #[.int .i64 p, .int .i64 N2, .slice A2 n2 k2], .bool true, .bool false, .bool false, .bool false, .pointer (some ⟨w.heap.size, 0, none⟩), .int .i64 p, .pointer (some ⟨w.heap.size + 1, 0, none⟩), .int .i64 p, .bool false, .bool false, .bool false, .pointer (some ⟨w.heap.size, 1, none⟩), .int .i64 N1, .pointer (some ⟨w.heap.size + 1, 1, none⟩), .int .i64 N2, .int .i64 M, .bool false, .bool false, undef, v32, v33, v34, v35, undef, undef, undef, undef, undef, undef, undef, undef, undef], []⟩ : Act) ∧ Below w2.heap.size w2 wx ∧ (L.getD 0 false = true → v32 = .agg #[.int .i64 p, .int .i64 N1, .slice A1 n1 k1]) ∧ (L.getD 1 false = true → v33 = .agg #[.int .i64 p, .int .i64 N1, .slice A1 n1 k1]) ∧ (L.getD 2 false = true → v34 = .agg #[.int .i64 p, .int .i64 N2, .slice A2 n2 k2]) ∧ (L.getD 3 false = true → v35 = .agg #[.int .i64 p, .int .i64 N2, .slice A2 n2 k2]) ∧ (L.getD 4 false = true → ∃ g, v6 = .pointer (some ⟨g, 0, none⟩) ∧ w2.heap.size ≤ g ∧ (L.getD 6 false = false → Box wx g #[.int .i64 0, .int .i64 0, .slice none 0 0]) ∧ (L.getD 6 false = true → Box wx g #[.int .i64 p, .int .i64 N1, .slice A1 n1 k1]) ∧ (L.getD 5 false = true → ∃ g', v7 = .pointer (some ⟨g', 0, none⟩) ∧ g ≠ g')) ∧ (L.getD 5 false = true → ∃ g, v7 = .pointer (some ⟨g, 0, none⟩) ∧ w2.heap.size ≤ g ∧ (L.getD 7 false = false → Box wx g #[.int .i64 0, .int .i64 0, .slice none 0 0]) ∧ (L.getD 7 false = true → Box wx g #[.int .i64 p, .int .i64 N2, .slice A2 n2 k2])) ∧ (L.getD 6 false = true → L.getD 4 false = true) ∧ (L.getD 7 false = true → L.getD 5 false = true ∧ L.getD 6 false = true)) (by rfl) ?_ ?_ ?_
    · refine ⟨rfl, undef, undef, undef, undef, undef, undef, rfl, below_drew' (Below.refl _ _) 1, ?_, ?_, ?_, ?_, ?_, ?_, ?_, ?_⟩ <;> (intro h; cases h)
    · rintro L a wx i oi ⟨hL, v6, v7, v32, v33, v34, v35, rfl, hbl, i0, i1, i2, i3, i4, i5, i6, i7⟩ hf ho hd K hK
      have hi : i < 8 := by
        rcases Nat.lt_or_ge i 8 with h | h
        · exact h
        · rw [Array.getElem?_eq_none (by simpa using h)] at ho; cases ho
      have hsw := hbl.size
      have gn := gne L i
      have gi := gset L i (by rw [hL]; exact hi)
      have hf := getD_ltf hf
      rcases i with _ | _ | _ | _ | _ | _ | _ | _ | i
      · obtain rfl := Option.some.inj ho
        clear ho hi
        rw [if_pos (by simp [Region.wanted])]
        obtain ⟨x0, x1, x2⟩ := (b1.below hbl b1.lt).three
        go_simp
        exact hK _ _ ⟨by simp [hL], _, _, _, _, _, _, rfl, hbl, fun _ => rfl, fun h => i1 ((gn 1 (by decide)).symm.trans h), fun h => i2 ((gn 2 (by decide)).symm.trans h), fun h => i3 ((gn 3 (by decide)).symm.trans h), fun h => (by obtain ⟨g, e, hg, hz, hc, hne⟩ := i4 ((gn 4 (by decide)).symm.trans h); exact ⟨g, e, hg, fun h6 => (hz ((gn 6 (by decide)).symm.trans h6)), fun h6 => (hc ((gn 6 (by decide)).symm.trans h6)), fun h5 => hne ((gn 5 (by decide)).symm.trans h5)⟩), fun h => (by obtain ⟨g, e, hg, hz, hc⟩ := i5 ((gn 5 (by decide)).symm.trans h); exact ⟨g, e, hg, fun h7 => (hz ((gn 7 (by decide)).symm.trans h7)), fun h7 => (hc ((gn 7 (by decide)).symm.trans h7))⟩), fun h => ((gn 4 (by decide)).trans (i6 ((gn 6 (by decide)).symm.trans h))), fun h => ⟨((gn 5 (by decide)).trans (i7 ((gn 7 (by decide)).symm.trans h)).1), ((gn 6 (by decide)).trans (i7 ((gn 7 (by decide)).symm.trans h)).2)⟩⟩
      · obtain rfl := Option.some.inj ho
        clear ho hi
        rw [if_pos (by simp [Region.wanted])]
        obtain rfl : v32 = .agg #[.int .i64 p, .int .i64 N1, .slice A1 n1 k1] := i0 (hd ⟨0, .data⟩ (by simp) rfl)
        go_simp
        refine (newLie_any p N1 A1 n1 k1 _).mono ?_
        rintro e wc ⟨rfl, hb⟩
        go_simp
        exact hK _ _ ⟨by simp [hL], _, _, _, _, _, _, rfl, hbl.trans (hb.mono hsw), fun h => i0 ((gn 0 (by decide)).symm.trans h), fun _ => rfl, fun h => i2 ((gn 2 (by decide)).symm.trans h), fun h => i3 ((gn 3 (by decide)).symm.trans h), fun h => (by obtain ⟨g, e, hg, hz, hc, hne⟩ := i4 ((gn 4 (by decide)).symm.trans h); exact ⟨g, e, hg, fun h6 => ((hz ((gn 6 (by decide)).symm.trans h6))).step hb, fun h6 => ((hc ((gn 6 (by decide)).symm.trans h6))).step hb, fun h5 => hne ((gn 5 (by decide)).symm.trans h5)⟩), fun h => (by obtain ⟨g, e, hg, hz, hc⟩ := i5 ((gn 5 (by decide)).symm.trans h); exact ⟨g, e, hg, fun h7 => ((hz ((gn 7 (by decide)).symm.trans h7))).step hb, fun h7 => ((hc ((gn 7 (by decide)).symm.trans h7))).step hb⟩), fun h => ((gn 4 (by decide)).trans (i6 ((gn 6 (by decide)).symm.trans h))), fun h => ⟨((gn 5 (by decide)).trans (i7 ((gn 7 (by decide)).symm.trans h)).1), ((gn 6 (by decide)).trans (i7 ((gn 7 (by decide)).symm.trans h)).2)⟩⟩
      · obtain rfl := Option.some.inj ho
        clear ho hi
        rw [if_pos (by simp [Region.wanted])]
        obtain ⟨x0, x1, x2⟩ := (b2.below hbl b2.lt).three
        go_simp
        exact hK _ _ ⟨by simp [hL], _, _, _, _, _, _, rfl, hbl, fun h => i0 ((gn 0 (by decide)).symm.trans h), fun h => i1 ((gn 1 (by decide)).symm.trans h), fun _ => rfl, fun h => i3 ((gn 3 (by decide)).symm.trans h), fun h => (by obtain ⟨g, e, hg, hz, hc, hne⟩ := i4 ((gn 4 (by decide)).symm.trans h); exact ⟨g, e, hg, fun h6 => (hz ((gn 6 (by decide)).symm.trans h6)), fun h6 => (hc ((gn 6 (by decide)).symm.trans h6)), fun h5 => hne ((gn 5 (by decide)).symm.trans h5)⟩), fun h => (by obtain ⟨g, e, hg, hz, hc⟩ := i5 ((gn 5 (by decide)).symm.trans h); exact ⟨g, e, hg, fun h7 => (hz ((gn 7 (by decide)).symm.trans h7)), fun h7 => (hc ((gn 7 (by decide)).symm.trans h7))⟩), fun h => ((gn 4 (by decide)).trans (i6 ((gn 6 (by decide)).symm.trans h))), fun h => ⟨((gn 5 (by decide)).trans (i7 ((gn 7 (by decide)).symm.trans h)).1), ((gn 6 (by decide)).trans (i7 ((gn 7 (by decide)).symm.trans h)).2)⟩⟩
      · obtain rfl := Option.some.inj ho
        clear ho hi
        rw [if_pos (by simp [Region.wanted])]
        obtain rfl : v34 = .agg #[.int .i64 p, .int .i64 N2, .slice A2 n2 k2] := i2 (hd ⟨2, .data⟩ (by simp) rfl)
        go_simp
        refine (newLie_any p N2 A2 n2 k2 _).mono ?_
        rintro e wc ⟨rfl, hb⟩
        go_simp
        exact hK _ _ ⟨by simp [hL], _, _, _, _, _, _, rfl, hbl.trans (hb.mono hsw), fun h => i0 ((gn 0 (by decide)).symm.trans h), fun h => i1 ((gn 1 (by decide)).symm.trans h), fun h => i2 ((gn 2 (by decide)).symm.trans h), fun _ => rfl, fun h => (by obtain ⟨g, e, hg, hz, hc, hne⟩ := i4 ((gn 4 (by decide)).symm.trans h); exact ⟨g, e, hg, fun h6 => ((hz ((gn 6 (by decide)).symm.trans h6))).step hb, fun h6 => ((hc ((gn 6 (by decide)).symm.trans h6))).step hb, fun h5 => hne ((gn 5 (by decide)).symm.trans h5)⟩), fun h => (by obtain ⟨g, e, hg, hz, hc⟩ := i5 ((gn 5 (by decide)).symm.trans h); exact ⟨g, e, hg, fun h7 => ((hz ((gn 7 (by decide)).symm.trans h7))).step hb, fun h7 => ((hc ((gn 7 (by decide)).symm.trans h7))).step hb⟩), fun h => ((gn 4 (by decide)).trans (i6 ((gn 6 (by decide)).symm.trans h))), fun h => ⟨((gn 5 (by decide)).trans (i7 ((gn 7 (by decide)).symm.trans h)).1), ((gn 6 (by decide)).trans (i7 ((gn 7 (by decide)).symm.trans h)).2)⟩⟩
      · obtain rfl := Option.some.inj ho
        clear ho hi
        rw [if_pos (by simp [Region.wanted])]
        go_simp
        exact hK _ _ ⟨by simp [hL], _, _, _, _, _, _, rfl, Below.alloc hbl hsw _, fun h => i0 ((gn 0 (by decide)).symm.trans h), fun h => i1 ((gn 1 (by decide)).symm.trans h), fun h => i2 ((gn 2 (by decide)).symm.trans h), fun h => i3 ((gn 3 (by decide)).symm.trans h), fun _ => ⟨wx.heap.size, rfl, hsw, fun _ => Box.new _ _ _, fun h6 => absurd (i6 ((gn 6 (by decide)).symm.trans h6)) (by rw [hf]; decide), fun h5 => (by obtain ⟨g', e, _, hz, hc⟩ := i5 ((gn 5 (by decide)).symm.trans h5); exact ⟨g', e, fun e' => (by cases h7 : L.getD 7 false <;> first | (have := (hz h7).lt; omega) | (have := (hc h7).lt; omega))⟩)⟩, fun h => (by obtain ⟨g, e, hg, hz, hc⟩ := i5 ((gn 5 (by decide)).symm.trans h); exact ⟨g, e, hg, fun h7 => ((hz ((gn 7 (by decide)).symm.trans h7))).alloc _, fun h7 => ((hc ((gn 7 (by decide)).symm.trans h7))).alloc _⟩), fun h => gi, fun h => ⟨((gn 5 (by decide)).trans (i7 ((gn 7 (by decide)).symm.trans h)).1), ((gn 6 (by decide)).trans (i7 ((gn 7 (by decide)).symm.trans h)).2)⟩⟩
      · obtain rfl := Option.some.inj ho
        clear ho hi
        rw [if_pos (by simp [Region.wanted])]
        go_simp
        exact hK _ _ ⟨by simp [hL], _, _, _, _, _, _, rfl, Below.alloc hbl hsw _, fun h => i0 ((gn 0 (by decide)).symm.trans h), fun h => i1 ((gn 1 (by decide)).symm.trans h), fun h => i2 ((gn 2 (by decide)).symm.trans h), fun h => i3 ((gn 3 (by decide)).symm.trans h), fun h => (by obtain ⟨g, e, hg, hz, hc, hne⟩ := i4 ((gn 4 (by decide)).symm.trans h); exact ⟨g, e, hg, fun h6 => (hz ((gn 6 (by decide)).symm.trans h6)).alloc _, fun h6 => (hc ((gn 6 (by decide)).symm.trans h6)).alloc _, fun _ => ⟨wx.heap.size, rfl, fun e' => (by cases h6 : L.getD 6 false <;> first | (have := (hz h6).lt; omega) | (have := (hc h6).lt; omega))⟩⟩), fun _ => ⟨wx.heap.size, rfl, hsw, fun _ => Box.new _ _ _, fun h7 => absurd (i7 ((gn 7 (by decide)).symm.trans h7)).1 (by rw [hf]; decide)⟩, fun h => ((gn 4 (by decide)).trans (i6 ((gn 6 (by decide)).symm.trans h))), fun h => ⟨gi, ((gn 6 (by decide)).trans (i7 ((gn 7 (by decide)).symm.trans h)).2)⟩⟩
      · obtain rfl := Option.some.inj ho
        clear ho hi
        rw [if_pos (by simp [Region.wanted])]
        obtain rfl : v33 = .agg #[.int .i64 p, .int .i64 N1, .slice A1 n1 k1] := i1 (hd ⟨1, .data⟩ (by simp) rfl)
        have h4 := hd ⟨4, .data⟩ (by simp) rfl
        obtain ⟨g, rfl, hg, hz, hc, hne⟩ := i4 h4
        have hzb := hz hf
        obtain ⟨z0, z1, z2⟩ := hzb.three
        have zf := hzb.fz
        go_simp
        exact hK _ _ ⟨by simp [hL], _, _, _, _, _, _, rfl, ((hbl.setCell (by exact hg) _).setCell (by exact hg) _).setCell (by exact hg) _, fun h => i0 ((gn 0 (by decide)).symm.trans h), fun h => i1 ((gn 1 (by decide)).symm.trans h), fun h => i2 ((gn 2 (by decide)).symm.trans h), fun h => i3 ((gn 3 (by decide)).symm.trans h), fun _ => ⟨g, rfl, hg, fun h6 => absurd h6 (by rw [gi]; decide), fun _ => hzb.set3 _ _ _, fun h5 => hne ((gn 5 (by decide)).symm.trans h5)⟩, fun h => (by obtain ⟨g', e', hne'⟩ := hne ((gn 5 (by decide)).symm.trans h); obtain ⟨g1, e1, hg1, hz1, hc1⟩ := i5 ((gn 5 (by decide)).symm.trans h); obtain rfl : g1 = g' := (by rw [e1] at e'; injection e' with e'; injection e' with e'; injection e'); exact ⟨g1, e1, hg1, fun h7 => (((hz1 ((gn 7 (by decide)).symm.trans h7)).other (by show _ ≠ g; omega) _).other (by show _ ≠ g; omega) _).other (by show _ ≠ g; omega) _, fun h7 => (((hc1 ((gn 7 (by decide)).symm.trans h7)).other (by show _ ≠ g; omega) _).other (by show _ ≠ g; omega) _).other (by show _ ≠ g; omega) _⟩), fun _ => ((gn 4 (by decide)).trans h4), fun h => ⟨((gn 5 (by decide)).trans (i7 ((gn 7 (by decide)).symm.trans h)).1), gi⟩⟩
      · obtain rfl := Option.some.inj ho
        clear ho hi
        rw [if_pos (by simp [Region.wanted])]
        obtain rfl : v35 = .agg #[.int .i64 p, .int .i64 N2, .slice A2 n2 k2] := i3 (hd ⟨3, .data⟩ (by simp) rfl)
        have h5 := hd ⟨5, .data⟩ (by simp) rfl
        have h6 := hd ⟨6, .chain⟩ (by simp) rfl
        obtain ⟨g, rfl, hg, hz, hc⟩ := i5 h5
        have hzb := hz hf
        obtain ⟨z0, z1, z2⟩ := hzb.three
        have zf := hzb.fz
        go_simp
        exact hK _ _ ⟨by simp [hL], _, _, _, _, _, _, rfl, ((hbl.setCell (by exact hg) _).setCell (by exact hg) _).setCell (by exact hg) _, fun h => i0 ((gn 0 (by decide)).symm.trans h), fun h => i1 ((gn 1 (by decide)).symm.trans h), fun h => i2 ((gn 2 (by decide)).symm.trans h), fun h => i3 ((gn 3 (by decide)).symm.trans h), fun h => (by obtain ⟨g1, e1, hg1, hz1, hc1, hne⟩ := i4 ((gn 4 (by decide)).symm.trans h); obtain ⟨g', e', hne'⟩ := hne h5; obtain rfl : g = g' := (by injection e' with e'; injection e' with e'; injection e'); exact ⟨g1, e1, hg1, fun h6 => (((hz1 ((gn 6 (by decide)).symm.trans h6)).other (by show _ ≠ g; omega) _).other (by show _ ≠ g; omega) _).other (by show _ ≠ g; omega) _, fun h6 => (((hc1 ((gn 6 (by decide)).symm.trans h6)).other (by show _ ≠ g; omega) _).other (by show _ ≠ g; omega) _).other (by show _ ≠ g; omega) _, fun h5 => ⟨g, rfl, hne'⟩⟩), fun _ => ⟨g, rfl, hg, fun h7 => absurd h7 (by rw [gi]; decide), fun _ => hzb.set3 _ _ _⟩, fun h => ((gn 4 (by decide)).trans (i6 ((gn 6 (by decide)).symm.trans h))), fun h => ⟨((gn 5 (by decide)).trans h5), ((gn 6 (by decide)).trans h6)⟩⟩
      · exact absurd hi (by omega)
    · rintro L a wx ⟨hL, v6, v7, v32, v33, v34, v35, rfl, hbl, i0, i1, i2, i3, i4, i5, i6, i7⟩ hr
      have l0 := listed_of [] hr 0 rfl (by rw [hL]; decide) (by simp) (by intro j hj; simp at hj)
      have l2 := listed_of [] hr 2 rfl (by rw [hL]; decide) (by simp) (by intro j hj; simp at hj)
      have l4 := listed_of [] hr 4 rfl (by rw [hL]; decide) (by simp) (by intro j hj; simp at hj)
      have l5 := listed_of [] hr 5 rfl (by rw [hL]; decide) (by simp) (by intro j hj; simp at hj)
      have l1 := listed_of [0] hr 1 rfl (by rw [hL]; decide) (by simp) (by intro j hj; simp at hj; subst hj; assumption)
      have l3 := listed_of [2, 1] hr 3 rfl (by rw [hL]; decide) (by simp) (by intro j hj; simp at hj; rcases hj with rfl | rfl <;> assumption)
      have l6 := listed_of [0, 1, 2, 3, 4, 5] hr 6 rfl (by rw [hL]; decide) (by simp) (by intro j hj; simp at hj; rcases hj with rfl | rfl | rfl | rfl | rfl | rfl <;> assumption)
      have l7 := listed_of [0, 1, 2, 3, 4, 5, 6] hr 7 rfl (by rw [hL]; decide) (by simp) (by intro j hj; simp at hj; rcases hj with rfl | rfl | rfl | rfl | rfl | rfl | rfl <;> assumption)
      obtain ⟨g, rfl, hg, _, hA, _⟩ := i4 l4
      obtain ⟨g', rfl, hg', _, hB'⟩ := i5 l5
      have HT : TwoL w2 #[.int .i64 p, .int .i64 N1, .slice A1 n1 k1] #[.int .i64 p, .int .i64 N2, .slice A2 n2 k2] (.pointer (some ⟨g, 0, none⟩)) (.pointer (some ⟨g', 0, none⟩)) wx := ⟨g, g', rfl, rfl, hA l6, hB' l7, hbl⟩
      clear hA hB' i4 i5
      clear hr hbl l0 l1 l2 l3 l4 l5 l6 l7 i0 i1 i2 i3 i6 i7 hg hg' hL
      go_wp2_with fail
      go_meet
      exact HT
  case rest =>
    obtain ⟨gx, gy, rfl, rfl, bx, bY, hb3⟩ := hcut
    have hs3 := hb3.size
    have b1 := b1.below hb3 (by omega)
    have b2 := b2.below hb3 (by omega)
    have b3 := b3.below hb3 (by omega)
    have g1 := g1.below hb3 (by omega)
    have g2 := g2.below hb3 (by omega)
    have hq : Below w.heap.size w wc := hq2.trans (hb3.mono (by omega))
    clear x0 x1 x2 y0 y1 y2 hb3
    obtain ⟨x0, x1, x2⟩ := b1.three
    obtain ⟨y0, y1, y2⟩ := b2.three
    go_wp2_with fail
    have hBB : B ≤ wc.heap.size := by omega
    have lx := bx.lt
    have ly := bY.lt
    have hT := tableBy_any p M (smL N1 N2 d1 d2) 111 #[.pointer (some ⟨w.heap.size, 0, none⟩), .pointer (some ⟨w.heap.size + 1, 0, none⟩), .pointer (some ⟨gx, 0, none⟩), .pointer (some ⟨gy, 0, none⟩)] wc (by rw [HM.out]; exact hN) hp1 hp2 (fun args w => rfl)
      (Lib.hid (fun i j w' hji hi hb => smC_any p N1 N2 i j n1 k1 n2 k2 _ _ _ _ A1 A2 d1 d2 w' (g1.below hb hBB) hd1 (g2.below hb hBB) hd2 (by have := hb.size; omega) hN HL1.out HL2.out hji (by rw [← HM.out]; exact hi) (b1.below hb (by omega)) (b2.below hb (by omega)) (bx.below hb (by omega)) (bY.below hb (by omega)))) (fun i j _ _ => by rw [smL_len, HM.out]; exact Nat.le_refl _) HLR.out
    refine hT.mono ?_
    rintro e w5 ⟨A5, m5, c5, rfl, hd5, hb5, ho5⟩
    have hs5 := hb5.size
    have z3 := b3.below hb5 (by omega)
    have hqz : Below w.heap.size w w5 := hq.trans (hb5.mono (by omega))
    obtain ⟨z0, z1, z2⟩ := z3.three
    have zf := z3.fz
    clear hT b1 b2 b3 bx bY g1 g2 hb5 hq z3
    go_wp2
    refine bodyPost_ret (v := .tuple #[.agg #[.int .i64 p, .int .i64 M, .slice A5 m5 c5], .bool true]) (by simp [results, Try.results41, go_sem, z0, z1, z2]) rfl ⟨_, _, _, rfl, hd5, (by repeat' (first | (with_reducible exact Below.refl _ _) | (with_reducible refine Below.setCell ?_ (by first | exact Nat.le_refl _ | omega | (simp only [World.size_alloc, World.size_setCell, World.heap_drewN]; omega) | (simp; omega)) _) | (with_reducible refine Below.alloc ?_ (by first | exact Nat.le_refl _ | omega | (simp only [World.size_alloc, World.size_setCell, World.heap_drewN]; omega) | (simp; omega)) _) | (with_reducible refine below_drewN ?_ _) | (with_reducible refine Below.drew ?_) | (with_reducible refine Below.trans ?_ (hqz.mono (by first | exact Nat.le_refl _ | omega | (simp only [World.size_alloc, World.size_setCell, World.heap_drewN]; omega) | (simp; omega)))))), ?_⟩
    simp only [World.size_setCell]
    exact ((((ho5.setLow (by simp; omega) _).setLow (by simp; omega) _).setLow (by simp; omega) _).down (by omega)).up (by omega)
end Go.Proofs.Yticebbkmakpkjaa
