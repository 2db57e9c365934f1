/- tableBy: the algebra whose brackets a function gives. No condition but what the theorem names. -/
import Derived.Test.YticebbkmakpkjaaTb3
import Derived.Test.YticebbkmakpkjaaLieW
import Derived.Deep.RegionHeld3
namespace Go.Proofs.Yticebbkmakpkjaa
set_option linter.unusedVariables false
set_option linter.unusedSimpArgs false
set_option maxRecDepth 20000
open Go.RowKit Go.Sort
set_option maxHeartbeats 4000000
theorem i3_bd {n i j k : Nat} (hi : i < n) (hj : j < n) (hk : k < n) (hn : n ≤ 100) : 0 ≤ (i : Int) * n ∧ (i : Int) * n + j ≤ 10000 ∧ 0 ≤ ((i : Int) * n + j) * n ∧ ((i : Int) * n + j) * n + k ≤ 1000000 ∧ ((i : Int) * n + j) * n + k = (((i * n + j) * n + k : Nat) : Int) ∧ (i * n + j) * n + k < n * n * n := by
  obtain ⟨b1, b2, b3, b4, b5, b6, b7⟩ := pr_bd hi hj hn
  refine ⟨b1, b2, b3, by omega, by omega, tA_lt hi hj hk⟩
theorem OwI.chgAway {w w' : World} {B0 B lo hi n : Nat} {A : Option Addr} {xs : List Int} (h : OwI w lo hi A n xs) (hc : Chg B0 B w w') (h0 : B ≤ lo) : OwI w' lo hi A n xs :=
  h.keepH fun b h1 _ h3 => hc.block b h3 (.inr (by omega))
set_option maxRecDepth 100000 in
theorem tableBy_any (p : Int) (n : Nat) (L : Nat → Nat → List Int) (F : FuncId) (cap : Array Value) (w : World) (hn : n ≤ 28) (hp1 : 2 ≤ p) (hp2 : p ≤ 10007)
    (hcf : ∀ (args : Array Value) (w : World), Sem.run Try.prog (callFunc F args) w = .ok (.enter F args) w)
    (hf : Hid (∀ (i j : Nat) (w' : World), j < i → i < n → Below w.heap.size w w' → Calls Try.prog F (#[.int .i64 i, .int .i64 j] ++ cap) w' (RetI (L i j) w')))
    (hLl : ∀ i j, j < i → i < n → (L i j).length ≤ n) (hLr : ∀ i j, j < i → i < n → ∀ t, 0 ≤ gI (L i j) t ∧ gI (L i j) t < p) :
    Calls Try.prog 110 #[.int .i64 p, .int .i64 n, .func (.func F) #[] cap] w (RetA p n (tbV n L p) w) := by
  have HLL := Lib.hid hLl
  have HLR := Lib.hid hLr
  have hz0 := Box.new w #[.int .i64 0, .int .i64 0, .slice none 0 0] 27
  have hnn : n * n * n ≤ 28 * 28 * 28 := Nat.mul_le_mul (Nat.mul_le_mul hn hn) hn
  have hn2 : n * n ≤ 28 * 28 := Nat.mul_le_mul hn hn
  have e2 : (n : Int) * n = ((n * n : Nat) : Int) := by rw [Int.natCast_mul]
  have e3 : (n : Int) * n * n = ((n * n * n : Nat) : Int) := by rw [Int.natCast_mul, Int.natCast_mul]
  have hm1 : 0 ≤ (n : Int) * n := by omega
  have hm2 : (n : Int) * n ≤ 784 := by omega
  have hm3 : 0 ≤ (n : Int) * n * n := by omega
  have hm4 : (n : Int) * n * n ≤ 21952 := by omega
  obtain ⟨N3, hN3⟩ : ∃ N3, N3 = n * n * n := ⟨_, rfl⟩
  rw [← hN3] at e3 hnn
  have HN3 := Lib.hid hN3
  clear hLl hLr hN3 e2
  go_enter Try.func110, Try.ntmps110
  go_wp2_with (at_make; refine wpList_mkI _ rfl _ _ 22 rfl 3 Try.underlying22 Try.infoI .i64 .i64 _ _ N3 rfl rfl (by first | rfl | exact e3 | omega) (by first | rfl | exact e3 | omega) (by omega) ?_; intro w1 ho1 hb1 hs1)
  rw [World.size_alloc] at ho1 hb1 hs1
  have hz1 := (hz0.below hb1 (by omega)).alloc (.cells #[.int .i64 p, .int .i64 n, .slice (some ⟨w.heap.size + 1, 0, none⟩) N3 N3] 27)
  have hy1 := Box.new w1 #[.int .i64 p, .int .i64 n, .slice (some ⟨w.heap.size + 1, 0, none⟩) N3 N3] 27
  have hq0 : Below w.heap.size w (w1.alloc (.cells #[.int .i64 p, .int .i64 n, .slice (some ⟨w.heap.size + 1, 0, none⟩) N3 N3] 27)) := (by repeat' (first | (with_reducible exact Below.refl _ _) | (with_reducible refine Below.setCell ?_ (by first | exact Nat.le_refl _ | omega | (simp only [World.size_alloc, World.size_setCell, World.heap_drewN]; omega) | (simp; omega)) _) | (with_reducible refine Below.alloc ?_ (by first | exact Nat.le_refl _ | omega | (simp only [World.size_alloc, World.size_setCell, World.heap_drewN]; omega) | (simp; omega)) _) | (with_reducible refine below_drewN ?_ _) | (with_reducible refine Below.drew ?_) | (with_reducible refine Below.trans ?_ (hb1.mono (by first | exact Nat.le_refl _ | omega | (simp only [World.size_alloc, World.size_setCell, World.heap_drewN]; omega) | (simp; omega))))))
  have ho2 := ((ho1.alloc (Nat.le_refl _) (.cells #[.int .i64 p, .int .i64 n, .slice (some ⟨w.heap.size + 1, 0, none⟩) N3 N3] 27)).tight)
  rw [HN3.out, tbW_zero n L p, ← HN3.out] at ho2
  have hWs : (w1.alloc (.cells #[.int .i64 p, .int .i64 n, .slice (some ⟨w.heap.size + 1, 0, none⟩) N3 N3] 27)).heap.size = w1.heap.size + 1 := by rw [World.size_alloc]
  generalize (w1.alloc (.cells #[.int .i64 p, .int .i64 n, .slice (some ⟨w.heap.size + 1, 0, none⟩) N3 N3] 27)) = W0 at *
  clear ho1 hz0 hb1
  go_loopw [22] (fun ii wr => ∃ i : Nat, i ≤ n ∧ ii = .int .i64 i ∧ Chg (w.heap.size + 1) (w.heap.size + 1 + 1) W0 wr ∧ OwI wr (w.heap.size + 1) (w.heap.size + 1 + 1) (some ⟨w.heap.size + 1, 0, none⟩) N3 (tbW n L p i 0 0)) (fun ii _ => n - (intOf ii).toNat)
  case atStart => exact ⟨0, by omega, rfl, Chg.refl _ _ _, ho2⟩
  case round =>
    clear ho2
    obtain ⟨i, hi, rfl, hch, ho⟩ := hrel
    by_cases hlti : i < n
    · obtain ⟨wi, rfl⟩ : ∃ wi : World, wi = wr := ⟨_, rfl⟩
      go_wp2_with fail
      go_loopw [26] (fun jj wr => ∃ j : Nat, j ≤ i ∧ jj = .int .i64 j ∧ Chg (w.heap.size + 1) (w.heap.size + 1 + 1) W0 wr ∧ OwI wr (w.heap.size + 1) (w.heap.size + 1 + 1) (some ⟨w.heap.size + 1, 0, none⟩) N3 (tbW n L p i j 0)) (fun jj _ => i - (intOf jj).toNat)
      case atStart => exact ⟨0, by omega, rfl, hch, ho⟩
      case round =>
        clear hch ho
        obtain ⟨j, hj, rfl, hch, ho⟩ := hrel
        have hsz := hch.size
        by_cases hltj : j < i
        · have hbW : Below w.heap.size w wr := hq0.trans ((hch.below (by omega)).mono (by omega))
          have HLJ := Lib.hid (HLL.out i j hltj hlti)
          have HCOL := Lib.hid (tbW_col (n := n) L p hltj)
          obtain ⟨wj, rfl⟩ : ∃ wj : World, wj = wr := ⟨_, rfl⟩
          go_wp2_with fail
          refine (hf.out i j _ hltj hlti hbW).mono ?_
          rintro e w5 ⟨A5, m5, c5, rfl, hd5, hb5, ho5⟩
          have hs5 := hb5.size
          have hm5 : m5 ≤ n := by rw [← ho5.1]; exact HLJ.out
          have HM5 := Lib.hid ho5.1
          have hch5 := hch.trans (Chg.ofBelow (B0 := w.heap.size + 1) (B := w.heap.size + 1 + 1) hb5 (Nat.le_refl _))
          have hoT := ho.below hb5 (by omega)
          go_wp2_with fail
          go_loopw [34] (fun kk wr => ∃ k : Nat, k ≤ m5 ∧ kk = .int .i64 k ∧ Chg (w.heap.size + 1) (w.heap.size + 1 + 1) w5 wr ∧ OwI wr (w.heap.size + 1) (w.heap.size + 1 + 1) (some ⟨w.heap.size + 1, 0, none⟩) N3 (tbW n L p i j k)) (fun kk _ => m5 - (intOf kk).toNat)
          case atStart => exact ⟨0, by omega, rfl, Chg.refl _ _ _, hoT⟩
          case round =>
            clear hoT ho
            obtain ⟨k, hk, rfl, hc3, ho⟩ := hrel
            have hs3 := hc3.size
            by_cases hltk : k < m5
            · have hyr := (hy1.chg hch5 (.inr (by omega))).chg hc3 (.inr (by omega))
              have ho5r := ho5.chgAway hc3 (by omega)
              obtain ⟨b5, o5, rfl⟩ := ho5r.addr (by omega)
              have ei := (ho5r.at_ hltk).1
              have hltkn : k < n := by omega
              have hltjn : j < n := by omega
              obtain ⟨b1, b2, b3, b4, b5', b6⟩ := i3_bd hlti hltjn hltkn (show n ≤ 100 by omega)
              obtain ⟨d1, d2, d3, d4, d5, d6⟩ := i3_bd hltjn hlti hltkn (show n ≤ 100 by omega)
              rw [← HN3.out] at b6 d6
              have c1 : (((i : Int) * n + j) * n + k).toNat = (i * n + j) * n + k := by omega
              have c2 : (((j : Int) * n + i) * n + k).toNat = (j * n + i) * n + k := by omega
              have c3 : ((i : Int) * n + j) * n + k < N3 := by omega
              have c4 : ((j : Int) * n + i) * n + k < N3 := by omega
              have hxb := HLR.out i j hltj hlti k
              have HST := Lib.hid (tbW_step (n := n) L p hlti hltj hltkn)
              generalize gI (L i j) k = x at *
              obtain ⟨f1, f2⟩ := ho.at_ b6
              rw [Nat.zero_add] at f1 f2
              obtain ⟨y0, y1, y2⟩ := hyr.three
              clear b5' d5
              go_wp2_with fail
              have hS1 := ho.store (v := x) b6
              rw [Nat.zero_add] at hS1
              have hcS1 := hc3.setCell (p := ⟨w.heap.size + 1, (i * n + j) * n + k, none⟩) (by exact Nat.le_refl _) (by exact Nat.lt_succ_self _) (.int .i64 x)
              have hyS := hyr.other (p := ⟨w.heap.size + 1, (i * n + j) * n + k, none⟩) (by show w1.heap.size ≠ w.heap.size + 1; omega) (.int .i64 x)
              obtain ⟨WS, hWS⟩ : ∃ WS, WS = wr.setCell ⟨w.heap.size + 1, (i * n + j) * n + k, none⟩ (.int .i64 x) := ⟨_, rfl⟩
              rw [← hWS] at hS1 hcS1 hyS ⊢
              have hsS : WS.heap.size = wr.heap.size := by rw [hWS, World.size_setCell]
              clear hWS f1 f2 y0 y1 y2 ho hc3 hyr ei c1 c3
              obtain ⟨y0, y1, y2⟩ := hyS.three
              have q0 := cell_regrown y0
              have q1 := cell_regrown y1
              have q2 := cell_regrown y2
              have hxn : IntKind.i64.wrap (-x) = -x := IntWalk.i64_in _ (by omega)
              have cM : ∀ d' os, Calls Try.prog 75 #[.int .i64 (-x), .int .i64 p] (grow (redrawn WS d') os) fun e w'' => e = .returned (.int .i64 (-x % p)) ∧ ∃ pp : Regrown, w'' = grow (redrawn WS pp.d) pp.os :=
                fun d' os => Calls.regrown_of ((mod_any (-x) p _ (by omega) (by omega)).mono fun e w' h => ⟨h.1, h.2 ▸ Below.refl _ _⟩)
              (refine wp_region_quiet_last (C := fun w' => ∃ p : Regrown, w' = grow (redrawn WS p.d) p.os) 16 (by kernel_rfl) (by kernel_rfl) (by kernel_rfl) (by kernel_rfl) (by kernel_rfl) (by kernel_rfl) (by kernel_rfl) (by kernel_rfl) ⟨⟨WS.drawn + 1, #[]⟩, by rw [grow_empty]; rfl⟩ ?_; simp only [List.take_succ_cons, List.take_zero, List.drop_succ_cons, List.drop_zero]; (repeat (go_big_quiet_step (exact cM _ _))); refine wpQuiet_nil ?_; rintro W ⟨pp, hW⟩; have hbW : Below WS.heap.size WS W := hW ▸ below_regrown _ _ _; clear hW)
              have hsW := hbW.size
              have hoW := hS1.below hbW (by omega)
              have hoE := hoW.store (v := -x % p) d6
              obtain ⟨f1, f2⟩ := hoW.at_ d6
              rw [Nat.zero_add] at f1 f2 hoE
              rw [HST.out] at hoE
              have hcW := (hcS1.trans (Chg.ofBelow hbW (Nat.le_refl _))).setCell (p := ⟨w.heap.size + 1, (j * n + i) * n + k, none⟩) (by exact Nat.le_refl _) (by exact Nat.lt_succ_self _) (.int .i64 (-x % p))
              clear q0 q1 q2 cM hS1 hyS hcS1 hoW y0 y1 y2
              go_wp2
              go_roundw
              case rel => exact ⟨k + 1, by omega, by go_num, hcW, hoE⟩
              case measure => simp [intOf]; omega
            · obtain rfl : m5 = k := by omega
              have hk0 := hch5.trans hc3
              rw [← HM5.out, HCOL.out] at ho
              go_wp2
              go_roundw
              case rel => exact ⟨j + 1, by omega, by go_num, hk0, ho⟩
              case measure => simp [intOf]; omega
        · obtain rfl : i = j := by omega
          rw [tbW_row] at ho
          go_wp2
          go_roundw
          case rel => exact ⟨i + 1, by omega, by go_num, hch, ho⟩
          case measure => simp [intOf]; omega
    · obtain rfl : n = i := by omega
      rw [tbW_end] at ho
      have hsz := hch.size
      have hyr := hy1.chg hch (.inr (by omega))
      have hzr := hz1.chg hch (.inl (by omega))
      have hbW : Below w.heap.size w wr := hq0.trans ((hch.below (by omega)).mono (by omega))
      obtain ⟨y0, y1, y2⟩ := hyr.three
      obtain ⟨z0, z1, z2⟩ := hzr.three
      have zf := hzr.fz
      have hR1 : w.heap.size + 1 < wr.heap.size := by omega
      clear hyr hzr
      go_wp2
      refine bodyPost_ret (v := .agg #[.int .i64 p, .int .i64 n, .slice (some ⟨w.heap.size + 1, 0, none⟩) N3 N3]) (by simp [results, Try.results110, go_sem, z0, z1, z2]) rfl ⟨_, _, _, rfl, (by first | assumption | exact Hd.nil | exact Hd.self (by first | omega | (unfold maxLen; omega))), (by repeat' (first | (with_reducible exact Below.refl _ _) | (with_reducible refine Below.setCell ?_ (by first | exact Nat.le_refl _ | omega | (simp only [World.size_alloc, World.size_setCell, World.heap_drewN]; omega) | (simp; omega)) _) | (with_reducible refine Below.alloc ?_ (by first | exact Nat.le_refl _ | omega | (simp only [World.size_alloc, World.size_setCell, World.heap_drewN]; omega) | (simp; omega)) _) | (with_reducible refine below_drewN ?_ _) | (with_reducible refine Below.drew ?_) | (with_reducible refine Below.trans ?_ (hbW.mono (by first | exact Nat.le_refl _ | omega | (simp only [World.size_alloc, World.size_setCell, World.heap_drewN]; omega) | (simp; omega)))))), ?_⟩
      simp only [World.size_setCell]
      exact ((((ho.setLow (by simp) _).setLow (by simp) _).setLow (by simp) _).down (by omega)).up (by omega)
end Go.Proofs.Yticebbkmakpkjaa
