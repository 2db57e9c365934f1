/- KillingForm of both packages. No condition but what each theorem names. -/
import Derived.Test.YteepnimmbofmlaaKil
import Derived.Test.YteepnimmbofmlaaGrwM
import Derived.Test.YteepnimmbofmlaaUniW
import Derived.Deep.RegionHeld3
namespace Go.Proofs.Yteepnimmbofmlaa
set_option linter.unusedVariables false
set_option linter.unusedSimpArgs false
set_option maxRecDepth 20000
open Go.RowKit Go.Sort
set_option maxHeartbeats 4000000
/-- a list of square matrices that is read, below block B -/
structure RdM (w : World) (B : Nat) (p N : Int) (A : Option Addr) (n : Nat) (hs : List Hdr) (xss : List (List Int)) : Prop where
  cells : 0 < n → ∃ b, A = some ⟨b, 0, none⟩ ∧ b < B ∧ ∀ j, j < n → w.cell? ⟨b, j * 4, none⟩ = some (.int .i64 p) ∧ w.cell? ⟨b, j * 4 + 1, none⟩ = some (.int .i64 N) ∧ w.cell? ⟨b, j * 4 + 2, none⟩ = some (.int .i64 N) ∧ w.cell? ⟨b, j * 4 + 3, none⟩ = some (slv (hdr hs j))
  rows : ∀ j, j < n → RdI w B (hdr hs j).1 (hdr hs j).2.1 (row xss j) ∧ Hd (hdr hs j).1 (hdr hs j).2.1 (hdr hs j).2.2
section
variable {w w' : World} {B B' n : Nat} {p N : Int} {A : Option Addr} {hs : List Hdr} {xss : List (List Int)}
theorem RdM.keep (h : RdM w B p N A n hs xss) (hk : ∀ b o, b < B → w'.cell? ⟨b, o, none⟩ = w.cell? ⟨b, o, none⟩) : RdM w' B p N A n hs xss :=
  ⟨fun hn => by obtain ⟨b, e, hb, hc⟩ := h.cells hn; exact ⟨b, e, hb, fun j hj => by obtain ⟨c0, c1, c2, c3⟩ := hc j hj; exact ⟨(hk _ _ hb).trans c0, (hk _ _ hb).trans c1, (hk _ _ hb).trans c2, (hk _ _ hb).trans c3⟩⟩, fun j hj => ⟨(h.rows j hj).1.keep hk, (h.rows j hj).2⟩⟩
theorem RdM.below (h : RdM w B p N A n hs xss) (hb : Below B' w w') (hB : B ≤ B') : RdM w' B p N A n hs xss := h.keep fun b o hlt => hb.cell (p := ⟨b, o, none⟩) (by show b < B'; omega)
end
theorem RdM.at_ {w : World} {B n j : Nat} {p N : Int} {A : Option Addr} {hs : List Hdr} {xss : List (List Int)} (h : RdM w B p N A n hs xss) (hj : j < n) :
    ∃ (b : Nat) (A' : Option Addr) (m k : Nat), A = some ⟨b, 0, none⟩ ∧ b < B ∧ (w.cell? ⟨b, j * 4, none⟩ = some (.int .i64 p) ∧ w.cell? ⟨b, j * 4 + 1, none⟩ = some (.int .i64 N) ∧ w.cell? ⟨b, j * 4 + 2, none⟩ = some (.int .i64 N) ∧ w.cell? ⟨b, j * 4 + 3, none⟩ = some (.slice A' m k)) ∧ RdI w B A' m (row xss j) ∧ Hd A' m k := by
  obtain ⟨b, e, hb, hc⟩ := h.cells (by omega)
  exact ⟨b, _, _, _, e, hb, hc j hj, (h.rows j hj).1, (h.rows j hj).2⟩
theorem GrwM.rd {g n : Nat} {p N : Int} {w0 wr : World} {v : Value} {hs : List Hdr} {xss : List (List Int)} (h : GrwM g w0 wr p N v n hs xss) : ∃ A c, v = .slice A n c ∧ RdM wr wr.heap.size p N A n hs xss := by
  rcases Nat.eq_zero_or_pos n with h0 | h0
  · rcases h.own.2 with ⟨h1, h2⟩ | ⟨g', cap, cur, e1, _⟩
    · exact ⟨none, 0, by rw [h1, h0], fun h => by omega, fun j h => by omega⟩
    · exact ⟨_, cap, e1, fun h => by omega, fun j h => by omega⟩
  · obtain ⟨b, c, e, hb, hc⟩ := h.addr h0
    exact ⟨_, c, e, fun _ => ⟨b, rfl, hb, hc⟩, h.rows⟩
theorem cells4_below {w w' : World} {B b o : Nat} {v0 v1 v2 v3 : Value} (h : w.cell? ⟨b, o, none⟩ = some v0 ∧ w.cell? ⟨b, o + 1, none⟩ = some v1 ∧ w.cell? ⟨b, o + 2, none⟩ = some v2 ∧ w.cell? ⟨b, o + 3, none⟩ = some v3) (hb : Below B w w') (hlt : b < B) :
    w'.cell? ⟨b, o, none⟩ = some v0 ∧ w'.cell? ⟨b, o + 1, none⟩ = some v1 ∧ w'.cell? ⟨b, o + 2, none⟩ = some v2 ∧ w'.cell? ⟨b, o + 3, none⟩ = some v3 :=
  ⟨(hb.cell (p := ⟨b, o, none⟩) hlt).trans h.1, (hb.cell (p := ⟨b, o + 1, none⟩) hlt).trans h.2.1, (hb.cell (p := ⟨b, o + 2, none⟩) hlt).trans h.2.2.1, (hb.cell (p := ⟨b, o + 3, none⟩) hlt).trans h.2.2.2⟩
set_option maxRecDepth 100000 in
theorem killing_any {B : Nat} (p : Int) (N l k : Nat) (A : Option Addr) (d : List Int) (w : World) (h : RdI w B A l d) (hd : Hd A l k) (hB : B ≤ w.heap.size) (hl : l = N * N * N) (hN : N ≤ 28) (hp : isP p = true) (hr : resB d p = true) :
    Calls Try.prog 24 #[.agg #[.int .i64 p, .int .i64 N, .slice A l k]] w (RetM p N N (tab N N (kiV N p d)) w) := by
  obtain ⟨hp1, hp2⟩ := isP_bd hp
  have HP := Lib.hid hp
  have HL := Lib.hid hl
  have HR := Lib.hid hr
  have HZ := Lib.hid (show okZ p N N from ⟨hp, ⟨by omega, by omega⟩, by omega, by omega⟩)
  have hx0 := (Box.new w #[.int .i64 p, .int .i64 N, .slice A l k] 29).alloc (.cells #[.int .i64 0, .int .i64 0, .int .i64 0, .slice none 0 0] 27)
  have hz0 := Box.new (w.alloc (.cells #[.int .i64 p, .int .i64 N, .slice A l k] 29)) #[.int .i64 0, .int .i64 0, .int .i64 0, .slice none 0 0] 27
  have hq0 : Below w.heap.size w ((w.alloc (.cells #[.int .i64 p, .int .i64 N, .slice A l k] 29)).alloc (.cells #[.int .i64 0, .int .i64 0, .int .i64 0, .slice none 0 0] 27)) := (by repeat' (first | (with_reducible exact Below.refl _ _) | (with_reducible refine Below.setCell ?_ (by first | exact Nat.le_refl _ | omega | (simp only [World.size_alloc, World.size_setCell, World.heap_drewN]; omega) | (simp; omega)) _) | (with_reducible refine Below.alloc ?_ (by first | exact Nat.le_refl _ | omega | (simp only [World.size_alloc, World.size_setCell, World.heap_drewN]; omega) | (simp; omega)) _) | (with_reducible refine below_drewN ?_ _) | (with_reducible refine Below.drew ?_)))
  have ha0 := h.below hq0 hB
  simp only [World.size_alloc] at hz0
  obtain ⟨x0, x1, x2⟩ := hx0.three
  clear h hp hl hr
  go_enter Try.func24, Try.ntmps24
  go_wp2_with (go_at_call 42; refine (newLie_any p N A l k _).mono ?_; rintro e w3 ⟨rfl, hb3⟩; clear x0 x1 x2; have hs3 := hb3.size; simp only [World.size_alloc] at hs3; have hx1 := ((hx0.below hb3 (by simp; omega)).alloc (.cells #[.int .i64 p, .int .i64 N, .slice A l k] 55)).alloc (.cells #[] 27); have hz1 := ((hz0.below hb3 (by simp)).alloc (.cells #[.int .i64 p, .int .i64 N, .slice A l k] 55)).alloc (.cells #[] 27); have hy1 := (Box.new w3 #[.int .i64 p, .int .i64 N, .slice A l k] 55).alloc (.cells #[] 27); have ha1 := ((ha0.below hb3 (by simp; omega)).alloc (by omega) (.cells #[.int .i64 p, .int .i64 N, .slice A l k] 55)).alloc (by simp; omega) (.cells #[] 27); have hq1 : Below w.heap.size w ((w3.alloc (.cells #[.int .i64 p, .int .i64 N, .slice A l k] 55)).alloc (.cells #[] 27)) := (by repeat' (first | (with_reducible exact Below.refl _ _) | (with_reducible refine Below.setCell ?_ (by first | exact Nat.le_refl _ | omega | (simp only [World.size_alloc, World.size_setCell, World.heap_drewN]; omega) | (simp; omega)) _) | (with_reducible refine Below.alloc ?_ (by first | exact Nat.le_refl _ | omega | (simp only [World.size_alloc, World.size_setCell, World.heap_drewN]; omega) | (simp; omega)) _) | (with_reducible refine below_drewN ?_ _) | (with_reducible refine Below.drew ?_) | (with_reducible refine Below.trans ?_ (hb3.mono (by first | exact Nat.le_refl _ | omega | (simp only [World.size_alloc, World.size_setCell, World.heap_drewN]; omega) | (simp; omega)))) | (with_reducible refine Below.trans ?_ (hq0.mono (by first | exact Nat.le_refl _ | omega | (simp only [World.size_alloc, World.size_setCell, World.heap_drewN]; omega) | (simp; omega)))))); obtain ⟨x0, x1, x2⟩ := hx1.three)
  have hG := GrwM.start (w3.alloc (.cells #[.int .i64 p, .int .i64 N, .slice A l k] 55)) 27 p N rfl
  rw [World.size_alloc] at hG
  clear x0 x1 x2 hx0 hz0 ha0 hq0 hb3
  obtain ⟨W, hW⟩ : ∃ W, W = ((w3.alloc (.cells #[.int .i64 p, .int .i64 N, .slice A l k] 55)).alloc (.cells #[] 27)) := ⟨_, rfl⟩
  have hWs : W.heap.size = w3.heap.size + 2 := by rw [hW]; simp
  rw [← hW] at hx1 hz1 hy1 ha1 hq1 hG ⊢
  clear hW
  go_loopw [4, 16] (fun v i wr => ∃ (j : Nat) (hs : List Hdr), j ≤ N ∧ i = .int .i64 j ∧ GrwM (w3.heap.size + 1) W wr p N v j hs (adL N p d j)) (fun _ i _ => N - (intOf i).toNat)
  case atStart => exact ⟨0, [], by omega, rfl, hG⟩
  case round =>
    clear hG
    obtain ⟨j, hs, hj, rfl, hG⟩ := hrel
    have hsz := hG.size
    have hbl := hG.below
    have hx := hx1.below hbl (by omega)
    have hz := hz1.below hbl (by omega)
    have hy := hy1.below hbl (by omega)
    have ha := ha1.below hbl (by omega)
    have hq := hq1.trans (hbl.mono (by omega))
    clear hbl
    obtain ⟨x0, x1, x2⟩ := hx.three
    by_cases hlt : j < N
    · have HS := Lib.hid (adL_succ N p d j)
      have HUR := Lib.hid (unitV_res (p := p) hp1 hlt)
      have hcn : j ≤ 1073741824 := by omega
      clear x0 x1 x2
      obtain ⟨x0, x1, x2⟩ := hx.three
      obtain ⟨y0, y1, y2⟩ := hy.three
      go_wp2_with fail
      clear x0 x1 x2 y0 y1 y2
      go_region_held3 (fun w' => (w'.cell? ⟨w.heap.size, 1, none⟩ = some (.int .i64 N)) ∧ w'.cell? ⟨w3.heap.size, 0, none⟩ = some (.int .i64 p) ∧ w'.cell? ⟨w3.heap.size, 1, none⟩ = some (.int .i64 N) ∧ w'.cell? ⟨w3.heap.size, 2, none⟩ = some (.slice A l k)) (first | exact ⟨hx.cell rfl, hy.three⟩ | exact ⟨(hx.alloc _).cell rfl, (hy.alloc _).three⟩)
        (first
          | (go_at_call 65; refine (unit_any N j _ (by omega) hlt).mono ?_; rintro e wa ⟨Au, nu, cu, rfl, hdu, hba, hou⟩; have hba := (by first | with_reducible exact bel_ofDrew hba | exact hba : Below wr.heap.size wr wa); have hsa := hba.size; have hx : Box wa w.heap.size _ := hx.step hba; have hy : Box wa w3.heap.size _ := hy.step hba; obtain rfl : N = nu := (by have := hou.1; rw [unitV_len] at this; exact this))
          | (go_at_call 64; refine (adjoint_any (B := wa.heap.size) p N l k cu A Au d (unitV N j) _ ((ha.below hba (by omega)).up (by omega)) hd hou.rd (Nat.le_refl _) HL.out (by omega) hp1 hp2 HR.out HUR.out).mono ?_; rintro e wb ⟨Ab, nb, cb, rfl, hdb, hbb, hob⟩; have hsb := hbb.size; have hbab : Below wr.heap.size wr wb := hba.trans (hbb.mono hsa); have hGb := hG.step hbab; have hx : Box wb w.heap.size _ := hx.step hbb; have hy : Box wb w3.heap.size _ := hy.step hbb)
          | (refine step_apM (v := u4) (w := wb.alloc (.cells #[.int .i64 p, .int .i64 N, .int .i64 N, .slice Ab nb cb] 27)) (lo := w3.heap.size + 1) (b := wb.heap.size) rfl (.tmp 19) (.tmp 26) rfl rfl (hGb.own.alloc _) rfl (Box.new wb _ _) ⟨rfl, rfl, rfl, rfl⟩ hcn (by rw [World.size_alloc]; omega) ?_; intro v5 w5 ho5 hg5 hv5; have hG6 := hG.push hbab hob hsa hdb ho5 hg5 hv5; have hx : Box w5 w.heap.size _ := hx1.below hG6.below (by omega); have hy : Box w5 w3.heap.size _ := hy1.below hG6.below (by omega)))
      have HT := Lib.hid hG6
      clear hG hGb hob ho5 hg5 hv5 hbb hba hbab hG6 hx hy hou
      go_wp2
      go_roundw
      case rel => exact ⟨j + 1, _, by omega, by go_num, by rw [HS.out]; exact HT.out⟩
      case measure => simp [intOf]; omega
    · obtain rfl : N = j := by omega
      obtain ⟨A4, c4, rfl, hM⟩ := hG.rd
      clear hG x0 x1 x2 hx1 hz1 hy1 ha1 hq1 hy ha
      obtain ⟨V, hV⟩ : ∃ V, V = wr := ⟨_, rfl⟩
      rw [← hV] at hM hx hz hq hsz ⊢
      clear hV
      obtain ⟨x0, x1, x2⟩ := hx.three
      go_wp2_with fail
      refine (iZero_z p N N _ HZ.out).mono ?_
      rw [show ((N : Int) * (N : Int)).toNat = N * N from natsq N]
      rintro e w6 ⟨b6, o6, n6, k6, rfl, hd6, hb6, ho6, hb60, hb61⟩
      have hs6 := hb6.size
      have hM6 := (hM.below hb6 (Nat.le_refl _))
      have hx6 := (hx.below hb6 (by omega)).alloc (.cells #[.int .i64 p, .int .i64 N, .int .i64 N, .slice (some ⟨b6, o6, none⟩) n6 k6] 27)
      have hz6 := (hz.below hb6 (by omega)).alloc (.cells #[.int .i64 p, .int .i64 N, .int .i64 N, .slice (some ⟨b6, o6, none⟩) n6 k6] 27)
      have ho7 := ho6.alloc (Nat.le_refl _) (.cells #[.int .i64 p, .int .i64 N, .int .i64 N, .slice (some ⟨b6, o6, none⟩) n6 k6] 27)
      have hM7 := hM6.below ((Below.refl V.heap.size w6).alloc hs6 (.cells #[.int .i64 p, .int .i64 N, .int .i64 N, .slice (some ⟨b6, o6, none⟩) n6 k6] 27)) (Nat.le_refl _)
      have hy7 := Box.new w6 #[.int .i64 p, .int .i64 N, .int .i64 N, .slice (some ⟨b6, o6, none⟩) n6 k6] 27
      have hq7 := (hq.trans (hb6.mono (by omega))).alloc (by omega) (.cells #[.int .i64 p, .int .i64 N, .int .i64 N, .slice (some ⟨b6, o6, none⟩) n6 k6] 27)
      have HN := Lib.hid (show n6 = N * N by have := ho6.1; simpa using this.symm)
      clear hb6 ho6 hM6 hx hz hq x0 x1 x2 hM
      obtain ⟨x0, x1, x2⟩ := hx6.three
      go_wp2_with fail
      clear x0 x1 x2
      obtain ⟨W6, hW6⟩ : ∃ W6, W6 = w6.alloc (.cells #[.int .i64 p, .int .i64 N, .int .i64 N, .slice (some ⟨b6, o6, none⟩) n6 k6] 27) := ⟨_, rfl⟩
      have hW6s : W6.heap.size = w6.heap.size + 1 := by rw [hW6]; simp
      rw [← hW6] at hx6 hz6 ho7 hM7 hy7 hq7 ⊢
      clear hW6
      rw [← kiR_zero N (kiV N p d)] at ho7
      go_loopw [38] (fun i wr => ∃ x : Nat, x ≤ N ∧ i = .int .i64 x ∧ Chg V.heap.size w6.heap.size W6 wr ∧ OwI wr V.heap.size w6.heap.size (some ⟨b6, o6, none⟩) n6 (kiR N (kiV N p d) x 0)) (fun i _ => N - (intOf i).toNat)
      case atStart => exact ⟨0, by omega, rfl, Chg.refl _ _ _, ho7⟩
      case round =>
        clear ho7
        obtain ⟨x, hx, rfl, hc, ho⟩ := hrel
        have hsr := hc.size
        by_cases hlx : x < N
        · have hMr := hM7.keep fun b o hb => hc.cell b o (.inl hb) (by omega)
          obtain ⟨bM, Ax, nx, kx, rfl, hbM, ⟨c0, c1, c2, c3⟩, hrx, hdx⟩ := hMr.at_ hlx
          rw [adL_at hlx] at hrx
          have HNX := Lib.hid (show nx = N * N by rw [← hrx.1, adV_len])
          have HRX := Lib.hid (adV_res (N := N) (p := p) (by omega) d x)
          go_wp2_with fail
          have hxr := (hx6.chg hc (.inl (by omega))).alloc (.cells #[.int .i64 p, .int .i64 N, .int .i64 N, .slice Ax nx kx] 27)
          have hyr := (hy7.chg hc (.inr (Nat.le_refl _))).alloc (.cells #[.int .i64 p, .int .i64 N, .int .i64 N, .slice Ax nx kx] 27)
          have h8 := Box.new wr #[.int .i64 p, .int .i64 N, .int .i64 N, .slice Ax nx kx] 27
          have hoo := ho.alloc (by omega) (.cells #[.int .i64 p, .int .i64 N, .int .i64 N, .slice Ax nx kx] 27)
          have hrx1 := hrx.alloc (by omega) (.cells #[.int .i64 p, .int .i64 N, .int .i64 N, .slice Ax nx kx] 27)
          have hM8 := hMr.below ((Below.refl V.heap.size wr).alloc (by omega) (.cells #[.int .i64 p, .int .i64 N, .int .i64 N, .slice Ax nx kx] 27)) (Nat.le_refl _)
          have hc8 := hc.alloc (.cells #[.int .i64 p, .int .i64 N, .int .i64 N, .slice Ax nx kx] 27)
          obtain ⟨W8, hW8⟩ : ∃ W8, W8 = wr.alloc (.cells #[.int .i64 p, .int .i64 N, .int .i64 N, .slice Ax nx kx] 27) := ⟨_, rfl⟩
          have hW8s : W8.heap.size = wr.heap.size + 1 := by rw [hW8]; simp
          obtain ⟨g8, hg8⟩ : ∃ g, g = wr.heap.size := ⟨_, rfl⟩
          rw [← hW8] at hxr hyr h8 hoo hrx1 hM8 hc8 ⊢
          rw [← hg8] at h8 hW8s hsr ⊢
          clear hW8 hM7 hMr c0 c1 c2 c3 hrx ho hc hx6 hy7 hg8
          go_loopw [45] (fun i wr => ∃ y : Nat, y ≤ N ∧ i = .int .i64 y ∧ Chg V.heap.size w6.heap.size W8 wr ∧ OwI wr V.heap.size w6.heap.size (some ⟨b6, o6, none⟩) n6 (kiR N (kiV N p d) x y)) (fun i _ => N - (intOf i).toNat)
          case atStart => exact ⟨0, by omega, rfl, Chg.refl _ _ _, hoo⟩
          case round =>
            clear hoo
            obtain ⟨y, hy, rfl, hc, ho⟩ := hrel
            have hsq := hc.size
            by_cases hly : y < N
            · have hMr := hM8.keep fun b o hb => hc.cell b o (.inl hb) (by omega)
              obtain ⟨bM', Ay, ny, ky, e, -, ⟨c0, c1, c2, c3⟩, hry, hdy⟩ := hMr.at_ hly
              obtain rfl : bM = bM' := by injection e with e; injection e
              rw [adL_at hly] at hry
              have HNY := Lib.hid (show ny = N * N by rw [← hry.1, adV_len])
              have HRY := Lib.hid (adV_res (N := N) (p := p) (by omega) d y)
              have hrx2 := hrx1.keep fun b o hb => hc.cell b o (.inl hb) (by omega)
              clear e
              have hc5 := hc.alloc (.cells #[.int .i64 p, .int .i64 N, .int .i64 N, .slice Ay ny ky] 27)
              have h10 := Box.new wr #[.int .i64 p, .int .i64 N, .int .i64 N, .slice Ay ny ky] 27
              have ho5 := ho.alloc (by omega) (.cells #[.int .i64 p, .int .i64 N, .int .i64 N, .slice Ay ny ky] 27)
              have hry5 := hry.alloc (by omega) (.cells #[.int .i64 p, .int .i64 N, .int .i64 N, .slice Ay ny ky] 27)
              have hrx5 := hrx2.alloc (by omega) (.cells #[.int .i64 p, .int .i64 N, .int .i64 N, .slice Ay ny ky] 27)
              have HTP := Lib.hid (show traceP p (N : Int) (N : Int) (mulD N N N (adV N p d x) (adV N p d y) p) = (kiV N p d x y, true) by
                unfold traceP
                rw [if_pos ⟨okM_tab HP.out (by omega) (by omega) fun i j => mulS_bd _ _ _ _ (by omega) _ _ _, rfl⟩]
                rfl)
              have HSET := Lib.hid (kiR_set (f := kiV N p d) hlx hly)
              obtain ⟨i1, i2, i3, i4, i5, i6, i7⟩ := ixF hlx hly HN.out (by have := HN.out; have : N * N ≤ 28 * 28 := Nat.mul_le_mul hN hN; omega)
              clear hc ho hry hrx2 hMr
              go_wp2_with fail
              obtain ⟨W5, hW5⟩ : ∃ W5, W5 = wr.alloc (.cells #[.int .i64 p, .int .i64 N, .int .i64 N, .slice Ay ny ky] 27) := ⟨_, rfl⟩
              have hW5s : W5.heap.size = wr.heap.size + 1 := by rw [hW5]; simp
              obtain ⟨g10, hg10⟩ : ∃ g, g = wr.heap.size := ⟨_, rfl⟩
              rw [← hW5] at hc5 h10 ho5 hry5 hrx5 ⊢
              rw [← hg10] at h10 hW5s ⊢
              have hsg : W8.heap.size ≤ g10 := by rw [hg10]; exact hsq
              clear hW5 hg10 c0 c1 c2 c3 hsq
              have hx5 := hxr.chg hc5 (.inl (by omega))
              have hy5 := hyr.chg hc5 (.inr (Nat.le_refl _))
              have h85 := h8.chg hc5 (.inr (by omega))
              go_region_held3 (fun w' => (w'.cell? ⟨w.heap.size, 1, none⟩ = some (.int .i64 N)) ∧ (w'.cell? ⟨w6.heap.size, 3, none⟩ = some (.slice (some ⟨b6, o6, none⟩) n6 k6)) ∧ (w'.cell? ⟨g8, 0, none⟩ = some (.int .i64 p) ∧ w'.cell? ⟨g8, 1, none⟩ = some (.int .i64 N) ∧ w'.cell? ⟨g8, 2, none⟩ = some (.int .i64 N) ∧ w'.cell? ⟨g8, 3, none⟩ = some (.slice Ax nx kx)) ∧ w'.cell? ⟨g10, 0, none⟩ = some (.int .i64 p) ∧ w'.cell? ⟨g10, 1, none⟩ = some (.int .i64 N) ∧ w'.cell? ⟨g10, 2, none⟩ = some (.int .i64 N) ∧ w'.cell? ⟨g10, 3, none⟩ = some (.slice Ay ny ky)) (first | exact ⟨hx5.cell rfl, hy5.cell rfl, h85.four, h10.four⟩ | exact ⟨(hx5.other (by show _ ≠ b6; omega) _).cell rfl, (hy5.other (by show _ ≠ b6; omega) _).cell rfl, (h85.other (by show _ ≠ b6; omega) _).four, (h10.other (by show _ ≠ b6; omega) _).four⟩)
                (first
                  | (go_at_call 68; refine (times_any (B1 := V.heap.size) (B2 := V.heap.size) p p N N N nx kx ny ky Ax Ay (adV N p d x) (adV N p d y) _ (by exact hrx5) (by first | omega | (rw [size_drew]; omega)) (by exact hry5) (by first | omega | (rw [size_drew]; omega)) hdy (by omega) (by omega) (by omega) HNX.out HNY.out (by omega) hp2 HRX.out HRY.out).mono ?_; rintro e wa ⟨Ap, np, cp, rfl, hdp, hba, hop⟩; have hba := (by first | with_reducible exact bel_ofDrew hba | exact hba : Below W5.heap.size W5 wa); have hsa := hba.size; have hx5 : Box wa w.heap.size _ := hx5.step hba; have hy5 : Box wa w6.heap.size _ := hy5.step hba; have h85 : Box wa g8 _ := h85.step hba; have h10 : Box wa g10 _ := h10.step hba)
                  | (go_at_call 67; refine (iTrace_any (B := wa.heap.size) p N N Ap np cp _ _ hop.rd (Nat.le_refl _)).mono ?_; rw [HTP.out]; rintro e wb ⟨rfl, hbb⟩; have hbab : Below W5.heap.size W5 wb := hba.trans (hbb.mono hsa); have hsb := hbb.size; have hx5 : Box wb w.heap.size _ := hx5.step hbb; have hy5 : Box wb w6.heap.size _ := hy5.step hbb; have h85 : Box wb g8 _ := h85.step hbb; have h10 : Box wb g10 _ := h10.step hbb; have hob := ho5.below hbab (by omega); have st := hob.at_ i1; obtain ⟨st1, st2⟩ := st))
              have HC := Lib.hid ((hc5.trans (Chg.ofBelow hbab (Nat.le_refl _))).setCell (p := ⟨b6, o6 + (x * N + y), none⟩) (by exact hb60) (by exact hb61) (.int .i64 (kiV N p d x y)))
              have HO := Lib.hid (hob.store (v := kiV N p d x y) i1)
              rw [HSET.out] at HO
              clear hx5 hy5 h85 h10 hop hba hbb hbab hob st1 st2 hc5 ho5 hry5 hrx5 i1 i2 i3 i4 i5 i6 i7
              go_wp2
              go_roundw
              case rel => exact ⟨y + 1, by omega, by go_num, HC.out, HO.out⟩
              case measure => simp [intOf]; omega
            · obtain rfl : y = N := by omega
              rw [kiR_row] at ho
              have HC := Lib.hid (hc8.trans hc)
              have HO := Lib.hid ho
              clear ho hc
              go_wp2
              go_roundw
              case rel => exact ⟨x + 1, by omega, by go_num, HC.out, HO.out⟩
              case measure => simp [intOf]; omega
        · obtain rfl : x = N := by omega
          rw [kiR_end] at ho
          have hzr := hz6.chg hc (.inl (by omega))
          have hyr := hy7.chg hc (.inr (Nat.le_refl _))
          have hqr := hq7.trans ((hc.below (by omega)).mono (by omega))
          obtain ⟨y0, y1, y2, y3⟩ := hyr.four
          obtain ⟨z0, z1, z2, z3⟩ := hzr.four
          have zf := hzr.fz
          have hwr : w.heap.size + 1 < wr.heap.size := by omega
          clear hM7
          go_wp2
          exact bodyPost_ret (v := .agg #[.int .i64 p, .int .i64 x, .int .i64 x, .slice (some ⟨b6, o6, none⟩) n6 k6]) (by simp [results, Try.results24, go_sem, z0, z1, z2, z3, hwr]) rfl (retM4 (R := w.heap.size + 1) hqr ho (by omega) (by omega) (by omega) _ _ _ _)
set_option maxRecDepth 100000 in
theorem l3Killing_any {B : Nat} (p : Int) (N l k : Nat) (A : Option Addr) (d : List Int) (w : World) (h : RdI w B A l d) (hd : Hd A l k) (hB : B ≤ w.heap.size) (hl : l = N * N * N) (hN : N ≤ 28) (hp : isP p = true) (hr : resB d p = true) :
    Calls Try.prog 21 #[.agg #[.int .i64 p, .int .i64 N, .slice A l k]] w (RetM p N N (tab N N (kiV N p d)) w) := by
  obtain ⟨hp1, hp2⟩ := isP_bd hp
  have HP := Lib.hid hp
  have HL := Lib.hid hl
  have HR := Lib.hid hr
  have HZ := Lib.hid (show okZ p N N from ⟨hp, ⟨by omega, by omega⟩, by omega, by omega⟩)
  have hx0 := (Box.new w #[.int .i64 p, .int .i64 N, .slice A l k] 29).alloc (.cells #[.int .i64 0, .int .i64 0, .int .i64 0, .slice none 0 0] 27)
  have hz0 := Box.new (w.alloc (.cells #[.int .i64 p, .int .i64 N, .slice A l k] 29)) #[.int .i64 0, .int .i64 0, .int .i64 0, .slice none 0 0] 27
  have hq0 : Below w.heap.size w ((w.alloc (.cells #[.int .i64 p, .int .i64 N, .slice A l k] 29)).alloc (.cells #[.int .i64 0, .int .i64 0, .int .i64 0, .slice none 0 0] 27)) := (by repeat' (first | (with_reducible exact Below.refl _ _) | (with_reducible refine Below.setCell ?_ (by first | exact Nat.le_refl _ | omega | (simp only [World.size_alloc, World.size_setCell, World.heap_drewN]; omega) | (simp; omega)) _) | (with_reducible refine Below.alloc ?_ (by first | exact Nat.le_refl _ | omega | (simp only [World.size_alloc, World.size_setCell, World.heap_drewN]; omega) | (simp; omega)) _) | (with_reducible refine below_drewN ?_ _) | (with_reducible refine Below.drew ?_)))
  have ha0 := h.below hq0 hB
  simp only [World.size_alloc] at hz0
  clear h hp hl hr
  go_enter Try.func21, Try.ntmps21
  go_wp2_with fail
  have hG := GrwM.start ((w.alloc (.cells #[.int .i64 p, .int .i64 N, .slice A l k] 29)).alloc (.cells #[.int .i64 0, .int .i64 0, .int .i64 0, .slice none 0 0] 27)) 27 p N rfl
  simp only [World.size_alloc] at hG
  have hx1 := hx0.alloc (.cells #[] 27)
  have hz1 := hz0.alloc (.cells #[] 27)
  have ha1 := ha0.alloc (by simp; omega) (.cells #[] 27)
  have hq1 := hq0.alloc (by simp; omega) (.cells #[] 27)
  clear hx0 hz0 ha0 hq0
  obtain ⟨W, hW⟩ : ∃ W, W = (((w.alloc (.cells #[.int .i64 p, .int .i64 N, .slice A l k] 29)).alloc (.cells #[.int .i64 0, .int .i64 0, .int .i64 0, .slice none 0 0] 27)).alloc (.cells #[] 27)) := ⟨_, rfl⟩
  have hWs : W.heap.size = w.heap.size + 3 := by rw [hW]; simp
  rw [← hW] at hx1 hz1 ha1 hq1 hG ⊢
  clear hW
  obtain ⟨g0, hg0⟩ : ∃ g, g = w.heap.size + 1 + 1 := ⟨_, rfl⟩
  have hg0' : w.heap.size + 2 ≤ g0 ∧ g0 ≤ w.heap.size + 2 := by omega
  rw [← hg0] at hG ⊢
  clear hg0
  go_loopw [3, 4] (fun v i wr => ∃ (j : Nat) (hs : List Hdr), j ≤ N ∧ i = .int .i64 j ∧ GrwM g0 W wr p N v j hs (adL N p d j)) (fun _ i _ => N - (intOf i).toNat)
  case atStart => exact ⟨0, [], by omega, rfl, hG⟩
  case round =>
    clear hG
    obtain ⟨j, hs, hj, rfl, hG⟩ := hrel
    have hsz := hG.size
    have hbl := hG.below
    have hx := hx1.below hbl (by omega)
    have hz := hz1.below hbl (by omega)
    have ha := ha1.below hbl (by omega)
    have hq := hq1.trans (hbl.mono (by omega))
    clear hbl
    obtain ⟨x0, x1, x2⟩ := hx.three
    by_cases hlt : j < N
    · have HS := Lib.hid (adL_succ N p d j)
      have HUR := Lib.hid (unitV_res (p := p) hp1 hlt)
      have hcn : j ≤ 1073741824 := by omega
      go_wp2_with fail
      clear x0 x1 x2
      go_region_held3 (fun w' => w'.cell? ⟨w.heap.size, 0, none⟩ = some (.int .i64 p) ∧ w'.cell? ⟨w.heap.size, 1, none⟩ = some (.int .i64 N) ∧ w'.cell? ⟨w.heap.size, 2, none⟩ = some (.slice A l k)) (first | exact hx.three | exact (hx.alloc _).three)
        (first
          | (go_at_call 54; refine (l2Basis_any N j _ (by omega) hlt).mono ?_; rintro e wa ⟨Au, nu, cu, rfl, hdu, hba, hou⟩; have hba := (by first | with_reducible exact bel_ofDrew hba | exact hba : Below wr.heap.size wr wa); have hsa := hba.size; have hx : Box wa w.heap.size _ := hx.step hba; obtain rfl : N = nu := (by have := hou.1; rw [unitV_len] at this; exact this))
          | (go_at_call 53; refine (l2Adjoint_any (B := wa.heap.size) p N l k cu A Au d (unitV N j) _ ((ha.below hba (by omega)).up (by omega)) hd hou.rd (Nat.le_refl _) HL.out (by omega) hp1 hp2 HR.out HUR.out).mono ?_; rintro e wb ⟨Ab, nb, cb, rfl, hdb, hbb, hob⟩; have hsb := hbb.size; have hbab : Below wr.heap.size wr wb := hba.trans (hbb.mono hsa); have hGb := hG.step hbab; have hx : Box wb w.heap.size _ := hx.step hbb)
          | (refine step_apM (v := u3) (w := wb.alloc (.cells #[.int .i64 p, .int .i64 N, .int .i64 N, .slice Ab nb cb] 27)) (lo := g0) (b := wb.heap.size) rfl (.tmp 16) (.tmp 23) rfl rfl (hGb.own.alloc _) rfl (Box.new wb _ _) ⟨rfl, rfl, rfl, rfl⟩ hcn (by rw [World.size_alloc]; omega) ?_; intro v5 w5 ho5 hg5 hv5; have hG6 := hG.push hbab hob hsa hdb ho5 hg5 hv5; have hx : Box w5 w.heap.size _ := hx1.below hG6.below (by omega)))
      have HT := Lib.hid hG6
      clear hG hGb hob ho5 hg5 hv5 hbb hba hbab hG6 hx hou
      go_wp2
      go_roundw
      case rel => exact ⟨j + 1, _, by omega, by go_num, by rw [HS.out]; exact HT.out⟩
      case measure => simp [intOf]; omega
    · obtain rfl : N = j := by omega
      obtain ⟨A4, c4, rfl, hM⟩ := hG.rd
      clear hG hx1 hz1 ha1 hq1 ha
      obtain ⟨V, hV⟩ : ∃ V, V = wr := ⟨_, rfl⟩
      rw [← hV] at hM hx hz hq hsz x0 x1 x2 ⊢
      clear hV
      go_wp2_with fail
      refine (l1Zero_z p N N _ (by omega) (by omega) (by omega) (by omega)).mono ?_
      rw [show ((N : Int) * (N : Int)).toNat = N * N from natsq N]
      rintro e w6 ⟨b6, o6, n6, k6, rfl, hd6, hb6, ho6, hb60, hb61⟩
      have hs6 := hb6.size
      have hM6 := (hM.below hb6 (Nat.le_refl _))
      have hx6 := (hx.below hb6 (by omega)).alloc (.cells #[.int .i64 p, .int .i64 N, .int .i64 N, .slice (some ⟨b6, o6, none⟩) n6 k6] 27)
      have hz6 := (hz.below hb6 (by omega)).alloc (.cells #[.int .i64 p, .int .i64 N, .int .i64 N, .slice (some ⟨b6, o6, none⟩) n6 k6] 27)
      have ho7 := ho6.alloc (Nat.le_refl _) (.cells #[.int .i64 p, .int .i64 N, .int .i64 N, .slice (some ⟨b6, o6, none⟩) n6 k6] 27)
      have hM7 := hM6.below ((Below.refl V.heap.size w6).alloc hs6 (.cells #[.int .i64 p, .int .i64 N, .int .i64 N, .slice (some ⟨b6, o6, none⟩) n6 k6] 27)) (Nat.le_refl _)
      have hy7 := Box.new w6 #[.int .i64 p, .int .i64 N, .int .i64 N, .slice (some ⟨b6, o6, none⟩) n6 k6] 27
      have hq7 := (hq.trans (hb6.mono (by omega))).alloc (by omega) (.cells #[.int .i64 p, .int .i64 N, .int .i64 N, .slice (some ⟨b6, o6, none⟩) n6 k6] 27)
      have HN := Lib.hid (show n6 = N * N by have := ho6.1; simpa using this.symm)
      clear hb6 ho6 hM6 hx hz hq x0 x1 x2 hM
      go_wp2_with fail
      obtain ⟨W6, hW6⟩ : ∃ W6, W6 = w6.alloc (.cells #[.int .i64 p, .int .i64 N, .int .i64 N, .slice (some ⟨b6, o6, none⟩) n6 k6] 27) := ⟨_, rfl⟩
      have hW6s : W6.heap.size = w6.heap.size + 1 := by rw [hW6]; simp
      rw [← hW6] at hx6 hz6 ho7 hM7 hy7 hq7 ⊢
      clear hW6
      rw [← kiS_zero N (kiV N p d)] at ho7
      go_loopw [6] (fun i wr => ∃ x : Nat, x ≤ N ∧ i = .int .i64 x ∧ Chg V.heap.size w6.heap.size W6 wr ∧ OwI wr V.heap.size w6.heap.size (some ⟨b6, o6, none⟩) n6 (kiS N (kiV N p d) x 0)) (fun i _ => N - (intOf i).toNat)
      case atStart => exact ⟨0, by omega, rfl, Chg.refl _ _ _, ho7⟩
      case round =>
        clear ho7
        obtain ⟨x, hx, rfl, hc, ho⟩ := hrel
        have hsr := hc.size
        have hxr := hx6.chg hc (.inl (by omega))
        obtain ⟨x0, x1, x2⟩ := hxr.three
        by_cases hlx : x < N
        · go_wp2_with fail
          go_loopw [7] (fun i wr => ∃ y : Nat, y ≤ x + 1 ∧ i = .int .i64 y ∧ Chg V.heap.size w6.heap.size W6 wr ∧ OwI wr V.heap.size w6.heap.size (some ⟨b6, o6, none⟩) n6 (kiS N (kiV N p d) x y)) (fun i _ => x + 1 - (intOf i).toNat)
          case atStart => exact ⟨0, by omega, rfl, hc, ho⟩
          case round =>
            clear ho hc x0 x1 x2 hxr hsr
            obtain ⟨y, hy, rfl, hc, ho⟩ := hrel
            have hsr := hc.size
            have hxr := hx6.chg hc (.inl (by omega))
            have hyr := hy7.chg hc (.inr (Nat.le_refl _))
            obtain ⟨x0, x1, x2⟩ := hxr.three
            by_cases hly : y < x + 1
            · have hMr := hM7.keep fun b o hb => hc.cell b o (.inl hb) (by omega)
              have hyN : y < N := by omega
              have hly' : decide ((y : Int) ≤ (x : Int)) = true := by simp; omega
              obtain ⟨bM, Ax, nx, kx, rfl, hbM, hcx, hrx, hdx⟩ := hMr.at_ hlx
              obtain ⟨bM', Ay, ny, ky, e, -, hcy, hry, hdy⟩ := hMr.at_ hyN
              obtain rfl : bM = bM' := by injection e with e; injection e
              rw [adL_at hlx] at hrx
              rw [adL_at hyN] at hry
              have HNX := Lib.hid (show nx = N * N by rw [← hrx.1, adV_len])
              have HNY := Lib.hid (show ny = N * N by rw [← hry.1, adV_len])
              have HRX := Lib.hid (adV_res (N := N) (p := p) (by omega) d x)
              have HRY := Lib.hid (adV_res (N := N) (p := p) (by omega) d y)
              have HMR := Lib.hid (show resB (mulD N N N (adV N p d x) (adV N p d y) p) p = true from resB_tab fun i j _ _ => mulS_bd _ _ _ _ (by omega) _ _ _)
              have HML := Lib.hid (show (mulD N N N (adV N p d x) (adV N p d y) p).length = N * N from tab_len _ _ _)
              have HKV := Lib.hid (show trS (mulD N N N (adV N p d x) (adV N p d y) p) N N % p = kiV N p d x y from rfl)
              have HSET := Lib.hid (kiS_set (f := kiV N p d) hlx (show y ≤ x by omega) (kiV_sym (by omega) d y x))
              obtain ⟨i1, i2, i3, i4, i5, i6, i7⟩ := ixF hlx hyN HN.out (by have := HN.out; have : N * N ≤ 28 * 28 := Nat.mul_le_mul hN hN; omega)
              obtain ⟨j1, j2, j3, j4, j5, j6, j7⟩ := ixF hyN hlx HN.out (by have := HN.out; have : N * N ≤ 28 * 28 := Nat.mul_le_mul hN hN; omega)
              clear e hMr
              obtain ⟨c0, c1, c2, c3⟩ := hcx
              obtain ⟨d0, d1, d2, d3⟩ := hcy
              have hcx := And.intro c0 (And.intro c1 (And.intro c2 c3))
              have hcy := And.intro d0 (And.intro d1 (And.intro d2 d3))
              have hbr : bM < wr.heap.size := by omega
              go_wp2_with fail
              clear x0 x1 x2 c0 c1 c2 c3 d0 d1 d2 d3
              go_region_held3 (fun w' => (w'.cell? ⟨bM, x * 4, none⟩ = some (.int .i64 p) ∧ w'.cell? ⟨bM, x * 4 + 1, none⟩ = some (.int .i64 N) ∧ w'.cell? ⟨bM, x * 4 + 2, none⟩ = some (.int .i64 N) ∧ w'.cell? ⟨bM, x * 4 + 3, none⟩ = some (.slice Ax nx kx)) ∧ w'.cell? ⟨bM, y * 4, none⟩ = some (.int .i64 p) ∧ w'.cell? ⟨bM, y * 4 + 1, none⟩ = some (.int .i64 N) ∧ w'.cell? ⟨bM, y * 4 + 2, none⟩ = some (.int .i64 N) ∧ w'.cell? ⟨bM, y * 4 + 3, none⟩ = some (.slice Ay ny ky)) (exact ⟨hcx, hcy⟩)
                (first
                  | (go_at_call 56; refine (l1Mul_any (B1 := V.heap.size) (B2 := V.heap.size) p p N N N nx kx ny ky Ax Ay (adV N p d x) (adV N p d y) _ (by exact hrx) (by first | omega | (rw [size_drew]; omega)) (by exact hry) (by first | omega | (rw [size_drew]; omega)) (by omega) (by omega) (by omega) HNX.out HNY.out (by omega) hp2 HRX.out HRY.out).mono ?_; rintro e wa ⟨Ap, np, cp, rfl, hdp, hba, hop⟩; have hba := (by first | with_reducible exact bel_ofDrew hba | exact hba : Below wr.heap.size wr wa); have hsa := hba.size; have hcx := cells4_below hcx hba hbr; have hcy := cells4_below hcy hba hbr)
                  | (go_at_call 55; refine (l1Trace_any (B := wa.heap.size) p N np cp Ap _ _ hop.rd (Nat.le_refl _) (by omega) hp2 (by omega) (by rw [← hop.1]; exact HML.out) HMR.out).mono ?_; rw [HKV.out]; rintro e wb ⟨rfl, hbb⟩; have hbab : Below wr.heap.size wr wb := hba.trans (hbb.mono hsa); have hsb := hbb.size; have hcx := cells4_below hcx hbb (by omega); have hcy := cells4_below hcy hbb (by omega)))
              have hxb := hxr.step hbab
              have hyb := hyr.step hbab
              have hob := ho.below hbab (by omega)
              obtain ⟨s1, s2⟩ := hob.at_ i1
              have hoc := hob.store (v := kiV N p d x y) i1
              obtain ⟨s3, s4⟩ := hoc.at_ j1
              have hod := Lib.hid (hoc.store (v := kiV N p d x y) j1)
              rw [HSET.out] at hod
              have hxc := hxb.other (p := ⟨b6, o6 + (x * N + y), none⟩) (by show _ ≠ b6; omega) (.int .i64 (kiV N p d x y))
              have hyc := hyb.other (p := ⟨b6, o6 + (x * N + y), none⟩) (by show _ ≠ b6; omega) (.int .i64 (kiV N p d x y))
              have HC := Lib.hid (((hc.trans (Chg.ofBelow hbab (Nat.le_refl _))).setCell (p := ⟨b6, o6 + (x * N + y), none⟩) (by exact hb60) (by exact hb61) (.int .i64 (kiV N p d x y))).setCell (p := ⟨b6, o6 + (y * N + x), none⟩) (by exact hb60) (by exact hb61) (.int .i64 (kiV N p d x y)))
              obtain ⟨x0, x1, x2⟩ := hxb.three
              obtain ⟨y0, y1, y2, y3⟩ := hyb.four
              obtain ⟨x0', x1', x2'⟩ := hxc.three
              obtain ⟨y0', y1', y2', y3'⟩ := hyc.four
              clear hxb hyb hxc hyc hob hoc hop hba hbb hbab hcx hcy hrx hry hc ho hM7
              go_wp2
              go_roundw
              case rel => exact ⟨y + 1, by omega, by go_num, HC.out, hod.out⟩
              case measure => simp [intOf]; omega
            · obtain rfl : y = x + 1 := by omega
              rw [kiS_row] at ho
              have hly' : decide (((x + 1 : Nat) : Int) ≤ (x : Int)) = false := by simp; omega
              have HC := Lib.hid hc
              have HO := Lib.hid ho
              clear ho hc
              go_wp2
              go_roundw
              case rel => exact ⟨x + 1, by omega, by go_num, HC.out, HO.out⟩
              case measure => simp [intOf]; omega
        · obtain rfl : x = N := by omega
          rw [kiS_end] at ho
          have hzr := hz6.chg hc (.inl (by omega))
          have hyr := hy7.chg hc (.inr (Nat.le_refl _))
          have hqr := hq7.trans ((hc.below (by omega)).mono (by omega))
          obtain ⟨y0, y1, y2, y3⟩ := hyr.four
          obtain ⟨z0, z1, z2, z3⟩ := hzr.four
          have zf := hzr.fz
          have hwr : w.heap.size + 1 < wr.heap.size := by omega
          clear hM7
          go_wp2
          exact bodyPost_ret (v := .agg #[.int .i64 p, .int .i64 x, .int .i64 x, .slice (some ⟨b6, o6, none⟩) n6 k6]) (by simp [results, Try.results21, go_sem, z0, z1, z2, z3, hwr]) rfl (retM4 (R := w.heap.size + 1) hqr ho (by omega) (by omega) (by omega) _ _ _ _)
end Go.Proofs.Yteepnimmbofmlaa
