/- ExtendBy of the program. No condition but what each theorem names. -/
import Derived.Test.YticebbkmakpkjaaExt
import Derived.Test.YticebbkmakpkjaaSolW
import Derived.Test.YticebbkmakpkjaaCocW
import Derived.Deep.RegionHeld3
namespace Go.Proofs.Yticebbkmakpkjaa
set_option linter.unusedVariables false
set_option linter.unusedSimpArgs false
set_option maxRecDepth 20000
open Go.RowKit Go.Sort
set_option maxHeartbeats 4000000
section
variable {w w' : World} {x : Int} {T : TypeId}
theorem RdoA (hb : Below (w.alloc (.cells #[.int .i64 x] T)).heap.size (w.alloc (.cells #[.int .i64 x] T)) w') : RdI w' w'.heap.size (some ⟨w.heap.size, 0, none⟩) 1 [x] := ((RdI.one w x T).below hb (by rw [World.size_alloc]; exact Nat.le_refl _)).up (by have := hb.size; rw [World.size_alloc] at this; exact this)
theorem RdoAD (hb : Below (w.alloc (.cells #[.int .i64 x] T)).drew.heap.size (w.alloc (.cells #[.int .i64 x] T)).drew w') : RdI w' w'.heap.size (some ⟨w.heap.size, 0, none⟩) 1 [x] := RdoA (bel_ofDrew hb)
end
set_option maxRecDepth 100000 in
theorem exC_any {B : Nat} (p : Int) (N i j n k n2 k2 ga gx gf : Nat) (A A2 : Option Addr) (d df : List Int) (w : World) (h : RdI w B A n d) (hd : Hd A n k) (h2 : RdI w B A2 n2 df) (hB : B ≤ w.heap.size) (hN : N ≤ 28) (hl : n = N * N * N) (hl2 : n2 = N * N) (hj : j < i) (hi : i < N + 1)
    (ba : Box w ga #[.int .i64 p, .int .i64 N, .slice A n k]) (bx : Box w gx #[.int .i64 p, .int .i64 N, .slice A n k]) (bf : Box w gf #[.int .i64 p, .int .i64 N, .int .i64 N, .slice A2 n2 k2]) :
    Calls Try.prog 119 #[.int .i64 i, .int .i64 j, .pointer (some ⟨ga, 0, none⟩), .pointer (some ⟨gx, 0, none⟩), .pointer (some ⟨gf, 0, none⟩)] w (RetI (exL N d df i j) w) := by
  have HL := Lib.hid hl
  have HL2 := Lib.hid hl2
  have HD := Lib.hid h.1
  obtain ⟨xa0, xa1, xa2⟩ := ba.three
  clear hl hl2
  by_cases hiN : i = N
  · subst hiN
    have HE := Lib.hid (show exL i d df i j = [] from if_pos rfl)
    go_enter Try.func119, Try.ntmps119
    go_wp2
    go_ret
    rw [HE.out]
    exact ⟨_, _, _, rfl, Hd.nil, Below.refl _ _, OwI.emp _ _ _ _⟩
  · have hdi : ((i : Int) == (N : Int)) = false := by simp; omega
    have hiN' : i < N := by omega
    have hjN : j < N := by omega
    have HE := Lib.hid (show exL N d df i j = prV N d i j ++ [matF df N i j] from if_neg hiN)
    have HPL := Lib.hid (prV_len (d := d) (n := N) (by rw [HD.out]; exact HL.out) hiN' hjN)
    obtain ⟨A', k', hd', hp', hpair⟩ := pair_any (p := p) (k := k) hd HL.out hiN' hjN (by omega)
    have hpr := (hp' _ _ _ h).up hB
    obtain ⟨c1, c2, c3, c4⟩ := sq_bd hiN' hjN (show N ≤ 100 by omega)
    have hnn : N * N ≤ 28 * 28 := Nat.mul_le_mul hN hN
    have e1 : (i : Int) * N = ((i * N : Nat) : Int) := by rw [Int.natCast_mul]
    have c5 : (i : Int) * N + j < (n2 : Int) := by rw [HL2.out]; exact c3
    have c6 : ((i : Int) * N + j).toNat = i * N + j := by omega
    have c7 : IntKind.i64.wrap ((i : Int) * N) = (i : Int) * N := IntWalk.i64_in _ (by omega)
    have c8 : IntKind.i64.wrap ((i : Int) * N + j) = (i : Int) * N + j := IntWalk.i64_in _ (by omega)
    clear e1
    have hij : i * N + j < n2 := by rw [HL2.out]; exact idx_lt hiN' hjN
    obtain ⟨b2, o2, rfl⟩ := h2.addr (by omega)
    have hcell := h2.at_ hij
    obtain ⟨x, hx⟩ : ∃ x, x = matF df N i j := ⟨_, rfl⟩
    have hxx : gI df (i * N + j) = x := hx.symm
    rw [hxx] at hcell
    rw [← hx] at HE
    have hb2 : b2 < w.heap.size := by
      obtain ⟨b', o', e, hlt, _⟩ := h2.2.2 (by omega)
      injection e with e; injection e with e1 _
      omega
    have hKEEP : ∀ wx : World, Below w.heap.size w wx → ((wx.cell? ⟨ga, 0, none⟩ = some (.int .i64 p) ∧ wx.cell? ⟨ga, 1, none⟩ = some (.int .i64 N) ∧ wx.cell? ⟨ga, 2, none⟩ = some (.slice A n k)) ∧ (wx.cell? ⟨gx, 0, none⟩ = some (.int .i64 p) ∧ wx.cell? ⟨gx, 1, none⟩ = some (.int .i64 N) ∧ wx.cell? ⟨gx, 2, none⟩ = some (.slice A n k)) ∧ (wx.cell? ⟨gf, 0, none⟩ = some (.int .i64 p) ∧ wx.cell? ⟨gf, 1, none⟩ = some (.int .i64 N) ∧ wx.cell? ⟨gf, 2, none⟩ = some (.int .i64 N) ∧ wx.cell? ⟨gf, 3, none⟩ = some (.slice (some ⟨b2, o2, none⟩) n2 k2)) ∧ wx.cell? ⟨b2, o2 + (i * N + j), none⟩ = some (.int .i64 x)) := fun wx hb => ⟨(ba.below hb ba.lt).three, (bx.below hb bx.lt).three, (bf.below hb bf.lt).four, (hb.cell (p := ⟨b2, o2 + (i * N + j), none⟩) (by show b2 < _; omega)).trans hcell⟩
    have KEEP := Lib.hid hKEEP
    clear hKEEP hx hxx hp'
    go_enter Try.func119, Try.ntmps119
    go_wp2_with fail
    have hcur := Below.refl w.heap.size w
    have hnp : (prV N d i j).length = N := HPL.out
    go_region_held3 (fun wx => (wx.cell? ⟨ga, 0, none⟩ = some (.int .i64 p) ∧ wx.cell? ⟨ga, 1, none⟩ = some (.int .i64 N) ∧ wx.cell? ⟨ga, 2, none⟩ = some (.slice A n k)) ∧ (wx.cell? ⟨gx, 0, none⟩ = some (.int .i64 p) ∧ wx.cell? ⟨gx, 1, none⟩ = some (.int .i64 N) ∧ wx.cell? ⟨gx, 2, none⟩ = some (.slice A n k)) ∧ (wx.cell? ⟨gf, 0, none⟩ = some (.int .i64 p) ∧ wx.cell? ⟨gf, 1, none⟩ = some (.int .i64 N) ∧ wx.cell? ⟨gf, 2, none⟩ = some (.int .i64 N) ∧ wx.cell? ⟨gf, 3, none⟩ = some (.slice (some ⟨b2, o2, none⟩) n2 k2)) ∧ wx.cell? ⟨b2, o2 + (i * N + j), none⟩ = some (.int .i64 x)) (first | with_reducible exact KEEP.out _ hcur | with_reducible exact KEEP.out _ (Below.drew hcur) | with_reducible exact KEEP.out _ (Below.alo hcur) | with_reducible exact KEEP.out _ (Below.drew (Below.alo hcur)) | exact KEEP.out _ hcur | exact KEEP.out _ (Below.alo hcur))
      (first
        | (go_at_call 112; refine (hpair _).mono ?_; rintro e wc ⟨rfl, hb⟩; (try (with_reducible replace hro := hro.step hb)); (try (with_reducible have hro := RdoA hb)); (try (with_reducible have hro := RdoAD hb)); (first | with_reducible replace hcur := Below.step hcur hb | with_reducible replace hcur := Below.stepD hcur hb | with_reducible replace hcur := Below.stepA hcur hb | with_reducible replace hcur := Below.stepAD hcur hb); clear hb)
        | (go_at_call 73; refine (clone_own (B := w.heap.size) A' N k' (prV N d i j) _ (by first | with_reducible exact hpr.below hcur (Nat.le_refl _) | with_reducible exact hpr.below (Below.drew hcur) (Nat.le_refl _) | with_reducible exact hpr.below (Below.alo hcur) (Nat.le_refl _) | exact hpr.below hcur (Nat.le_refl _) | exact hpr.below (Below.alo hcur) (Nat.le_refl _)) hd' (by first | with_reducible exact hcur.size | with_reducible exact (Below.alo hcur).size | exact hcur.size | exact (Below.alo hcur).size) (by omega)).mono ?_; rintro e wc ⟨v5, rfl, ho5, hb⟩; rw [hnp] at ho5; have hlo5 : ∀ b, v5.ownBlock = some b → w.heap.size ≤ b := (fun b e => Nat.le_trans (by first | with_reducible exact hcur.size | with_reducible exact (Below.alo hcur).size | exact hcur.size | exact (Below.alo hcur).size) (ho5.lt b e).1); have hlo : w.heap.size ≤ _ := (by first | with_reducible exact hcur.size | with_reducible exact (Below.alo hcur).size | exact hcur.size | exact (Below.alo hcur).size); have hs5 := hb.size; have hcs0 := hcur.size; (try (with_reducible replace hro := hro.step hb)); (try (with_reducible have hro := RdoA hb)); (try (with_reducible have hro := RdoAD hb)); (first | with_reducible replace hcur := Below.step hcur hb | with_reducible replace hcur := Below.stepD hcur hb | with_reducible replace hcur := Below.stepA hcur hb | with_reducible replace hcur := Below.stepAD hcur hb); clear hb)
        | (refine step_apI (v := v5) (w := wc.alloc (.cells #[.int .i64 x] 3)) (n := N) (xs := prV N d i j) (ys := [x]) (m := 1) rfl (.tmp 16) (.tmp 27) rfl rfl (ho5.alloc _) rfl (RdI.one wc x 3) (Hd.self (by unfold maxLen; omega)) (by omega) (by rw [World.size_alloc]; omega) ?_; intro v6 w6 ho6 hg6 hv6; obtain ⟨A6, c6, rfl, hd6⟩ := own_hd ho6; have hb6 : Below w.heap.size w w6 := (Below.alo hcur).grown hg6 (Below.alo hcur).size (fun q e => hlo5 q e); have hor := OwI.down (B0' := w.heap.size) (ofOwn' ho6 (by unfold maxLen; omega)) (by first | exact hlo | (rw [World.size_alloc]; omega) | omega); have hcur := hb6)
        | (refine step_apI (v := v5) (w := wc) (n := N) (xs := prV N d i j) (ys := [x]) (m := 1) rfl (.tmp 16) (.tmp 27) rfl rfl ho5 rfl hro (Hd.self (by unfold maxLen; omega)) (by omega) (by omega) ?_; intro v6 w6 ho6 hg6 hv6; obtain ⟨A6, c6, rfl, hd6⟩ := own_hd ho6; have hb6 : Below w.heap.size w w6 := hcur.grown hg6 hcur.size (fun q e => hlo5 q e); have hor := OwI.down (B0' := w.heap.size) (ofOwn' ho6 (by unfold maxLen; omega)) (by first | exact hlo | (rw [World.size_alloc]; omega) | omega); have hcur := hb6))
    all_goals
      go_wp2
      go_ret
      rw [HE.out]
      exact ⟨_, _, _, rfl, hd6, hb6, hor⟩
/-- may an algebra be extended by a form? -/
def exB (p q : Int) (d : List Int) (mp mr mc : Int) (d2 : List Int) : Bool := foB p q d mp mr mc d2 && cocB q.toNat p (matF d2 q.toNat) d
theorem sCocR {B : Nat} (p q : Int) (n k n2 k2 : Nat) (A A2 : Option Addr) (d : List Int) (mp mr mc : Int) (d2 : List Int) (w : World) (h : RdI w B A n d) (hd : Hd A n k) (h2 : RdI w B A2 n2 d2) (hd2 : Hd A2 n2 k2) (hB : B ≤ w.heap.size) :
    Calls Try.prog 115 #[.agg #[.int .i64 p, .int .i64 q, .slice A n k], .agg #[.int .i64 mp, .int .i64 mr, .int .i64 mc, .slice A2 n2 k2]] w (Rv (.bool (exB p q d mp mr mc d2)) w) := by
  rcases hfo : foB p q d mp mr mc d2 with _ | _
  · have e : exB p q d mp mr mc d2 = false := by unfold exB; rw [hfo]; rfl
    rw [e]
    exact sCoc_no p q n k n2 k2 A A2 d mp mr mc d2 w h hd h2 hB hfo
  · obtain ⟨N, rfl, rfl, rfl, rfl, hN, hp, hdl, hr, hal, hml, hmr, hok, hfr⟩ := coc_start hfo
    have e : exB mp N d mp N N d2 = cocB N mp (matF d2 N) d := by unfold exB; rw [hfo]; simp
    rw [e]
    exact sCoc_ok mp N n k n2 k2 A A2 d d2 w h hd h2 hd2 hB hN hp hdl hr hal hml hmr hok hfr
theorem sExt_no1 {B : Nat} (p q : Int) (n k n2 k2 : Nat) (A A2 : Option Addr) (d : List Int) (mp mr mc : Int) (d2 : List Int) (w : World) (h : RdI w B A n d) (hd : Hd A n k) (h2 : RdI w B A2 n2 d2) (hd2 : Hd A2 n2 k2) (hB : B ≤ w.heap.size) (hno : exB p q d mp mr mc d2 = false) :
    Calls Try.prog 49 #[.agg #[.int .i64 p, .int .i64 q, .slice A n k], .agg #[.int .i64 mp, .int .i64 mr, .int .i64 mc, .slice A2 n2 k2]] w (RetAB 0 0 [] false w) := by
  have HC := Lib.hid hno
  clear hno
  go_enter Try.func49, Try.ntmps49
  go_wp2_with fail
  refine (sCocR p q n k n2 k2 A A2 d mp mr mc d2 _ (B := B) (by exact h.below ((by repeat' (first | (with_reducible exact Below.refl _ _) | (with_reducible refine Below.setCell ?_ (by first | exact Nat.le_refl _ | omega | (simp only [World.size_alloc, World.size_setCell, World.heap_drewN]; omega) | (simp; omega)) _) | (with_reducible refine Below.alloc ?_ (by first | exact Nat.le_refl _ | omega | (simp only [World.size_alloc, World.size_setCell, World.heap_drewN]; omega) | (simp; omega)) _) | (with_reducible refine below_drewN ?_ _) | (with_reducible refine Below.drew ?_))) : Below w.heap.size w _) hB) hd (by exact h2.below ((by repeat' (first | (with_reducible exact Below.refl _ _) | (with_reducible refine Below.setCell ?_ (by first | exact Nat.le_refl _ | omega | (simp only [World.size_alloc, World.size_setCell, World.heap_drewN]; omega) | (simp; omega)) _) | (with_reducible refine Below.alloc ?_ (by first | exact Nat.le_refl _ | omega | (simp only [World.size_alloc, World.size_setCell, World.heap_drewN]; omega) | (simp; omega)) _) | (with_reducible refine below_drewN ?_ _) | (with_reducible refine Below.drew ?_))) : Below w.heap.size w _) hB) hd2 (by first | exact Nat.le_refl _ | omega | (simp only [World.size_alloc, World.size_setCell, World.heap_drewN]; omega) | (simp; omega))).mono ?_
  rintro e w1 ⟨rfl, hb1⟩
  have b1 : Box w1 (w.heap.size) #[.int .i64 p, .int .i64 q, .slice A n k] := by
    have hq := (((Box.new w #[.int .i64 p, .int .i64 q, .slice A n k] 27).alloc _).alloc _).below hb1 (by first | omega | (simp only [World.size_alloc]; omega) | (simp; omega))
    (try simp only [World.size_alloc] at hq)
    exact hq
  have b2 : Box w1 (w.heap.size + 1) #[.int .i64 mp, .int .i64 mr, .int .i64 mc, .slice A2 n2 k2] := by
    have hq := ((Box.new (w.alloc (.cells #[.int .i64 p, .int .i64 q, .slice A n k] 27)) #[.int .i64 mp, .int .i64 mr, .int .i64 mc, .slice A2 n2 k2] 53).alloc _).below hb1 (by first | omega | (simp only [World.size_alloc]; omega) | (simp; omega))
    (try simp only [World.size_alloc] at hq)
    exact hq
  have b3 : Box w1 (w.heap.size + 1 + 1) #[.int .i64 0, .int .i64 0, .slice none 0 0] := by
    have hq := (Box.new ((w.alloc (.cells #[.int .i64 p, .int .i64 q, .slice A n k] 27)).alloc (.cells #[.int .i64 mp, .int .i64 mr, .int .i64 mc, .slice A2 n2 k2] 53)) #[.int .i64 0, .int .i64 0, .slice none 0 0] 27).below hb1 (by first | omega | (simp only [World.size_alloc]; omega) | (simp; omega))
    (try simp only [World.size_alloc] at hq)
    exact hq
  have hq1 : Below w.heap.size w w1 := (by repeat' (first | (with_reducible exact Below.refl _ _) | (with_reducible refine Below.setCell ?_ (by first | exact Nat.le_refl _ | omega | (simp only [World.size_alloc, World.size_setCell, World.heap_drewN]; omega) | (simp; omega)) _) | (with_reducible refine Below.alloc ?_ (by first | exact Nat.le_refl _ | omega | (simp only [World.size_alloc, World.size_setCell, World.heap_drewN]; omega) | (simp; omega)) _) | (with_reducible refine below_drewN ?_ _) | (with_reducible refine Below.drew ?_) | (with_reducible refine Below.trans ?_ (hb1.mono (by first | exact Nat.le_refl _ | omega | (simp only [World.size_alloc, World.size_setCell, World.heap_drewN]; omega) | (simp; omega))))))
  have hs1 := hb1.size
  simp only [World.size_alloc] at hs1
  clear hb1
  rw [HC.out]
  obtain ⟨z0, z1, z2⟩ := b3.three
  have zf := b3.fz
  go_wp2
  exact bodyPost_ret (v := .tuple #[.agg #[.int .i64 0, .int .i64 0, .slice none 0 0], .bool false]) (by simp [results, Try.results49, go_sem, z0, z1, z2]) rfl ⟨_, _, _, rfl, (by first | assumption | exact Hd.nil | exact Hd.self (by first | omega | (unfold maxLen; omega))), (by repeat' (first | (with_reducible exact Below.refl _ _) | (with_reducible refine Below.setCell ?_ (by first | exact Nat.le_refl _ | omega | (simp only [World.size_alloc, World.size_setCell, World.heap_drewN]; omega) | (simp; omega)) _) | (with_reducible refine Below.alloc ?_ (by first | exact Nat.le_refl _ | omega | (simp only [World.size_alloc, World.size_setCell, World.heap_drewN]; omega) | (simp; omega)) _) | (with_reducible refine below_drewN ?_ _) | (with_reducible refine Below.drew ?_) | (with_reducible refine Below.trans ?_ (hq1.mono (by first | exact Nat.le_refl _ | omega | (simp only [World.size_alloc, World.size_setCell, World.heap_drewN]; omega) | (simp; omega)))))), OwI.emp _ _ _ _⟩
theorem sExt_no2 {B : Nat} (p : Int) (N n k n2 k2 : Nat) (A A2 : Option Addr) (d : List Int) (mp mr mc : Int) (d2 : List Int) (w : World) (h : RdI w B A n d) (hd : Hd A n k) (h2 : RdI w B A2 n2 d2) (hd2 : Hd A2 n2 k2) (hB : B ≤ w.heap.size) (hno : exB p N d mp mr mc d2 = true) (hN : 28 < N + 1) (hN2 : N ≤ 28) :
    Calls Try.prog 49 #[.agg #[.int .i64 p, .int .i64 N, .slice A n k], .agg #[.int .i64 mp, .int .i64 mr, .int .i64 mc, .slice A2 n2 k2]] w (RetAB 0 0 [] false w) := by
  have HC := Lib.hid hno
  have hdn : decide (28 < (N : Int) + 1) = true := by simp; omega
  clear hno
  go_enter Try.func49, Try.ntmps49
  go_wp2_with fail
  refine (sCocR p N n k n2 k2 A A2 d mp mr mc d2 _ (B := B) (by exact h.below ((by repeat' (first | (with_reducible exact Below.refl _ _) | (with_reducible refine Below.setCell ?_ (by first | exact Nat.le_refl _ | omega | (simp only [World.size_alloc, World.size_setCell, World.heap_drewN]; omega) | (simp; omega)) _) | (with_reducible refine Below.alloc ?_ (by first | exact Nat.le_refl _ | omega | (simp only [World.size_alloc, World.size_setCell, World.heap_drewN]; omega) | (simp; omega)) _) | (with_reducible refine below_drewN ?_ _) | (with_reducible refine Below.drew ?_))) : Below w.heap.size w _) hB) hd (by exact h2.below ((by repeat' (first | (with_reducible exact Below.refl _ _) | (with_reducible refine Below.setCell ?_ (by first | exact Nat.le_refl _ | omega | (simp only [World.size_alloc, World.size_setCell, World.heap_drewN]; omega) | (simp; omega)) _) | (with_reducible refine Below.alloc ?_ (by first | exact Nat.le_refl _ | omega | (simp only [World.size_alloc, World.size_setCell, World.heap_drewN]; omega) | (simp; omega)) _) | (with_reducible refine below_drewN ?_ _) | (with_reducible refine Below.drew ?_))) : Below w.heap.size w _) hB) hd2 (by first | exact Nat.le_refl _ | omega | (simp only [World.size_alloc, World.size_setCell, World.heap_drewN]; omega) | (simp; omega))).mono ?_
  rintro e w1 ⟨rfl, hb1⟩
  have b1 : Box w1 (w.heap.size) #[.int .i64 p, .int .i64 N, .slice A n k] := by
    have hq := (((Box.new w #[.int .i64 p, .int .i64 N, .slice A n k] 27).alloc _).alloc _).below hb1 (by first | omega | (simp only [World.size_alloc]; omega) | (simp; omega))
    (try simp only [World.size_alloc] at hq)
    exact hq
  have b2 : Box w1 (w.heap.size + 1) #[.int .i64 mp, .int .i64 mr, .int .i64 mc, .slice A2 n2 k2] := by
    have hq := ((Box.new (w.alloc (.cells #[.int .i64 p, .int .i64 N, .slice A n k] 27)) #[.int .i64 mp, .int .i64 mr, .int .i64 mc, .slice A2 n2 k2] 53).alloc _).below hb1 (by first | omega | (simp only [World.size_alloc]; omega) | (simp; omega))
    (try simp only [World.size_alloc] at hq)
    exact hq
  have b3 : Box w1 (w.heap.size + 1 + 1) #[.int .i64 0, .int .i64 0, .slice none 0 0] := by
    have hq := (Box.new ((w.alloc (.cells #[.int .i64 p, .int .i64 N, .slice A n k] 27)).alloc (.cells #[.int .i64 mp, .int .i64 mr, .int .i64 mc, .slice A2 n2 k2] 53)) #[.int .i64 0, .int .i64 0, .slice none 0 0] 27).below hb1 (by first | omega | (simp only [World.size_alloc]; omega) | (simp; omega))
    (try simp only [World.size_alloc] at hq)
    exact hq
  have hq1 : Below w.heap.size w w1 := (by repeat' (first | (with_reducible exact Below.refl _ _) | (with_reducible refine Below.setCell ?_ (by first | exact Nat.le_refl _ | omega | (simp only [World.size_alloc, World.size_setCell, World.heap_drewN]; omega) | (simp; omega)) _) | (with_reducible refine Below.alloc ?_ (by first | exact Nat.le_refl _ | omega | (simp only [World.size_alloc, World.size_setCell, World.heap_drewN]; omega) | (simp; omega)) _) | (with_reducible refine below_drewN ?_ _) | (with_reducible refine Below.drew ?_) | (with_reducible refine Below.trans ?_ (hb1.mono (by first | exact Nat.le_refl _ | omega | (simp only [World.size_alloc, World.size_setCell, World.heap_drewN]; omega) | (simp; omega))))))
  have hs1 := hb1.size
  simp only [World.size_alloc] at hs1
  clear hb1
  rw [HC.out]
  obtain ⟨x0, x1, x2⟩ := b1.three
  obtain ⟨z0, z1, z2⟩ := b3.three
  have zf := b3.fz
  go_wp2
  exact bodyPost_ret (v := .tuple #[.agg #[.int .i64 0, .int .i64 0, .slice none 0 0], .bool false]) (by simp [results, Try.results49, go_sem, z0, z1, z2]) rfl ⟨_, _, _, rfl, (by first | assumption | exact Hd.nil | exact Hd.self (by first | omega | (unfold maxLen; omega))), (by repeat' (first | (with_reducible exact Below.refl _ _) | (with_reducible refine Below.setCell ?_ (by first | exact Nat.le_refl _ | omega | (simp only [World.size_alloc, World.size_setCell, World.heap_drewN]; omega) | (simp; omega)) _) | (with_reducible refine Below.alloc ?_ (by first | exact Nat.le_refl _ | omega | (simp only [World.size_alloc, World.size_setCell, World.heap_drewN]; omega) | (simp; omega)) _) | (with_reducible refine below_drewN ?_ _) | (with_reducible refine Below.drew ?_) | (with_reducible refine Below.trans ?_ (hq1.mono (by first | exact Nat.le_refl _ | omega | (simp only [World.size_alloc, World.size_setCell, World.heap_drewN]; omega) | (simp; omega)))))), OwI.emp _ _ _ _⟩
theorem iCocR {B : Nat} (p q : Int) (n k n2 k2 : Nat) (A A2 : Option Addr) (d : List Int) (mp mr mc : Int) (d2 : List Int) (w : World) (h : RdI w B A n d) (hd : Hd A n k) (h2 : RdI w B A2 n2 d2) (hd2 : Hd A2 n2 k2) (hB : B ≤ w.heap.size) :
    Calls Try.prog 118 #[.agg #[.int .i64 p, .int .i64 q, .slice A n k], .agg #[.int .i64 mp, .int .i64 mr, .int .i64 mc, .slice A2 n2 k2]] w (Rv (.bool (exB p q d mp mr mc d2)) w) := by
  rcases hfo : foB p q d mp mr mc d2 with _ | _
  · have e : exB p q d mp mr mc d2 = false := by unfold exB; rw [hfo]; rfl
    rw [e]
    exact iCoc_no p q n k n2 k2 A A2 d mp mr mc d2 w h hd h2 hB hfo
  · obtain ⟨N, rfl, rfl, rfl, rfl, hN, hp, hdl, hr, hal, hml, hmr, hok, hfr⟩ := coc_start hfo
    have e : exB mp N d mp N N d2 = cocB N mp (matF d2 N) d := by unfold exB; rw [hfo]; simp
    rw [e]
    exact iCoc_ok mp N n k n2 k2 A A2 d d2 w h hd h2  hB hN hp hdl hr hal hml hmr hok hfr
theorem iExt_no1 {B : Nat} (p q : Int) (n k n2 k2 : Nat) (A A2 : Option Addr) (d : List Int) (mp mr mc : Int) (d2 : List Int) (w : World) (h : RdI w B A n d) (hd : Hd A n k) (h2 : RdI w B A2 n2 d2) (hd2 : Hd A2 n2 k2) (hB : B ≤ w.heap.size) (hno : exB p q d mp mr mc d2 = false) :
    Calls Try.prog 51 #[.agg #[.int .i64 p, .int .i64 q, .slice A n k], .agg #[.int .i64 mp, .int .i64 mr, .int .i64 mc, .slice A2 n2 k2]] w (RetAB 0 0 [] false w) := by
  have HC := Lib.hid hno
  clear hno
  go_enter Try.func51, Try.ntmps51
  go_wp2_with fail
  refine (iCocR p q n k n2 k2 A A2 d mp mr mc d2 _ (B := B) (by exact h.below ((by repeat' (first | (with_reducible exact Below.refl _ _) | (with_reducible refine Below.setCell ?_ (by first | exact Nat.le_refl _ | omega | (simp only [World.size_alloc, World.size_setCell, World.heap_drewN]; omega) | (simp; omega)) _) | (with_reducible refine Below.alloc ?_ (by first | exact Nat.le_refl _ | omega | (simp only [World.size_alloc, World.size_setCell, World.heap_drewN]; omega) | (simp; omega)) _) | (with_reducible refine below_drewN ?_ _) | (with_reducible refine Below.drew ?_))) : Below w.heap.size w _) hB) hd (by exact h2.below ((by repeat' (first | (with_reducible exact Below.refl _ _) | (with_reducible refine Below.setCell ?_ (by first | exact Nat.le_refl _ | omega | (simp only [World.size_alloc, World.size_setCell, World.heap_drewN]; omega) | (simp; omega)) _) | (with_reducible refine Below.alloc ?_ (by first | exact Nat.le_refl _ | omega | (simp only [World.size_alloc, World.size_setCell, World.heap_drewN]; omega) | (simp; omega)) _) | (with_reducible refine below_drewN ?_ _) | (with_reducible refine Below.drew ?_))) : Below w.heap.size w _) hB) hd2 (by first | exact Nat.le_refl _ | omega | (simp only [World.size_alloc, World.size_setCell, World.heap_drewN]; omega) | (simp; omega))).mono ?_
  rintro e w1 ⟨rfl, hb1⟩
  have b1 : Box w1 (w.heap.size) #[.int .i64 p, .int .i64 q, .slice A n k] := by
    have hq := (((Box.new w #[.int .i64 p, .int .i64 q, .slice A n k] 27).alloc _).alloc _).below hb1 (by first | omega | (simp only [World.size_alloc]; omega) | (simp; omega))
    (try simp only [World.size_alloc] at hq)
    exact hq
  have b2 : Box w1 (w.heap.size + 1) #[.int .i64 mp, .int .i64 mr, .int .i64 mc, .slice A2 n2 k2] := by
    have hq := ((Box.new (w.alloc (.cells #[.int .i64 p, .int .i64 q, .slice A n k] 27)) #[.int .i64 mp, .int .i64 mr, .int .i64 mc, .slice A2 n2 k2] 53).alloc _).below hb1 (by first | omega | (simp only [World.size_alloc]; omega) | (simp; omega))
    (try simp only [World.size_alloc] at hq)
    exact hq
  have b3 : Box w1 (w.heap.size + 1 + 1) #[.int .i64 0, .int .i64 0, .slice none 0 0] := by
    have hq := (Box.new ((w.alloc (.cells #[.int .i64 p, .int .i64 q, .slice A n k] 27)).alloc (.cells #[.int .i64 mp, .int .i64 mr, .int .i64 mc, .slice A2 n2 k2] 53)) #[.int .i64 0, .int .i64 0, .slice none 0 0] 27).below hb1 (by first | omega | (simp only [World.size_alloc]; omega) | (simp; omega))
    (try simp only [World.size_alloc] at hq)
    exact hq
  have hq1 : Below w.heap.size w w1 := (by repeat' (first | (with_reducible exact Below.refl _ _) | (with_reducible refine Below.setCell ?_ (by first | exact Nat.le_refl _ | omega | (simp only [World.size_alloc, World.size_setCell, World.heap_drewN]; omega) | (simp; omega)) _) | (with_reducible refine Below.alloc ?_ (by first | exact Nat.le_refl _ | omega | (simp only [World.size_alloc, World.size_setCell, World.heap_drewN]; omega) | (simp; omega)) _) | (with_reducible refine below_drewN ?_ _) | (with_reducible refine Below.drew ?_) | (with_reducible refine Below.trans ?_ (hb1.mono (by first | exact Nat.le_refl _ | omega | (simp only [World.size_alloc, World.size_setCell, World.heap_drewN]; omega) | (simp; omega))))))
  have hs1 := hb1.size
  simp only [World.size_alloc] at hs1
  clear hb1
  rw [HC.out]
  obtain ⟨z0, z1, z2⟩ := b3.three
  have zf := b3.fz
  go_wp2
  exact bodyPost_ret (v := .tuple #[.agg #[.int .i64 0, .int .i64 0, .slice none 0 0], .bool false]) (by simp [results, Try.results51, go_sem, z0, z1, z2]) rfl ⟨_, _, _, rfl, (by first | assumption | exact Hd.nil | exact Hd.self (by first | omega | (unfold maxLen; omega))), (by repeat' (first | (with_reducible exact Below.refl _ _) | (with_reducible refine Below.setCell ?_ (by first | exact Nat.le_refl _ | omega | (simp only [World.size_alloc, World.size_setCell, World.heap_drewN]; omega) | (simp; omega)) _) | (with_reducible refine Below.alloc ?_ (by first | exact Nat.le_refl _ | omega | (simp only [World.size_alloc, World.size_setCell, World.heap_drewN]; omega) | (simp; omega)) _) | (with_reducible refine below_drewN ?_ _) | (with_reducible refine Below.drew ?_) | (with_reducible refine Below.trans ?_ (hq1.mono (by first | exact Nat.le_refl _ | omega | (simp only [World.size_alloc, World.size_setCell, World.heap_drewN]; omega) | (simp; omega)))))), OwI.emp _ _ _ _⟩
theorem iExt_no2 {B : Nat} (p : Int) (N n k n2 k2 : Nat) (A A2 : Option Addr) (d : List Int) (mp mr mc : Int) (d2 : List Int) (w : World) (h : RdI w B A n d) (hd : Hd A n k) (h2 : RdI w B A2 n2 d2) (hd2 : Hd A2 n2 k2) (hB : B ≤ w.heap.size) (hno : exB p N d mp mr mc d2 = true) (hN : 28 < N + 1) (hN2 : N ≤ 28) :
    Calls Try.prog 51 #[.agg #[.int .i64 p, .int .i64 N, .slice A n k], .agg #[.int .i64 mp, .int .i64 mr, .int .i64 mc, .slice A2 n2 k2]] w (RetAB 0 0 [] false w) := by
  have HC := Lib.hid hno
  have hdn : decide (28 < (N : Int) + 1) = true := by simp; omega
  clear hno
  go_enter Try.func51, Try.ntmps51
  go_wp2_with fail
  refine (iCocR p N n k n2 k2 A A2 d mp mr mc d2 _ (B := B) (by exact h.below ((by repeat' (first | (with_reducible exact Below.refl _ _) | (with_reducible refine Below.setCell ?_ (by first | exact Nat.le_refl _ | omega | (simp only [World.size_alloc, World.size_setCell, World.heap_drewN]; omega) | (simp; omega)) _) | (with_reducible refine Below.alloc ?_ (by first | exact Nat.le_refl _ | omega | (simp only [World.size_alloc, World.size_setCell, World.heap_drewN]; omega) | (simp; omega)) _) | (with_reducible refine below_drewN ?_ _) | (with_reducible refine Below.drew ?_))) : Below w.heap.size w _) hB) hd (by exact h2.below ((by repeat' (first | (with_reducible exact Below.refl _ _) | (with_reducible refine Below.setCell ?_ (by first | exact Nat.le_refl _ | omega | (simp only [World.size_alloc, World.size_setCell, World.heap_drewN]; omega) | (simp; omega)) _) | (with_reducible refine Below.alloc ?_ (by first | exact Nat.le_refl _ | omega | (simp only [World.size_alloc, World.size_setCell, World.heap_drewN]; omega) | (simp; omega)) _) | (with_reducible refine below_drewN ?_ _) | (with_reducible refine Below.drew ?_))) : Below w.heap.size w _) hB) hd2 (by first | exact Nat.le_refl _ | omega | (simp only [World.size_alloc, World.size_setCell, World.heap_drewN]; omega) | (simp; omega))).mono ?_
  rintro e w1 ⟨rfl, hb1⟩
  have b1 : Box w1 (w.heap.size) #[.int .i64 p, .int .i64 N, .slice A n k] := by
    have hq := (((Box.new w #[.int .i64 p, .int .i64 N, .slice A n k] 27).alloc _).alloc _).below hb1 (by first | omega | (simp only [World.size_alloc]; omega) | (simp; omega))
    (try simp only [World.size_alloc] at hq)
    exact hq
  have b2 : Box w1 (w.heap.size + 1) #[.int .i64 mp, .int .i64 mr, .int .i64 mc, .slice A2 n2 k2] := by
    have hq := ((Box.new (w.alloc (.cells #[.int .i64 p, .int .i64 N, .slice A n k] 27)) #[.int .i64 mp, .int .i64 mr, .int .i64 mc, .slice A2 n2 k2] 53).alloc _).below hb1 (by first | omega | (simp only [World.size_alloc]; omega) | (simp; omega))
    (try simp only [World.size_alloc] at hq)
    exact hq
  have b3 : Box w1 (w.heap.size + 1 + 1) #[.int .i64 0, .int .i64 0, .slice none 0 0] := by
    have hq := (Box.new ((w.alloc (.cells #[.int .i64 p, .int .i64 N, .slice A n k] 27)).alloc (.cells #[.int .i64 mp, .int .i64 mr, .int .i64 mc, .slice A2 n2 k2] 53)) #[.int .i64 0, .int .i64 0, .slice none 0 0] 27).below hb1 (by first | omega | (simp only [World.size_alloc]; omega) | (simp; omega))
    (try simp only [World.size_alloc] at hq)
    exact hq
  have hq1 : Below w.heap.size w w1 := (by repeat' (first | (with_reducible exact Below.refl _ _) | (with_reducible refine Below.setCell ?_ (by first | exact Nat.le_refl _ | omega | (simp only [World.size_alloc, World.size_setCell, World.heap_drewN]; omega) | (simp; omega)) _) | (with_reducible refine Below.alloc ?_ (by first | exact Nat.le_refl _ | omega | (simp only [World.size_alloc, World.size_setCell, World.heap_drewN]; omega) | (simp; omega)) _) | (with_reducible refine below_drewN ?_ _) | (with_reducible refine Below.drew ?_) | (with_reducible refine Below.trans ?_ (hb1.mono (by first | exact Nat.le_refl _ | omega | (simp only [World.size_alloc, World.size_setCell, World.heap_drewN]; omega) | (simp; omega))))))
  have hs1 := hb1.size
  simp only [World.size_alloc] at hs1
  clear hb1
  rw [HC.out]
  obtain ⟨x0, x1, x2⟩ := b1.three
  obtain ⟨z0, z1, z2⟩ := b3.three
  have zf := b3.fz
  go_wp2
  exact bodyPost_ret (v := .tuple #[.agg #[.int .i64 0, .int .i64 0, .slice none 0 0], .bool false]) (by simp [results, Try.results51, go_sem, z0, z1, z2]) rfl ⟨_, _, _, rfl, (by first | assumption | exact Hd.nil | exact Hd.self (by first | omega | (unfold maxLen; omega))), (by repeat' (first | (with_reducible exact Below.refl _ _) | (with_reducible refine Below.setCell ?_ (by first | exact Nat.le_refl _ | omega | (simp only [World.size_alloc, World.size_setCell, World.heap_drewN]; omega) | (simp; omega)) _) | (with_reducible refine Below.alloc ?_ (by first | exact Nat.le_refl _ | omega | (simp only [World.size_alloc, World.size_setCell, World.heap_drewN]; omega) | (simp; omega)) _) | (with_reducible refine below_drewN ?_ _) | (with_reducible refine Below.drew ?_) | (with_reducible refine Below.trans ?_ (hq1.mono (by first | exact Nat.le_refl _ | omega | (simp only [World.size_alloc, World.size_setCell, World.heap_drewN]; omega) | (simp; omega)))))), OwI.emp _ _ _ _⟩
theorem ext_start {p q : Int} {d : List Int} {mp mr mc : Int} {d2 : List Int} (h : exB p q d mp mr mc d2 = true) : ∃ N : Nat, q = N ∧ mp = p ∧ mr = N ∧ mc = N ∧ N ≤ 28 ∧ isP p = true ∧ d.length = N * N * N ∧ resB d p = true ∧ altB N p d = true ∧ d2.length = N * N ∧ resB d2 p = true ∧ exB p N d p N N d2 = true ∧ (∀ i j, i < N → j < N → matF d2 N i i = 0 ∧ (matF d2 N i j + matF d2 N j i) % p = 0) := by
  have h0 := h
  unfold exB at h
  rw [Bool.and_eq_true] at h
  obtain ⟨N, rfl, rfl, rfl, rfl, hN, hp, hdl, hr, hal, hml, hmr, hok, hfr⟩ := coc_start h.1
  refine ⟨N, rfl, rfl, rfl, rfl, hN, hp, hdl, hr, hal, hml, hmr, h0, fun i j hi hj => ?_⟩
  have h2 := h.2
  unfold cocB at h2
  simp only [decide_eq_true_eq, Int.toNat_natCast] at h2
  exact (h2 i hi j hj).1
set_option maxRecDepth 100000 in
theorem iExt_ok {B : Nat} (p : Int) (N n k n2 k2 : Nat) (A A2 : Option Addr) (d d2 : List Int) (w : World) (h : RdI w B A n d) (hd : Hd A n k) (h2 : RdI w B A2 n2 d2) (hd2 : Hd A2 n2 k2) (hB : B ≤ w.heap.size) (hex : exB p N d p N N d2 = true) (hN : N + 1 ≤ 28) (hp : isP p = true) (hl : d.length = N * N * N) (hr : resB d p = true) (hl2 : d2.length = N * N) (hr2 : resB d2 p = true) :
    Calls Try.prog 51 #[.agg #[.int .i64 p, .int .i64 N, .slice A n k], .agg #[.int .i64 p, .int .i64 N, .int .i64 N, .slice A2 n2 k2]] w (RetAB p ((N + 1 : Nat) : Int) (tbV (N + 1) (exL N d d2) p) true w) := by
  obtain ⟨hp1, hp2⟩ := isP_bd hp
  have HC := Lib.hid hex
  have HL := Lib.hid (show n = N * N * N by rw [← hl]; exact h.1.symm)
  have HL2 := Lib.hid (show n2 = N * N by rw [← hl2]; exact h2.1.symm)
  have hle : ∀ i j, i < N → j < N → (prV N d i j).length = N := fun i j hi hj => prV_len hl hi hj
  have HLL := Lib.hid (show ∀ i j, j < i → i < N + 1 → (exL N d d2 i j).length ≤ N + 1 from fun i j hj hi => by
    unfold exL
    split
    · simp
    · rw [List.length_append, hle i j (by omega) (by omega)]; simp)
  have HLR := Lib.hid (show ∀ i j, j < i → i < N + 1 → ∀ t, 0 ≤ gI (exL N d d2 i j) t ∧ gI (exL N d d2 i j) t < p from fun i j hj hi t => by
    unfold exL
    split
    · rw [gI_ge (by simp)]; omega
    · rw [app_get (hle i j (by omega) (by omega))]
      split
      · rename_i hc
        rw [prV_get hc]
        exact tA_bd (by omega) hr i j t
      · split
        · exact matF_res (by omega) hr2 i j
        · omega)
  have hdn : decide (28 < (N : Int) + 1) = false := by simp; omega
  have hMw : IntKind.i64.wrap ((N : Int) + 1) = ((N + 1 : Nat) : Int) := by rw [show (N : Int) + 1 = ((N + 1 : Nat) : Int) by omega]; exact IntWalk.i64_in _ (by omega)
  clear hex hl hr hl2 hr2 hle
  go_enter Try.func51, Try.ntmps51
  go_wp2_with fail
  refine (iCocR p N n k n2 k2 A A2 d p N N d2 _ (B := B) (by exact h.below ((by repeat' (first | (with_reducible exact Below.refl _ _) | (with_reducible refine Below.setCell ?_ (by first | exact Nat.le_refl _ | omega | (simp only [World.size_alloc, World.size_setCell, World.heap_drewN]; omega) | (simp; omega)) _) | (with_reducible refine Below.alloc ?_ (by first | exact Nat.le_refl _ | omega | (simp only [World.size_alloc, World.size_setCell, World.heap_drewN]; omega) | (simp; omega)) _) | (with_reducible refine below_drewN ?_ _) | (with_reducible refine Below.drew ?_))) : Below w.heap.size w _) hB) hd (by exact h2.below ((by repeat' (first | (with_reducible exact Below.refl _ _) | (with_reducible refine Below.setCell ?_ (by first | exact Nat.le_refl _ | omega | (simp only [World.size_alloc, World.size_setCell, World.heap_drewN]; omega) | (simp; omega)) _) | (with_reducible refine Below.alloc ?_ (by first | exact Nat.le_refl _ | omega | (simp only [World.size_alloc, World.size_setCell, World.heap_drewN]; omega) | (simp; omega)) _) | (with_reducible refine below_drewN ?_ _) | (with_reducible refine Below.drew ?_))) : Below w.heap.size w _) hB) hd2 (by first | exact Nat.le_refl _ | omega | (simp only [World.size_alloc, World.size_setCell, World.heap_drewN]; omega) | (simp; omega))).mono ?_
  rintro e w1 ⟨rfl, hb1⟩
  have b1 : Box w1 (w.heap.size) #[.int .i64 p, .int .i64 N, .slice A n k] := by
    have hq := (((Box.new w #[.int .i64 p, .int .i64 N, .slice A n k] 27).alloc _).alloc _).below hb1 (by first | omega | (simp only [World.size_alloc]; omega) | (simp; omega))
    (try simp only [World.size_alloc] at hq)
    exact hq
  have b2 : Box w1 (w.heap.size + 1) #[.int .i64 p, .int .i64 N, .int .i64 N, .slice A2 n2 k2] := by
    have hq := ((Box.new (w.alloc (.cells #[.int .i64 p, .int .i64 N, .slice A n k] 27)) #[.int .i64 p, .int .i64 N, .int .i64 N, .slice A2 n2 k2] 53).alloc _).below hb1 (by first | omega | (simp only [World.size_alloc]; omega) | (simp; omega))
    (try simp only [World.size_alloc] at hq)
    exact hq
  have b3 : Box w1 (w.heap.size + 1 + 1) #[.int .i64 0, .int .i64 0, .slice none 0 0] := by
    have hq := (Box.new ((w.alloc (.cells #[.int .i64 p, .int .i64 N, .slice A n k] 27)).alloc (.cells #[.int .i64 p, .int .i64 N, .int .i64 N, .slice A2 n2 k2] 53)) #[.int .i64 0, .int .i64 0, .slice none 0 0] 27).below hb1 (by first | omega | (simp only [World.size_alloc]; omega) | (simp; omega))
    (try simp only [World.size_alloc] at hq)
    exact hq
  have hq1 : Below w.heap.size w w1 := (by repeat' (first | (with_reducible exact Below.refl _ _) | (with_reducible refine Below.setCell ?_ (by first | exact Nat.le_refl _ | omega | (simp only [World.size_alloc, World.size_setCell, World.heap_drewN]; omega) | (simp; omega)) _) | (with_reducible refine Below.alloc ?_ (by first | exact Nat.le_refl _ | omega | (simp only [World.size_alloc, World.size_setCell, World.heap_drewN]; omega) | (simp; omega)) _) | (with_reducible refine below_drewN ?_ _) | (with_reducible refine Below.drew ?_) | (with_reducible refine Below.trans ?_ (hb1.mono (by first | exact Nat.le_refl _ | omega | (simp only [World.size_alloc, World.size_setCell, World.heap_drewN]; omega) | (simp; omega))))))
  have hs1 := hb1.size
  simp only [World.size_alloc] at hs1
  have g1 := h.below hq1 hB
  have g2 := h2.below hq1 hB
  clear hb1
  rw [HC.out]
  obtain ⟨x0, x1, x2⟩ := b1.three
  clear h h2
  go_wp2_with (go_at_call 62; refine (newLie_any p N A n k _).mono ?_; rintro e w3 ⟨rfl, hb3⟩; clear x0 x1 x2; have hs3 := hb3.size; have b1 := (b1.below hb3 (by omega)).alloc (.cells #[.int .i64 p, .int .i64 N, .slice A n k] 65); have b2 := (b2.below hb3 (by omega)).alloc (.cells #[.int .i64 p, .int .i64 N, .slice A n k] 65); have b3 := (b3.below hb3 (by omega)).alloc (.cells #[.int .i64 p, .int .i64 N, .slice A n k] 65); have hy := Box.new w3 #[.int .i64 p, .int .i64 N, .slice A n k] 65; have g1 := (g1.below hb3 (by omega)).alloc (by omega) (.cells #[.int .i64 p, .int .i64 N, .slice A n k] 65); have g2 := (g2.below hb3 (by omega)).alloc (by omega) (.cells #[.int .i64 p, .int .i64 N, .slice A n k] 65); have hq : Below w.heap.size w (w3.alloc (.cells #[.int .i64 p, .int .i64 N, .slice A n k] 65)) := (by repeat' (first | (with_reducible exact Below.refl _ _) | (with_reducible refine Below.setCell ?_ (by first | exact Nat.le_refl _ | omega | (simp only [World.size_alloc, World.size_setCell, World.heap_drewN]; omega) | (simp; omega)) _) | (with_reducible refine Below.alloc ?_ (by first | exact Nat.le_refl _ | omega | (simp only [World.size_alloc, World.size_setCell, World.heap_drewN]; omega) | (simp; omega)) _) | (with_reducible refine below_drewN ?_ _) | (with_reducible refine Below.drew ?_) | (with_reducible refine Below.trans ?_ (hb3.mono (by first | exact Nat.le_refl _ | omega | (simp only [World.size_alloc, World.size_setCell, World.heap_drewN]; omega) | (simp; omega)))) | (with_reducible refine Below.trans ?_ (hq1.mono (by first | exact Nat.le_refl _ | omega | (simp only [World.size_alloc, World.size_setCell, World.heap_drewN]; omega) | (simp; omega)))))); obtain ⟨x0, x1, x2⟩ := b1.three)
  have hs4 : (w3.alloc (.cells #[.int .i64 p, .int .i64 N, .slice A n k] 65)).heap.size = w3.heap.size + 1 := by rw [World.size_alloc]
  have hsq := hq.size
  generalize (w3.alloc (.cells #[.int .i64 p, .int .i64 N, .slice A n k] 65)) = w4 at *
  have hBB : B ≤ w4.heap.size := by omega
  have hT := tableBy_any p (N + 1) (exL N d d2) 119 #[.pointer (some ⟨w.heap.size, 0, none⟩), .pointer (some ⟨w3.heap.size, 0, none⟩), .pointer (some ⟨w.heap.size + 1, 0, none⟩)] w4 hN hp1 hp2 (fun args w => rfl)
    (Lib.hid (fun i j w' hji hi hb => exC_any p N i j n k n2 k2 _ _ _ A A2 d d2 w' (g1.below hb hBB) hd (g2.below hb hBB) (by have := hb.size; omega) (by omega) HL.out HL2.out hji hi (b1.below hb (by omega)) (hy.below hb (by omega)) (b2.below hb (by omega)))) HLL.out HLR.out
  rw [Int.natCast_add, Int.natCast_one] at hT
  refine hT.mono ?_
  rintro e w5 ⟨A5, m5, c5, rfl, hd5, hb5, ho5⟩
  have hs5 := hb5.size
  have z3 := b3.below hb5 (by omega)
  have hqz : Below w.heap.size w w5 := (by repeat' (first | (with_reducible exact Below.refl _ _) | (with_reducible refine Below.setCell ?_ (by first | exact Nat.le_refl _ | omega | (simp only [World.size_alloc, World.size_setCell, World.heap_drewN]; omega) | (simp; omega)) _) | (with_reducible refine Below.alloc ?_ (by first | exact Nat.le_refl _ | omega | (simp only [World.size_alloc, World.size_setCell, World.heap_drewN]; omega) | (simp; omega)) _) | (with_reducible refine below_drewN ?_ _) | (with_reducible refine Below.drew ?_) | (with_reducible refine Below.trans ?_ (hb5.mono (by first | exact Nat.le_refl _ | omega | (simp only [World.size_alloc, World.size_setCell, World.heap_drewN]; omega) | (simp; omega)))) | (with_reducible refine Below.trans ?_ (hq.mono (by first | exact Nat.le_refl _ | omega | (simp only [World.size_alloc, World.size_setCell, World.heap_drewN]; omega) | (simp; omega))))))
  obtain ⟨z0, z1, z2⟩ := z3.three
  have zf := z3.fz
  clear hT b1 b2 b3 hy g1 g2 hb5 hq hb3 hq1 z3
  go_wp2
  refine bodyPost_ret (v := .tuple #[.agg #[.int .i64 p, .int .i64 ((N : Int) + 1), .slice A5 m5 c5], .bool true]) (by simp [results, Try.results51, go_sem, z0, z1, z2]) rfl ⟨_, _, _, rfl, hd5, (by repeat' (first | (with_reducible exact Below.refl _ _) | (with_reducible refine Below.setCell ?_ (by first | exact Nat.le_refl _ | omega | (simp only [World.size_alloc, World.size_setCell, World.heap_drewN]; omega) | (simp; omega)) _) | (with_reducible refine Below.alloc ?_ (by first | exact Nat.le_refl _ | omega | (simp only [World.size_alloc, World.size_setCell, World.heap_drewN]; omega) | (simp; omega)) _) | (with_reducible refine below_drewN ?_ _) | (with_reducible refine Below.drew ?_) | (with_reducible refine Below.trans ?_ (hqz.mono (by first | exact Nat.le_refl _ | omega | (simp only [World.size_alloc, World.size_setCell, World.heap_drewN]; omega) | (simp; omega)))))), ?_⟩
  simp only [World.size_setCell]
  exact ((((ho5.setLow (by simp; omega) _).setLow (by simp; omega) _).setLow (by simp; omega) _).down (by omega)).up (by omega)
end Go.Proofs.Yticebbkmakpkjaa
