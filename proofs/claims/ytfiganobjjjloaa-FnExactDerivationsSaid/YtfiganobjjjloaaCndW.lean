/- l3Conditions of the reference. No condition but what each theorem names. -/
import Derived.Test.YtfiganobjjjloaaThn
import Derived.Test.YtfiganobjjjloaaLieW
import Derived.Test.YtfiganobjjjloaaGrwT
namespace Go.Proofs.Ytfiganobjjjloaa
set_option linter.unusedVariables false
set_option linter.unusedSimpArgs false
set_option maxRecDepth 20000
open Go.RowKit Go.Sort
set_option maxHeartbeats 8000000
def cd1 (N : Nat) (p : Int) (d : List Int) : List (List Int) := cnR N (fun _ => N) (fun _ _ => true) (fun i j k => ifR N p d i j k N N) N 0 0
def cd0 (N : Nat) (p : Int) (d : List Int) : List (List Int) := cnR N (fun _ => N) (fun i j => decide (i < j)) (fun i j k => dvR N p d i j k N N N) N 0 0
set_option maxRecDepth 100000 in
theorem sCnd1_any {B : Nat} (p : Int) (N n k : Nat) (A : Option Addr) (d : List Int) (w : World) (h : RdI w B A n d) (hd : Hd A n k) (hB : B ≤ w.heap.size) (hN : N ≤ 8) (hl : n = N * N * N) (hp : isP p = true) (hr : resB d p = true) :
    Calls Try.prog 111 #[.agg #[.int .i64 p, .int .i64 N, .slice A n k], .int .i64 1] w (RetM p (thin p (N * N) (chs (cd1 N p d)) (((cd1 N p d).length + 199) / 200)).1 ((N * N : Nat) : Int) (thin p (N * N) (chs (cd1 N p d)) (((cd1 N p d).length + 199) / 200)).2 w) := by
  obtain ⟨hp1, hp2⟩ := isP_bd hp
  have HP := Lib.hid hp
  have HL := Lib.hid hl
  have HR := Lib.hid hr
  obtain ⟨M, hM⟩ : ∃ M : Nat, M = N * N := ⟨_, rfl⟩
  have hM64 : M ≤ 64 := by rw [hM]; exact Nat.mul_le_mul hN hN
  have hMi : (N : Int) * (N : Int) = (M : Int) := by rw [hM, Int.natCast_mul]
  have hwM : IntKind.i64.wrap ((N : Int) * (N : Int)) = (M : Int) := by rw [hMi]; exact IntWalk.i64_in _ (by omega)
  have HLEN := Lib.hid (show ∀ I J K, I ≤ N → J ≤ N → K ≤ N → (cnR N (fun _ => N) (fun _ _ => true) (fun i j k => ifR N p d i j k N N) I J K).length ≤ 600 from fun I J K hI hJ hK => cn_len (fun i => by omega) hN hI hJ hK fun i => .inl hN)
  have HALL := Lib.hid (show ∀ r ∈ cd1 N p d, r.length = M ∧ resB r p = true from cn_all (P := fun r => r.length = M ∧ resB r p = true) fun i j k => by rw [hM]; exact ⟨ifR_len _ _, ifR_res (by omega) _ _⟩)
  have HZ := Lib.hid (show ∀ i j k, List.replicate M 0 = ifR N p d i j k 0 0 from fun i j k => by rw [hM]; exact ifR_zero.symm)
  rw [← hM]
  have HM := Lib.hid hM
  have HMi := Lib.hid hMi
  obtain ⟨T, hT⟩ : ∃ T, T = ((cd1 N p d).length + 199) / 200 := ⟨_, rfl⟩
  rw [← hT]
  have HTT := Lib.hid hT
  clear hp hl hr hM hMi hT
  have hX0 := ((Box.new w #[.int .i64 p, .int .i64 N, .slice A n k] 63).alloc (.cells #[.int .i64 0, .int .i64 0, .int .i64 0, .slice none 0 0] 26)).alloc (.cells #[] 22)
  have hZ0 := (Box.new (w.alloc (.cells #[.int .i64 p, .int .i64 N, .slice A n k] 63)) #[.int .i64 0, .int .i64 0, .int .i64 0, .slice none 0 0] 26).alloc (.cells #[] 22)
  rw [World.size_alloc] at hZ0
  have hq0 : Below w.heap.size w (((w.alloc (.cells #[.int .i64 p, .int .i64 N, .slice A n k] 63)).alloc (.cells #[.int .i64 0, .int .i64 0, .int .i64 0, .slice none 0 0] 26)).alloc (.cells #[] 22)) := (by repeat' (first | (with_reducible exact Below.refl _ _) | (with_reducible refine Below.setCell ?_ (by first | exact Nat.le_refl _ | omega | (simp only [World.size_alloc, World.size_setCell, World.heap_drewN]; omega) | (simp; omega)) _) | (with_reducible refine Below.alloc ?_ (by first | exact Nat.le_refl _ | omega | (simp only [World.size_alloc, World.size_setCell, World.heap_drewN]; omega) | (simp; omega)) _) | (with_reducible refine below_drewN ?_ _) | (with_reducible refine Below.drew ?_)))
  have ha0 := h.below hq0 hB
  have hG := GrwT.start ((w.alloc (.cells #[.int .i64 p, .int .i64 N, .slice A n k] 63)).alloc (.cells #[.int .i64 0, .int .i64 0, .int .i64 0, .slice none 0 0] 26)) 22 rfl
  simp only [World.size_alloc] at hG
  obtain ⟨x0, x1, x2⟩ := (Box.new w #[.int .i64 p, .int .i64 N, .slice A n k] 63).three
  go_enter Try.func111, Try.ntmps111
  go_wp2_with fail
  have hsW : (((w.alloc (.cells #[.int .i64 p, .int .i64 N, .slice A n k] 63)).alloc (.cells #[.int .i64 0, .int .i64 0, .int .i64 0, .slice none 0 0] 26)).alloc (.cells #[] 22)).heap.size = w.heap.size + 3 := by simp
  obtain ⟨W0, hW0⟩ : ∃ W0, W0 = (((w.alloc (.cells #[.int .i64 p, .int .i64 N, .slice A n k] 63)).alloc (.cells #[.int .i64 0, .int .i64 0, .int .i64 0, .slice none 0 0] 26)).alloc (.cells #[] 22)) := ⟨_, rfl⟩
  rw [← hW0] at hX0 hZ0 hq0 ha0 hG hsW ⊢
  clear hW0 x0 x1 x2
  go_loopw [6, 7] (fun v ii wr => ∃ (I m : Nat) (xss : List (List Int)), Hid (xss = cnR N (fun _ => N) (fun _ _ => true) (fun i j k => ifR N p d i j k N N) I 0 0) ∧ I ≤ N ∧ ii = .int .i64 (I : Int) ∧ GrwT (w.heap.size + 1 + 1) W0 wr v m xss) (fun _ ii _ => N - (intOf ii).toNat)
  case atStart => exact ⟨0, 0, [], Lib.hid cn_zero.symm, by omega, rfl, hG⟩
  case round =>
    clear hG
    obtain ⟨I, m, xss, HI, hIN, rfl, hG⟩ := hrel
    have hszr := hG.size
    by_cases hI : I < N
    · go_wp2_with fail
      obtain ⟨wi, rfl⟩ : ∃ wi : World, wi = wr := ⟨_, rfl⟩
      go_loopw [6, 8] (fun v jj wr => ∃ (J m : Nat) (xss : List (List Int)), Hid (xss = cnR N (fun _ => N) (fun _ _ => true) (fun i j k => ifR N p d i j k N N) I J 0) ∧ J ≤ N ∧ jj = .int .i64 (J : Int) ∧ GrwT (w.heap.size + 1 + 1) W0 wr v m xss) (fun _ jj _ => N - (intOf jj).toNat)
      case atStart => exact ⟨0, m, xss, HI, by omega, rfl, hG⟩
      case round =>
        clear hG HI hszr
        obtain ⟨J, m, xss, HI, hJN, rfl, hG⟩ := hrel
        have hszr := hG.size
        by_cases hJ : J < N
        · go_wp2_with fail
          obtain ⟨wj, rfl⟩ : ∃ wj : World, wj = wr := ⟨_, rfl⟩
          go_loopw [6, 9] (fun v kk wr => ∃ (K m : Nat) (xss : List (List Int)), Hid (xss = cnR N (fun _ => N) (fun _ _ => true) (fun i j k => ifR N p d i j k N N) I J K) ∧ K ≤ N ∧ kk = .int .i64 (K : Int) ∧ GrwT (w.heap.size + 1 + 1) W0 wr v m xss) (fun _ kk _ => N - (intOf kk).toNat)
          case atStart => exact ⟨0, m, xss, HI, by omega, rfl, hG⟩
          case round =>
            clear hG HI hszr
            obtain ⟨K, m, xss, HI, hKN, rfl, hG⟩ := hrel
            have hszr := hG.size
            by_cases hK : K < N
            · skip
              obtain ⟨hst, hhl, how, hi', hOT, hhi'⟩ := hG.tbl
              have hm6 : m ≤ 600 := by have := HLEN.out I J K (by omega) (by omega) (by omega); rw [← HI.out, hOT.len] at this; exact this
              have hbl0 := hG.below
              have HI2 := Lib.hid (show xss ++ [ifR N p d I J K N N] = cnR N (fun _ => N) (fun _ _ => true) (fun i j k => ifR N p d i j k N N) I J (K + 1) by rw [HI.out]; exact (cn_k (by rfl)).symm)
              go_wp2_with (at_make; refine wpList_mkI _ rfl _ _ 22 rfl 3 Try.underlying22 Try.infoI .i64 .i64 _ _ M rfl rfl (by omega) (by omega) (by omega) ?_; intro w3 ho3 hb3 hs3)
              rw [HZ.out I J K] at ho3
              obtain ⟨wo, rfl⟩ : ∃ wo : World, wo = wr := ⟨_, rfl⟩
              go_loopw [11] (fun ll wr => ∃ L : Nat, L ≤ N ∧ ll = .int .i64 (L : Int) ∧ wo.heap.size < wr.heap.size ∧ Below wo.heap.size wo wr ∧ OwI wr wo.heap.size (wo.heap.size + 1) (some ⟨wo.heap.size, 0, none⟩) M (ifR N p d I J K L L)) (fun ll _ => N - (intOf ll).toNat)
              case atStart => exact ⟨0, by omega, rfl, hs3, hb3, ho3.tight⟩
              case round =>
                clear ho3 hb3 hs3
                obtain ⟨L, hLN, rfl, hlto, hbw, ho⟩ := hrel
                have hsw := hbw.size
                by_cases hL : L < N
                · skip
                  obtain ⟨D, hD⟩ : ∃ D, D = ifR N p d I J K L L := ⟨_, rfl⟩
                  have HD := Lib.hid hD
                  have HDR := Lib.hid (show resB D p = true by rw [hD]; exact ifR_res (by omega) _ _)
                  rw [← hD] at ho
                  clear hD
                  have hbq : Below (w.heap.size + 1 + 1) W0 wr := hbl0.trans (hbw.mono (by omega))
                  have hszq : wo.heap.size ≤ wr.heap.size := hbw.size
                  obtain ⟨q, hq⟩ : ∃ q : Nat, q = L * N + K := ⟨_, rfl⟩
                  have hqM : q < M := by rw [hq, HM.out]; exact idx_lt (by omega) (by omega)
                  have hq1 : (L : Int) * (N : Int) + (K : Int) = (q : Int) := by rw [hq, Int.natCast_add, Int.natCast_mul]
                  have hq0 : 0 ≤ (L : Int) * (N : Int) := by rw [← Int.natCast_mul]; omega
                  have hwr1 : IntKind.i64.wrap ((L : Int) * (N : Int)) = (L : Int) * (N : Int) := IntWalk.i64_in _ (by omega)
                  have hwr2 : IntKind.i64.wrap ((L : Int) * (N : Int) + (K : Int)) = (q : Int) := by rw [hq1]; exact IntWalk.i64_in _ (by omega)
                  obtain ⟨hcq, hfq⟩ := ho.at_ hqM
                  rw [Nat.zero_add] at hcq hfq
                  have htb := tA_bd (n := N) (p := p) (by omega) HR.out I J L
                  have hdb := gI_res (p := p) (by omega) (HDR.out) q
                  have hwr3 : IntKind.i64.wrap (gI D q + tA N d I J L) = gI D q + tA N d I J L := IntWalk.i64_in _ (by omega)
                  have HS := Lib.hid (show D.set q ((gI D q + tA N d I J L) % p) = ifR N p d I J K (L + 1) L by rw [HD.out, hq]; exact ifR_1 (by omega) (by omega))
                  have hx := hX0.below hbq (by omega)
                  have ha := ha0.below hbq (by omega)
                  obtain ⟨x0, x1, x2⟩ := hx.three
                  have cG : ∀ e os, Calls Try.prog 142 #[.agg #[.int .i64 p, .int .i64 N, .slice A n k], .int .i64 I, .int .i64 J, .int .i64 L] (grow (redrawn wr e) os) fun e w'' => e = .returned (.int .i64 (tA N d I J L)) ∧ ∃ p : Regrown, w'' = grow (redrawn wr p.d) p.os :=
                    fun e os => Calls.regrown_of (l2Get_any (B := B) _ (ha.below (below_regrown wr e os) (by omega)) (by have := (below_regrown wr e os).size; omega) HL.out (by omega) (by omega) (by omega) (by omega))
                  have cM : ∀ y e os, Calls Try.prog 139 #[.int .i64 y, .int .i64 p] (grow (redrawn wr e) os) fun e w'' => e = .returned (.int .i64 (y % p)) ∧ ∃ p : Regrown, w'' = grow (redrawn wr p.d) p.os :=
                    fun y e os => Calls.regrown_of ((l1Mod_any _ _ _ (by omega) (by omega)).mono fun e w' h => ⟨h.1, by rw [← h.2]; exact Below.refl _ _⟩)
                  have q0 := cell_regrown x0
                  have q1 := cell_regrown x1
                  have q2 := cell_regrown x2
                  have q3 := cell_regrown hcq
                  clear hx ha hq hq0 hcq hfq
                  clear hq1
                  go_wp2_with fail
                  clear x0 x1 x2
                  (refine wp_region_quiet_last (C := fun w' => ∃ p : Regrown, w' = grow (redrawn wr p.d) p.os) 24 (by kernel_rfl) (by kernel_rfl) (by kernel_rfl) (by kernel_rfl) (by kernel_rfl) (by kernel_rfl) (by kernel_rfl) (by kernel_rfl) ⟨⟨wr.drawn + 1, #[]⟩, by rw [grow_empty]; rfl⟩ ?_; simp only [List.take_succ_cons, List.take_zero, List.drop_succ_cons, List.drop_zero]; (repeat (go_big_quiet_step (first | exact cG _ _ | exact cM _ _ _))); refine wpQuiet_nil ?_; rintro W ⟨pp, hW⟩; have hbW : Below wr.heap.size wr W := hW ▸ below_regrown _ _ _; clear hW)
                  clear q0 q1 q2 q3 cG cM hwr1 hwr2 hwr3 htb hdb
                  have hW1 := hbW.size
                  have hoW := ho.below hbW (by omega)
                  obtain ⟨hcq, hfq⟩ := hoW.at_ hqM
                  rw [Nat.zero_add] at hcq hfq
                  have HoN := Lib.hid (show OwI (W.setCell ⟨wo.heap.size, q, none⟩ (.int .i64 ((gI D q + tA N d I J L) % p))) wo.heap.size (wo.heap.size + 1) (some ⟨wo.heap.size, 0, none⟩) M (ifR N p d I J K (L + 1) L) by have := hoW.store (v := (gI D q + tA N d I J L) % p) hqM; rw [HS.out, Nat.zero_add] at this; exact this)
                  have HbN := Lib.hid (show Below wo.heap.size wo (W.setCell ⟨wo.heap.size, q, none⟩ (.int .i64 ((gI D q + tA N d I J L) % p))) from (hbw.trans (hbW.mono (by omega))).setCell (Nat.le_refl _) _)
                  have hszN : (W.setCell ⟨wo.heap.size, q, none⟩ (.int .i64 ((gI D q + tA N d I J L) % p))).heap.size = W.heap.size := by simp
                  clear hoW ho hbw hbq HD HDR HS
                  go_wp2_with fail
                  generalize W.setCell ⟨wo.heap.size, q, none⟩ (.int .i64 ((gI D q + tA N d I J L) % p)) = Wn at *
                  clear hcq hfq hbW
                  have hlto : wo.heap.size < Wn.heap.size := by omega
                  have ho := HoN.out
                  have hbw := HbN.out
                  clear HoN HbN hqM
                  obtain ⟨wq0, rfl⟩ : ∃ wq0 : World, wq0 = Wn := ⟨_, rfl⟩
                  clear hszN hW1 hszq
                  obtain ⟨D, hD⟩ : ∃ D, D = ifR N p d I J K (L + 1) L := ⟨_, rfl⟩
                  have HD := Lib.hid hD
                  have HDR := Lib.hid (show resB D p = true by rw [hD]; exact ifR_res (by omega) _ _)
                  rw [← hD] at ho
                  clear hD
                  have hbq : Below (w.heap.size + 1 + 1) W0 wq0 := hbl0.trans (hbw.mono (by omega))
                  have hszq : wo.heap.size ≤ wq0.heap.size := hbw.size
                  obtain ⟨q, hq⟩ : ∃ q : Nat, q = I * N + L := ⟨_, rfl⟩
                  have hqM : q < M := by rw [hq, HM.out]; exact idx_lt (by omega) (by omega)
                  have hq1 : (I : Int) * (N : Int) + (L : Int) = (q : Int) := by rw [hq, Int.natCast_add, Int.natCast_mul]
                  have hq0 : 0 ≤ (I : Int) * (N : Int) := by rw [← Int.natCast_mul]; omega
                  have hwr1 : IntKind.i64.wrap ((I : Int) * (N : Int)) = (I : Int) * (N : Int) := IntWalk.i64_in _ (by omega)
                  have hwr2 : IntKind.i64.wrap ((I : Int) * (N : Int) + (L : Int)) = (q : Int) := by rw [hq1]; exact IntWalk.i64_in _ (by omega)
                  obtain ⟨hcq, hfq⟩ := ho.at_ hqM
                  rw [Nat.zero_add] at hcq hfq
                  have htb := tA_bd (n := N) (p := p) (by omega) HR.out J K L
                  have hdb := gI_res (p := p) (by omega) (HDR.out) q
                  have hwr3 : IntKind.i64.wrap (gI D q - tA N d J K L) = gI D q - tA N d J K L := IntWalk.i64_in _ (by omega)
                  have HS := Lib.hid (show D.set q ((gI D q - tA N d J K L) % p) = ifR N p d I J K (L + 1) (L + 1) by rw [HD.out, hq]; exact ifR_2 (by omega) (by omega))
                  have hx := hX0.below hbq (by omega)
                  have ha := ha0.below hbq (by omega)
                  obtain ⟨x0, x1, x2⟩ := hx.three
                  have cG : ∀ e os, Calls Try.prog 142 #[.agg #[.int .i64 p, .int .i64 N, .slice A n k], .int .i64 J, .int .i64 K, .int .i64 L] (grow (redrawn wq0 e) os) fun e w'' => e = .returned (.int .i64 (tA N d J K L)) ∧ ∃ p : Regrown, w'' = grow (redrawn wq0 p.d) p.os :=
                    fun e os => Calls.regrown_of (l2Get_any (B := B) _ (ha.below (below_regrown wq0 e os) (by omega)) (by have := (below_regrown wq0 e os).size; omega) HL.out (by omega) (by omega) (by omega) (by omega))
                  have cM : ∀ y e os, Calls Try.prog 139 #[.int .i64 y, .int .i64 p] (grow (redrawn wq0 e) os) fun e w'' => e = .returned (.int .i64 (y % p)) ∧ ∃ p : Regrown, w'' = grow (redrawn wq0 p.d) p.os :=
                    fun y e os => Calls.regrown_of ((l1Mod_any _ _ _ (by omega) (by omega)).mono fun e w' h => ⟨h.1, by rw [← h.2]; exact Below.refl _ _⟩)
                  have q0 := cell_regrown x0
                  have q1 := cell_regrown x1
                  have q2 := cell_regrown x2
                  have q3 := cell_regrown hcq
                  clear hx ha hq hq0 hcq hfq
                  clear hq1
                  go_wp2_with fail
                  clear x0 x1 x2
                  (refine wp_region_quiet_last (C := fun w' => ∃ p : Regrown, w' = grow (redrawn wq0 p.d) p.os) 24 (by kernel_rfl) (by kernel_rfl) (by kernel_rfl) (by kernel_rfl) (by kernel_rfl) (by kernel_rfl) (by kernel_rfl) (by kernel_rfl) ⟨⟨wq0.drawn + 1, #[]⟩, by rw [grow_empty]; rfl⟩ ?_; simp only [List.take_succ_cons, List.take_zero, List.drop_succ_cons, List.drop_zero]; (repeat (go_big_quiet_step (first | exact cG _ _ | exact cM _ _ _))); refine wpQuiet_nil ?_; rintro W ⟨pp, hW⟩; have hbW : Below wq0.heap.size wq0 W := hW ▸ below_regrown _ _ _; clear hW)
                  clear q0 q1 q2 q3 cG cM hwr1 hwr2 hwr3 htb hdb
                  have hW1 := hbW.size
                  have hoW := ho.below hbW (by omega)
                  obtain ⟨hcq, hfq⟩ := hoW.at_ hqM
                  rw [Nat.zero_add] at hcq hfq
                  have HoN := Lib.hid (show OwI (W.setCell ⟨wo.heap.size, q, none⟩ (.int .i64 ((gI D q - tA N d J K L) % p))) wo.heap.size (wo.heap.size + 1) (some ⟨wo.heap.size, 0, none⟩) M (ifR N p d I J K (L + 1) (L + 1)) by have := hoW.store (v := (gI D q - tA N d J K L) % p) hqM; rw [HS.out, Nat.zero_add] at this; exact this)
                  have HbN := Lib.hid (show Below wo.heap.size wo (W.setCell ⟨wo.heap.size, q, none⟩ (.int .i64 ((gI D q - tA N d J K L) % p))) from (hbw.trans (hbW.mono (by omega))).setCell (Nat.le_refl _) _)
                  have hszN : (W.setCell ⟨wo.heap.size, q, none⟩ (.int .i64 ((gI D q - tA N d J K L) % p))).heap.size = W.heap.size := by simp
                  clear hoW ho hbw hbq HD HDR HS
                  go_wp2_with fail
                  generalize W.setCell ⟨wo.heap.size, q, none⟩ (.int .i64 ((gI D q - tA N d J K L) % p)) = Wn at *
                  clear hcq hfq hbW
                  have hlto : wo.heap.size < Wn.heap.size := by omega
                  have ho := HoN.out
                  have hbw := HbN.out
                  clear HoN HbN hqM
                  go_roundw
                  case rel => exact ⟨L + 1, by omega, by go_num, hlto, hbw, ho⟩
                  case measure => simp [intOf]; omega
                · obtain rfl : L = N := by omega
                  skip
                  have hcn : m ≤ 1073741824 := by omega
                  have hOT4 := hOT.below hbw hhi'
                  go_wp2_with (at_builtin; refine wpList_apT (v := u6) (w := wr.alloc (.cells #[.slice (some ⟨wo.heap.size, 0, none⟩) M M] 22)) (lo := w.heap.size + 1 + 1) (b := wr.heap.size) (u := .slice (some ⟨wo.heap.size, 0, none⟩) M M) rfl (.tmp 168) (.tmp 170) rfl rfl (hOT4.alloc (by omega) _).tbl rfl (Box.new wr _ _).one rfl hcn (by rw [World.size_alloc]; omega) ?_; intro v5 w5 ho5 hg5 hv5)
                  have hG6 := hG.push hOT hhi' hbw (ho.up (by omega)) (Nat.le_refl _) (Hd.self (by unfold maxLen; omega)) ho5 hg5 hv5
                  go_roundw
                  case rel => exact ⟨K + 1, m + 1, _, HI2, by omega, by go_num, hG6⟩
                  case measure => simp [intOf]; omega
            · obtain rfl : K = N := by omega
              have HI2 := Lib.hid (HI.out.trans cn_j)
              go_wp2_with fail
              go_roundw
              case rel => exact ⟨J + 1, m, xss, HI2, by omega, by go_num, hG⟩
              case measure => simp [intOf]; omega
        · obtain rfl : J = N := by omega
          have HI2 := Lib.hid (HI.out.trans (cn_i rfl))
          go_wp2_with fail
          go_roundw
          case rel => exact ⟨I + 1, m, xss, HI2, by omega, by go_num, hG⟩
          case measure => simp [intOf]; omega
    · obtain rfl : I = N := by omega
      have hX := hX0.below hG.below (by omega)
      have hZ := hZ0.below hG.below (by omega)
      have hq := hq0.trans (hG.below.mono (by omega))
      obtain ⟨A7, c7, rfl, hd7, hst7, hT7⟩ := hG.ret
      have hlen7 := hT7.len
      have hm6 : m ≤ 600 := by have := HLEN.out I 0 0 (by omega) (by omega) (by omega); rw [← HI.out, hlen7] at this; exact this
      have hxs : xss = cd1 I p d := HI.out
      have HTm := Lib.hid (show (m + 199) / 200 = T by rw [HTT.out, ← hxs, hlen7])
      clear HI hlen7
      subst hxs
      obtain ⟨x0, x1, x2⟩ := hX.three
      obtain ⟨z0, z1, z2, z3⟩ := hZ.four
      have zf := hZ.fz
      go_wp2_with fail
      refine (l3Thin_any (B := wr.heap.size) p M m c7 A7 hst7 _ _ hT7.rd hd7 (Nat.le_refl _) (by omega) (by omega) HP.out (fun r hr => (HALL.out r hr).1) (fun r hr => (HALL.out r hr).2)).mono ?_
      rw [HTm.out]
      rintro e w8 ⟨A8, n8, k8, rfl, hd8, hb8, ho8⟩
      have hs8 := hb8.size
      have hZ8 := hZ.below hb8 (by omega)
      clear x0 x1 x2 z0 z1 z2 z3 zf
      obtain ⟨z0, z1, z2, z3⟩ := hZ8.four
      have zf := hZ8.fz
      have hq8 := hq.trans (hb8.mono (by omega))
      go_wp2
      exact bodyPost_ret (v := .agg #[.int .i64 p, .int .i64 (thin p M (chs (cd1 I p d)) T).1, .int .i64 M, .slice A8 n8 k8]) (by simp [results, Try.results111, go_sem, z0, z1, z2, z3]) rfl (retM4 (R := w.heap.size + 1) hq8 ho8 (by omega) (by omega) (Nat.le_refl _) _ _ _ _)
set_option maxRecDepth 100000 in
theorem sCnd0_any {B : Nat} (p : Int) (N n k : Nat) (A : Option Addr) (d : List Int) (w : World) (h : RdI w B A n d) (hd : Hd A n k) (hB : B ≤ w.heap.size) (hN : N ≤ 8) (hl : n = N * N * N) (hp : isP p = true) (hr : resB d p = true) :
    Calls Try.prog 111 #[.agg #[.int .i64 p, .int .i64 N, .slice A n k], .int .i64 0] w (RetM p (thin p (N * N) (chs (cd0 N p d)) (((cd0 N p d).length + 199) / 200)).1 ((N * N : Nat) : Int) (thin p (N * N) (chs (cd0 N p d)) (((cd0 N p d).length + 199) / 200)).2 w) := by
  obtain ⟨hp1, hp2⟩ := isP_bd hp
  have HP := Lib.hid hp
  have HL := Lib.hid hl
  have HR := Lib.hid hr
  obtain ⟨M, hM⟩ : ∃ M : Nat, M = N * N := ⟨_, rfl⟩
  have hM64 : M ≤ 64 := by rw [hM]; exact Nat.mul_le_mul hN hN
  have hMi : (N : Int) * (N : Int) = (M : Int) := by rw [hM, Int.natCast_mul]
  have hwM : IntKind.i64.wrap ((N : Int) * (N : Int)) = (M : Int) := by rw [hMi]; exact IntWalk.i64_in _ (by omega)
  have HLEN := Lib.hid (show ∀ I J K, I ≤ N → J ≤ N → K ≤ N → (cnR N (fun _ => N) (fun i j => decide (i < j)) (fun i j k => dvR N p d i j k N N N) I J K).length ≤ 600 from fun I J K hI hJ hK => cn_len (fun i => by omega) hN hI hJ hK fun i => .inl hN)
  have HALL := Lib.hid (show ∀ r ∈ cd0 N p d, r.length = M ∧ resB r p = true from cn_all (P := fun r => r.length = M ∧ resB r p = true) fun i j k => by rw [hM]; exact ⟨dvR_len _ _ _, dvR_res (by omega) _ _ _⟩)
  have HZ := Lib.hid (show ∀ i j k, List.replicate M 0 = dvR N p d i j k 0 0 0 from fun i j k => by rw [hM]; exact dvR_zero.symm)
  rw [← hM]
  have HM := Lib.hid hM
  have HMi := Lib.hid hMi
  obtain ⟨T, hT⟩ : ∃ T, T = ((cd0 N p d).length + 199) / 200 := ⟨_, rfl⟩
  rw [← hT]
  have HTT := Lib.hid hT
  clear hp hl hr hM hMi hT
  have hX0 := ((Box.new w #[.int .i64 p, .int .i64 N, .slice A n k] 63).alloc (.cells #[.int .i64 0, .int .i64 0, .int .i64 0, .slice none 0 0] 26)).alloc (.cells #[] 22)
  have hZ0 := (Box.new (w.alloc (.cells #[.int .i64 p, .int .i64 N, .slice A n k] 63)) #[.int .i64 0, .int .i64 0, .int .i64 0, .slice none 0 0] 26).alloc (.cells #[] 22)
  rw [World.size_alloc] at hZ0
  have hq0 : Below w.heap.size w (((w.alloc (.cells #[.int .i64 p, .int .i64 N, .slice A n k] 63)).alloc (.cells #[.int .i64 0, .int .i64 0, .int .i64 0, .slice none 0 0] 26)).alloc (.cells #[] 22)) := (by repeat' (first | (with_reducible exact Below.refl _ _) | (with_reducible refine Below.setCell ?_ (by first | exact Nat.le_refl _ | omega | (simp only [World.size_alloc, World.size_setCell, World.heap_drewN]; omega) | (simp; omega)) _) | (with_reducible refine Below.alloc ?_ (by first | exact Nat.le_refl _ | omega | (simp only [World.size_alloc, World.size_setCell, World.heap_drewN]; omega) | (simp; omega)) _) | (with_reducible refine below_drewN ?_ _) | (with_reducible refine Below.drew ?_)))
  have ha0 := h.below hq0 hB
  have hG := GrwT.start ((w.alloc (.cells #[.int .i64 p, .int .i64 N, .slice A n k] 63)).alloc (.cells #[.int .i64 0, .int .i64 0, .int .i64 0, .slice none 0 0] 26)) 22 rfl
  simp only [World.size_alloc] at hG
  obtain ⟨x0, x1, x2⟩ := (Box.new w #[.int .i64 p, .int .i64 N, .slice A n k] 63).three
  go_enter Try.func111, Try.ntmps111
  go_wp2_with fail
  have hsW : (((w.alloc (.cells #[.int .i64 p, .int .i64 N, .slice A n k] 63)).alloc (.cells #[.int .i64 0, .int .i64 0, .int .i64 0, .slice none 0 0] 26)).alloc (.cells #[] 22)).heap.size = w.heap.size + 3 := by simp
  obtain ⟨W0, hW0⟩ : ∃ W0, W0 = (((w.alloc (.cells #[.int .i64 p, .int .i64 N, .slice A n k] 63)).alloc (.cells #[.int .i64 0, .int .i64 0, .int .i64 0, .slice none 0 0] 26)).alloc (.cells #[] 22)) := ⟨_, rfl⟩
  rw [← hW0] at hX0 hZ0 hq0 ha0 hG hsW ⊢
  clear hW0 x0 x1 x2
  go_loopw [6, 7] (fun v ii wr => ∃ (I m : Nat) (xss : List (List Int)), Hid (xss = cnR N (fun _ => N) (fun i j => decide (i < j)) (fun i j k => dvR N p d i j k N N N) I 0 0) ∧ I ≤ N ∧ ii = .int .i64 (I : Int) ∧ GrwT (w.heap.size + 1 + 1) W0 wr v m xss) (fun _ ii _ => N - (intOf ii).toNat)
  case atStart => exact ⟨0, 0, [], Lib.hid cn_zero.symm, by omega, rfl, hG⟩
  case round =>
    clear hG
    obtain ⟨I, m, xss, HI, hIN, rfl, hG⟩ := hrel
    have hszr := hG.size
    by_cases hI : I < N
    · go_wp2_with fail
      obtain ⟨wi, rfl⟩ : ∃ wi : World, wi = wr := ⟨_, rfl⟩
      go_loopw [6, 8] (fun v jj wr => ∃ (J m : Nat) (xss : List (List Int)), Hid (xss = cnR N (fun _ => N) (fun i j => decide (i < j)) (fun i j k => dvR N p d i j k N N N) I J 0) ∧ J ≤ N ∧ jj = .int .i64 (J : Int) ∧ GrwT (w.heap.size + 1 + 1) W0 wr v m xss) (fun _ jj _ => N - (intOf jj).toNat)
      case atStart => exact ⟨0, m, xss, HI, by omega, rfl, hG⟩
      case round =>
        clear hG HI hszr
        obtain ⟨J, m, xss, HI, hJN, rfl, hG⟩ := hrel
        have hszr := hG.size
        by_cases hJ : J < N
        · go_wp2_with fail
          obtain ⟨wj, rfl⟩ : ∃ wj : World, wj = wr := ⟨_, rfl⟩
          go_loopw [6, 9] (fun v kk wr => ∃ (K m : Nat) (xss : List (List Int)), Hid (xss = cnR N (fun _ => N) (fun i j => decide (i < j)) (fun i j k => dvR N p d i j k N N N) I J K) ∧ K ≤ N ∧ kk = .int .i64 (K : Int) ∧ GrwT (w.heap.size + 1 + 1) W0 wr v m xss) (fun _ kk _ => N - (intOf kk).toNat)
          case atStart => exact ⟨0, m, xss, HI, by omega, rfl, hG⟩
          case round =>
            clear hG HI hszr
            obtain ⟨K, m, xss, HI, hKN, rfl, hG⟩ := hrel
            have hszr := hG.size
            by_cases hK : K < N
            · skip
              by_cases hij : J ≤ I
              · have HI2 := Lib.hid (HI.out.trans (cn_kno (n := N) (by simpa using hij) (K + 1)))
                go_wp2_with fail
                go_roundw
                case rel => exact ⟨K + 1, m, xss, HI2, by omega, by go_num, hG⟩
                case measure => simp [intOf]; omega
              · skip
                obtain ⟨hst, hhl, how, hi', hOT, hhi'⟩ := hG.tbl
                have hm6 : m ≤ 600 := by have := HLEN.out I J K (by omega) (by omega) (by omega); rw [← HI.out, hOT.len] at this; exact this
                have hbl0 := hG.below
                have HI2 := Lib.hid (show xss ++ [dvR N p d I J K N N N] = cnR N (fun _ => N) (fun i j => decide (i < j)) (fun i j k => dvR N p d i j k N N N) I J (K + 1) by rw [HI.out]; exact (cn_k (by simp; omega)).symm)
                go_wp2_with (at_make; refine wpList_mkI _ rfl _ _ 22 rfl 3 Try.underlying22 Try.infoI .i64 .i64 _ _ M rfl rfl (by omega) (by omega) (by omega) ?_; intro w3 ho3 hb3 hs3)
                rw [HZ.out I J K] at ho3
                obtain ⟨wo, rfl⟩ : ∃ wo : World, wo = wr := ⟨_, rfl⟩
                go_loopw [11] (fun ll wr => ∃ L : Nat, L ≤ N ∧ ll = .int .i64 (L : Int) ∧ wo.heap.size < wr.heap.size ∧ Below wo.heap.size wo wr ∧ OwI wr wo.heap.size (wo.heap.size + 1) (some ⟨wo.heap.size, 0, none⟩) M (dvR N p d I J K L L L)) (fun ll _ => N - (intOf ll).toNat)
                case atStart => exact ⟨0, by omega, rfl, hs3, hb3, ho3.tight⟩
                case round =>
                  clear ho3 hb3 hs3
                  obtain ⟨L, hLN, rfl, hlto, hbw, ho⟩ := hrel
                  have hsw := hbw.size
                  by_cases hL : L < N
                  · skip
                    obtain ⟨D, hD⟩ : ∃ D, D = dvR N p d I J K L L L := ⟨_, rfl⟩
                    have HD := Lib.hid hD
                    have HDR := Lib.hid (show resB D p = true by rw [hD]; exact dvR_res (by omega) _ _ _)
                    rw [← hD] at ho
                    clear hD
                    have hbq : Below (w.heap.size + 1 + 1) W0 wr := hbl0.trans (hbw.mono (by omega))
                    have hszq : wo.heap.size ≤ wr.heap.size := hbw.size
                    obtain ⟨q, hq⟩ : ∃ q : Nat, q = L * N + K := ⟨_, rfl⟩
                    have hqM : q < M := by rw [hq, HM.out]; exact idx_lt (by omega) (by omega)
                    have hq1 : (L : Int) * (N : Int) + (K : Int) = (q : Int) := by rw [hq, Int.natCast_add, Int.natCast_mul]
                    have hq0 : 0 ≤ (L : Int) * (N : Int) := by rw [← Int.natCast_mul]; omega
                    have hwr1 : IntKind.i64.wrap ((L : Int) * (N : Int)) = (L : Int) * (N : Int) := IntWalk.i64_in _ (by omega)
                    have hwr2 : IntKind.i64.wrap ((L : Int) * (N : Int) + (K : Int)) = (q : Int) := by rw [hq1]; exact IntWalk.i64_in _ (by omega)
                    obtain ⟨hcq, hfq⟩ := ho.at_ hqM
                    rw [Nat.zero_add] at hcq hfq
                    have htb := tA_bd (n := N) (p := p) (by omega) HR.out I J L
                    have hdb := gI_res (p := p) (by omega) (HDR.out) q
                    have hwr3 : IntKind.i64.wrap (gI D q + tA N d I J L) = gI D q + tA N d I J L := IntWalk.i64_in _ (by omega)
                    have HS := Lib.hid (show D.set q ((gI D q + tA N d I J L) % p) = dvR N p d I J K (L + 1) L L by rw [HD.out, hq]; exact dvR_1 (by omega) (by omega))
                    have hx := hX0.below hbq (by omega)
                    have ha := ha0.below hbq (by omega)
                    obtain ⟨x0, x1, x2⟩ := hx.three
                    have cG : ∀ e os, Calls Try.prog 142 #[.agg #[.int .i64 p, .int .i64 N, .slice A n k], .int .i64 I, .int .i64 J, .int .i64 L] (grow (redrawn wr e) os) fun e w'' => e = .returned (.int .i64 (tA N d I J L)) ∧ ∃ p : Regrown, w'' = grow (redrawn wr p.d) p.os :=
                      fun e os => Calls.regrown_of (l2Get_any (B := B) _ (ha.below (below_regrown wr e os) (by omega)) (by have := (below_regrown wr e os).size; omega) HL.out (by omega) (by omega) (by omega) (by omega))
                    have cM : ∀ y e os, Calls Try.prog 139 #[.int .i64 y, .int .i64 p] (grow (redrawn wr e) os) fun e w'' => e = .returned (.int .i64 (y % p)) ∧ ∃ p : Regrown, w'' = grow (redrawn wr p.d) p.os :=
                      fun y e os => Calls.regrown_of ((l1Mod_any _ _ _ (by omega) (by omega)).mono fun e w' h => ⟨h.1, by rw [← h.2]; exact Below.refl _ _⟩)
                    have q0 := cell_regrown x0
                    have q1 := cell_regrown x1
                    have q2 := cell_regrown x2
                    have q3 := cell_regrown hcq
                    clear hx ha hq hq0 hcq hfq
                    clear hq1
                    go_wp2_with fail
                    clear x0 x1 x2
                    (refine wp_region_quiet_last (C := fun w' => ∃ p : Regrown, w' = grow (redrawn wr p.d) p.os) 24 (by kernel_rfl) (by kernel_rfl) (by kernel_rfl) (by kernel_rfl) (by kernel_rfl) (by kernel_rfl) (by kernel_rfl) (by kernel_rfl) ⟨⟨wr.drawn + 1, #[]⟩, by rw [grow_empty]; rfl⟩ ?_; simp only [List.take_succ_cons, List.take_zero, List.drop_succ_cons, List.drop_zero]; (repeat (go_big_quiet_step (first | exact cG _ _ | exact cM _ _ _))); refine wpQuiet_nil ?_; rintro W ⟨pp, hW⟩; have hbW : Below wr.heap.size wr W := hW ▸ below_regrown _ _ _; clear hW)
                    clear q0 q1 q2 q3 cG cM hwr1 hwr2 hwr3 htb hdb
                    have hW1 := hbW.size
                    have hoW := ho.below hbW (by omega)
                    obtain ⟨hcq, hfq⟩ := hoW.at_ hqM
                    rw [Nat.zero_add] at hcq hfq
                    have HoN := Lib.hid (show OwI (W.setCell ⟨wo.heap.size, q, none⟩ (.int .i64 ((gI D q + tA N d I J L) % p))) wo.heap.size (wo.heap.size + 1) (some ⟨wo.heap.size, 0, none⟩) M (dvR N p d I J K (L + 1) L L) by have := hoW.store (v := (gI D q + tA N d I J L) % p) hqM; rw [HS.out, Nat.zero_add] at this; exact this)
                    have HbN := Lib.hid (show Below wo.heap.size wo (W.setCell ⟨wo.heap.size, q, none⟩ (.int .i64 ((gI D q + tA N d I J L) % p))) from (hbw.trans (hbW.mono (by omega))).setCell (Nat.le_refl _) _)
                    have hszN : (W.setCell ⟨wo.heap.size, q, none⟩ (.int .i64 ((gI D q + tA N d I J L) % p))).heap.size = W.heap.size := by simp
                    clear hoW ho hbw hbq HD HDR HS
                    go_wp2_with fail
                    generalize W.setCell ⟨wo.heap.size, q, none⟩ (.int .i64 ((gI D q + tA N d I J L) % p)) = Wn at *
                    clear hcq hfq hbW
                    have hlto : wo.heap.size < Wn.heap.size := by omega
                    have ho := HoN.out
                    have hbw := HbN.out
                    clear HoN HbN hqM
                    obtain ⟨wq0, rfl⟩ : ∃ wq0 : World, wq0 = Wn := ⟨_, rfl⟩
                    clear hszN hW1 hszq
                    obtain ⟨D, hD⟩ : ∃ D, D = dvR N p d I J K (L + 1) L L := ⟨_, rfl⟩
                    have HD := Lib.hid hD
                    have HDR := Lib.hid (show resB D p = true by rw [hD]; exact dvR_res (by omega) _ _ _)
                    rw [← hD] at ho
                    clear hD
                    have hbq : Below (w.heap.size + 1 + 1) W0 wq0 := hbl0.trans (hbw.mono (by omega))
                    have hszq : wo.heap.size ≤ wq0.heap.size := hbw.size
                    obtain ⟨q, hq⟩ : ∃ q : Nat, q = I * N + L := ⟨_, rfl⟩
                    have hqM : q < M := by rw [hq, HM.out]; exact idx_lt (by omega) (by omega)
                    have hq1 : (I : Int) * (N : Int) + (L : Int) = (q : Int) := by rw [hq, Int.natCast_add, Int.natCast_mul]
                    have hq0 : 0 ≤ (I : Int) * (N : Int) := by rw [← Int.natCast_mul]; omega
                    have hwr1 : IntKind.i64.wrap ((I : Int) * (N : Int)) = (I : Int) * (N : Int) := IntWalk.i64_in _ (by omega)
                    have hwr2 : IntKind.i64.wrap ((I : Int) * (N : Int) + (L : Int)) = (q : Int) := by rw [hq1]; exact IntWalk.i64_in _ (by omega)
                    obtain ⟨hcq, hfq⟩ := ho.at_ hqM
                    rw [Nat.zero_add] at hcq hfq
                    have htb := tA_bd (n := N) (p := p) (by omega) HR.out L J K
                    have hdb := gI_res (p := p) (by omega) (HDR.out) q
                    have hwr3 : IntKind.i64.wrap (gI D q - tA N d L J K) = gI D q - tA N d L J K := IntWalk.i64_in _ (by omega)
                    have HS := Lib.hid (show D.set q ((gI D q - tA N d L J K) % p) = dvR N p d I J K (L + 1) (L + 1) L by rw [HD.out, hq]; exact dvR_2 (by omega) (by omega))
                    have hx := hX0.below hbq (by omega)
                    have ha := ha0.below hbq (by omega)
                    obtain ⟨x0, x1, x2⟩ := hx.three
                    have cG : ∀ e os, Calls Try.prog 142 #[.agg #[.int .i64 p, .int .i64 N, .slice A n k], .int .i64 L, .int .i64 J, .int .i64 K] (grow (redrawn wq0 e) os) fun e w'' => e = .returned (.int .i64 (tA N d L J K)) ∧ ∃ p : Regrown, w'' = grow (redrawn wq0 p.d) p.os :=
                      fun e os => Calls.regrown_of (l2Get_any (B := B) _ (ha.below (below_regrown wq0 e os) (by omega)) (by have := (below_regrown wq0 e os).size; omega) HL.out (by omega) (by omega) (by omega) (by omega))
                    have cM : ∀ y e os, Calls Try.prog 139 #[.int .i64 y, .int .i64 p] (grow (redrawn wq0 e) os) fun e w'' => e = .returned (.int .i64 (y % p)) ∧ ∃ p : Regrown, w'' = grow (redrawn wq0 p.d) p.os :=
                      fun y e os => Calls.regrown_of ((l1Mod_any _ _ _ (by omega) (by omega)).mono fun e w' h => ⟨h.1, by rw [← h.2]; exact Below.refl _ _⟩)
                    have q0 := cell_regrown x0
                    have q1 := cell_regrown x1
                    have q2 := cell_regrown x2
                    have q3 := cell_regrown hcq
                    clear hx ha hq hq0 hcq hfq
                    clear hq1
                    go_wp2_with fail
                    clear x0 x1 x2
                    (refine wp_region_quiet_last (C := fun w' => ∃ p : Regrown, w' = grow (redrawn wq0 p.d) p.os) 24 (by kernel_rfl) (by kernel_rfl) (by kernel_rfl) (by kernel_rfl) (by kernel_rfl) (by kernel_rfl) (by kernel_rfl) (by kernel_rfl) ⟨⟨wq0.drawn + 1, #[]⟩, by rw [grow_empty]; rfl⟩ ?_; simp only [List.take_succ_cons, List.take_zero, List.drop_succ_cons, List.drop_zero]; (repeat (go_big_quiet_step (first | exact cG _ _ | exact cM _ _ _))); refine wpQuiet_nil ?_; rintro W ⟨pp, hW⟩; have hbW : Below wq0.heap.size wq0 W := hW ▸ below_regrown _ _ _; clear hW)
                    clear q0 q1 q2 q3 cG cM hwr1 hwr2 hwr3 htb hdb
                    have hW1 := hbW.size
                    have hoW := ho.below hbW (by omega)
                    obtain ⟨hcq, hfq⟩ := hoW.at_ hqM
                    rw [Nat.zero_add] at hcq hfq
                    have HoN := Lib.hid (show OwI (W.setCell ⟨wo.heap.size, q, none⟩ (.int .i64 ((gI D q - tA N d L J K) % p))) wo.heap.size (wo.heap.size + 1) (some ⟨wo.heap.size, 0, none⟩) M (dvR N p d I J K (L + 1) (L + 1) L) by have := hoW.store (v := (gI D q - tA N d L J K) % p) hqM; rw [HS.out, Nat.zero_add] at this; exact this)
                    have HbN := Lib.hid (show Below wo.heap.size wo (W.setCell ⟨wo.heap.size, q, none⟩ (.int .i64 ((gI D q - tA N d L J K) % p))) from (hbw.trans (hbW.mono (by omega))).setCell (Nat.le_refl _) _)
                    have hszN : (W.setCell ⟨wo.heap.size, q, none⟩ (.int .i64 ((gI D q - tA N d L J K) % p))).heap.size = W.heap.size := by simp
                    clear hoW ho hbw hbq HD HDR HS
                    go_wp2_with fail
                    generalize W.setCell ⟨wo.heap.size, q, none⟩ (.int .i64 ((gI D q - tA N d L J K) % p)) = Wn at *
                    clear hcq hfq hbW
                    have hlto : wo.heap.size < Wn.heap.size := by omega
                    have ho := HoN.out
                    have hbw := HbN.out
                    clear HoN HbN hqM
                    obtain ⟨wq1, rfl⟩ : ∃ wq1 : World, wq1 = Wn := ⟨_, rfl⟩
                    clear hszN hW1 hszq
                    obtain ⟨D, hD⟩ : ∃ D, D = dvR N p d I J K (L + 1) (L + 1) L := ⟨_, rfl⟩
                    have HD := Lib.hid hD
                    have HDR := Lib.hid (show resB D p = true by rw [hD]; exact dvR_res (by omega) _ _ _)
                    rw [← hD] at ho
                    clear hD
                    have hbq : Below (w.heap.size + 1 + 1) W0 wq1 := hbl0.trans (hbw.mono (by omega))
                    have hszq : wo.heap.size ≤ wq1.heap.size := hbw.size
                    obtain ⟨q, hq⟩ : ∃ q : Nat, q = J * N + L := ⟨_, rfl⟩
                    have hqM : q < M := by rw [hq, HM.out]; exact idx_lt (by omega) (by omega)
                    have hq1 : (J : Int) * (N : Int) + (L : Int) = (q : Int) := by rw [hq, Int.natCast_add, Int.natCast_mul]
                    have hq0 : 0 ≤ (J : Int) * (N : Int) := by rw [← Int.natCast_mul]; omega
                    have hwr1 : IntKind.i64.wrap ((J : Int) * (N : Int)) = (J : Int) * (N : Int) := IntWalk.i64_in _ (by omega)
                    have hwr2 : IntKind.i64.wrap ((J : Int) * (N : Int) + (L : Int)) = (q : Int) := by rw [hq1]; exact IntWalk.i64_in _ (by omega)
                    obtain ⟨hcq, hfq⟩ := ho.at_ hqM
                    rw [Nat.zero_add] at hcq hfq
                    have htb := tA_bd (n := N) (p := p) (by omega) HR.out I L K
                    have hdb := gI_res (p := p) (by omega) (HDR.out) q
                    have hwr3 : IntKind.i64.wrap (gI D q - tA N d I L K) = gI D q - tA N d I L K := IntWalk.i64_in _ (by omega)
                    have HS := Lib.hid (show D.set q ((gI D q - tA N d I L K) % p) = dvR N p d I J K (L + 1) (L + 1) (L + 1) by rw [HD.out, hq]; exact dvR_3 (by omega) (by omega))
                    have hx := hX0.below hbq (by omega)
                    have ha := ha0.below hbq (by omega)
                    obtain ⟨x0, x1, x2⟩ := hx.three
                    have cG : ∀ e os, Calls Try.prog 142 #[.agg #[.int .i64 p, .int .i64 N, .slice A n k], .int .i64 I, .int .i64 L, .int .i64 K] (grow (redrawn wq1 e) os) fun e w'' => e = .returned (.int .i64 (tA N d I L K)) ∧ ∃ p : Regrown, w'' = grow (redrawn wq1 p.d) p.os :=
                      fun e os => Calls.regrown_of (l2Get_any (B := B) _ (ha.below (below_regrown wq1 e os) (by omega)) (by have := (below_regrown wq1 e os).size; omega) HL.out (by omega) (by omega) (by omega) (by omega))
                    have cM : ∀ y e os, Calls Try.prog 139 #[.int .i64 y, .int .i64 p] (grow (redrawn wq1 e) os) fun e w'' => e = .returned (.int .i64 (y % p)) ∧ ∃ p : Regrown, w'' = grow (redrawn wq1 p.d) p.os :=
                      fun y e os => Calls.regrown_of ((l1Mod_any _ _ _ (by omega) (by omega)).mono fun e w' h => ⟨h.1, by rw [← h.2]; exact Below.refl _ _⟩)
                    have q0 := cell_regrown x0
                    have q1 := cell_regrown x1
                    have q2 := cell_regrown x2
                    have q3 := cell_regrown hcq
                    clear hx ha hq hq0 hcq hfq
                    clear hq1
                    go_wp2_with fail
                    clear x0 x1 x2
                    (refine wp_region_quiet_last (C := fun w' => ∃ p : Regrown, w' = grow (redrawn wq1 p.d) p.os) 24 (by kernel_rfl) (by kernel_rfl) (by kernel_rfl) (by kernel_rfl) (by kernel_rfl) (by kernel_rfl) (by kernel_rfl) (by kernel_rfl) ⟨⟨wq1.drawn + 1, #[]⟩, by rw [grow_empty]; rfl⟩ ?_; simp only [List.take_succ_cons, List.take_zero, List.drop_succ_cons, List.drop_zero]; (repeat (go_big_quiet_step (first | exact cG _ _ | exact cM _ _ _))); refine wpQuiet_nil ?_; rintro W ⟨pp, hW⟩; have hbW : Below wq1.heap.size wq1 W := hW ▸ below_regrown _ _ _; clear hW)
                    clear q0 q1 q2 q3 cG cM hwr1 hwr2 hwr3 htb hdb
                    have hW1 := hbW.size
                    have hoW := ho.below hbW (by omega)
                    obtain ⟨hcq, hfq⟩ := hoW.at_ hqM
                    rw [Nat.zero_add] at hcq hfq
                    have HoN := Lib.hid (show OwI (W.setCell ⟨wo.heap.size, q, none⟩ (.int .i64 ((gI D q - tA N d I L K) % p))) wo.heap.size (wo.heap.size + 1) (some ⟨wo.heap.size, 0, none⟩) M (dvR N p d I J K (L + 1) (L + 1) (L + 1)) by have := hoW.store (v := (gI D q - tA N d I L K) % p) hqM; rw [HS.out, Nat.zero_add] at this; exact this)
                    have HbN := Lib.hid (show Below wo.heap.size wo (W.setCell ⟨wo.heap.size, q, none⟩ (.int .i64 ((gI D q - tA N d I L K) % p))) from (hbw.trans (hbW.mono (by omega))).setCell (Nat.le_refl _) _)
                    have hszN : (W.setCell ⟨wo.heap.size, q, none⟩ (.int .i64 ((gI D q - tA N d I L K) % p))).heap.size = W.heap.size := by simp
                    clear hoW ho hbw hbq HD HDR HS
                    go_wp2_with fail
                    generalize W.setCell ⟨wo.heap.size, q, none⟩ (.int .i64 ((gI D q - tA N d I L K) % p)) = Wn at *
                    clear hcq hfq hbW
                    have hlto : wo.heap.size < Wn.heap.size := by omega
                    have ho := HoN.out
                    have hbw := HbN.out
                    clear HoN HbN hqM
                    go_roundw
                    case rel => exact ⟨L + 1, by omega, by go_num, hlto, hbw, ho⟩
                    case measure => simp [intOf]; omega
                  · obtain rfl : L = N := by omega
                    skip
                    have hcn : m ≤ 1073741824 := by omega
                    have hOT4 := hOT.below hbw hhi'
                    go_wp2_with (at_builtin; refine wpList_apT (v := u6) (w := wr.alloc (.cells #[.slice (some ⟨wo.heap.size, 0, none⟩) M M] 22)) (lo := w.heap.size + 1 + 1) (b := wr.heap.size) (u := .slice (some ⟨wo.heap.size, 0, none⟩) M M) rfl (.tmp 168) (.tmp 170) rfl rfl (hOT4.alloc (by omega) _).tbl rfl (Box.new wr _ _).one rfl hcn (by rw [World.size_alloc]; omega) ?_; intro v5 w5 ho5 hg5 hv5)
                    have hG6 := hG.push hOT hhi' hbw (ho.up (by omega)) (Nat.le_refl _) (Hd.self (by unfold maxLen; omega)) ho5 hg5 hv5
                    go_roundw
                    case rel => exact ⟨K + 1, m + 1, _, HI2, by omega, by go_num, hG6⟩
                    case measure => simp [intOf]; omega
            · obtain rfl : K = N := by omega
              have HI2 := Lib.hid (HI.out.trans cn_j)
              go_wp2_with fail
              go_roundw
              case rel => exact ⟨J + 1, m, xss, HI2, by omega, by go_num, hG⟩
              case measure => simp [intOf]; omega
        · obtain rfl : J = N := by omega
          have HI2 := Lib.hid (HI.out.trans (cn_i rfl))
          go_wp2_with fail
          go_roundw
          case rel => exact ⟨I + 1, m, xss, HI2, by omega, by go_num, hG⟩
          case measure => simp [intOf]; omega
    · obtain rfl : I = N := by omega
      have hX := hX0.below hG.below (by omega)
      have hZ := hZ0.below hG.below (by omega)
      have hq := hq0.trans (hG.below.mono (by omega))
      obtain ⟨A7, c7, rfl, hd7, hst7, hT7⟩ := hG.ret
      have hlen7 := hT7.len
      have hm6 : m ≤ 600 := by have := HLEN.out I 0 0 (by omega) (by omega) (by omega); rw [← HI.out, hlen7] at this; exact this
      have hxs : xss = cd0 I p d := HI.out
      have HTm := Lib.hid (show (m + 199) / 200 = T by rw [HTT.out, ← hxs, hlen7])
      clear HI hlen7
      subst hxs
      obtain ⟨x0, x1, x2⟩ := hX.three
      obtain ⟨z0, z1, z2, z3⟩ := hZ.four
      have zf := hZ.fz
      go_wp2_with fail
      refine (l3Thin_any (B := wr.heap.size) p M m c7 A7 hst7 _ _ hT7.rd hd7 (Nat.le_refl _) (by omega) (by omega) HP.out (fun r hr => (HALL.out r hr).1) (fun r hr => (HALL.out r hr).2)).mono ?_
      rw [HTm.out]
      rintro e w8 ⟨A8, n8, k8, rfl, hd8, hb8, ho8⟩
      have hs8 := hb8.size
      have hZ8 := hZ.below hb8 (by omega)
      clear x0 x1 x2 z0 z1 z2 z3 zf
      obtain ⟨z0, z1, z2, z3⟩ := hZ8.four
      have zf := hZ8.fz
      have hq8 := hq.trans (hb8.mono (by omega))
      go_wp2
      exact bodyPost_ret (v := .agg #[.int .i64 p, .int .i64 (thin p M (chs (cd0 I p d)) T).1, .int .i64 M, .slice A8 n8 k8]) (by simp [results, Try.results111, go_sem, z0, z1, z2, z3]) rfl (retM4 (R := w.heap.size + 1) hq8 ho8 (by omega) (by omega) (Nat.le_refl _) _ _ _ _)
end Go.Proofs.Ytfiganobjjjloaa
