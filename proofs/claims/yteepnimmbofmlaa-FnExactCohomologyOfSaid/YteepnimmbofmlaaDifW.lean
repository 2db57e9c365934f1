/- The differential: the sum over i < j in both orders. No program in sight. -/
import Derived.Test.YteepnimmbofmlaaVfW
import Derived.Test.YteepnimmbofmlaaCbyW
import Derived.Test.YteepnimmbofmlaaTbl
import Derived.Shelf.Slices.Delete
import Derived.Test.YteepnimmbofmlaaGrwT
import Derived.Test.YteepnimmbofmlaaSpa
import Derived.Deep.RegionHeld3
namespace Go.Proofs.Yteepnimmbofmlaa
set_option linter.unusedVariables false
set_option linter.unusedSimpArgs false
set_option maxRecDepth 20000
open Go.RowKit
theorem sI_bd {m : Nat} {c : Int} {f : Nat → Int} (h : ∀ i, i < m → -c ≤ f i ∧ f i ≤ c) : -((m : Int) * c) ≤ sI m f ∧ sI m f ≤ (m : Int) * c := by
  induction m with
  | zero => simp [sI]
  | succ m ih =>
    have h1 := ih fun i hi => h i (by omega)
    have h2 := h m (by omega)
    show _ ≤ sI m f + f m ∧ sI m f + f m ≤ _
    rw [show ((m + 1 : Nat) : Int) * c = (m : Int) * c + c by rw [Int.natCast_add, Int.add_mul]; simp]
    omega
theorem sI_tri (F : Nat → Nat → Int) (K : Nat) : (sI K fun j => sI j fun i => F i j) = sI K fun i => sI (K - (i + 1)) fun t => F i (i + 1 + t) := by
  induction K with
  | zero => rfl
  | succ K ih =>
    have e1 : (sI (K + 1) fun j => sI j fun i => F i j) = (sI K fun j => sI j fun i => F i j) + sI K fun i => F i K := rfl
    have e2 : (sI (K + 1) fun i => sI (K + 1 - (i + 1)) fun t => F i (i + 1 + t)) = (sI K fun i => sI (K + 1 - (i + 1)) fun t => F i (i + 1 + t)) + 0 := by
      show (sI K _) + sI (K + 1 - (K + 1)) _ = _
      rw [Nat.sub_self]; rfl
    have e3 : (sI K fun i => sI (K + 1 - (i + 1)) fun t => F i (i + 1 + t)) = sI K fun i => (sI (K - (i + 1)) fun t => F i (i + 1 + t)) + F i K := by
      refine sI_congr fun i hi => ?_
      rw [show K + 1 - (i + 1) = (K - (i + 1)) + 1 by omega]
      show _ + F i (i + 1 + (K - (i + 1))) = _
      rw [show i + 1 + (K - (i + 1)) = K by omega]
    rw [e1, e2, e3, sI_add, ih]
    omega
/-- the sign of a place -/
def sg2 (m : Nat) : Int := if m % 2 = 1 then -1 else 1
theorem sg2_one (m : Nat) : sg2 m = 1 ∨ sg2 m = -1 := by unfold sg2; split <;> simp
/-- one term of the differential: the list b without its elements j and i -/
def dfF (N : Nat) (p : Int) (d v b : List Int) (i j : Nat) : Int := sg2 (i + j) * vfV N p v (prV N d (gI b i).toNat (gI b j).toNat) ((b.eraseIdx j).eraseIdx i)
theorem dfF_bd {N : Nat} {p : Int} (hp1 : 2 ≤ p) (hp2 : p ≤ 10007) (d v b : List Int) (i j : Nat) : -10007 ≤ dfF N p d v b i j ∧ dfF N p d v b i j ≤ 10007 := by
  unfold dfF
  have h := vfV_bd (N := N) (p := p) (by omega) v (prV N d (gI b i).toNat (gI b j).toNat) ((b.eraseIdx j).eraseIdx i)
  rcases sg2_one (i + j) with e | e <;> rw [e] <;> omega
def dfS (N : Nat) (p : Int) (d v b : List Int) (m : Nat) : Int := sI m fun j => sI j fun i => dfF N p d v b i j
/-- in the other order: the rows i < m whole -/
def dfT (N K : Nat) (p : Int) (d v b : List Int) (m : Nat) : Int := sI m fun i => sI (K - (i + 1)) fun t => dfF N p d v b i (i + 1 + t)
theorem dfT_dfS (N K : Nat) (p : Int) (d v b : List Int) : dfT N K p d v b K = dfS N p d v b K := (sI_tri _ K).symm
theorem dfI_bd {N : Nat} {p : Int} (hp1 : 2 ≤ p) (hp2 : p ≤ 10007) (d v b : List Int) (j : Nat) {m : Nat} (hm : m ≤ 8) : -80056 ≤ (sI m fun i => dfF N p d v b i j) ∧ (sI m fun i => dfF N p d v b i j) ≤ 80056 := by
  have := sI_bd (m := m) (c := 10007) fun i _ => dfF_bd (N := N) hp1 hp2 d v b i j
  omega
theorem dfJ_bd {N : Nat} {p : Int} (hp1 : 2 ≤ p) (hp2 : p ≤ 10007) (d v b : List Int) (i : Nat) {m : Nat} (hm : m ≤ 8) : -80056 ≤ (sI m fun t => dfF N p d v b i (i + 1 + t)) ∧ (sI m fun t => dfF N p d v b i (i + 1 + t)) ≤ 80056 := by
  have := sI_bd (m := m) (c := 10007) fun t _ => dfF_bd (N := N) hp1 hp2 d v b i (i + 1 + t)
  omega
theorem dfS_bd {N : Nat} {p : Int} (hp1 : 2 ≤ p) (hp2 : p ≤ 10007) (d v b : List Int) {m : Nat} (hm : m ≤ 8) : -640448 ≤ dfS N p d v b m ∧ dfS N p d v b m ≤ 640448 := by
  have := sI_bd (m := m) (c := 80056) (f := fun j => sI j fun i => dfF N p d v b i j) fun j hj => dfI_bd hp1 hp2 d v b j (by omega)
  unfold dfS
  omega
theorem dfT_bd {N K : Nat} {p : Int} (hp1 : 2 ≤ p) (hp2 : p ≤ 10007) (d v b : List Int) {m : Nat} (hm : m ≤ 8) (hK : K ≤ 8) : -640448 ≤ dfT N K p d v b m ∧ dfT N K p d v b m ≤ 640448 := by
  have := sI_bd (m := m) (c := 80056) (f := fun i => sI (K - (i + 1)) fun t => dfF N p d v b i (i + 1 + t)) fun i _ => dfJ_bd hp1 hp2 d v b i (by omega)
  unfold dfT
  omega
/-- the numbers of the differential of a cochain of degree K: the first m -/
def dfL (N K : Nat) (p : Int) (d v : List Int) (m : Nat) : List Int := (List.range m).map fun t => dfS N p d v (row (subs N (K + 1) 0) t) (K + 1) % p
theorem dfL_succ (N K : Nat) (p : Int) (d v : List Int) (m : Nat) : dfL N K p d v (m + 1) = dfL N K p d v m ++ [dfS N p d v (row (subs N (K + 1) 0) m) (K + 1) % p] := by simp [dfL, List.range_succ]
theorem dfL_len (N K : Nat) (p : Int) (d v : List Int) (m : Nat) : (dfL N K p d v m).length = m := by simp [dfL]
theorem dfL_res {N K : Nat} {p : Int} (hp : 1 ≤ p) (d v : List Int) (m : Nat) : ∀ x ∈ dfL N K p d v m, 0 ≤ x ∧ x < p := by
  intro x hx
  unfold dfL at hx
  obtain ⟨t, _, rfl⟩ := List.mem_map.1 hx
  exact mod_bd hp
theorem mem_erase2 {b : List Int} {i j : Nat} {x : Int} (h : x ∈ (b.eraseIdx j).eraseIdx i) : x ∈ b := List.mem_of_mem_eraseIdx (List.mem_of_mem_eraseIdx h)
theorem len_erase2 {b : List Int} {i j : Nat} (hi : i < j) (hj : j < b.length) : ((b.eraseIdx j).eraseIdx i).length = b.length - 2 := by
  rw [List.length_eraseIdx, List.length_eraseIdx, if_pos hj, if_pos (by omega)]
  omega
end Go.Proofs.Yteepnimmbofmlaa
namespace Go.Proofs.Yteepnimmbofmlaa
set_option linter.unusedVariables false
set_option linter.unusedSimpArgs false
set_option maxRecDepth 20000
open Go.RowKit Go.Sort
set_option maxHeartbeats 4000000
def delRho : Go.Shelf.Ren where
  f := fun x => if x = 23 then 92 else x
  t := fun x => if x = 0 then 0 else if x = 3 then 3 else if x = 4 then 4 else if x = 22 then 22 else x
  g := fun x => x
theorem delLays : Lays2.n23 Try.prog delRho where
  mixed := by kernel_rfl
  f23 := by kernel_rfl
  t0 := by kernel_rfl
  a0 := by intro w; kernel_rfl
  z0 := by intro w; kernel_rfl
  v0 := by intro w; kernel_rfl
  t3 := by kernel_rfl
  a3 := by intro w; kernel_rfl
  z3 := by intro w; kernel_rfl
  v3 := by intro w; kernel_rfl
  t4 := by kernel_rfl
  a4 := by intro w; kernel_rfl
  z4 := by intro w; kernel_rfl
  v4 := by intro w; kernel_rfl
  t22 := by kernel_rfl
  a22 := by intro w; kernel_rfl
  z22 := by intro w; kernel_rfl
  v22 := by intro w; kernel_rfl
  i3 := by kernel_rfl
/-- a slice of the call's own, without its element i, in its very block -/
def RetDel (B0 B : Nat) (A : Option Addr) (n k : Nat) (xs : List Int) (w : World) (e : Ending) (w' : World) : Prop :=
  e = .returned (.slice A n k) ∧ Chg B0 B w w' ∧ OwI w' B0 B A n xs
theorem holdsI {w : World} {B0 B b o n : Nat} {xs : List Int} (h : OwI w B0 B (some ⟨b, o, none⟩) n xs) (hn : 0 < n) : Holds (Value.int .i64) w b o xs.toArray := by
  intro j hj
  have hl := h.1
  have hj' : j < xs.length := by simpa using hj
  obtain ⟨h1, h2⟩ := h.at_ (j := j) (by omega)
  refine ⟨?_, h2⟩
  rw [h1, gI_lt hj', getElem!_pos _ j (by simpa using hj')]
  simp
theorem heap_putRow_other {w : World} {blk off k : Nat} {d : Array Int} (h : k ≠ blk) : (putRow (Value.int .i64) w blk off d).heap[k]? = w.heap[k]? := by
  simp [putRow, mapBlock, Array.getElem?_modify, Ne.symm h]
theorem delete_any {B0 B : Nat} (n k i : Nat) (J : Int) (A : Option Addr) (xs : List Int) (w : World) (h : OwI w B0 B A n xs) (hd : Hd A n k) (hi : i < n) (hJ : J = (i : Int) + 1) :
    Calls Try.prog 92 #[.slice A n k, .int .i64 i, .int .i64 J] w (RetDel B0 B A (n - 1) k (xs.eraseIdx i) w) := by
  have hl := h.1
  have hm := h.2.1
  obtain ⟨b, o, rfl⟩ := h.addr (by omega)
  obtain ⟨hb0, hb1⟩ := h.blk (by omega)
  have hH := holdsI h (by omega)
  have hk : n ≤ k ∧ k ≤ maxLen := by
    rcases hd with ⟨e, _⟩ | ⟨_, _, _, h1, h2⟩
    · cases e
    · exact ⟨h1, h2⟩
  have hc := Any.slices_Delete_int delLays b o k i (i + 1) xs w hH (by omega) (by have := hk.2; unfold maxLen at this; omega) (by omega) (by omega)
  have e1 : delRho.f 23 = 92 := by kernel_rfl
  rw [e1] at hc
  have e2 : (((i + 1 : Nat) : Int)) = J := by omega
  rw [e2, hl] at hc
  refine hc.mono ?_
  rintro e w' ⟨rfl, q, rfl⟩
  have hdl : (xs.take i ++ xs.drop (i + 1) ++ List.replicate (i + 1 - i) 0).length = xs.length := by
    simp only [List.length_append, List.length_take, List.length_drop, List.length_replicate]; omega
  refine ⟨by rw [show n - (i + 1 - i) = n - 1 by omega], ⟨rfl, rfl, rfl, ?_, fun t ht hh => ?_⟩, ?_, by omega, fun hn => ⟨b, o, rfl, hb0, hb1, fun j hj => ⟨?_, ?_⟩⟩⟩
  · rw [size_putRow]; exact Nat.le_refl _
  · rw [heap_putRow_other (by omega)]; rfl
  · rw [List.length_eraseIdx, if_pos (by omega)]; omega
  · have hh : Holds (Value.int .i64) (Sort.ahead w q) b o xs.toArray := hH
    rw [cell?_putRow (Value.int .i64) _ b o xs.toArray _ hh (by simpa using hdl) j (by rw [List.size_toArray, hdl]; omega)]
    rw [getElem!_pos _ j (by rw [List.size_toArray, hdl]; omega)]
    congr 2
    have hje : j < (xs.eraseIdx i).length := by rw [List.length_eraseIdx, if_pos (by omega)]; omega
    rw [gI_lt hje, List.getElem_toArray]
    simp only [List.eraseIdx_eq_take_drop_succ]
    rw [List.getElem_append_left]
  · rw [frozen?_putRow]
    exact (h.at_ (j := j) (by omega)).2
end Go.Proofs.Yteepnimmbofmlaa
namespace Go.Proofs.Yteepnimmbofmlaa
set_option linter.unusedVariables false
set_option linter.unusedSimpArgs false
set_option maxRecDepth 20000
open Go.RowKit Go.Sort
set_option maxHeartbeats 4000000
theorem sg2_and : ∀ m : Nat, m < 16 → wrap64 (1 - wrap64 (2 * bits BinOp.and IntKind.i64 (m : Int) 1)) = sg2 m := by decide +kernel
theorem Hd.less {A : Option Addr} {n k m : Nat} (h : Hd A n k) (hm : m ≤ n) (hn : 0 < n) : Hd A m k := by
  rcases h with ⟨_, e, _⟩ | ⟨b, o, e, h1, h2⟩
  · omega
  · exact .inr ⟨b, o, e, by omega, h2⟩
theorem sign_any (m : Nat) (x : Int) (w : World) (hx : x = (m : Int)) (hm : m < 16) :
    Calls Try.prog 93 #[.int .i64 x] w (Rv (.int .i64 (sg2 m)) w) := by
  subst hx
  have HS := Lib.hid (sg2_and m hm)
  go_enter Try.func93, Try.ntmps93
  go_wp2
  go_ret
  exact ⟨by rw [← HS.out]; rfl, (by repeat' (first | (with_reducible exact Below.refl _ _) | (with_reducible refine Below.setCell ?_ (by first | exact Nat.le_refl _ | omega | (simp only [World.size_alloc, World.size_setCell, World.heap_drewN]; omega) | (simp; omega)) _) | (with_reducible refine Below.alloc ?_ (by first | exact Nat.le_refl _ | omega | (simp only [World.size_alloc, World.size_setCell, World.heap_drewN]; omega) | (simp; omega)) _) | (with_reducible refine below_drewN ?_ _) | (with_reducible refine Below.drew ?_)))⟩
set_option maxRecDepth 100000 in
theorem differential_any {B : Nat} (p : Int) (N K n k m km : Nat) (A Am : Option Addr) (d v : List Int) (w : World) (h : RdI w B A n d) (hd : Hd A n k) (hm : RdI w B Am m v) (hB : B ≤ w.heap.size) (hN : N ≤ 7) (hK : K + 1 ≤ N) (hl : n = N * N * N) (hmv : m = (subs N K 0).length) (hp1 : 2 ≤ p) (hp2 : p ≤ 10007) (hr : resB d p = true) (hrv : ∀ j, 0 ≤ gI v j ∧ gI v j < p) :
    Calls Try.prog 75 #[.agg #[.int .i64 p, .int .i64 N, .slice A n k], .int .i64 K, .slice Am m km] w (RetI (dfL N K p d v (subs N (K + 1) 0).length) w) := by
  have HL := Lib.hid hl
  have HMV := Lib.hid hmv
  have HR := Lib.hid (show ∀ i j, i < N → j < N → ∀ t, 0 ≤ gI (prV N d i j) t ∧ gI (prV N d i j) t < p from fun i j _ _ t => gI_res (by omega) (resB_sub (by omega) hr) t)
  have HRV := Lib.hid hrv
  have hSL : (subs N (K + 1) 0).length ≤ 5764801 := Nat.le_trans (subs_count N (K + 1) 0) (pow_bd hN (by omega))
  have hx0 := (Box.new w #[.int .i64 p, .int .i64 N, .slice A n k] 55).alloc (.cells #[] 3)
  have g10 := (h.alloc hB (.cells #[.int .i64 p, .int .i64 N, .slice A n k] 55)).alloc (by simp; omega) (.cells #[] 3)
  have g20 := (hm.alloc hB (.cells #[.int .i64 p, .int .i64 N, .slice A n k] 55)).alloc (by simp; omega) (.cells #[] 3)
  have hq0 : Below w.heap.size w ((w.alloc (.cells #[.int .i64 p, .int .i64 N, .slice A n k] 55)).alloc (.cells #[] 3)) := (by repeat' (first | (with_reducible exact Below.refl _ _) | (with_reducible refine Below.setCell ?_ (by first | exact Nat.le_refl _ | omega | (simp only [World.size_alloc, World.size_setCell, World.heap_drewN]; omega) | (simp; omega)) _) | (with_reducible refine Below.alloc ?_ (by first | exact Nat.le_refl _ | omega | (simp only [World.size_alloc, World.size_setCell, World.heap_drewN]; omega) | (simp; omega)) _) | (with_reducible refine below_drewN ?_ _) | (with_reducible refine Below.drew ?_)))
  obtain ⟨x0, x1, x2⟩ := hx0.three
  clear hl hmv hr hrv h hm
  go_enter Try.func75, Try.ntmps75
  go_wp2_with fail
  refine (iSubs_any N hN (K + 1) ((K : Int) + 1) 0 0 _ (by omega) (by omega) (Lib.hid (by omega)) (Lib.hid rfl)).mono ?_
  rintro e w4 ⟨A4, n4, k4, rfl, hd4, hb4, hs4', hT4⟩
  obtain rfl : (subs N (K + 1) 0).length = n4 := hT4.len
  simp only [World.size_alloc] at hb4 hT4
  have hs4 := hb4.size
  simp only [World.size_alloc] at hs4
  have hG := Grw.start' (w.alloc (.cells #[.int .i64 p, .int .i64 N, .slice A n k] 55)) 3 rfl (by rw [World.size_alloc]; exact hb4)
  rw [World.size_alloc] at hG
  have hx := hx0.below hb4 (by omega)
  have g1 := g10.below hb4 (by omega)
  have g2 := g20.below hb4 (by omega)
  have hq := hq0.trans (hb4.mono (by omega))
  clear x0 x1 x2 hb4 hx0 g10 g20 hq0
  go_wp2_with fail
  go_loopw [7, 21] (fun u i wr => ∃ j : Nat, j ≤ (subs N (K + 1) 0).length ∧ i = .int .i64 j ∧ Grw (w.heap.size + 1) w4 wr u j (dfL N K p d v j)) (fun _ i _ => (subs N (K + 1) 0).length - (intOf i).toNat)
  case atStart => exact ⟨0, by omega, rfl, hG⟩
  case round =>
    clear hG
    obtain ⟨s, hs, rfl, hG⟩ := hrel
    have hsz := hG.size
    by_cases hlt : s < (subs N (K + 1) 0).length
    · have hbg := hG.below
      have hTr := (hT4.chgHi hG.chg (by omega) (Nat.le_refl _)).rd
      obtain ⟨bT, oT, rfl, hbT, hcT⟩ := hTr.tbl (by omega)
      have hci := hcT s hlt
      unfold slv at hci
      obtain ⟨hr, hdd⟩ := hTr.rows s hlt
      have hrl : (Go.Proofs.Yteepnimmbofmlaa.hdr hs4' s).2.1 = K + 1 := by rw [← hr.1]; exact subs_row hlt
      rw [hrl] at hr hdd hci
      obtain ⟨Ar, hAr⟩ : ∃ Ar, Ar = (Go.Proofs.Yteepnimmbofmlaa.hdr hs4' s).1 := ⟨_, rfl⟩
      obtain ⟨kr, hkr⟩ : ∃ kr, kr = (Go.Proofs.Yteepnimmbofmlaa.hdr hs4' s).2.2 := ⟨_, rfl⟩
      rw [← hAr, ← hkr] at hci hdd
      rw [← hAr] at hr
      have HS := Lib.hid (dfL_succ N K p d v s)
      have HRW := Lib.hid (show ∀ e ∈ row (subs N (K + 1) 0) s, 0 ≤ e ∧ e < N from fun e he => subs_rng N (K + 1) 0 (row (subs N (K + 1) 0) s) (by rw [row_lt hlt]; exact List.getElem_mem hlt) e he)
      have HBL := Lib.hid (show (row (subs N (K + 1) 0) s).length = K + 1 from subs_row hlt)
      generalize row (subs N (K + 1) 0) s = b at *
      obtain ⟨bb, ob, rfl⟩ := hr.addr (by omega)
      have hxr := hx.below hbg (by omega)
      have g1r := (g1.below hbg (by omega))
      have g2r := (g2.below hbg (by omega))
      obtain ⟨wo, rfl⟩ : ∃ wo : World, wo = wr := ⟨_, rfl⟩
      clear hcT hTr hAr hkr hbg
      go_wp2_with fail
      go_loopw [10, 27] (fun u i wi => ∃ j : Nat, j ≤ K + 1 ∧ i = .int .i64 j ∧ u = .int .i64 (dfS N p d v b j) ∧ Below wo.heap.size wo wi) (fun _ i _ => K + 1 - (intOf i).toNat)
      case atStart => exact ⟨0, by omega, rfl, rfl, Below.refl _ _⟩
      case round =>
        obtain ⟨j, hj, rfl, rfl, hbo⟩ := hrel
        have hszo := hbo.size
        by_cases hltj : j < K + 1
        · have hxj := hxr.below hbo (by omega)
          have hdec : decide ((j : Int) < (K : Int) + 1) = true := by simp; omega
          obtain ⟨wj, rfl⟩ : ∃ wj : World, wj = wr := ⟨_, rfl⟩
          have hdb := dfS_bd (N := N) hp1 hp2 d v b (m := j) (by omega)
          have HJS := Lib.hid (show dfS N p d v b (j + 1) = dfS N p d v b j + sI j (fun i => dfF N p d v b i j) from rfl)
          generalize dfS N p d v b j = S at *
          go_wp2_with fail
          go_loopw [10, 31] (fun u i wi => ∃ (i' : Nat) (T : Int), i' ≤ j ∧ i = .int .i64 i' ∧ u = .int .i64 (S + T) ∧ Hid (T = sI i' (fun i => dfF N p d v b i j)) ∧ Below wj.heap.size wj wi) (fun _ i _ => j - (intOf i).toNat)
          case atStart => exact ⟨0, 0, by omega, rfl, by simp, Lib.hid rfl, Below.refl _ _⟩
          case round =>
            obtain ⟨i, T0, hi, rfl, rfl, HT0, hbj⟩ := hrel
            have hszj := hbj.size
            by_cases hlti : i < j
            · have hxi := hxj.below hbj (by omega)
              have hbw := hbo.trans (hbj.mono hszo)
              have hri := hr.below hbw (by omega)
              have g1i := g1r.below hbw (by omega)
              have g2i := g2r.below hbw (by omega)
              obtain ⟨wi, rfl⟩ : ∃ wi : World, wi = wr := ⟨_, rfl⟩
              go_wp2_with fail
              refine (clone_any (B := w4.heap.size) (some ⟨bb, ob, none⟩) (K + 1) kr b _ hri hdd (by omega) (by omega)).mono ?_
              rintro e w5 ⟨A5, n5, c5, rfl, hd5, hb5, ho5⟩
              obtain rfl : K + 1 = n5 := by rw [← HBL.out]; exact ho5.1
              have hs5 := hb5.size
              go_wp2_with fail
              refine (delete_any (K + 1) c5 j ((j : Int) + 1) A5 b _ ho5 hd5 hltj rfl).mono ?_
              rintro e w6 ⟨rfl, hc6, ho6⟩
              have hs6 := hc6.size
              go_wp2_with fail
              refine (delete_any (K + 1 - 1) c5 i ((i : Int) + 1) A5 (b.eraseIdx j) _ ho6 (hd5.less (by omega) (by omega)) (by omega) rfl).mono ?_
              rintro e w7 ⟨rfl, hc7, ho7⟩
              have hs7 := hc7.size
              have hd7 := hd5.less (show K - 1 ≤ K + 1 by omega) (by omega)
              rw [show K + 1 - 1 - 1 = K - 1 by omega] at ho7
              have hb7 : Below wi.heap.size wi w7 := (hb5.trans (hc6.below (by omega))).trans (hc7.below (by omega))
              have hx7 := hxi.below hb7 (by omega)
              have hr7 := hri.below hb7 (by omega)
              have g17 := g1i.below hb7 (by omega)
              have g27 := g2i.below hb7 (by omega)
              obtain ⟨x0, x1, x2⟩ := hx7.three
              clear ho5 ho6 hc6 hc7 hb5
              obtain ⟨bi, hbi, hbiN⟩ : ∃ t : Nat, gI b i = t ∧ t < N := by
                have := HRW.out (gI b i) (gI_mem (by rw [HBL.out]; omega))
                exact ⟨(gI b i).toNat, by omega, by omega⟩
              obtain ⟨bj, hbj', hbjN⟩ : ∃ t : Nat, gI b j = t ∧ t < N := by
                have := HRW.out (gI b j) (gI_mem (by rw [HBL.out]; omega))
                exact ⟨(gI b j).toNat, by omega, by omega⟩
              have ei := hr7.at_ (j := i) (by omega)
              have ej := hr7.at_ (j := j) (by omega)
              have HF := Lib.hid (show dfF N p d v b i j = sg2 (i + j) * vfV N p v (prV N d bi bj) ((b.eraseIdx j).eraseIdx i) by unfold dfF; rw [hbi, hbj']; rfl)
              rw [hbi] at ei
              rw [hbj'] at ej
              obtain ⟨A', k', hd', hp', hpair⟩ := pair_any (p := p) (k := k) hd HL.out hbiN hbjN (by omega)
              have hpr := hp' _ _ _ g17
              have hsg := sg2_one (i + j)
              have hvb := vfV_bd (N := N) (p := p) (by omega) v (prV N d bi bj) ((b.eraseIdx j).eraseIdx i)
              have hTb := dfI_bd (N := N) hp1 hp2 d v b j (m := i) (by omega)
              rw [← HT0.out] at hTb
              have HT := Lib.hid (show T0 + dfF N p d v b i j = sI (i + 1) (fun i => dfF N p d v b i j) by rw [HT0.out]; rfl)
              have cV : ∀ d' os, Calls Try.prog 94 #[.agg #[.int .i64 p, .int .i64 N, .slice A n k], .slice Am m km, .slice A' N k', .slice A5 (K - 1) c5] (grow (redrawn w7 d') os) fun e w'' => e = .returned (.int .i64 (vfV N p v (prV N d bi bj) ((b.eraseIdx j).eraseIdx i))) ∧ ∃ pp : Regrown, w'' = grow (redrawn w7 pp.d) pp.os :=
                fun d' os => Calls.regrown_of (valueFor_any (B := w7.heap.size) p N n k m km k' (K - 1) c5 A Am A' A5 v (prV N d bi bj) ((b.eraseIdx j).eraseIdx i) _ ((g27.below (below_regrown w7 d' os) (by omega)).up (by omega)) ((hpr.below (below_regrown w7 d' os) (by omega)).up (by omega)) ((ho7.rd.below (below_regrown w7 d' os) (by omega)).up (by omega)) hd7 (below_regrown w7 d' os).size hN (by omega) (by rw [show K - 1 + 1 = K by omega]; exact HMV.out) hp1 hp2 HRV.out (HR.out bi bj hbiN hbjN) (fun x hx => HRW.out x (mem_erase2 hx)))
              have cP : ∀ d' os, Calls Try.prog 60 #[.agg #[.int .i64 p, .int .i64 N, .slice A n k], .int .i64 bi, .int .i64 bj] (grow (redrawn w7 d') os) fun e w'' => e = .returned (.slice A' N k') ∧ ∃ pp : Regrown, w'' = grow (redrawn w7 pp.d) pp.os :=
                fun d' os => Calls.regrown_of (hpair _)
              have cS : ∀ d' os, Calls Try.prog 93 #[.int .i64 ((i : Int) + (j : Int))] (grow (redrawn w7 d') os) fun e w'' => e = .returned (.int .i64 (sg2 (i + j))) ∧ ∃ pp : Regrown, w'' = grow (redrawn w7 pp.d) pp.os :=
                fun d' os => Calls.regrown_of (sign_any (i + j) _ _ (by omega) (by omega))
              rw [HF.out] at HT
              generalize vfV N p v (prV N d bi bj) ((b.eraseIdx j).eraseIdx i) = y at *
              generalize sg2 (i + j) = sg at *
              have hyb : -10007 ≤ sg * y ∧ sg * y ≤ 10007 := by rcases hsg with e | e <;> rw [e] <;> omega
              have hw1 : IntKind.i64.wrap (sg * y) = sg * y := IntWalk.i64_in _ (by omega)
              have hw2 : IntKind.i64.wrap (S + T0 + sg * y) = S + T0 + sg * y := IntWalk.i64_in _ (by omega)
              have q0 := cell_regrown x0
              have q1 := cell_regrown x1
              have q2 := cell_regrown x2
              have qi := cell_regrown ei
              have qj := cell_regrown ej
              clear x0 x1 x2 ei ej hp' hpair HF hbi hbj' hsg hvb hTb
              go_wp2_with fail
              (refine wp_region_quiet_below (w := w7) (by kernel_rfl) (by kernel_rfl) ?_; (repeat (go_big_quiet_step (first | with_reducible exact cV _ _ | with_reducible exact cP _ _ | with_reducible exact cS _ _))); refine wpQuiet_nil ?_; rintro W ⟨pp, hW⟩; have hbW : Below w7.heap.size w7 W := hW ▸ below_regrown _ _ _; clear hW)
              clear q0 q1 q2 qi qj cV cP cS hx7 hr7 g17 g27 ho7
              go_wp2
              go_roundw
              case rel => exact ⟨i + 1, T0 + sg * y, by omega, by go_num, by rw [Int.add_assoc], HT, (by repeat' (first | (with_reducible exact Below.refl _ _) | (with_reducible refine Below.setCell ?_ (by first | exact Nat.le_refl _ | omega | (simp only [World.size_alloc, World.size_setCell, World.heap_drewN]; omega) | (simp; omega)) _) | (with_reducible refine Below.alloc ?_ (by first | exact Nat.le_refl _ | omega | (simp only [World.size_alloc, World.size_setCell, World.heap_drewN]; omega) | (simp; omega)) _) | (with_reducible refine below_drewN ?_ _) | (with_reducible refine Below.drew ?_) | (with_reducible refine Below.trans ?_ (hbW.mono (by first | exact Nat.le_refl _ | omega | (simp only [World.size_alloc, World.size_setCell, World.heap_drewN]; omega) | (simp; omega)))) | (with_reducible refine Below.trans ?_ (hb7.mono (by first | exact Nat.le_refl _ | omega | (simp only [World.size_alloc, World.size_setCell, World.heap_drewN]; omega) | (simp; omega)))) | (with_reducible refine Below.trans ?_ (hbj.mono (by first | exact Nat.le_refl _ | omega | (simp only [World.size_alloc, World.size_setCell, World.heap_drewN]; omega) | (simp; omega))))))⟩
              case measure => simp [intOf]; omega
            · obtain rfl : i = j := by omega
              rw [← HT0.out] at HJS
              go_wp2
              go_roundw
              case rel => exact ⟨i + 1, by omega, by go_num, by rw [HJS.out], (by repeat' (first | (with_reducible exact Below.refl _ _) | (with_reducible refine Below.setCell ?_ (by first | exact Nat.le_refl _ | omega | (simp only [World.size_alloc, World.size_setCell, World.heap_drewN]; omega) | (simp; omega)) _) | (with_reducible refine Below.alloc ?_ (by first | exact Nat.le_refl _ | omega | (simp only [World.size_alloc, World.size_setCell, World.heap_drewN]; omega) | (simp; omega)) _) | (with_reducible refine below_drewN ?_ _) | (with_reducible refine Below.drew ?_) | (with_reducible refine Below.trans ?_ (hbj.mono (by first | exact Nat.le_refl _ | omega | (simp only [World.size_alloc, World.size_setCell, World.heap_drewN]; omega) | (simp; omega)))) | (with_reducible refine Below.trans ?_ (hbo.mono (by first | exact Nat.le_refl _ | omega | (simp only [World.size_alloc, World.size_setCell, World.heap_drewN]; omega) | (simp; omega))))))⟩
              case measure => simp [intOf]; omega
        · obtain rfl : j = K + 1 := by omega
          have hG6 := hG.step hbo
          have hxj := hxr.below hbo (by omega)
          obtain ⟨y, hy⟩ : ∃ y, y = dfS N p d v b (K + 1) % p := ⟨_, rfl⟩
          have HY := Lib.hid (show dfS N p d v b (K + 1) % p = y from hy.symm)
          rw [← hy] at HS
          have hcn : s + 1 ≤ 1073741824 := by omega
          have hT2 := hG6.own.alloc (.cells #[.int .i64 y] 3)
          have hRO := RdI.one wr y 3
          obtain ⟨x0, x1, x2⟩ := hxj.three
          clear hy hG
          go_wp2_with (first | (go_at_call 78; refine (mod_any _ p _ (by omega) (by omega)).mono ?_; rw [HY.out]; rintro e w6 ⟨rfl, rfl⟩) | (at_builtin; refine wpList_apI (v := u7) (w := wr.alloc (.cells #[.int .i64 y] 3)) (lo := w.heap.size + 1) (n := s) (xs := dfL N K p d v s) (ys := [y]) (m := 1) rfl (.tmp 67) (.tmp 72) rfl rfl hT2 rfl hRO (Hd.self (by unfold maxLen; omega)) hcn (by simp; omega) ?_; intro v2 w7 ho2 hg2 hv2))
          have HT := Lib.hid (hG6.push ho2 hg2 hv2)
          clear hG6 hT2 hRO ho2 hg2 hv2 x0 x1 x2
          go_wp2
          go_roundw
          case rel => exact ⟨s + 1, by omega, by go_num, by rw [HS.out]; exact HT.out⟩
          case measure => simp [intOf]; omega
    · obtain hje : (subs N (K + 1) 0).length = s := by omega
      obtain ⟨Ae, ce, rfl, hde, hoe⟩ := hG.ret (by omega)
      have HJ := Lib.hid hje
      have hqr := hq.trans (hG.below.mono (by omega))
      clear hje
      go_wp2
      go_ret
      rw [HJ.out]
      exact ⟨_, _, _, rfl, hde, hqr, hoe.down (by omega)⟩
end Go.Proofs.Yteepnimmbofmlaa
