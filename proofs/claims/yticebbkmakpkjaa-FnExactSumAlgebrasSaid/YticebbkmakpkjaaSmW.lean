/- SumAlgebras of the program. No condition but what each theorem names. -/
import Derived.Test.YticebbkmakpkjaaTbyW
import Derived.Test.YticebbkmakpkjaaWoW
import Derived.Test.YticebbkmakpkjaaAIkW
import Derived.Laws.IdiomCopy
namespace Go.Proofs.Yticebbkmakpkjaa
set_option linter.unusedVariables false
set_option linter.unusedSimpArgs false
set_option maxRecDepth 20000
open Go.RowKit Go.Sort
set_option maxHeartbeats 4000000
theorem wpList_cp (w : World) {ops : Array Oper} {rest : List Oper} {o : Oper} {a : Act} {Q : Exit → Act → World → Prop} (hgd : o.guard = none) (d s : Operand) (t t' : TypeId)
    (ho : o.op = .call { callee := .builtin .copy, args := #[d, s], argTypes := #[t, t'] }) (v u : Value) (hd : a.eval d = v) (hs : a.eval s = u) {v' : Value} {w' : World}
    (hr : (Builtin.copy_ #[t, t'] o.type #[v, u]).run Try.prog w = .ok v' w') (h : wpList Try.prog ops Q rest (a.put o.dst v') w') : wpList Try.prog ops Q (o :: rest) a w := by
  refine wpList_plain hgd fun K hK => ?_
  unfold Oper.wp execOp
  simp only [ho, resolve, invoke, builtin, Sem.run_bind, Sem.run_pure, Result.andThen_ok, List.map_toArray, List.map_cons, List.map_nil, hd, hs, hr]
  exact hK _ _ h
/-- numbers laid over a list from a place on -/
def putL (xs : List Int) : Nat → List Int → List Int
  | _, [] => xs
  | off, y :: ys => putL (xs.set off y) (off + 1) ys
theorem putL_len (ys : List Int) : ∀ (xs : List Int) (off : Nat), (putL xs off ys).length = xs.length := by
  induction ys with
  | nil => intro xs off; rfl
  | cons y ys ih => intro xs off; rw [putL, ih]; simp
theorem putL_get (ys : List Int) : ∀ (xs : List Int) (off : Nat), off + ys.length ≤ xs.length → ∀ t, gI (putL xs off ys) t = if off ≤ t ∧ t < off + ys.length then gI ys (t - off) else gI xs t := by
  induction ys with
  | nil => intro xs off _ t; rw [putL, if_neg (by simp only [List.length_nil]; omega)]
  | cons y ys ih =>
    intro xs off hl t
    simp only [List.length_cons] at hl
    rw [putL, ih _ _ (by rw [List.length_set]; omega), gI_set _ _ _ _ (by omega)]
    simp only [List.length_cons]
    by_cases e : t = off
    · subst e
      rw [if_neg (by omega), if_pos rfl, if_pos (by omega), Nat.sub_self]; rfl
    · by_cases e2 : off + 1 ≤ t ∧ t < off + 1 + ys.length
      · rw [if_pos e2, if_pos (by omega)]
        rw [show t - off = (t - (off + 1)) + 1 by omega]
        rfl
      · rw [if_neg e2, if_neg e, if_neg (by omega)]
theorem OwI.stores {B0 B b o n : Nat} (ys : List Int) : ∀ {w : World} {xs : List Int} (off : Nat), OwI w B0 B (some ⟨b, o, none⟩) n xs → off + ys.length ≤ n → OwI (w.setCells b (o + off) (ys.map (Value.int .i64))) B0 B (some ⟨b, o, none⟩) n (putL xs off ys) := by
  induction ys with
  | nil => intro w xs off h _; exact h
  | cons y ys ih =>
    intro w xs off h hl
    simp only [List.length_cons] at hl
    exact ih (off + 1) (h.store (v := y) (by omega)) (by omega)
theorem Chg.stores {B0 B b : Nat} (h0 : B0 ≤ b) (h1 : b < B) : ∀ (vs : List Value) (o : Nat) {a w : World}, Chg B0 B a w → Chg B0 B a (w.setCells b o vs)
  | [], _, _, _, h => h
  | v :: r, o, _, _, h => Chg.stores h0 h1 r (o + 1) (h.setCell (p := ⟨b, o, none⟩) h0 h1 v)
/-- 'copy(d, s)': d the call's own, s any, no longer than d -/
theorem run_cpI {w : World} {B0 B Bs b o n n1 c1 off m c : Nat} {A : Option Addr} {xs ys : List Int} (ty : TypeId) (h : OwI w B0 B (some ⟨b, o, none⟩) n xs) (hoff : off + n1 ≤ n) (hs : RdI w Bs A m ys) (hm : m ≤ n1) (hpos : 0 < m) :
    (Builtin.copy_ #[22, 22] ty #[.slice (some ⟨b, o + off, none⟩) n1 c1, .slice A m c]).run Try.prog w = .ok (.int .i64 (m : Int)) (w.setCells b (o + off) (ys.map (Value.int .i64))) := by
  obtain ⟨b', o', rfl, hb, hcs⟩ := hs.2.2 hpos
  have hl := hs.1
  have := run_copy_cells (P := Try.prog) w 22 22 ty 3 b (o + off) n1 c1 ⟨b', o', none⟩ m c (ys.map (Value.int .i64)) Try.underlying22 (by kernel_rfl) (by rw [List.length_map, hl]; exact (Nat.min_eq_left hm).symm)
    (fun j v hj => by
      have hjl : j < ys.length := by
        rcases Nat.lt_or_ge j ys.length with h | h
        · exact h
        · rw [List.getElem?_eq_none (by simpa using h)] at hj; cases hj
      rw [add_mk, hcs j (by omega)]
      simp [hjl] at hj
      rw [← hj, gI_lt hjl])
    (fun j hj => by
      rw [List.length_map] at hj
      have := (h.at_ (j := off + j) (by omega)).1
      rw [show o + off + j = o + (off + j) by omega, this]; rfl)
    (fun j hj => by
      rw [List.length_map] at hj
      rw [show o + off + j = o + (off + j) by omega]
      exact (h.at_ (j := off + j) (by omega)).2)
    (fun u hu => by obtain ⟨q, _, rfl⟩ := List.mem_map.1 hu; rfl)
  rw [this]
  rw [List.length_map, hl]
  rfl
theorem isuf_at {b o n k lo : Nat} (L : Int) (hL : L = lo) (h1 : lo ≤ n) (h2 : n ≤ k) (h3 : lo < k) (hk : k ≤ maxLen) :
    ∀ w : World, Sem.run Try.prog (Instr.sliceAt 22 (.slice (some ⟨b, o, none⟩) n k) (some (.int .i64 L)) none none) w = .ok (.slice (some ⟨b, o + lo, none⟩) (n - lo) (k - lo)) w := by
  subst hL
  unfold maxLen at hk
  intro w
  rw [run_sliceAt_slice _ _ _ _ _ _ Try.underlying22, run_slice_l _ _ _ _ _ Try.underlying22 _ _ (by omega) (by omega)]
  simp only [Int.toNat_natCast, sliced, if_neg (show ¬ k = lo by omega)]
  have : (sizeOf (Program.elem Try.prog 22)).run Try.prog w = .ok 1 w := by kernel_rfl
  rw [this]
  simp [Result.andThen, Addr.add]
/-- the bracket of two basis elements of a sum -/
def smL (N1 N2 : Nat) (d1 d2 : List Int) (i j : Nat) : List Int :=
  (List.range (N1 + N2)).map fun c => if i < N1 then (if c < N1 then tA N1 d1 i j c else 0) else if N1 ≤ j ∧ N1 ≤ c then tA N2 d2 (i - N1) (j - N1) (c - N1) else 0
theorem smL_len (N1 N2 : Nat) (d1 d2 : List Int) (i j : Nat) : (smL N1 N2 d1 d2 i j).length = N1 + N2 := by simp [smL]
theorem smL_get {N1 N2 c : Nat} (d1 d2 : List Int) (i j : Nat) (hc : c < N1 + N2) : gI (smL N1 N2 d1 d2 i j) c = if i < N1 then (if c < N1 then tA N1 d1 i j c else 0) else if N1 ≤ j ∧ N1 ≤ c then tA N2 d2 (i - N1) (j - N1) (c - N1) else 0 := by
  rw [gI_lt (by rw [smL_len]; exact hc)]
  simp [smL]
theorem gI_rep0 (n t : Nat) : gI (List.replicate n (0 : Int)) t = 0 := by
  rcases Nat.lt_or_ge t n with h | h
  · rw [gI_lt (by simpa using h)]; simp
  · rw [gI_ge (by simpa using h)]
theorem smL_a {N1 N2 i j : Nat} {d1 d2 : List Int} (hi : i < N1) (hl : (prV N1 d1 i j).length = N1) : putL (List.replicate (N1 + N2) 0) 0 (prV N1 d1 i j) = smL N1 N2 d1 d2 i j := by
  refine ext_gI (by rw [putL_len, smL_len]; simp) fun t ht => ?_
  rw [putL_len, List.length_replicate] at ht
  rw [putL_get _ _ _ (by rw [hl]; simp), smL_get d1 d2 i j ht, hl, if_pos hi, gI_rep0]
  by_cases e : t < N1
  · rw [if_pos (by omega), if_pos e, Nat.sub_zero, prV_get e]
  · rw [if_neg (by omega), if_neg e]
theorem smL_b {N1 N2 i j : Nat} {d1 d2 : List Int} (hi : N1 ≤ i) (hj : j < N1) : List.replicate (N1 + N2) 0 = smL N1 N2 d1 d2 i j := by
  refine ext_gI (by rw [smL_len]; simp) fun t ht => ?_
  rw [List.length_replicate] at ht
  rw [smL_get d1 d2 i j ht, gI_rep0, if_neg (by omega), if_neg (by omega)]
theorem smL_c {N1 N2 i j : Nat} {d1 d2 : List Int} (hi : N1 ≤ i) (hj : N1 ≤ j) (hl : (prV N2 d2 (i - N1) (j - N1)).length = N2) : putL (List.replicate (N1 + N2) 0) N1 (prV N2 d2 (i - N1) (j - N1)) = smL N1 N2 d1 d2 i j := by
  refine ext_gI (by rw [putL_len, smL_len]; simp) fun t ht => ?_
  rw [putL_len, List.length_replicate] at ht
  rw [putL_get _ _ _ (by rw [hl]; simp), smL_get d1 d2 i j ht, hl, gI_rep0]
  by_cases e : N1 ≤ t
  · rw [if_pos (by omega), if_neg (by omega), if_pos (by omega), prV_get (by omega)]
  · rw [if_neg (by omega), if_neg (by omega), if_neg (by omega)]
set_option maxRecDepth 100000 in
theorem smC_any {B : Nat} (p : Int) (N1 N2 i j n1 k1 n2 k2 ga gb gx gy : Nat) (A1 A2 : Option Addr) (d1 d2 : List Int) (w : World) (h1 : RdI w B A1 n1 d1) (hd1 : Hd A1 n1 k1) (h2 : RdI w B A2 n2 d2) (hd2 : Hd A2 n2 k2) (hB : B ≤ w.heap.size) (hN : N1 + N2 ≤ 28) (hl1 : n1 = N1 * N1 * N1) (hl2 : n2 = N2 * N2 * N2) (hj : j < i) (hi : i < N1 + N2)
    (ba : Box w ga #[.int .i64 p, .int .i64 N1, .slice A1 n1 k1]) (bb : Box w gb #[.int .i64 p, .int .i64 N2, .slice A2 n2 k2]) (bx : Box w gx #[.int .i64 p, .int .i64 N1, .slice A1 n1 k1]) (bY : Box w gy #[.int .i64 p, .int .i64 N2, .slice A2 n2 k2]) :
    Calls Try.prog 111 #[.int .i64 i, .int .i64 j, .pointer (some ⟨ga, 0, none⟩), .pointer (some ⟨gb, 0, none⟩), .pointer (some ⟨gx, 0, none⟩), .pointer (some ⟨gy, 0, none⟩)] w (RetI (smL N1 N2 d1 d2 i j) w) := by
  have HL1 := Lib.hid hl1
  have HL2 := Lib.hid hl2
  have HD1 := Lib.hid h1.1
  have HD2 := Lib.hid h2.1
  obtain ⟨M, hM⟩ : ∃ M, M = N1 + N2 := ⟨_, rfl⟩
  have HM := Lib.hid hM
  have hMw : IntKind.i64.wrap ((N1 : Int) + (N2 : Int)) = (M : Int) := by rw [show (N1 : Int) + (N2 : Int) = (M : Int) by omega]; exact IntWalk.i64_in _ (by omega)
  have hM28 : M ≤ 28 := by omega
  have hM1 : N1 + N2 ≤ M := by omega
  have hM2 : M ≤ N1 + N2 := by omega
  obtain ⟨xa0, xa1, xa2⟩ := ba.three
  obtain ⟨xb0, xb1, xb2⟩ := bb.three
  have ba0 := ba
  have bb0 := bb
  have bx0 := bx
  have by0 := bY
  clear hl1 hl2 hM
  go_enter Try.func111, Try.ntmps111
  have hgx : ∀ {g : Nat} {vs : Array Value}, Box w g vs → g < w.heap.size := fun h => h.lt
  by_cases hiN : i < N1
  · have hdi : decide ((i : Int) < (N1 : Int)) = true := by simp; omega
    have hdj : decide ((N1 : Int) ≤ (j : Int)) = false := by simp; omega
    obtain ⟨A', k', hd', hp', hpair⟩ := pair_any (p := p) (k := k1) hd1 HL1.out hiN (show j < N1 by omega) (by omega)
    have HSM := Lib.hid (smL_a (N2 := N2) (d2 := d2) hiN (prV_len (by rw [HD1.out]; exact HL1.out) hiN (show j < N1 by omega)))
    rw [← HM.out] at HSM
    go_wp2_with (at_make; refine wpList_mkI _ rfl _ _ 22 rfl 3 Try.underlying22 Try.infoI .i64 .i64 _ _ M rfl rfl rfl rfl (by omega) ?_; intro w1 ho hb hs; have ba := ba.step hb; have bb := bb.step hb; have bx := bx.step hb; have bY := bY.step hb; have h1 := h1.below hb hB; have h2 := h2.below hb hB; clear xa0 xa1 xa2 xb0 xb1 xb2; obtain ⟨xa0, xa1, xa2⟩ := ba.three; obtain ⟨xx0, xx1, xx2⟩ := bx.three; obtain ⟨xy0, xy1, xy2⟩ := bY.three; have ho := ho.tight)
    refine (hpair _).mono ?_
    rintro e w2 ⟨rfl, hb2⟩
    have hpr := (hp' _ _ _ h1).below hb2 (by omega)
    have ho2 := ho.below hb2 (by omega)
    have hcp := run_cpI (off := 0) (n1 := M) (c1 := M) (c := k') 3 ho2 (by omega) hpr (by omega) (by omega)
    have hst := ho2.stores (prV N1 d1 i j) 0 (by rw [hpr.1]; omega)
    have hcg := (Chg.ofBelow (B0 := w.heap.size) (B := w.heap.size + 1) hb2 (Nat.le_refl _)).trans (Chg.stores (Nat.le_refl _) (Nat.lt_succ_self _) ((prV N1 d1 i j).map (Value.int .i64)) (0 + 0) (Chg.refl _ _ _))
    rw [HSM.out] at hst
    have ba := ba.chg hcg (.inl (hgx ba0))
    rw [Nat.zero_add] at hcp hst hcg
    clear xa0 xa1 xa2 xx0 xx1 xx2 xy0 xy1 xy2
    obtain ⟨xa0, xa1, xa2⟩ := ba.three
    go_wp2_with (at_builtin; refine wpList_cp w2 rfl (.tmp 20) (.tmp 24) 22 22 rfl _ _ rfl rfl (by exact hcp) ?_)
    go_ret
    have hbe : Below w.heap.size w (w2.setCells w.heap.size 0 ((prV N1 d1 i j).map (Value.int .i64))) := hb.trans (hcg.below (by omega))
    refine ⟨_, _, _, rfl, Hd.self (by unfold maxLen; omega), hbe, hst.up (by have := hcg.size; omega)⟩
  · have hdi : decide ((i : Int) < (N1 : Int)) = false := by simp; omega
    by_cases hjN : j < N1
    · have hdj : decide ((N1 : Int) ≤ (j : Int)) = false := by simp; omega
      have HSM := Lib.hid (smL_b (N2 := N2) (d1 := d1) (d2 := d2) (show N1 ≤ i by omega) hjN)
      rw [← HM.out] at HSM
      go_wp2_with (at_make; refine wpList_mkI _ rfl _ _ 22 rfl 3 Try.underlying22 Try.infoI .i64 .i64 _ _ M rfl rfl rfl rfl (by omega) ?_; intro w1 ho hb hs; have ba := ba.step hb; have bb := bb.step hb; have bx := bx.step hb; have bY := bY.step hb; have h1 := h1.below hb hB; have h2 := h2.below hb hB; clear xa0 xa1 xa2 xb0 xb1 xb2; obtain ⟨xa0, xa1, xa2⟩ := ba.three; obtain ⟨xx0, xx1, xx2⟩ := bx.three; obtain ⟨xy0, xy1, xy2⟩ := bY.three; have ho := ho.tight)
      go_ret
      rw [HSM.out] at ho
      exact ⟨_, _, _, rfl, Hd.self (by unfold maxLen; omega), hb, ho.up (by omega)⟩
    · have hdj : decide ((N1 : Int) ≤ (j : Int)) = true := by simp; omega
      obtain ⟨i2, hi2⟩ : ∃ t : Nat, i = N1 + t := ⟨i - N1, by omega⟩
      obtain ⟨j2, hj2⟩ : ∃ t : Nat, j = N1 + t := ⟨j - N1, by omega⟩
      have hwi : IntKind.i64.wrap ((i : Int) - (N1 : Int)) = (i2 : Int) := by rw [show (i : Int) - (N1 : Int) = (i2 : Int) by omega]; exact IntWalk.i64_in _ (by omega)
      have hwj : IntKind.i64.wrap ((j : Int) - (N1 : Int)) = (j2 : Int) := by rw [show (j : Int) - (N1 : Int) = (j2 : Int) by omega]; exact IntWalk.i64_in _ (by omega)
      have hi2N : i2 < N2 := by omega
      have hj2N : j2 < N2 := by omega
      obtain ⟨A', k', hd', hp', hpair⟩ := pair_any (p := p) (k := k2) hd2 HL2.out hi2N hj2N (by omega)
      have HSM := Lib.hid (smL_c (N1 := N1) (N2 := N2) (i := i) (j := j) (d1 := d1) (d2 := d2) (by omega) (by omega) (prV_len (by rw [HD2.out]; exact HL2.out) (by omega) (by omega)))
      rw [← HM.out, show i - N1 = i2 by omega, show j - N1 = j2 by omega] at HSM
      have hrT := isuf_at (b := w.heap.size) (o := 0) (n := M) (k := M) (N1 : Int) rfl (by omega) (Nat.le_refl _) (by omega) (by unfold maxLen; omega)
      clear hi2 hj2
      go_wp2_with (at_make; refine wpList_mkI _ rfl _ _ 22 rfl 3 Try.underlying22 Try.infoI .i64 .i64 _ _ M rfl rfl rfl rfl (by omega) ?_; intro w1 ho hb hs; have ba := ba.step hb; have bb := bb.step hb; have bx := bx.step hb; have bY := bY.step hb; have h1 := h1.below hb hB; have h2 := h2.below hb hB; clear xa0 xa1 xa2 xb0 xb1 xb2; obtain ⟨xa0, xa1, xa2⟩ := ba.three; obtain ⟨xx0, xx1, xx2⟩ := bx.three; obtain ⟨xy0, xy1, xy2⟩ := bY.three; have ho := ho.tight)
      have q0 := cell_regrown xa0
      have q1 := cell_regrown xa1
      have q2 := cell_regrown xa2
      have q3 := cell_regrown xy0
      have q4 := cell_regrown xy1
      have q5 := cell_regrown xy2
      have cP : ∀ d' os, Calls Try.prog 112 #[.agg #[.int .i64 p, .int .i64 N2, .slice A2 n2 k2], .int .i64 i2, .int .i64 j2] (grow (redrawn w1 d') os) fun e w'' => e = .returned (.slice A' N2 k') ∧ ∃ pp : Regrown, w'' = grow (redrawn w1 pp.d) pp.os :=
        fun d' os => Calls.regrown_of (hpair _)
      clear xa0 xa1 xa2 xx0 xx1 xx2 xy0 xy1 xy2
      (refine wp_region_quiet_last (C := fun w' => ∃ p : Regrown, w' = grow (redrawn w1 p.d) p.os) 14 (by kernel_rfl) (by kernel_rfl) (by kernel_rfl) (by kernel_rfl) (by kernel_rfl) (by kernel_rfl) (by kernel_rfl) (by kernel_rfl) ⟨⟨w1.drawn + 1, #[]⟩, by rw [grow_empty]; rfl⟩ ?_; simp only [List.take_succ_cons, List.take_zero, List.drop_succ_cons, List.drop_zero]; (repeat (go_big_quiet_step (exact cP _ _))); refine wpQuiet_nil ?_; rintro W ⟨pp, hW⟩; have hbW : Below w1.heap.size w1 W := hW ▸ below_regrown _ _ _; clear hW)
      have hs2 := hbW.size
      have hpr := (hp' _ _ _ h2).below hbW (by omega)
      have ho2 := ho.below hbW (by omega)
      have hcp := run_cpI (off := N1) (n1 := M - N1) (c1 := M - N1) (c := k') 3 ho2 (by omega) hpr (by omega) (by omega)
      have hst := ho2.stores (prV N2 d2 i2 j2) N1 (by rw [hpr.1]; omega)
      have hcg := (Chg.ofBelow (B0 := w.heap.size) (B := w.heap.size + 1) hbW (Nat.le_refl _)).trans (Chg.stores (Nat.le_refl _) (Nat.lt_succ_self _) ((prV N2 d2 i2 j2).map (Value.int .i64)) (0 + N1) (Chg.refl _ _ _))
      rw [HSM.out] at hst
      rw [Nat.zero_add] at hcp hst hcg
      clear q0 q1 q2 q3 q4 q5 cP hrT
      go_wp2_with (at_builtin; refine wpList_cp W rfl (.tmp 33) (.tmp 43) 22 22 rfl _ _ rfl rfl (by first | exact hcp | (rw [Nat.zero_add]; exact hcp)) ?_)
      go_ret
      have hbe : Below w.heap.size w (W.setCells w.heap.size N1 ((prV N2 d2 i2 j2).map (Value.int .i64))) := hb.trans (hcg.below (by omega))
      refine ⟨_, _, _, rfl, Hd.self (by unfold maxLen; omega), hbe, hst.up (by have := hcg.size; omega)⟩
end Go.Proofs.Yticebbkmakpkjaa
