/- FormatInts of both packages. No condition but what each theorem names. -/
import Derived.Test.YtnkcjekfjlbcdaaGreatDoorShj
import Derived.Test.YtnkcjekfjlbcdaaGreatDoorItoW
import Derived.Test.YtnkcjekfjlbcdaaGreatDoorTbl
import Derived.Lib.Join
import Derived.Lib.ItoaLen
import Derived.OpenShut
namespace Go.Proofs.YtnkcjekfjlbcdaaGreatDoor
set_option linter.unusedVariables false
set_option linter.unusedSimpArgs false
set_option maxRecDepth 20000
open Go Go.RowKit
set_option maxHeartbeats 4000000
/-- numbers with a blank between them -/
def fmtL (xs : List Int) : List UInt8 := Lib.join (xs.map Lib.itoa) [32]
theorem join_snoc (l : List (List UInt8)) (x sep : List UInt8) (h : l ≠ []) : Lib.join (l ++ [x]) sep = Lib.join l sep ++ (sep ++ x) := by
  cases l with
  | nil => exact absurd rfl h
  | cons y r =>
    rw [List.cons_append, Lib.join_cons, Lib.join_cons]
    unfold Lib.joinTail
    rw [List.map_append, List.flatten_append, List.append_assoc]
    simp
theorem fmtL_one (x : Int) : fmtL [x] = Lib.itoa x := by unfold fmtL; exact Lib.join_one _ _
theorem fmtL_snoc {l : List Int} (x : Int) (h : l ≠ []) : fmtL (l ++ [x]) = fmtL l ++ ([32] ++ Lib.itoa x) := by
  unfold fmtL
  rw [List.map_append]
  exact join_snoc _ _ _ (by simpa using h)
def In64L (xs : List Int) : Prop := ∀ x ∈ xs, -9223372036854775808 ≤ x ∧ x ≤ 9223372036854775807
theorem fmtL_len {xs : List Int} (hb : In64L xs) : ∀ j, (fmtL (xs.take j)).length ≤ 22 * j
  | 0 => by simp [fmtL, Lib.join_nil]
  | j + 1 => by
    have ih := fmtL_len hb j
    rcases Nat.lt_or_ge j xs.length with h | h
    · have hx := hb _ (gI_mem h)
      have hl := Lib.itoa_length_le _ hx.1 hx.2
      rw [take_gI h]
      by_cases e : xs.take j = []
      · rw [e, List.nil_append, fmtL_one]; omega
      · rw [fmtL_snoc _ e]
        simp only [List.length_append, List.length_cons, List.length_nil]
        omega
    · rw [List.take_of_length_le (by omega)]
      rw [List.take_of_length_le h] at ih
      omega
theorem bytes_app (a b : List UInt8) : ({ data := a.toArray } ++ { data := b.toArray } : ByteArray) = ⟨(a ++ b).toArray⟩ := by apply ByteArray.ext; simp
theorem sFms_any {B : Nat} (A : Option Addr) (n k : Nat) (xs : List Int) (w : World) (h : RdI w B A n xs) (hB : B ≤ w.heap.size) (hn : n ≤ 1048576) (hb : In64L xs) :
    Calls Tryz.prog 29 #[.slice A n k] w fun e w' => e = .returned (.string ⟨(fmtL xs).toArray⟩) ∧ Below w.heap.size w w' := by
  have HL := Lib.hid h.1
  have HB := Lib.hid hb
  go_enter Tryz.func29, Tryz.ntmps29
  go_wp2_with fail
  go_loopw [3, 4] (fun s i wr => ∃ j : Nat, j ≤ n ∧ i = .int .i64 j ∧ s = .string ⟨(fmtL (xs.take j)).toArray⟩ ∧ Below w.heap.size w wr) (fun _ i _ => n - (intOf i).toNat)
  case atStart => exact ⟨0, by omega, rfl, by simp [fmtL, Lib.join_nil], Below.refl _ _⟩
  case round =>
    obtain ⟨j, hj, rfl, rfl, hbl⟩ := hrel
    have hsz := hbl.size
    have hlen := fmtL_len HB.out j
    by_cases hlt : j < n
    · have hr := h.below hbl hB
      obtain ⟨b, o, rfl⟩ := hr.addr (by omega)
      have hc := hr.at_ hlt
      have hx := HB.out _ (gI_mem (show j < xs.length by rw [HL.out]; exact hlt))
      have hil := Lib.itoa_length_le _ hx.1 hx.2
      have HT := Lib.hid (take_gI (show j < xs.length by rw [HL.out]; exact hlt))
      obtain ⟨l, hl⟩ : ∃ l, l = fmtL (xs.take j) := ⟨_, rfl⟩
      have HLL := Lib.hid hl
      rw [← hl] at hlen
      rw [← hl]
      clear hl hb
      rcases Nat.eq_zero_or_pos j with h0 | h0
      · subst h0
        have HS := Lib.hid (show ({ data := l.toArray } ++ { data := (Lib.itoa (gI xs 0)).toArray } : ByteArray) = ⟨(fmtL (xs.take (0 + 1))).toArray⟩ by
          rw [bytes_app, HT.out, HLL.out]
          simp [fmtL_one, fmtL, Lib.join_nil, Lib.join_one])
        rw [Nat.add_zero] at hc
        go_wp2_with fail
        refine (sFmt_any (gI xs 0) wr hx.1 hx.2).mono ?_
        rintro e w2 ⟨rfl, hb2⟩
        go_wp2
        go_roundw
        case rel => exact ⟨0 + 1, by omega, by go_num, by rw [HS.out], hbl.trans (hb2.mono hsz)⟩
        case measure => simp [intOf]; omega
      · have HS := Lib.hid (show ({ data := l.toArray } ++ { data := #[32] } ++ { data := (Lib.itoa (gI xs j)).toArray } : ByteArray) = ⟨(fmtL (xs.take (j + 1))).toArray⟩ by
          rw [show ({ data := #[32] } : ByteArray) = ⟨([32] : List UInt8).toArray⟩ from rfl, bytes_app, bytes_app, HT.out, fmtL_snoc _ (by intro e; have := congrArg List.length e; rw [List.length_take, HL.out] at this; simp at this; omega), HLL.out, List.append_assoc])
        have hj0 : (0 : Int) < (j : Int) := by omega
        go_wp2_with fail
        refine (sFmt_any (gI xs j) wr hx.1 hx.2).mono ?_
        rintro e w2 ⟨rfl, hb2⟩
        go_wp2
        go_roundw
        case rel => exact ⟨j + 1, by omega, by go_num, by rw [HS.out], hbl.trans (hb2.mono hsz)⟩
        case measure => simp [intOf]; omega
    · obtain rfl : n = j := by omega
      have HE := Lib.hid (show xs.take n = xs from List.take_of_length_le (by rw [HL.out]; exact Nat.le_refl _))
      go_wp2
      go_ret
      exact ⟨by rw [HE.out]; rfl, hbl⟩
theorem Tryz.infoStr : (Tryz.prog.info? 9).map (fun i => (i.zero, i.size, i.bytes)) = some (some (.string ⟨#[]⟩), 1, 16) := by kernel_rfl
theorem wpList_apS {ops : Array Oper} {rest : List Oper} {o : Oper} {a : Act} {Q : Exit → Act → World → Prop} {w : World} {lo n c b : Nat} {hs : List Value} {u v : Value} (hgd : o.guard = none) (s x : Operand)
    (ho : o.op = .call { callee := .builtin .append, args := #[s, x], argTypes := #[30, 30] })
    (hs' : a.eval s = v) (hown : w.ownsRow lo 9 1 v n hs) (hx : a.eval x = .slice (some ⟨b, 0, none⟩) 1 c) (hr : w.cell? ⟨b, 0, none⟩ = some u) (hu : u.oneCell' = true) (hn : n ≤ 1073741824) (hlo : lo ≤ w.heap.size)
    (h : ∀ v' w', w'.ownsRow lo 9 1 v' (n + 1) (hs ++ [u]) → w.grownBy w' v.ownBlock → (v'.ownBlock = v.ownBlock ∨ v'.ownBlock = some w.heap.size) → wpList Tryz.prog ops Q rest (a.put o.dst v') w') :
    wpList Tryz.prog ops Q (o :: rest) a w := by
  obtain ⟨i, h2, h3, h4, h5⟩ := info_parts Tryz.infoStr
  refine wpList_plain hgd fun K hK => ?_
  obtain ⟨v', w', hrun, e1, e2, e3⟩ := run_append_at (P := Tryz.prog) w lo 30 o.type 9 i (.string ⟨#[]⟩) Tryz.underlying30 h2 h3 h4 rfl v n hs hown ⟨b, 0, none⟩ 1 c [u] rfl (fun j q hj => by
    rcases j with _ | j
    · simp at hj; subst hj; rw [add_mk]; exact hr
    · simp at hj) (fun q hq => by simp at hq; subst hq; exact hu) (by rw [h5]; omega) (by rw [h5]; omega) hlo
  unfold Oper.wp execOp
  simp only [ho, resolve, invoke, builtin, Sem.run_bind, Sem.run_pure, Result.andThen_ok, List.map_toArray, List.map_cons, List.map_nil, hs', hx, hrun]
  exact hK _ _ (h v' w' e1 e2 e3)
theorem own_keepS {w w' : World} {base : Nat} {e : TypeId} {v : Value} {n : Nat} {xs : List Value} (h : w.ownsRow base e 1 v n xs) (hk : ∀ b, base ≤ b → b < w.heap.size → w'.heap[b]? = w.heap[b]?) : w'.ownsRow base e 1 v n xs := by
  refine ⟨h.1, ?_⟩
  rcases h.2 with h1 | ⟨g, cap, cur, e1, hb, hg, r⟩
  · exact .inl h1
  · have hlt : g < w.heap.size := by
      rcases Nat.lt_or_ge g w.heap.size with h' | h'
      · exact h'
      · rw [Array.getElem?_eq_none h'] at hg; cases hg
    exact .inr ⟨g, cap, cur, e1, hb, (hk g hb hlt).trans hg, r⟩
/-- the words -/
def wrdL (xs : List Int) : List ByteArray := xs.map fun z => ⟨(Lib.itoa z).toArray⟩
theorem wrd_fmt (xs : List Int) : (wrdL xs).map (fun b => b.data.toList) = xs.map Lib.itoa := by simp [wrdL]
theorem iFms_any {B : Nat} (A : Option Addr) (n k : Nat) (xs : List Int) (w : World) (h : RdI w B A n xs) (hB : B ≤ w.heap.size) (hn : n ≤ 1048576) (hb : In64L xs) (ht : Tabs w.heap.size w) :
    Calls Tryz.prog 34 #[.slice A n k] w fun e w' => e = .returned (.string ⟨(fmtL xs).toArray⟩) ∧ Below w.heap.size w w' := by
  have HL := Lib.hid h.1
  have HB := Lib.hid hb
  have hq0 : Below w.heap.size w (w.alloc (.cells #[] 9)) := (by repeat' (first | (with_reducible exact Below.refl _ _) | (with_reducible refine Below.setCell ?_ (by first | exact Nat.le_refl _ | omega | (simp only [World.size_alloc, World.size_setCell, World.heap_drewN]; omega) | (simp; omega)) _) | (with_reducible refine Below.alloc ?_ (by first | exact Nat.le_refl _ | omega | (simp only [World.size_alloc, World.size_setCell, World.heap_drewN]; omega) | (simp; omega)) _) | (with_reducible refine below_drewN ?_ _) | (with_reducible refine Below.drew ?_)))
  have hown0 : (w.alloc (.cells #[] 9)).ownsRow w.heap.size 9 1 (.slice (some ⟨w.heap.size, 0, none⟩) 0 0) 0 ((wrdL (xs.take 0)).map Value.string) := by
    have := World.ownsRow_lit (base := w.heap.size) (e := 9) (size := 1) w #[] 0 (Nat.le_refl _) (by unfold maxLen; omega) rfl
    simpa [wrdL] using this
  go_enter Tryz.func34, Tryz.ntmps34
  go_wp2_with fail
  go_loopw [3, 5, 9] (fun v x i wr => ∃ j : Nat, j ≤ n ∧ i = .int .i64 j ∧ wr.ownsRow w.heap.size 9 1 v j ((wrdL (xs.take j)).map Value.string) ∧ Below w.heap.size w wr) (fun _ _ i _ => n - (intOf i).toNat)
  case atStart => exact ⟨0, by omega, rfl, hown0, hq0⟩
  case round =>
    clear hown0 hq0
    obtain ⟨j, hj, rfl, hown, hbl⟩ := hrel
    have hsz := hbl.size
    by_cases hlt : j < n
    · have hr := h.below hbl hB
      obtain ⟨b, o, rfl⟩ := hr.addr (by omega)
      have hc := hr.at_ hlt
      have hx := HB.out _ (gI_mem (show j < xs.length by rw [HL.out]; exact hlt))
      have HT := Lib.hid (take_gI (show j < xs.length by rw [HL.out]; exact hlt))
      have HO := Lib.hid hown
      have hlo := fun b e => (hown.lt b e).1
      have hcn : j ≤ 1073741824 := by omega
      clear hown hb
      go_wp2_with fail
      refine (iFmt_any (B := w.heap.size) (gI xs j) wr hx.1 hx.2 (ht.on hbl)).mono ?_
      rintro e w2 ⟨rfl, hb2⟩
      have hs2 := hb2.size
      obtain ⟨t, ht2⟩ : ∃ t, t = (⟨(Lib.itoa (gI xs j)).toArray⟩ : ByteArray) := ⟨_, rfl⟩
      rw [← ht2]
      have HT2 := Lib.hid ht2
      clear ht2
      have hcl := (Box.new w2 #[.string t] 9).one
      have hO2 : (w2.alloc (.cells #[.string t] 9)).ownsRow w.heap.size 9 1 u3 j ((wrdL (xs.take j)).map Value.string) := (own_keepS HO.out fun b _ hh => hb2.block b hh).alloc _
      have HO2 := Lib.hid hO2
      clear hO2
      go_wp2_with (at_builtin; refine wpList_apS (v := u3) (w := w2.alloc (.cells #[.string t] 9)) (lo := w.heap.size) (b := w2.heap.size) (u := .string t) rfl (.tmp 13) (.tmp 16) rfl rfl HO2.out rfl hcl rfl hcn (by rw [World.size_alloc]; omega) ?_; intro v5 w5 ho5 hg5 hv5)
      have hb5 : Below w.heap.size w w5 := ((hbl.trans (hb2.mono hsz)).alloc (by omega) (.cells #[.string t] 9)).grown hg5 (by rw [World.size_alloc]; omega) (fun q e => hlo q e)
      have HO5 := Lib.hid (show w5.ownsRow w.heap.size 9 1 v5 (j + 1) ((wrdL (xs.take (j + 1))).map Value.string) by
        rw [HT.out]; unfold wrdL; rw [List.map_append, List.map_append]
        have := ho5
        unfold wrdL at this
        rw [HT2.out] at this
        exact this)
      clear ho5 hg5 hv5 hcl hc hlo
      go_wp2
      go_roundw
      case rel => exact ⟨j + 1, by omega, by go_num, HO5.out, hb5⟩
      case measure => simp [intOf]; omega
    · obtain rfl : n = j := by omega
      have HE := Lib.hid (show xs.take n = xs from List.take_of_length_le (by rw [HL.out]; exact Nat.le_refl _))
      rw [HE.out] at hown
      rcases hown.2 with ⟨hv, hx0⟩ | ⟨g, cap, cur, hv, hg, hh, h1, h2, h3, h4⟩
      · subst hv
        have HZ := Lib.hid (show fmtL xs = [] by
          have : xs = [] := List.eq_nil_of_length_eq_zero (by rw [HL.out]; exact hx0)
          subst this; rfl)
        obtain rfl : n = 0 := hx0
        go_wp2_with fail
        refine (Tryz.strings_Join_none _ _ _ _).mono ?_
        rintro e w3 ⟨rfl, hw3⟩
        subst hw3
        go_wp2
        go_ret
        exact ⟨by rw [HZ.out]; rfl, hbl⟩
      · subst hv
        have hcells := hown.cells (g := g) rfl
        have hgl : g < wr.heap.size := (hown.lt g rfl).2
        have HJ := Lib.hid (show (Lib.join ((wrdL xs).map fun b => b.data.toList) ([32] : List UInt8)) = fmtL xs by rw [wrd_fmt]; rfl)
        have hfl := fmtL_len HB.out n
        rw [HE.out] at hfl
        have hwl : (wrdL xs).length = n := by simp [wrdL, HL.out]
        have HC := Lib.hid (Tryz.strings_Join g 0 cap (wrdL xs) ⟨#[32]⟩ wr (fun j x hjx => by
          have := hcells j (.string x) (by rw [List.getElem?_map, hjx]; rfl)
          rwa [add_mk] at this) hgl (by rw [hwl]; omega) (by rw [hwl]; exact h1) (by
            rw [show (⟨#[32]⟩ : ByteArray).data.toList = ([32] : List UInt8) from rfl, HJ.out]; omega))
        rw [hwl, show (⟨#[32]⟩ : ByteArray).data.toList = ([32] : List UInt8) from rfl, HJ.out] at HC
        clear hcells hwl hfl hb
        go_wp2_with fail
        refine HC.out.mono ?_
        rintro e w3 ⟨rfl, hb3⟩
        go_wp2
        go_ret
        exact ⟨rfl, hbl.trans (hb3.mono hsz)⟩
end Go.Proofs.YtnkcjekfjlbcdaaGreatDoor
