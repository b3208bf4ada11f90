/- A log of one region on four pages, in plain Lean: what stands on its pages; a page that is changed. -/
import Derived.Test.YtcmobcbecbajiaaRegZ
namespace Go.Proofs.Ytcmobcbecbajiaa
open Go.RowKit
set_option linter.unusedSimpArgs false
set_option linter.unusedVariables false

/-- a log of one region: its pages hold what it sealed last -/
structure OneR (G : Lg) (D : Dev) (i : Nat) : Prop where
  live : Live G D
  first : G.first = 0
  pages : D.n = 4
  num : G.number ≤ i
  reg : ∃ S, G.regs = [S] ∧ S.num = G.number ∧ (G.number = 0 → S = .no) ∧ (G.number ≠ 0 → SealedAt (D.rpg 0 0) G.number S.l ∧ goods S.l = true ∧ isum S.l ≤ 1472)
  wait : G.number ≠ 0 → ∀ k, D.wt k = none
theorem oneR_new : OneR (Lg.opened (Dev.new 4) 0 1) (Dev.new 4) 0 := by
  have hl := live_new 4 1 (by omega) (by omega) (by omega) (by omega)
  rw [opened_new] at hl ⊢
  exact ⟨hl, rfl, rfl, Nat.le_refl _, ⟨.no, rfl, rfl, fun _ => rfl, fun h => absurd rfl h⟩, fun h => absurd rfl h⟩
theorem OneR.next {G : Lg} {D : Dev} {i : Nat} (h : OneR G D i) : G.next = 0 := by
  obtain ⟨S, hS, _⟩ := h.reg
  unfold Lg.next
  rw [hS]
  simp [Nat.mod_one]
theorem OneR.sl {G : Lg} {D : Dev} {i : Nat} (h : OneR G D i) (hi : i < 1000) : (G.sl D).e = 0 ∧ OneR (G.sl D).G (G.sl D).D (i + 1) ∧ (G.sl D).G.opn = [] := by
  have hn : G.number + 1 < 18446744073709551616 := by have := h.num; omega
  have hs := h.live.sl hn
  refine ⟨hs.1, ?_, sl_opn hs.1⟩
  by_cases h0 : G.opn = []
  · rw [hs.2.2.1 h0]
    exact { h with num := Nat.le_succ_of_le h.num }
  · have e := hs.2.2.2 h0
    have hl := hs.2.1
    have hw := h.live.wrote
    rw [e] at hl ⊢
    rw [h.first, h.next] at hw
    obtain ⟨S, hS, _⟩ := h.reg
    refine ⟨hl, h.first, by rw [hw.2.2.1]; exact h.pages, by show G.number + 1 ≤ i + 1; have := h.num; omega, ⟨⟨G.number + 1, G.opn⟩, ?_, rfl, (fun hh => absurd hh (Nat.succ_ne_zero _)), fun _ => ⟨hw.2.2.2.2.1, h.live.ok.good, h.live.ok.sum⟩⟩, fun _ => hw.2.2.2.2.2.2⟩
    show (G.regs.set G.next .no).set G.next ⟨G.number + 1, G.opn⟩ = _
    rw [h.next, hS]; rfl
theorem OneR.add {G : Lg} {D : Dev} {i : Nat} (h : OneR G D i) {x : Item} (hf : Lg.fits x = true) (hs : isum G.opn + x.size ≤ 1472) : OneR (G.add x) D i :=
  ⟨⟨h.live.ok.add (fits_good hf).1 hs, nodup_aset _ _ _ h.live.nd, h.live.on, h.live.los, h.live.fit⟩, h.first, h.pages, h.num, h.reg, h.wait⟩
theorem OneR.put {G : Lg} {D : Dev} {i : Nat} (h : OneR G D i) (hi : i < 1000) (x : Item) : OneR (G.put D x).G (G.put D x).D (i + 1) := by
  have hm : OneR G D (i + 1) := { h with num := Nat.le_succ_of_le h.num }
  unfold Lg.put
  cases hf : Lg.fits x with
  | false => exact hm
  | true =>
    simp only [if_true]
    by_cases hs : isum G.opn + x.size ≤ 1472
    · rw [if_pos hs]; exact hm.add hf hs
    · rw [if_neg hs]
      have hsl := h.sl hi
      rw [if_pos hsl.1]
      exact hsl.2.1.add hf (by rw [hsl.2.2]; simpa [isum] using (fits_good hf).2)

/-! four pages of which not all tell one number -/
theorem load_no {P : Nat → Pg} {a b : Nat} (ha : a < 4) (hb : b < 4) (h : (P a).rn a ≠ (P b).rn b) : ldS P = .no := by
  unfold ldS
  have e : ldNums P 4 = [(P 0).rn 0, (P 1).rn 1, (P 2).rn 2, (P 3).rn 3] := rfl
  have hno : ¬ listMin (ldNums P 4) = listMax (ldNums P 4) := by
    rw [e]
    simp only [listMin, listMax, List.tail_cons, List.headD_cons, List.foldl_cons, List.foldl_nil]
    intro hh
    have h01 : ∀ k, k < 4 → (P k).rn k = (P 0).rn 0 := by
      intro k hk
      match k, hk with
      | 0, _ => rfl
      | 1, _ => omega
      | 2, _ => omega
      | 3, _ => omega
    exact h (by rw [h01 a ha, h01 b hb])
  cases listOf (ldB P 4) with
  | none => rfl
  | some l => simp only; rw [if_neg (fun hh => hno hh.1)]
theorem top_ge {P : Nat → Pg} {a : Nat} (ha : a < 4) (m : Nat) : (P a).rs ≤ ldTop P m 4 := by
  have e : ldTop P m 4 = max (max (max (max m (P 0).rs) (P 1).rs) (P 2).rs) (P 3).rs := rfl
  rw [e]
  match a, ha with
  | 0, _ => omega
  | 1, _ => omega
  | 2, _ => omega
  | 3, _ => omega
theorem top_le {P : Nat → Pg} {m : Nat} (h : ∀ k, k < 4 → (P k).rs ≤ m) : ldTop P 0 4 ≤ m := by
  have e : ldTop P 0 4 = max (max (max (max 0 (P 0).rs) (P 1).rs) (P 2).rs) (P 3).rs := rfl
  rw [e]
  have h0 := h 0 (by omega)
  have h1 := h 1 (by omega)
  have h2 := h 2 (by omega)
  have h3 := h 3 (by omega)
  omega
/-- a log that is opened on one region that does not count -/
theorem opened_no {D : Dev} (h : ldS (D.rpg 0 0) = .no) : Lg.opened D 0 1 = { losses := D.losses, first := 0, regs := [.no], opn := [], number := ldTop (D.rpg 0 0) 0 4, keys := [] } := by
  have hr : opRegs D 0 1 = [.no] := by
    unfold opRegs
    rw [show List.range 1 = [0] from rfl, List.map_cons, List.map_nil, h]
  have ht : opTop D 0 1 = ldTop (D.rpg 0 0) 0 4 := by
    unfold opTop
    rw [show List.range 1 = [0] from rfl, List.foldl_cons, List.foldl_nil]
  unfold Lg.opened
  rw [hr, ht]
  rfl
theorem opened_no_items {D : Dev} (h : ldS (D.rpg 0 0) = .no) : (Lg.opened D 0 1).items.length = 0 ∧ (Lg.opened D 0 1).number = ldTop (D.rpg 0 0) 0 4 := by
  rw [opened_no h]
  exact ⟨rfl, rfl⟩
/-- one of the pages tells nothing: none of its items is told, the number stands -/
theorem page_gone {D : Dev} {n p : Nat} {l : List Item} (hn : 0 < n) (hn2 : n < 18446744073709551616) (hp : p < 4) (hs : ∀ k, k < 4 → k ≠ p → D.rpg 0 0 k = .full (Dev.pad (rgPg (records l) n k))) (hg : (D.rpg 0 0 p).rn p = 0 ∧ (D.rpg 0 0 p).rs = 0) :
    (Lg.opened D 0 1).items.length = 0 ∧ (Lg.opened D 0 1).number = n := by
  obtain ⟨q, hq, hqp⟩ : ∃ q, q < 4 ∧ q ≠ p := by
    by_cases h : p = 0
    · exact ⟨1, by omega, by omega⟩
    · exact ⟨0, by omega, fun e => h e.symm⟩
  have hqn : (D.rpg 0 0 q).rn q = n := by rw [hs q hq hqp]; exact pad_num _ _ _ (by omega) hn2
  have hno := load_no (P := D.rpg 0 0) hp hq (by rw [hg.1, hqn]; omega)
  have ho := opened_no_items hno
  refine ⟨ho.1, ?_⟩
  rw [ho.2]
  have hrs : ∀ k, k < 4 → k ≠ p → (D.rpg 0 0 k).rs = n := fun k hk hkp => by rw [hs k hk hkp]; exact pad_stands _ _ _ (by omega) hn2
  refine Nat.le_antisymm (top_le (fun k hk => ?_)) ?_
  · by_cases h : k = p
    · rw [h, hg.2]; omega
    · rw [hrs k hk h]; exact Nat.le_refl _
  · have := top_ge (P := D.rpg 0 0) hq 0
    rw [hrs q hq hqp] at this
    exact this
/-! one of the pages is changed -/
theorem page_erased {D : Dev} (hn : D.n = 4) (ho : D.On) {p : Nat} (hp : p < 4) :
    ((D.erase p).flush).On ∧ ((D.erase p).flush).n = 4 ∧ ∀ k, ((D.erase p).flush).page k = if k = p then .blank else D.page k := by
  have hh : D.has (p : Int) = true := by simp [Dev.has]; omega
  have he : D.erase p = D.put p .blank := by
    unfold Dev.erase Dev.change
    rw [hh, ho.spend.1, ho.spend.2]; simp
  have ho1 : (D.put p .blank).On := ⟨ho.off, ho.armed⟩
  have hf := ho1.flush
  rw [he]
  refine ⟨hf.1, by rw [hf.2.1]; exact hn, fun k => ?_⟩
  rw [hf.2.2.2.1]
  unfold Dev.page Dev.put
  by_cases hk : k = p
  · simp [hk]
  · simp [hk]
theorem page_torn {D : Dev} (hn : D.n = 4) (ho : D.On) (hw : ∀ k, D.wt k = none) {p : Nat} (hp : p < 4) {b : List UInt8} (hb : b.length ≤ 384) :
    (((D.write p b).crash [2]).on).On ∧ (((D.write p b).crash [2]).on).n = 4 ∧ ∀ k, (((D.write p b).crash [2]).on).page k = if k = p then .torn else D.page k := by
  have hh : D.has (p : Int) = true := by simp [Dev.has]; omega
  have he : D.write p b = D.put p (.full (Dev.pad b)) := by
    unfold Dev.write Dev.change
    rw [hh, decide_eq_true hb, ho.spend.1, ho.spend.2]; simp
  rw [he]
  have hw' : ∀ i, (D.put p (.full (Dev.pad b))).wt i = if i = p then some (.full (Dev.pad b)) else none := by
    intro i
    unfold Dev.put
    simp only
    by_cases hi : i = p
    · rw [if_pos hi, if_pos hi]
    · rw [if_neg hi, if_neg hi]; exact hw i
  have hr : (D.put p (.full (Dev.pad b))).rank p = 0 := by
    unfold Dev.rank
    rw [List.length_eq_zero_iff, List.filter_eq_nil_iff]
    intro i hi
    rw [hw', if_neg (by have := List.mem_range.1 hi; omega)]
    simp
  refine ⟨⟨rfl, rfl⟩, hn, fun k => ?_⟩
  show (match (D.put p (.full (Dev.pad b))).wt k with | none => D.fl k | some q => Dev.fate (D.fl k) q ([2] : List UInt8)[(D.put p (.full (Dev.pad b))).rank k]?) = _
  rw [hw']
  by_cases hk : k = p
  · subst hk
    rw [if_pos rfl, if_pos rfl, hr]; rfl
  · rw [if_neg hk, if_neg hk]
    unfold Dev.page
    rw [hw k]; rfl
theorem OneR.gone {G : Lg} {D D' : Dev} {i p : Nat} (h : OneR G D i) (hi : i < 2000) (h0 : G.number ≠ 0) (hp : p < 4) {q : Pg} (hq : q = .blank ∨ q = .torn) (hD : ∀ k, D'.page k = if k = p then q else D.page k) :
    (Lg.opened D' 0 1).items.length = 0 ∧ (Lg.opened D' 0 1).number = G.number := by
  obtain ⟨S, _, _, _, hs⟩ := h.reg
  have hsl := (hs h0).1
  have hnum := h.num
  have hr : ∀ k, D'.rpg 0 0 k = if k = p then q else D.rpg 0 0 k := by
    intro k
    have := hD k
    simpa [Dev.rpg] using this
  refine page_gone (l := S.l) (by omega) (by omega) hp (fun k hk hkp => ?_) ?_
  · rw [hr, if_neg hkp]; exact hsl k hk
  · rw [hr, if_pos rfl]
    rcases hq with rfl | rfl
    · exact ⟨rfl, rfl⟩
    · exact ⟨rfl, rfl⟩
/-! the log behind a change of the flash; opened anew -/
theorem Hlog.flash {w0 w w' : World} {h : DevH} {t : LgH} {G : Lg} {D D' : Dev} (H : Hlog w0 h t G D w) (hd : DevAt w' h D') (hc : Chg h.foot w w') : Hlog w0 h t G D' w' :=
  ⟨H.log.foot H.dev hc, hd, H.own, H.foot, H.chg.then hc (fun i hi hT => by have := H.foot i hT; omega)⟩
theorem Hlog.reopen {w0 w : World} {h : DevH} {t : LgH} {G : Lg} {D : Dev} (H : Hlog w0 h t G D w) (hn : D.n = 4) (ho : D.On) :
    Calls Try.prog 24 #[.pointer (some ⟨h.d, 0, none⟩), .int .i64 0, .int .i64 1] w fun e w' => ∃ t' : LgH, e = .returned (.tuple #[.pointer (some ⟨t'.L, 0, none⟩), .int .i64 0]) ∧ Hlog w0 h t' (Lg.opened D 0 1) D w' ∧ LgAt w' h t G := by
  refine (Hlog.opened (first := 0) (n := 1) H.dev H.foot H.chg (by omega) (by omega) (by omega) ho.off).mono ?_
  rintro e w' ⟨t', he, hh, _, hc⟩
  exact ⟨t', he, hh, H.log.foot H.dev hc⟩
theorem opened_len1 (D : Dev) : (Lg.opened D 0 1).regs.length = 1 := by
  show (opRegs D 0 1).length = 1
  simp [opRegs]
theorem Hlog.items0 {w0 w : World} {h : DevH} {t : LgH} {D : Dev} (H : Hlog w0 h t (Lg.opened D 0 1) D w) (h0 : (Lg.opened D 0 1).items.length = 0) :
    Calls Try.prog 32 #[.pointer (some ⟨t.L, 0, none⟩)] w fun e w' => ∃ A c, e = .returned (.slice A 0 c) ∧ Chg No w w' := by
  have hl := opened_len1 D
  have hbl := byNum_len (Lg.opened D 0 1).regs
  refine (items_calls H.log (by omega) (byNum_lt _) (by omega)).mono ?_
  rintro e w' ⟨v, rfl, ho, hc⟩
  rw [h0] at ho
  obtain ⟨A, c, rfl, _⟩ := own_slice ho
  exact ⟨A, c, rfl, hc⟩
end Go.Proofs.Ytcmobcbecbajiaa
