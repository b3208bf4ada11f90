/- A log from its opening to a crash, with the power going at any step, in plain Lean. -/
import Derived.Test.YtcmobcbecbajiaaRegZ
/- A log of one region on four pages, in plain Lean: what stands on its pages; a page that is changed. -/
namespace Go.Proofs.Ytcmobcbecbajiaa
open Go.RowKit
set_option linter.unusedSimpArgs false
set_option linter.unusedVariables false

/-- a log of one region: its pages hold what it sealed last -/
structure OneR (G : Lg) (D : Dev) (i : Nat) : Prop where
  live : Live G D
  first : G.first = 0
  pages : D.n = 4
  num : G.number ≤ i
  reg : ∃ S, G.regs = [S] ∧ S.num = G.number ∧ (G.number = 0 → S = .no) ∧ (G.number ≠ 0 → SealedAt (D.rpg 0 0) G.number S.l ∧ goods S.l = true ∧ isum S.l ≤ 1472)
  wait : G.number ≠ 0 → ∀ k, D.wt k = none
theorem oneR_new : OneR (Lg.opened (Dev.new 4) 0 1) (Dev.new 4) 0 := by
  have hl := live_new 4 1 (by omega) (by omega) (by omega) (by omega)
  rw [opened_new] at hl ⊢
  exact ⟨hl, rfl, rfl, Nat.le_refl _, ⟨.no, rfl, rfl, fun _ => rfl, fun h => absurd rfl h⟩, fun h => absurd rfl h⟩
theorem OneR.next {G : Lg} {D : Dev} {i : Nat} (h : OneR G D i) : G.next = 0 := by
  obtain ⟨S, hS, _⟩ := h.reg
  unfold Lg.next
  rw [hS]
  simp [Nat.mod_one]
theorem OneR.sl {G : Lg} {D : Dev} {i : Nat} (h : OneR G D i) (hi : i < 1000) : (G.sl D).e = 0 ∧ OneR (G.sl D).G (G.sl D).D (i + 1) ∧ (G.sl D).G.opn = [] := by
  have hn : G.number + 1 < 18446744073709551616 := by have := h.num; omega
  have hs := h.live.sl hn
  refine ⟨hs.1, ?_, sl_opn hs.1⟩
  by_cases h0 : G.opn = []
  · rw [hs.2.2.1 h0]
    exact { h with num := Nat.le_succ_of_le h.num }
  · have e := hs.2.2.2 h0
    have hl := hs.2.1
    have hw := h.live.wrote
    rw [e] at hl ⊢
    rw [h.first, h.next] at hw
    obtain ⟨S, hS, _⟩ := h.reg
    refine ⟨hl, h.first, by rw [hw.2.2.1]; exact h.pages, by show G.number + 1 ≤ i + 1; have := h.num; omega, ⟨⟨G.number + 1, G.opn⟩, ?_, rfl, (fun hh => absurd hh (Nat.succ_ne_zero _)), fun _ => ⟨hw.2.2.2.2.1, h.live.ok.good, h.live.ok.sum⟩⟩, fun _ => hw.2.2.2.2.2.2⟩
    show (G.regs.set G.next .no).set G.next ⟨G.number + 1, G.opn⟩ = _
    rw [h.next, hS]; rfl
theorem OneR.add {G : Lg} {D : Dev} {i : Nat} (h : OneR G D i) {x : Item} (hf : Lg.fits x = true) (hs : isum G.opn + x.size ≤ 1472) : OneR (G.add x) D i :=
  ⟨⟨h.live.ok.add (fits_good hf).1 hs, nodup_aset _ _ _ h.live.nd, h.live.on, h.live.los, h.live.fit⟩, h.first, h.pages, h.num, h.reg, h.wait⟩
theorem OneR.put {G : Lg} {D : Dev} {i : Nat} (h : OneR G D i) (hi : i < 1000) (x : Item) : OneR (G.put D x).G (G.put D x).D (i + 1) := by
  have hm : OneR G D (i + 1) := { h with num := Nat.le_succ_of_le h.num }
  unfold Lg.put
  cases hf : Lg.fits x with
  | false => exact hm
  | true =>
    simp only [if_true]
    by_cases hs : isum G.opn + x.size ≤ 1472
    · rw [if_pos hs]; exact hm.add hf hs
    · rw [if_neg hs]
      have hsl := h.sl hi
      rw [if_pos hsl.1]
      exact hsl.2.1.add hf (by rw [hsl.2.2]; simpa [isum] using (fits_good hf).2)

/-! four pages of which not all tell one number -/
theorem load_no {P : Nat → Pg} {a b : Nat} (ha : a < 4) (hb : b < 4) (h : (P a).rn a ≠ (P b).rn b) : ldS P = .no := by
  unfold ldS
  have e : ldNums P 4 = [(P 0).rn 0, (P 1).rn 1, (P 2).rn 2, (P 3).rn 3] := rfl
  have hno : ¬ listMin (ldNums P 4) = listMax (ldNums P 4) := by
    rw [e]
    simp only [listMin, listMax, List.tail_cons, List.headD_cons, List.foldl_cons, List.foldl_nil]
    intro hh
    have h01 : ∀ k, k < 4 → (P k).rn k = (P 0).rn 0 := by
      intro k hk
      match k, hk with
      | 0, _ => rfl
      | 1, _ => omega
      | 2, _ => omega
      | 3, _ => omega
    exact h (by rw [h01 a ha, h01 b hb])
  cases listOf (ldB P 4) with
  | none => rfl
  | some l => simp only; rw [if_neg (fun hh => hno hh.1)]
theorem top_ge {P : Nat → Pg} {a : Nat} (ha : a < 4) (m : Nat) : (P a).rs ≤ ldTop P m 4 := by
  have e : ldTop P m 4 = max (max (max (max m (P 0).rs) (P 1).rs) (P 2).rs) (P 3).rs := rfl
  rw [e]
  match a, ha with
  | 0, _ => omega
  | 1, _ => omega
  | 2, _ => omega
  | 3, _ => omega
theorem top_le {P : Nat → Pg} {m : Nat} (h : ∀ k, k < 4 → (P k).rs ≤ m) : ldTop P 0 4 ≤ m := by
  have e : ldTop P 0 4 = max (max (max (max 0 (P 0).rs) (P 1).rs) (P 2).rs) (P 3).rs := rfl
  rw [e]
  have h0 := h 0 (by omega)
  have h1 := h 1 (by omega)
  have h2 := h 2 (by omega)
  have h3 := h 3 (by omega)
  omega
/-- a log that is opened on one region that does not count -/
theorem opened_no {D : Dev} (h : ldS (D.rpg 0 0) = .no) : Lg.opened D 0 1 = { losses := D.losses, first := 0, regs := [.no], opn := [], number := ldTop (D.rpg 0 0) 0 4, keys := [] } := by
  have hr : opRegs D 0 1 = [.no] := by
    unfold opRegs
    rw [show List.range 1 = [0] from rfl, List.map_cons, List.map_nil, h]
  have ht : opTop D 0 1 = ldTop (D.rpg 0 0) 0 4 := by
    unfold opTop
    rw [show List.range 1 = [0] from rfl, List.foldl_cons, List.foldl_nil]
  unfold Lg.opened
  rw [hr, ht]
  rfl
theorem opened_no_items {D : Dev} (h : ldS (D.rpg 0 0) = .no) : (Lg.opened D 0 1).items.length = 0 ∧ (Lg.opened D 0 1).number = ldTop (D.rpg 0 0) 0 4 := by
  rw [opened_no h]
  exact ⟨rfl, rfl⟩
/-- one of the pages tells nothing: none of its items is told, the number stands -/
theorem page_gone {D : Dev} {n p : Nat} {l : List Item} (hn : 0 < n) (hn2 : n < 18446744073709551616) (hp : p < 4) (hs : ∀ k, k < 4 → k ≠ p → D.rpg 0 0 k = .full (Dev.pad (rgPg (records l) n k))) (hg : (D.rpg 0 0 p).rn p = 0 ∧ (D.rpg 0 0 p).rs = 0) :
    (Lg.opened D 0 1).items.length = 0 ∧ (Lg.opened D 0 1).number = n := by
  obtain ⟨q, hq, hqp⟩ : ∃ q, q < 4 ∧ q ≠ p := by
    by_cases h : p = 0
    · exact ⟨1, by omega, by omega⟩
    · exact ⟨0, by omega, fun e => h e.symm⟩
  have hqn : (D.rpg 0 0 q).rn q = n := by rw [hs q hq hqp]; exact pad_num _ _ _ (by omega) hn2
  have hno := load_no (P := D.rpg 0 0) hp hq (by rw [hg.1, hqn]; omega)
  have ho := opened_no_items hno
  refine ⟨ho.1, ?_⟩
  rw [ho.2]
  have hrs : ∀ k, k < 4 → k ≠ p → (D.rpg 0 0 k).rs = n := fun k hk hkp => by rw [hs k hk hkp]; exact pad_stands _ _ _ (by omega) hn2
  refine Nat.le_antisymm (top_le (fun k hk => ?_)) ?_
  · by_cases h : k = p
    · rw [h, hg.2]; omega
    · rw [hrs k hk h]; exact Nat.le_refl _
  · have := top_ge (P := D.rpg 0 0) hq 0
    rw [hrs q hq hqp] at this
    exact this
/-! one of the pages is changed -/
theorem page_erased {D : Dev} (hn : D.n = 4) (ho : D.On) {p : Nat} (hp : p < 4) :
    ((D.erase p).flush).On ∧ ((D.erase p).flush).n = 4 ∧ ∀ k, ((D.erase p).flush).page k = if k = p then .blank else D.page k := by
  have hh : D.has (p : Int) = true := by simp [Dev.has]; omega
  have he : D.erase p = D.put p .blank := by
    unfold Dev.erase Dev.change
    rw [hh, ho.spend.1, ho.spend.2]; simp
  have ho1 : (D.put p .blank).On := ⟨ho.off, ho.armed⟩
  have hf := ho1.flush
  rw [he]
  refine ⟨hf.1, by rw [hf.2.1]; exact hn, fun k => ?_⟩
  rw [hf.2.2.2.1]
  unfold Dev.page Dev.put
  by_cases hk : k = p
  · simp [hk]
  · simp [hk]
theorem page_torn {D : Dev} (hn : D.n = 4) (ho : D.On) (hw : ∀ k, D.wt k = none) {p : Nat} (hp : p < 4) {b : List UInt8} (hb : b.length ≤ 384) :
    (((D.write p b).crash [2]).on).On ∧ (((D.write p b).crash [2]).on).n = 4 ∧ ∀ k, (((D.write p b).crash [2]).on).page k = if k = p then .torn else D.page k := by
  have hh : D.has (p : Int) = true := by simp [Dev.has]; omega
  have he : D.write p b = D.put p (.full (Dev.pad b)) := by
    unfold Dev.write Dev.change
    rw [hh, decide_eq_true hb, ho.spend.1, ho.spend.2]; simp
  rw [he]
  have hw' : ∀ i, (D.put p (.full (Dev.pad b))).wt i = if i = p then some (.full (Dev.pad b)) else none := by
    intro i
    unfold Dev.put
    simp only
    by_cases hi : i = p
    · rw [if_pos hi, if_pos hi]
    · rw [if_neg hi, if_neg hi]; exact hw i
  have hr : (D.put p (.full (Dev.pad b))).rank p = 0 := by
    unfold Dev.rank
    rw [List.length_eq_zero_iff, List.filter_eq_nil_iff]
    intro i hi
    rw [hw', if_neg (by have := List.mem_range.1 hi; omega)]
    simp
  refine ⟨⟨rfl, rfl⟩, hn, fun k => ?_⟩
  show (match (D.put p (.full (Dev.pad b))).wt k with | none => D.fl k | some q => Dev.fate (D.fl k) q ([2] : List UInt8)[(D.put p (.full (Dev.pad b))).rank k]?) = _
  rw [hw']
  by_cases hk : k = p
  · subst hk
    rw [if_pos rfl, if_pos rfl, hr]; rfl
  · rw [if_neg hk, if_neg hk]
    unfold Dev.page
    rw [hw k]; rfl
theorem OneR.gone {G : Lg} {D D' : Dev} {i p : Nat} (h : OneR G D i) (hi : i < 2000) (h0 : G.number ≠ 0) (hp : p < 4) {q : Pg} (hq : q = .blank ∨ q = .torn) (hD : ∀ k, D'.page k = if k = p then q else D.page k) :
    (Lg.opened D' 0 1).items.length = 0 ∧ (Lg.opened D' 0 1).number = G.number := by
  obtain ⟨S, _, _, _, hs⟩ := h.reg
  have hsl := (hs h0).1
  have hnum := h.num
  have hr : ∀ k, D'.rpg 0 0 k = if k = p then q else D.rpg 0 0 k := by
    intro k
    have := hD k
    simpa [Dev.rpg] using this
  refine page_gone (l := S.l) (by omega) (by omega) hp (fun k hk hkp => ?_) ?_
  · rw [hr, if_neg hkp]; exact hsl k hk
  · rw [hr, if_pos rfl]
    rcases hq with rfl | rfl
    · exact ⟨rfl, rfl⟩
    · exact ⟨rfl, rfl⟩
/-! the log behind a change of the flash; opened anew -/
theorem Hlog.flash {w0 w w' : World} {h : DevH} {t : LgH} {G : Lg} {D D' : Dev} (H : Hlog w0 h t G D w) (hd : DevAt w' h D') (hc : Chg h.foot w w') : Hlog w0 h t G D' w' :=
  ⟨H.log.foot H.dev hc, hd, H.own, H.foot, H.chg.then hc (fun i hi hT => by have := H.foot i hT; omega)⟩
theorem Hlog.reopen {w0 w : World} {h : DevH} {t : LgH} {G : Lg} {D : Dev} (H : Hlog w0 h t G D w) (hn : D.n = 4) (ho : D.On) :
    Calls Try.prog 24 #[.pointer (some ⟨h.d, 0, none⟩), .int .i64 0, .int .i64 1] w fun e w' => ∃ t' : LgH, e = .returned (.tuple #[.pointer (some ⟨t'.L, 0, none⟩), .int .i64 0]) ∧ Hlog w0 h t' (Lg.opened D 0 1) D w' ∧ LgAt w' h t G := by
  refine (Hlog.opened (first := 0) (n := 1) H.dev H.foot H.chg (by omega) (by omega) (by omega) ho.off).mono ?_
  rintro e w' ⟨t', he, hh, _, hc⟩
  exact ⟨t', he, hh, H.log.foot H.dev hc⟩
theorem opened_len1 (D : Dev) : (Lg.opened D 0 1).regs.length = 1 := by
  show (opRegs D 0 1).length = 1
  simp [opRegs]
theorem Hlog.items0 {w0 w : World} {h : DevH} {t : LgH} {D : Dev} (H : Hlog w0 h t (Lg.opened D 0 1) D w) (h0 : (Lg.opened D 0 1).items.length = 0) :
    Calls Try.prog 32 #[.pointer (some ⟨t.L, 0, none⟩)] w fun e w' => ∃ A c, e = .returned (.slice A 0 c) ∧ Chg No w w' := by
  have hl := opened_len1 D
  have hbl := byNum_len (Lg.opened D 0 1).regs
  refine (items_calls H.log (by omega) (byNum_lt _) (by omega)).mono ?_
  rintro e w' ⟨v, rfl, ho, hc⟩
  rw [h0] at ho
  obtain ⟨A, c, rfl, _⟩ := own_slice ho
  exact ⟨A, c, rfl, hc⟩
end Go.Proofs.Ytcmobcbecbajiaa

/- A log tells of each key the newest place, in plain Lean. -/
namespace Go.Proofs.Ytcmobcbecbajiaa
open Go.RowKit
set_option linter.unusedSimpArgs false
set_option linter.unusedVariables false

/-- an item of this key stands there -/
def Lg.Has (G : Lg) (key : ByteArray) (p : Pl) : Prop :=
  ∃ x : Item, x.key = key ∧ ((p.op = true ∧ p.rg = 0 ∧ G.opn[p.ix]? = some x) ∨ (p.op = false ∧ 0 < rnum G.regs p.rg ∧ (rl G.regs p.rg)[p.ix]? = some x))
def Lg.rank (G : Lg) (p : Pl) : Nat := if p.op then G.number + 1 else rnum G.regs p.rg
def Lg.elder (G : Lg) (q p : Pl) : Prop := G.rank q < G.rank p ∨ (G.rank q = G.rank p ∧ q.ix ≤ p.ix)
structure Fresh (G : Lg) : Prop where
  non : ∀ key, aget G.keys key = none → ∀ p, ¬ G.Has key p
  som : ∀ key p, aget G.keys key = some p → G.Has key p ∧ ∀ q, G.Has key q → G.elder q p
/-- the regions' numbers -/
def Nums (G : Lg) : Prop := ∀ i, 0 < rnum G.regs i → rnum G.regs i % G.regs.length = i ∧ rnum G.regs i ≤ G.number ∧ G.number < rnum G.regs i + G.regs.length

theorem elder_antisymm {G : Lg} (hn : Nums G) {key : ByteArray} {p q : Pl} (hp : G.Has key p) (hq : G.Has key q) (h1 : G.elder p q) (h2 : G.elder q p) : p = q := by
  have hr : G.rank p = G.rank q ∧ p.ix = q.ix := by
    unfold Lg.elder at h1 h2
    omega
  obtain ⟨pop, prg, pix⟩ := p
  obtain ⟨qop, qrg, qix⟩ := q
  obtain ⟨hr, rfl⟩ := hr
  unfold Lg.rank at hr
  obtain ⟨x, _, hx⟩ := hp
  obtain ⟨y, _, hy⟩ := hq
  cases pop with
  | true =>
    cases qop with
    | true =>
      rcases hx with ⟨_, rfl, _⟩ | ⟨h, _⟩
      · rcases hy with ⟨_, rfl, _⟩ | ⟨h, _⟩
        · rfl
        · cases h
      · cases h
    | false =>
      rcases hy with ⟨h, _⟩ | ⟨_, h, _⟩
      · cases h
      · have a1 : rnum G.regs qrg ≤ G.number := (hn _ h).2.1
        have hr' : G.number + 1 = rnum G.regs qrg := hr
        omega
  | false =>
    rcases hx with ⟨h, _⟩ | ⟨_, h, _⟩
    · cases h
    · have a1 : rnum G.regs prg % G.regs.length = prg ∧ rnum G.regs prg ≤ G.number ∧ _ := hn _ h
      cases qop with
      | true =>
        have hr' : rnum G.regs prg = G.number + 1 := hr
        omega
      | false =>
        have hr' : rnum G.regs prg = rnum G.regs qrg := hr
        rcases hy with ⟨h', _⟩ | ⟨_, h', _⟩
        · cases h'
        · have a2 : rnum G.regs qrg % G.regs.length = qrg ∧ _ := hn _ h'
          have e : prg = qrg := by rw [← a1.1, ← a2.1, hr']
          rw [e]
/-- two logs of the same sealed regions, with nothing open, tell the same -/
theorem Fresh.same {G G' : Lg} (hn : Nums G) (h : Fresh G) (h' : Fresh G') (hr : G'.regs = G.regs) (ho : G.opn = []) (ho' : G'.opn = []) (key : ByteArray) : aget G'.keys key = aget G.keys key := by
  have hH : ∀ k p, G'.Has k p ↔ G.Has k p := by
    intro k p
    unfold Lg.Has
    rw [hr, ho, ho']
  have hop : ∀ k p, G.Has k p → p.op = false := by
    rintro k p ⟨x, _, ⟨_, _, hx⟩ | ⟨hx, _⟩⟩
    · rw [ho] at hx; simp at hx
    · exact hx
  have hE : ∀ k p q, G.Has k p → G.Has k q → G'.elder q p → G.elder q p := by
    intro k p q h1 h2 he
    have r1 : G'.rank p = G.rank p := by unfold Lg.rank; rw [hop _ _ h1, hr]; rfl
    have r2 : G'.rank q = G.rank q := by unfold Lg.rank; rw [hop _ _ h2, hr]; rfl
    unfold Lg.elder at he ⊢
    rw [r1, r2] at he
    exact he
  cases hk : aget G.keys key with
  | none =>
    cases hk' : aget G'.keys key with
    | none => rfl
    | some p => exact absurd ((hH _ _).1 (h'.som _ _ hk').1) (h.non _ hk p)
  | some p =>
    obtain ⟨hp, hmax⟩ := h.som _ _ hk
    cases hk' : aget G'.keys key with
    | none => exact absurd ((hH _ _).2 hp) (h'.non _ hk' p)
    | some p' =>
      obtain ⟨hp', hmax'⟩ := h'.som _ _ hk'
      have hp2 := (hH _ _).1 hp'
      rw [elder_antisymm hn hp2 hp (hmax _ hp2) (hE _ _ _ hp2 hp (hmax' _ ((hH _ _).2 hp)))]
theorem items_congr {G G' : Lg} (hr : G'.regs = G.regs) (ho : G'.opn = G.opn) (hk : ∀ key, aget G'.keys key = aget G.keys key) : G'.items = G.items := by
  unfold Lg.items pick
  simp only [hr, ho, hk]

/-! putting -/
theorem Fresh.add {G : Lg} (hn : Nums G) (h : Fresh G) (x : Item) : Fresh (G.add x) ∧ Nums (G.add x) := by
  have hH : ∀ key q, x.key ≠ key → (G.add x).Has key q → G.Has key q := by
    rintro key q hne ⟨y, hy, ⟨h1, h2, h3⟩ | h⟩
    · have h3' : (G.opn ++ [x])[q.ix]? = some y := h3
      rcases Nat.lt_or_ge q.ix G.opn.length with hlt | hge
      · rw [List.getElem?_append_left hlt] at h3'
        exact ⟨y, hy, .inl ⟨h1, h2, h3'⟩⟩
      · rw [List.getElem?_append_right hge] at h3'
        rcases Nat.eq_or_lt_of_le hge with e | e
        · rw [← e] at h3'
          simp at h3'
          exact absurd (by rw [h3']; exact hy) hne
        · rw [List.getElem?_eq_none (by simp; omega)] at h3'
          cases h3'
    · exact ⟨y, hy, .inr h⟩
  have hH2 : ∀ key q, G.Has key q → (G.add x).Has key q := by
    rintro key q ⟨y, hy, ⟨h1, h2, h3⟩ | h⟩
    · refine ⟨y, hy, .inl ⟨h1, h2, ?_⟩⟩
      show (G.opn ++ [x])[q.ix]? = some y
      rw [List.getElem?_append_left (List.getElem?_eq_some_iff.1 h3).1]
      exact h3
    · exact ⟨y, hy, .inr h⟩
  refine ⟨⟨fun key hk p hp => ?_, fun key p hk => ?_⟩, hn⟩
  · have hk' : aget (aset G.keys x.key ⟨true, 0, G.opn.length⟩) key = none := hk
    rw [aget_aset] at hk'
    split at hk'
    · cases hk'
    · rename_i hne
      exact h.non _ hk' p (hH _ _ hne hp)
  · have hk' : aget (aset G.keys x.key ⟨true, 0, G.opn.length⟩) key = some p := hk
    rw [aget_aset] at hk'
    split at hk'
    · rename_i he
      injection hk' with hk'
      subst hk'
      refine ⟨⟨x, he, .inl ⟨rfl, rfl, ?_⟩⟩, fun q hq => ?_⟩
      · show (G.opn ++ [x])[G.opn.length]? = some x
        rw [List.getElem?_append_right (Nat.le_refl _), Nat.sub_self]; rfl
      · obtain ⟨y, hy, ⟨h1, h2, h3⟩ | ⟨h1, h2, h3⟩⟩ := hq
        · have hl := (List.getElem?_eq_some_iff.1 h3).1
          have hl' : q.ix < (G.opn ++ [x]).length := hl
          rw [List.length_append] at hl'
          simp only [List.length_singleton] at hl'
          right
          refine ⟨?_, by show q.ix ≤ G.opn.length; omega⟩
          unfold Lg.rank
          rw [h1]; rfl
        · left
          have := (hn _ h2).2.1
          unfold Lg.rank
          rw [h1]
          show rnum G.regs q.rg < G.number + 1
          omega
    · rename_i hne
      obtain ⟨hp, hm⟩ := h.som _ _ hk'
      exact ⟨hH2 _ _ hp, fun q hq => hm q (hH _ _ hne hq)⟩

/-! sealing -/
theorem rnum_shut (G : Lg) (hp : 0 < G.regs.length) (i : Nat) : rnum G.shut.regs i = if i = G.next then G.number + 1 else rnum G.regs i := by
  have hi : G.next < G.regs.length := Nat.mod_lt _ hp
  unfold rnum Lg.shut
  simp only
  by_cases h : i = G.next
  · rw [if_pos h, h, List.getD_eq_getElem?_getD, List.getElem?_set_self (by simpa using hi)]; rfl
  · rw [if_neg h, List.getD_eq_getElem?_getD, List.getElem?_set_ne (Ne.symm h), List.getElem?_set_ne (Ne.symm h), ← List.getD_eq_getElem?_getD]
theorem rl_shut (G : Lg) (hp : 0 < G.regs.length) (i : Nat) : rl G.shut.regs i = if i = G.next then G.opn else rl G.regs i := by
  have hi : G.next < G.regs.length := Nat.mod_lt _ hp
  unfold rl Lg.shut
  simp only
  by_cases h : i = G.next
  · rw [if_pos h, h, List.getD_eq_getElem?_getD, List.getElem?_set_self (by simpa using hi)]; rfl
  · rw [if_neg h, List.getD_eq_getElem?_getD, List.getElem?_set_ne (Ne.symm h), List.getElem?_set_ne (Ne.symm h), ← List.getD_eq_getElem?_getD]
theorem len_shut (G : Lg) : G.shut.regs.length = G.regs.length := by simp [Lg.shut]
theorem mod_next {m N r : Nat} (h1 : m % r = (N + 1) % r) (h2 : m ≤ N) (h3 : N < m + r) : m + r = N + 1 := by
  have h4 : (N + 1 - m) % r = 0 := by
    have := Nat.sub_mod_eq_zero_of_mod_eq h1.symm
    exact this
  have h5 : 0 < N + 1 - m := by omega
  have h6 : N + 1 - m ≤ r := by omega
  have h7 := Nat.le_of_dvd h5 (Nat.dvd_of_mod_eq_zero h4)
  omega
theorem Nums.shut {G : Lg} (hp : 0 < G.regs.length) (hn : Nums G) : Nums G.shut := by
  intro i hi
  rw [rnum_shut G hp] at hi ⊢
  rw [len_shut]
  show (if i = G.next then G.number + 1 else rnum G.regs i) % G.regs.length = i ∧ _ ≤ G.number + 1 ∧ G.number + 1 < _
  by_cases h : i = G.next
  · rw [if_pos h]
    exact ⟨by rw [h]; rfl, Nat.le_refl _, by omega⟩
  · rw [if_neg h] at hi ⊢
    have := hn i hi
    refine ⟨this.1, by omega, ?_⟩
    rcases Nat.lt_or_ge (G.number + 1) (rnum G.regs i + G.regs.length) with h1 | h1
    · exact h1
    · exfalso
      have e : G.number + 1 = rnum G.regs i + G.regs.length := by omega
      apply h
      rw [← this.1]
      unfold Lg.next
      rw [e, Nat.add_mod_right]
theorem given_get (G : Lg) (ho : G.Ok) (hn : (akeys G.keys).Nodup) (key : ByteArray) : aget G.given.2 key = match aget G.keys key with
    | none => none
    | some p => if p.op = false ∧ p.rg = G.next then none else some p := by
  have hi : G.next < G.regs.length := Nat.mod_lt _ ho.pos
  have hv : ∀ key k, aget G.keys key = some ⟨false, G.next, k⟩ → ∃ x, (rl G.regs G.next)[k]? = some x ∧ x.key = key := by
    intro key k hk
    have := ho.keys key _ hk
    unfold Lg.plOk at this
    simp only [Bool.false_eq_true, if_false] at this
    obtain ⟨S, x, hS, hx, hxk⟩ := this
    refine ⟨x, ?_, hxk⟩
    unfold rl
    rw [List.getD_eq_getElem?_getD, hS]
    exact hx
  have hget := giveT_get G.next G.keys (rl G.regs G.next) hn _ (Nat.le_refl _) key
  have hnone := giveT_none G.next G.keys (rl G.regs G.next) hn hv _ (Nat.le_refl _)
  have hlost := (giveT_lost G.next G.keys (rl G.regs G.next) hn _ (Nat.le_refl _)).2
  have hsub := giveT_sub G.next G.keys (rl G.regs G.next) hn _ (Nat.le_refl _)
  rw [giveT_all] at hget hnone hlost hsub
  change ∀ x ∈ G.given.1, _ at hlost
  change aget G.given.2 key = if hasKey key G.given.1 = true then none else aget G.keys key at hget
  change ∀ key j, aget G.given.2 key = some ⟨false, G.next, j⟩ → _ at hnone
  cases hk : aget G.keys key with
  | none =>
    rw [hk] at hget
    rw [hget]
    simp
  | some p =>
    simp only
    by_cases hpn : p.op = false ∧ p.rg = G.next
    · rw [if_pos hpn]
      obtain ⟨pop, prg, pix⟩ := p
      simp only at hpn
      obtain ⟨rfl, rfl⟩ := hpn
      cases hg : aget G.given.2 key with
      | none => rfl
      | some p' =>
        have hs := hsub key p' hg
        rw [hk] at hs
        injection hs with hs
        subst hs
        have h1 := hnone _ _ hg
        obtain ⟨x, hx, _⟩ := hv _ _ hk
        have h2 := (List.getElem?_eq_some_iff.1 hx).1
        omega
    · rw [if_neg hpn]
      rw [hk] at hget
      rw [hget, if_neg]
      intro hh
      obtain ⟨y, hy, hyk⟩ := List.mem_map.1 ((hasKey_iff _ _).1 hh)
      obtain ⟨j, _, _, hj⟩ := hlost y hy
      rw [hyk, hk] at hj
      injection hj with hj
      subst hj
      exact hpn ⟨rfl, rfl⟩
theorem shut_get (G : Lg) (ho : G.Ok) (hn : (akeys G.keys).Nodup) (key : ByteArray) : aget G.shut.keys key = match aget G.keys key with
    | none => none
    | some p => if p.op = true then some ⟨false, G.next, p.ix⟩ else if p.rg = G.next then none else some p := by
  have hi : G.next < G.regs.length := Nat.mod_lt _ ho.pos
  have hg := ho.gave hn hi
  have hv : ∀ key p, aget G.given.2 key = some p → p.op = true → p.rg = 0 ∧ ∃ x, G.opn[p.ix]? = some x ∧ x.key = key := by
    intro key p hp hop
    have := hg.keys key p hp
    unfold Lg.plOk at this
    rw [if_pos hop] at this
    exact this
  show aget (moveK G.next G.given.2 G.opn) key = _
  rw [← moveT_all, moveT_get _ _ _ hv _ (Nat.le_refl _), given_get G ho hn]
  cases hk : aget G.keys key with
  | none => rfl
  | some p =>
    simp only
    have hok := ho.keys key p hk
    unfold Lg.plOk at hok
    by_cases hop : p.op = true
    · rw [if_pos hop] at hok
      obtain ⟨_, x, hx, _⟩ := hok
      have hlt := (List.getElem?_eq_some_iff.1 hx).1
      rw [if_neg (fun hh => by rw [hop] at hh; cases hh.1), if_pos hop]
      simp [moved, hop, hlt]
    · have hop' : p.op = false := by simpa using hop
      rw [if_neg hop]
      by_cases hr : p.rg = G.next
      · rw [if_pos hr, if_pos ⟨hop', hr⟩]; rfl
      · rw [if_neg hr, if_neg (fun hh => hr hh.2)]
        simp [moved, hop']
theorem Fresh.shut {G : Lg} (ho : G.Ok) (hd : (akeys G.keys).Nodup) (hn : Nums G) (h : Fresh G) : Fresh G.shut := by
  have hp := ho.pos
  have hopn : ∀ key q, G.shut.Has key q → q.op = false ∧ ((q.rg = G.next ∧ G.Has key ⟨true, 0, q.ix⟩) ∨ (q.rg ≠ G.next ∧ G.Has key q)) := by
    rintro key q ⟨y, hy, ⟨h1, h2, h3⟩ | ⟨h1, h2, h3⟩⟩
    · have h3' : ([] : List Item)[q.ix]? = some y := h3
      simp at h3'
    · refine ⟨h1, ?_⟩
      rw [rnum_shut G hp] at h2
      rw [rl_shut G hp] at h3
      by_cases hq : q.rg = G.next
      · rw [if_pos hq] at h3
        exact .inl ⟨hq, y, hy, .inl ⟨rfl, rfl, h3⟩⟩
      · rw [if_neg hq] at h2 h3
        exact .inr ⟨hq, y, hy, .inr ⟨h1, h2, h3⟩⟩
  have hrk : ∀ q : Pl, q.op = false → G.shut.rank q = if q.rg = G.next then G.number + 1 else rnum G.regs q.rg := by
    intro q hq
    unfold Lg.rank
    rw [hq, if_neg (by simp), rnum_shut G hp]
  have hrkG : ∀ q : Pl, q.op = false → G.rank q = rnum G.regs q.rg := by
    intro q hq
    unfold Lg.rank
    rw [hq, if_neg (by simp)]
  refine ⟨fun key hk q hq => ?_, fun key p1 hk => ?_⟩
  · rw [shut_get G ho hd] at hk
    obtain ⟨hqo, hq⟩ := hopn key q hq
    cases hg : aget G.keys key with
    | none =>
      rcases hq with ⟨_, hq⟩ | ⟨_, hq⟩
      · exact h.non _ hg _ hq
      · exact h.non _ hg _ hq
    | some p =>
      rw [hg] at hk
      simp only at hk
      split at hk
      · cases hk
      · rename_i hop
        have hop' : p.op = false := by simpa using hop
        split at hk
        · rename_i hrg
          obtain ⟨⟨x, _, hx⟩, hmax⟩ := h.som _ _ hg
          rcases hx with ⟨h1, _⟩ | ⟨_, h2, _⟩
          · rw [hop'] at h1; cases h1
          · have hnm := hn _ h2
            rcases hq with ⟨_, hq⟩ | ⟨hne, hq⟩
            · have := hmax _ hq
              unfold Lg.elder at this
              rw [hrkG p hop'] at this
              have e : G.rank ⟨true, 0, q.ix⟩ = G.number + 1 := rfl
              rw [e] at this
              omega
            · have := hmax _ hq
              unfold Lg.elder at this
              rw [hrkG p hop', hrkG q hqo] at this
              obtain ⟨y, _, hy⟩ := hq
              rcases hy with ⟨h1, _⟩ | ⟨_, h3, _⟩
              · rw [hqo] at h1; cases h1
              · have hnq := hn _ h3
                have h5 : rnum G.regs p.rg % G.regs.length = (G.number + 1) % G.regs.length := by rw [hnm.1, hrg]; rfl
                have h6 := mod_next h5 hnm.2.1 hnm.2.2
                have h7 : rnum G.regs q.rg = rnum G.regs p.rg := by omega
                apply hne
                rw [← hnq.1, h7, hnm.1]
                exact hrg
        · cases hk
  · rw [shut_get G ho hd] at hk
    cases hg : aget G.keys key with
    | none => rw [hg] at hk; cases hk
    | some p =>
      rw [hg] at hk
      simp only at hk
      obtain ⟨⟨x, hxk, hx⟩, hmax⟩ := h.som _ _ hg
      by_cases hop : p.op = true
      · rw [if_pos hop] at hk
        injection hk with hk
        subst hk
        rcases hx with ⟨_, _, hx⟩ | ⟨h1, _⟩
        · refine ⟨⟨x, hxk, .inr ⟨rfl, ?_, ?_⟩⟩, fun q hq => ?_⟩
          · rw [rnum_shut G hp, if_pos rfl]; omega
          · rw [rl_shut G hp, if_pos rfl]; exact hx
          · obtain ⟨hqo, hq⟩ := hopn key q hq
            unfold Lg.elder
            rw [hrk q hqo, hrk _ rfl, if_pos rfl]
            rcases hq with ⟨hr, hq⟩ | ⟨hr, hq⟩
            · rw [if_pos hr]
              right
              refine ⟨rfl, ?_⟩
              have := hmax _ hq
              unfold Lg.elder Lg.rank at this
              rw [hop] at this
              simp only [if_true] at this
              show q.ix ≤ p.ix
              omega
            · rw [if_neg hr]
              left
              obtain ⟨y, _, hy⟩ := hq
              rcases hy with ⟨h1, _⟩ | ⟨_, h3, _⟩
              · rw [hqo] at h1; cases h1
              · have := (hn _ h3).2.1; omega
        · rw [hop] at h1; cases h1
      · rw [if_neg hop] at hk
        have hop' : p.op = false := by simpa using hop
        split at hk
        · cases hk
        · rename_i hrg
          injection hk with hk
          subst hk
          rcases hx with ⟨h1, _⟩ | ⟨_, h2, h3⟩
          · exact absurd h1 hop
          · refine ⟨⟨x, hxk, .inr ⟨hop', ?_, ?_⟩⟩, fun q hq => ?_⟩
            · rw [rnum_shut G hp, if_neg hrg]; exact h2
            · rw [rl_shut G hp, if_neg hrg]; exact h3
            · obtain ⟨hqo, hq⟩ := hopn key q hq
              unfold Lg.elder
              rw [hrk q hqo, hrk _ hop', if_neg hrg]
              rcases hq with ⟨hr, hq⟩ | ⟨hr, hq⟩
              · exfalso
                have := hmax _ hq
                unfold Lg.elder at this
                rw [hrkG p hop'] at this
                have e : G.rank ⟨true, 0, q.ix⟩ = G.number + 1 := rfl
                rw [e] at this
                have := (hn _ h2).2.1
                omega
              · rw [if_neg hr]
                have := hmax _ hq
                unfold Lg.elder at this
                rw [hrkG p hop', hrkG q hqo] at this
                exact this

/-! opening -/
theorem insR_desc (f : Nat → Nat) (x : Nat) (l : List Nat) (h : l.Pairwise fun a b => f b ≤ f a) : (insR f x l).Pairwise fun a b => f b ≤ f a := by
  induction l with
  | nil => simp [insR]
  | cons y r ih =>
    rw [List.pairwise_cons] at h
    rw [insR]
    split
    · rename_i hlt
      rw [List.pairwise_cons]
      refine ⟨fun z hz => ?_, ih h.2⟩
      rcases (insR_mem f x z r).1 hz with e | e
      · rw [e]; omega
      · exact h.1 z e
    · rename_i hge
      rw [List.pairwise_cons, List.pairwise_cons]
      refine ⟨fun z hz => ?_, h⟩
      rcases List.mem_cons.1 hz with e | e
      · rw [e]; omega
      · have := h.1 z e; omega
theorem byNum_sorted (regs : List Sealed) : (byNum regs).Pairwise fun a b => rnum regs a ≤ rnum regs b := by
  have hd : ∀ l : List Nat, (insL (rnum regs) l).Pairwise fun a b => rnum regs b ≤ rnum regs a := by
    intro l
    rw [← List.reverse_reverse l]
    generalize l.reverse = m
    induction m with
    | nil => simp [insL]
    | cons x r ih =>
      rw [List.reverse_cons, insL_snoc]
      exact insR_desc _ _ _ ih
  exact List.pairwise_reverse.2 (hd _)
theorem byNum_pos {regs : List Sealed} {i : Nat} (h : i ∈ byNum regs) : 0 < rnum regs i := by
  unfold byNum sortR at h
  rw [List.mem_reverse] at h
  have := (insL_mem (rnum regs) i (counts regs)).1 h
  simpa using (List.mem_filter.1 this).2
theorem layK_snoc (i : Nat) (ks : Keys) (l : List Item) (x : Item) : layK i ks (l ++ [x]) = aset (layK i ks l) x.key ⟨false, i, l.length⟩ := by
  unfold layK
  rw [List.zipIdx_append, List.foldl_append]
  simp
theorem layK_at (i : Nat) (ks : Keys) (key : ByteArray) (l : List Item) :
    (∃ (j : Nat) (x : Item), l[j]? = some x ∧ x.key = key ∧ (∀ (j' : Nat) (x' : Item), l[j']? = some x' → x'.key = key → j' ≤ j) ∧ aget (layK i ks l) key = some ⟨false, i, j⟩) ∨ ((∀ (j : Nat) (x : Item), l[j]? = some x → x.key ≠ key) ∧ aget (layK i ks l) key = aget ks key) := by
  rw [← List.reverse_reverse l]
  generalize l.reverse = m
  induction m with
  | nil => exact .inr ⟨fun j x h => by simp at h, rfl⟩
  | cons y r ih =>
    rw [List.reverse_cons]
    generalize r.reverse = l at ih
    rw [layK_snoc, aget_aset]
    have hget : ∀ (j : Nat) (x : Item), (l ++ [y])[j]? = some x → (l[j]? = some x) ∨ (j = l.length ∧ x = y) := by
      intro j x h
      rcases Nat.lt_or_ge j l.length with hlt | hge
      · rw [List.getElem?_append_left hlt] at h; exact .inl h
      · rw [List.getElem?_append_right hge] at h
        rcases Nat.eq_or_lt_of_le hge with e | e
        · rw [← e] at h
          simp at h
          exact .inr ⟨e.symm, h.symm⟩
        · rw [List.getElem?_eq_none (by simp; omega)] at h
          cases h
    by_cases hy : y.key = key
    · rw [if_pos hy]
      refine .inl ⟨l.length, y, by rw [List.getElem?_append_right (Nat.le_refl _), Nat.sub_self]; rfl, hy, fun j' x' h _ => ?_, rfl⟩
      rcases hget j' x' h with h | h
      · exact Nat.le_of_lt (List.getElem?_eq_some_iff.1 h).1
      · omega
    · rw [if_neg hy]
      rcases ih with ⟨j, x, h1, h2, h3, h4⟩ | ⟨h1, h2⟩
      · refine .inl ⟨j, x, by rw [List.getElem?_append_left (List.getElem?_eq_some_iff.1 h1).1]; exact h1, h2, fun j' x' h hx' => ?_, h4⟩
        rcases hget j' x' h with h | ⟨_, h⟩
        · exact h3 j' x' h hx'
        · rw [h] at hx'; exact absurd hx' hy
      · refine .inr ⟨fun j x h hx => ?_, h2⟩
        rcases hget j x h with h | ⟨_, h⟩
        · exact h1 j x h hx
        · rw [h] at hx; exact hy hx
theorem opened_at (regs : List Sealed) (key : ByteArray) (L : List Nat) (hs : L.Pairwise fun a b => rnum regs a ≤ rnum regs b) :
    (aget (L.foldl (fun ks i => layK i ks (rl regs i)) []) key = none ∧ ∀ i ∈ L, ∀ (j : Nat) (x : Item), (rl regs i)[j]? = some x → x.key ≠ key) ∨
      ∃ (i j : Nat) (x : Item), aget (L.foldl (fun ks i => layK i ks (rl regs i)) []) key = some ⟨false, i, j⟩ ∧ i ∈ L ∧ (rl regs i)[j]? = some x ∧ x.key = key ∧ ∀ i' ∈ L, ∀ (j' : Nat) (x' : Item), (rl regs i')[j']? = some x' → x'.key = key → rnum regs i' ≤ rnum regs i ∧ (i' = i → j' ≤ j) := by
  rw [← List.reverse_reverse L] at hs ⊢
  generalize L.reverse = m at hs ⊢
  induction m with
  | nil => exact .inl ⟨rfl, fun i hi => by simp at hi⟩
  | cons y r ih =>
    rw [List.reverse_cons] at hs ⊢
    generalize r.reverse = L at ih hs ⊢
    rw [List.pairwise_append] at hs
    have ih := ih hs.1
    rw [List.foldl_append]
    simp only [List.foldl_cons, List.foldl_nil]
    rcases layK_at y (L.foldl (fun ks i => layK i ks (rl regs i)) []) key (rl regs y) with ⟨j, x, h1, h2, h3, h4⟩ | ⟨h1, h2⟩
    · refine .inr ⟨y, j, x, h4, by simp, h1, h2, fun i' hi' j' x' hx' hk' => ?_⟩
      rcases List.mem_append.1 hi' with h | h
      · refine ⟨hs.2.2 i' h y (by simp), fun e => ?_⟩
        subst e
        exact h3 j' x' hx' hk'
      · simp only [List.mem_singleton] at h
        subst h
        exact ⟨Nat.le_refl _, fun _ => h3 j' x' hx' hk'⟩
    · rw [h2]
      rcases ih with ⟨h5, h6⟩ | ⟨i, j, x, h5, h6, h7, h8, h9⟩
      · refine .inl ⟨h5, fun i hi j x hx => ?_⟩
        rcases List.mem_append.1 hi with h | h
        · exact h6 i h j x hx
        · simp only [List.mem_singleton] at h
          subst h
          exact h1 j x hx
      · refine .inr ⟨i, j, x, h5, List.mem_append_left _ h6, h7, h8, fun i' hi' j' x' hx' hk' => ?_⟩
        rcases List.mem_append.1 hi' with h | h
        · exact h9 i' h j' x' hx' hk'
        · simp only [List.mem_singleton] at h
          subst h
          exact absurd hk' (h1 j' x' hx')
theorem Fresh.opened {D : Dev} {first n : Nat} (hn : Nums (Lg.opened D first n)) : Fresh (Lg.opened D first n) := by
  have hin : ∀ i, i < (opRegs D first n).length → 0 < rnum (opRegs D first n) i → i ∈ byNum (opRegs D first n) := fun i hi h0 => byNum_mem hi h0
  have hH : ∀ key q, (Lg.opened D first n).Has key q → q.op = false ∧ q.rg ∈ byNum (opRegs D first n) ∧ ∃ x, (rl (opRegs D first n) q.rg)[q.ix]? = some x ∧ x.key = key := by
    rintro key q ⟨x, hx, ⟨h1, h2, h3⟩ | ⟨h1, h2, h3⟩⟩
    · have h3' : ([] : List Item)[q.ix]? = some x := h3
      simp at h3'
    · have h2' : 0 < rnum (opRegs D first n) q.rg := h2
      refine ⟨h1, hin _ ?_ h2', x, h3, hx⟩
      rcases Nat.lt_or_ge q.rg (opRegs D first n).length with h | h
      · exact h
      · unfold rnum at h2'
        rw [List.getD_eq_getElem?_getD, List.getElem?_eq_none h] at h2'
        simp [Sealed.no] at h2'
  refine ⟨fun key hk q hq => ?_, fun key p hk => ?_⟩
  · rcases opened_at (opRegs D first n) key (byNum (opRegs D first n)) (byNum_sorted _) with ⟨h1, h2⟩ | ⟨i, j, x, h1, _⟩
    · obtain ⟨_, hm, x, hx, hxk⟩ := hH key q hq
      exact h2 _ hm _ _ hx hxk
    · have hk' : aget ((byNum (opRegs D first n)).foldl (fun ks i => layK i ks (rl (opRegs D first n) i)) []) key = none := hk
      rw [h1] at hk'
      cases hk'
  · have hk' : aget ((byNum (opRegs D first n)).foldl (fun ks i => layK i ks (rl (opRegs D first n) i)) []) key = some p := hk
    rcases opened_at (opRegs D first n) key (byNum (opRegs D first n)) (byNum_sorted _) with ⟨h1, h2⟩ | ⟨i, j, x, h1, h2, h3, h4, h5⟩
    · rw [h1] at hk'
      cases hk'
    · rw [h1] at hk'
      injection hk' with hk'
      subst hk'
      have hpos := byNum_pos h2
      refine ⟨⟨x, h4, .inr ⟨rfl, hpos, h3⟩⟩, fun q hq => ?_⟩
      obtain ⟨hqo, hm, y, hy, hyk⟩ := hH key q hq
      have h6 := h5 _ hm _ _ hy hyk
      unfold Lg.elder Lg.rank
      rw [hqo]
      simp only [Bool.false_eq_true, if_false]
      show rnum (opRegs D first n) q.rg < rnum (opRegs D first n) i ∨ rnum (opRegs D first n) q.rg = rnum (opRegs D first n) i ∧ q.ix ≤ j
      rcases Nat.lt_or_ge (rnum (opRegs D first n) q.rg) (rnum (opRegs D first n) i) with h | h
      · exact .inl h
      · right
        have e : rnum (opRegs D first n) q.rg = rnum (opRegs D first n) i := by omega
        have n1 := (hn q.rg (byNum_pos hm)).1
        have n2 := (hn i hpos).1
        have n1' : rnum (opRegs D first n) q.rg % (Lg.opened D first n).regs.length = q.rg := n1
        have n2' : rnum (opRegs D first n) i % (Lg.opened D first n).regs.length = i := n2
        exact ⟨e, h6.2 (by rw [← n1', e, n2'])⟩

/-! the items that are told -/
theorem items_mem {G : Lg} {x : Item} (h : x ∈ G.items) : ∃ p, aget G.keys x.key = some p ∧ G.item p = x ∧ ((p.op = true ∧ p.rg = 0 ∧ G.opn[p.ix]? = some x) ∨ (p.op = false ∧ p.rg ∈ byNum G.regs ∧ (rl G.regs p.rg)[p.ix]? = some x)) := by
  rw [items_pl] at h
  obtain ⟨q, hq, rfl⟩ := List.mem_map.1 h
  obtain ⟨hm, hg⟩ := List.mem_filter.1 hq
  unfold plGood at hg
  simp only [decide_eq_true_eq] at hg
  refine ⟨q.2, hg, ?_⟩
  have hz : ∀ (l : List Item) (p : Item × Nat), p ∈ l.zipIdx → l[p.2]? = some p.1 := fun l p hp => List.mem_zipIdx_iff_getElem?.1 hp
  unfold allPl at hm
  rcases List.mem_append.1 hm with hm | hm
  · obtain ⟨i, hi, hm⟩ := List.mem_flatMap.1 hm
    obtain ⟨p, hp, rfl⟩ := List.mem_map.1 hm
    have := hz _ _ hp
    refine ⟨?_, .inr ⟨rfl, hi, this⟩⟩
    show (if false = true then _ else (rl G.regs i).getD p.2 Item.zero) = p.1
    rw [if_neg (by simp), List.getD_eq_getElem?_getD, this]; rfl
  · obtain ⟨p, hp, rfl⟩ := List.mem_map.1 hm
    have := hz _ _ hp
    refine ⟨?_, .inl ⟨rfl, rfl, this⟩⟩
    show (if true = true then G.opn.getD p.2 Item.zero else _) = p.1
    rw [if_pos rfl, List.getD_eq_getElem?_getD, this]; rfl
theorem mem_items {G : Lg} {x : Item} {i j : Nat} (hk : aget G.keys x.key = some ⟨false, i, j⟩) (hi : i ∈ byNum G.regs) (hx : (rl G.regs i)[j]? = some x) : x ∈ G.items := by
  rw [items_pl]
  refine List.mem_map.2 ⟨(x, ⟨false, i, j⟩), List.mem_filter.2 ⟨?_, ?_⟩, rfl⟩
  · unfold allPl
    refine List.mem_append_left _ (List.mem_flatMap.2 ⟨i, hi, List.mem_map.2 ⟨(x, j), List.mem_zipIdx_iff_getElem?.2 hx, rfl⟩⟩)
  · unfold plGood
    simpa using hk
end Go.Proofs.Ytcmobcbecbajiaa

/- Two pages of a region in each other's place, in plain Lean. -/
namespace Go.Proofs.Ytcmobcbecbajiaa
open Go.RowKit
set_option linter.unusedSimpArgs false
set_option linter.unusedVariables false

theorem nums_new (n r : Nat) : Nums (Lg.opened (Dev.new n) 0 r) := by
  rw [opened_new]
  intro i hi
  exfalso
  unfold rnum at hi
  simp only [List.getD_eq_getElem?_getD, List.getElem?_replicate] at hi
  split at hi <;> simp [Sealed.no] at hi
theorem fresh_new (n r : Nat) : Fresh (Lg.opened (Dev.new n) 0 r) := Fresh.opened (nums_new n r)
theorem Live.fresh_sl {G : Lg} {D : Dev} (h : Live G D) (hn : G.number + 1 < 18446744073709551616) (hN : Nums G) (hF : Fresh G) : Nums (G.sl D).G ∧ Fresh (G.sl D).G := by
  have hs := h.sl hn
  by_cases h0 : G.opn = []
  · rw [hs.2.2.1 h0]; exact ⟨hN, hF⟩
  · rw [hs.2.2.2 h0]; exact ⟨hN.shut h.ok.pos, hF.shut h.ok h.nd hN⟩
theorem Live.fresh_put {G : Lg} {D : Dev} (h : Live G D) (hn : G.number + 1 < 18446744073709551616) (hN : Nums G) (hF : Fresh G) (x : Item) : Nums (G.put D x).G ∧ Fresh (G.put D x).G := by
  have hs := h.fresh_sl hn hN hF
  unfold Lg.put
  split
  · split
    · have := hF.add hN x; exact ⟨this.2, this.1⟩
    · split
      · have := hs.2.add hs.1 x; exact ⟨this.2, this.1⟩
      · exact hs
  · exact ⟨hN, hF⟩
theorem pad_at2 (b : List UInt8) (n k : Nat) (hk : k < 256) : ((Dev.pad (rgPg b n k)).getD 2 0).toNat = k := by
  obtain ⟨z, e⟩ := pad_parts b n k
  rw [e]
  show (UInt8.ofNat k).toNat = k
  rw [UInt8.toNat_ofNat']; omega
theorem pad_full {b : List UInt8} (h : b.length = 384) : Dev.pad b = b := by unfold Dev.pad; rw [h]; simp
theorem OneR.pageAt {G : Lg} {D : Dev} {i p : Nat} (h : OneR G D i) (h0 : G.number ≠ 0) (hp : p < 4) : ∃ S, G.regs = [S] ∧ S.num = G.number ∧ SealedAt (D.rpg 0 0) G.number S.l ∧ goods S.l = true ∧ isum S.l ≤ 1472 ∧ D.page p = .full (Dev.pad (rgPg (records S.l) G.number p)) := by
  obtain ⟨S, h1, h2, _, hs⟩ := h.reg
  have hsl := hs h0
  refine ⟨S, h1, h2, hsl.1, hsl.2.1, hsl.2.2, ?_⟩
  have := hsl.1 p hp
  have e : D.rpg 0 0 p = D.page p := by simp [Dev.rpg]
  rw [← e]; exact this
theorem OneR.two {G : Lg} {D : Dev} {i a b : Nat} (h : OneR G D i) (ha : a < 4) (hb : b < 4) {px py : List UInt8} (hxl : px.length = 384) (hyl : py.length = 384) :
    ((D.write a py).write b px).On ∧ ((D.write a py).write b px).n = 4 ∧ ∀ k, ((D.write a py).write b px).rpg 0 0 k = if k = b then .full px else if k = a then .full py else D.rpg 0 0 k := by
  have hw := h.live.on.write (k := a) (by rw [h.pages]; exact ha) (b := py) (by omega)
  have hw2 := hw.2.1.write (k := b) (by rw [hw.2.2.1, h.pages]; exact hb) (b := px) (by omega)
  refine ⟨hw2.2.1, by rw [hw2.2.2.1, hw.2.2.1, h.pages], fun k => ?_⟩
  have h2 := hw2.2.2.2.2 k
  have h1 := hw.2.2.2.2 k
  rw [pad_full hxl] at h2
  rw [pad_full hyl] at h1
  have e1 : ∀ D : Dev, D.rpg 0 0 k = D.page k := fun D => by simp [Dev.rpg]
  rw [e1, e1, h2, h1]
theorem OneR.swapped {G : Lg} {D : Dev} {i a b : Nat} (h : OneR G D i) (hi : i < 2000) (h0 : G.number ≠ 0) (ha : a < 4) (hb : b < 4) (hab : a ≠ b) {px py : List UInt8} (hx : D.page a = .full px) (hy : D.page b = .full py) :
    (Lg.opened ((D.write a py).write b px) 0 1).items.length = 0 ∧ (Lg.opened ((D.write a py).write b px) 0 1).number = G.number := by
  obtain ⟨S, hS, _, hsl, _, _, hpa⟩ := h.pageAt h0 ha
  obtain ⟨S', hS', _, hsl', _, _, hpb⟩ := h.pageAt h0 hb
  have hnum := h.num
  obtain rfl : S' = S := by
    have e := hS'.symm.trans hS
    injection e
  have hpx : px = Dev.pad (rgPg (records S'.l) G.number a) := by rw [hx] at hpa; simpa using hpa
  have hpy : py = Dev.pad (rgPg (records S'.l) G.number b) := by rw [hy] at hpb; simpa using hpb
  have hxl : px.length = 384 := by rw [hpx]; exact pad_length _ (rgPg_le _ _ _)
  have hyl : py.length = 384 := by rw [hpy]; exact pad_length _ (rgPg_le _ _ _)
  obtain ⟨_, _, hr⟩ := h.two ha hb hxl hyl
  obtain ⟨D', hD'⟩ : ∃ D', D' = (D.write a py).write b px := ⟨_, rfl⟩
  rw [← hD'] at hr ⊢
  have hn0 : 0 < G.number := by omega
  have hn2 : G.number < 18446744073709551616 := by omega
  obtain ⟨q, hq, hqa, hqb⟩ : ∃ q, q < 4 ∧ q ≠ a ∧ q ≠ b := by
    by_cases a0 : a = 0 ∨ b = 0
    · by_cases a1 : a = 1 ∨ b = 1
      · exact ⟨2, by omega, by omega, by omega⟩
      · exact ⟨1, by omega, by omega, by omega⟩
    · exact ⟨0, by omega, by omega, by omega⟩
  have hqq : D'.rpg 0 0 q = .full (Dev.pad (rgPg (records S'.l) G.number q)) := by rw [hr, if_neg hqb, if_neg hqa]; exact hsl q hq
  have hqn : (D'.rpg 0 0 q).rn q = G.number := by rw [hqq]; exact pad_num _ _ _ (by omega) hn2
  have hra : (D'.rpg 0 0 a).rn a = 0 := by
    rw [hr, if_neg hab, if_pos rfl]
    show rgN py a = 0
    unfold rgN
    rw [if_neg]
    intro hf
    unfold rgForm at hf
    simp only [Bool.and_eq_true, decide_eq_true_eq] at hf
    have := hf.2.1
    rw [hpy, pad_at2 _ _ _ (by omega)] at this
    exact hab this.symm
  have hno := load_no (P := D'.rpg 0 0) ha hq (by rw [hra, hqn]; omega)
  have ho := opened_no_items hno
  refine ⟨ho.1, ?_⟩
  rw [ho.2]
  have hrs : ∀ k, k < 4 → (D'.rpg 0 0 k).rs = G.number := fun k hk => by
    rw [hr]
    by_cases h1 : k = b
    · rw [if_pos h1, hpx]; exact pad_stands _ _ _ (by omega) hn2
    · rw [if_neg h1]
      by_cases h2 : k = a
      · rw [if_pos h2, hpy]; exact pad_stands _ _ _ (by omega) hn2
      · rw [if_neg h2, hsl k hk]; exact pad_stands _ _ _ (by omega) hn2
  refine Nat.le_antisymm (top_le (fun k hk => by rw [hrs k hk]; exact Nat.le_refl _)) ?_
  have := top_ge (P := D'.rpg 0 0) hq 0
  rw [hrs q hq] at this
  exact this
theorem OneR.rewritten {G : Lg} {D : Dev} {i a : Nat} (h : OneR G D i) (hi : i < 2000) (h0 : G.number ≠ 0) (ha : a < 4) (hN : Nums G) (hF : Fresh G) (hopn : G.opn = []) {px : List UInt8} (hx : D.page a = .full px) :
    (Lg.opened ((D.write a px).write a px) 0 1).items = G.items := by
  obtain ⟨S, hS, hSn, hsl, hg, hsum, hpa⟩ := h.pageAt h0 ha
  have hnum := h.num
  have hpx : px = Dev.pad (rgPg (records S.l) G.number a) := by rw [hx] at hpa; simpa using hpa
  have hxl : px.length = 384 := by rw [hpx]; exact pad_length _ (rgPg_le _ _ _)
  obtain ⟨_, _, hr⟩ := h.two ha ha hxl hxl
  obtain ⟨D', hD'⟩ : ∃ D', D' = (D.write a px).write a px := ⟨_, rfl⟩
  rw [← hD'] at hr ⊢
  have hsl' : SealedAt (D'.rpg 0 0) G.number S.l := fun k hk => by
    rw [hr]
    by_cases h1 : k = a
    · rw [if_pos h1, h1, hpx]
    · rw [if_neg h1, if_neg h1]; exact hsl k hk
  have hl := load_back hsl' hg hsum (by omega) (by omega)
  have ht := top_back hsl' (by omega) 0
  have hregs : (Lg.opened D' 0 1).regs = G.regs := by
    show opRegs D' 0 1 = _
    unfold opRegs
    rw [show List.range 1 = [0] from rfl, List.map_cons, List.map_nil, hl, hS]
    obtain ⟨Sn, Sl⟩ := S
    simp only at hSn
    rw [hSn]
  have hnm : (Lg.opened D' 0 1).number = G.number := by
    show opTop D' 0 1 = _
    unfold opTop
    rw [show List.range 1 = [0] from rfl, List.foldl_cons, List.foldl_nil, ht]
    omega
  have hN' : Nums (Lg.opened D' 0 1) := by
    intro i hi
    rw [hregs] at hi ⊢
    rw [hnm]
    exact hN i hi
  exact items_congr hregs hopn.symm (Fresh.same hN hF (Fresh.opened hN') hregs hopn rfl)
end Go.Proofs.Ytcmobcbecbajiaa

namespace Go.Proofs.Ytcmobcbecbajiaa
open Go.RowKit
set_option linter.unusedSimpArgs false
set_option linter.unusedVariables false

/-! a region that counts -/
theorem ldS_pos {P : Nat → Pg} (h : 0 < (ldS P).num) : (∀ k, k < 4 → (P k).rn k = (ldS P).num) ∧ listOf (ldB P 4) = some (ldS P).l := by
  unfold ldS at h ⊢
  cases hl : listOf (ldB P 4) with
  | none => rw [hl] at h; simp [Sealed.no] at h
  | some l =>
    rw [hl] at h
    simp only at h ⊢
    split at h
    · rename_i hc
      rw [if_pos hc]
      refine ⟨?_, rfl⟩
      have e : ldNums P 4 = [(P 0).rn 0, (P 1).rn 1, (P 2).rn 2, (P 3).rn 3] := rfl
      have hm := hc.1
      rw [e] at hm
      simp only [listMin, listMax, List.tail_cons, List.headD_cons, List.foldl_cons, List.foldl_nil] at hm
      intro k hk
      match k, hk with
      | 0, _ => rfl
      | 1, _ => show (P 1).rn 1 = (P 0).rn 0; omega
      | 2, _ => show (P 2).rn 2 = (P 0).rn 0; omega
      | 3, _ => show (P 3).rn 3 = (P 0).rn 0; omega
    · simp [Sealed.no] at h
theorem ldS_congr {P Q : Nat → Pg} (h : ∀ k, k < 4 → P k = Q k) : ldS P = ldS Q := by
  have hB : ldB P 4 = ldB Q 4 := by
    have e : ∀ P : Nat → Pg, ldB P 4 = (P 0).rb 0 ++ ((P 1).rb 1 ++ ((P 2).rb 2 ++ ((P 3).rb 3 ++ []))) := fun P => rfl
    rw [e, e, h 0 (by omega), h 1 (by omega), h 2 (by omega), h 3 (by omega)]
  have hN : ldNums P 4 = ldNums Q 4 := by
    have e : ∀ P : Nat → Pg, ldNums P 4 = [(P 0).rn 0, (P 1).rn 1, (P 2).rn 2, (P 3).rn 3] := fun P => rfl
    rw [e, e, h 0 (by omega), h 1 (by omega), h 2 (by omega), h 3 (by omega)]
  unfold ldS
  rw [hB, hN, h 0 (by omega)]
theorem rn_rs {p : Pg} {k : Nat} (h : 0 < p.rn k) : p.rs = p.rn k := by
  cases p with
  | blank => simp [Pg.rn] at h
  | torn => simp [Pg.rn] at h
  | full b =>
    have h' : 0 < rgN b k := h
    show rgN b _ = rgN b k
    unfold rgN at h'
    split at h'
    · rename_i hf
      have hf2 := hf
      unfold rgForm at hf2
      simp only [Bool.and_eq_true, decide_eq_true_eq] at hf2
      rw [hf2.2.1]
    · simp at h'
theorem ldTop_four (P : Nat → Pg) (m : Nat) : ldTop P m 4 = max (max (max (max m (P 0).rs) (P 1).rs) (P 2).rs) (P 3).rs := rfl
theorem opTopT_le {D : Dev} {first B : Nat} : ∀ i, (∀ j, j < i → ∀ k, k < 4 → (D.rpg first j k).rs ≤ B) → opTopT D first i ≤ B := by
  intro i
  induction i with
  | zero => intro _; simp [opTopT]
  | succ i ih =>
    intro h
    have h0 := h i (by omega) 0 (by omega)
    have h1 := h i (by omega) 1 (by omega)
    have h2 := h i (by omega) 2 (by omega)
    have h3 := h i (by omega) 3 (by omega)
    have := ih (fun j hj => h j (by omega))
    rw [opTopT_succ, ldTop_four]
    omega
theorem opTopT_ge {D : Dev} {first : Nat} : ∀ i j, j < i → ∀ k, k < 4 → (D.rpg first j k).rs ≤ opTopT D first i := by
  intro i
  induction i with
  | zero => intro j hj; omega
  | succ i ih =>
    intro j hj k hk
    rw [opTopT_succ, ldTop_four]
    by_cases e : j = i
    · subst e
      match k, hk with
      | 0, _ => omega
      | 1, _ => omega
      | 2, _ => omega
      | 3, _ => omega
    · have := ih j (by omega) k hk
      omega
theorem opRegs_get (D : Dev) (first n i : Nat) (h : i < n) : (opRegs D first n)[i]? = some (ldS (D.rpg first i)) := by
  unfold opRegs
  rw [List.getElem?_map, List.getElem?_range h]; rfl
theorem opened_rnum (D : Dev) (first n i : Nat) : rnum (Lg.opened D first n).regs i = if i < n then (ldS (D.rpg first i)).num else 0 := by
  show ((opRegs D first n).getD i .no).num = _
  rw [List.getD_eq_getElem?_getD]
  split
  · rename_i h; rw [opRegs_get _ _ _ _ h]; rfl
  · rename_i h; rw [List.getElem?_eq_none (by rw [opRegs_len]; omega)]; rfl
theorem opened_rl (D : Dev) (first n i : Nat) (h : i < n) : rl (Lg.opened D first n).regs i = (ldS (D.rpg first i)).l := by
  show ((opRegs D first n).getD i .no).l = _
  rw [List.getD_eq_getElem?_getD, opRegs_get _ _ _ _ h]; rfl
theorem opened_len (D : Dev) (first n : Nat) : (Lg.opened D first n).regs.length = n := opRegs_len D first n

/-! a device whose power may go -/
def Dev.flg (D : Dev) (j k : Nat) : Pg := D.fl (0 + 4 * j + k)
theorem more_ne (l : Int) : l ≠ Dev.more l := by
  unfold Dev.more wrap64
  omega
theorem Dev.spend_or (D : Dev) (h : D.off = false) : (D.spent = true ∧ D.spend.off = false ∧ D.spend.losses = D.losses) ∨ (D.spent = false ∧ D.spend.off = true ∧ D.spend.losses = Dev.more D.losses) := by
  by_cases h1 : D.armed = 1
  · right
    simp [Dev.spent, Dev.spend, h, h1]
  · left
    have h2 : (D.armed == 1) = false := by simpa using h1
    by_cases h3 : 0 < D.armed
    · simp [Dev.spent, Dev.spend, h, h1, h3]
    · simp [Dev.spent, Dev.spend, h, h1, h3]
/-- the region is written whole, or the power goes -/
structure Wrote (D : Dev) (base n : Nat) (b : List UInt8) (D' : Dev) : Prop where
  off : D'.off = false
  los : D'.losses = D.losses
  nn : D'.n = D.n
  still : ∀ i, D'.wt i = none
  fl : ∀ i, D'.fl i = if base ≤ i ∧ i < base + 4 then .full (Dev.pad (rgPg b n (i - base))) else D.fl i
structure Fell (D : Dev) (base n : Nat) (b : List UInt8) (D' : Dev) : Prop where
  off : D'.off = true
  los : D'.losses = Dev.more D.losses
  nn : D'.n = D.n
  fl : D'.fl = D.fl
  wt : ∀ i, D'.wt i = none ∨ ∃ k, k < 4 ∧ i = base + k ∧ D'.wt i = some (.full (Dev.pad (rgPg b n k)))
theorem wrGo_or (D : Dev) (base n : Nat) (b : List UInt8) (hb : base + 4 ≤ D.n) : ∀ (f k : Nat) (E : Dev), f + k = 4 → E.off = false → E.losses = D.losses → E.n = D.n → E.fl = D.fl → (∀ i, E.wt i = if base ≤ i ∧ i < base + k then some (.full (Dev.pad (rgPg b n (i - base)))) else none) →
    ((wrGo (base : Int) n b k f E).2 = 0 ∧ Wrote D base n b (wrGo (base : Int) n b k f E).1) ∨ ((wrGo (base : Int) n b k f E).2 = 4 ∧ Fell D base n b (wrGo (base : Int) n b k f E).1) := by
  intro f
  induction f with
  | zero =>
    intro k E hk h1 h2 h3 h4 h5
    obtain rfl : k = 4 := by omega
    obtain ⟨s1, s2, s3⟩ := E.spend_pg
    show ((Dev.changeE E) = 0 ∧ Wrote D base n b E.flush) ∨ ((Dev.changeE E) = 4 ∧ Fell D base n b E.flush)
    unfold Dev.changeE Dev.flush
    rcases E.spend_or h1 with ⟨p1, p2, p3⟩ | ⟨p1, p2, p3⟩
    · left
      rw [p1, if_pos rfl, if_pos rfl]
      refine ⟨rfl, p2, p3.trans h2, s3.trans h3, fun i => rfl, fun i => ?_⟩
      show (E.spend.wt i).getD (E.spend.fl i) = _
      rw [s1, s2, h4, h5]
      split <;> rfl
    · right
      rw [p1, if_neg (by simp), if_neg (by simp)]
      refine ⟨rfl, p2, p3.trans (by rw [h2]), s3.trans h3, s1.trans h4, fun i => ?_⟩
      rw [s2, h5]
      split
      · rename_i hi
        exact .inr ⟨i - base, by omega, by omega, rfl⟩
      · exact .inl rfl
  | succ f ih =>
    intro k E hk h1 h2 h3 h4 h5
    obtain ⟨s1, s2, s3⟩ := E.spend_pg
    have hl := rgPg_le b n k
    have e : ((base : Int) + (k : Int)) = ((base + k : Nat) : Int) := by omega
    have hh : E.has ((base + k : Nat) : Int) = true := by simp [Dev.has]; omega
    rw [wrGo, e]
    have hwE : E.writeE ((base + k : Nat) : Int) (rgPg b n k).length = E.changeE := by
      unfold Dev.writeE
      rw [hh, decide_eq_true hl]; rfl
    have hw : E.write ((base + k : Nat) : Int) (rgPg b n k) = E.change (base + k) (.full (Dev.pad (rgPg b n k))) := by
      unfold Dev.write
      rw [hh, decide_eq_true hl]; rfl
    rw [hwE, hw]
    unfold Dev.changeE Dev.change
    rcases E.spend_or h1 with ⟨p1, p2, p3⟩ | ⟨p1, p2, p3⟩
    · rw [p1, if_pos rfl, if_pos rfl, if_pos rfl]
      refine ih (k + 1) _ (by omega) p2 (p3.trans h2) (s3.trans h3) (s1.trans h4) (fun i => ?_)
      show (if i = base + k then some (Pg.full (Dev.pad (rgPg b n k))) else E.spend.wt i) = _
      rw [s2, h5]
      by_cases hi : i = base + k
      · rw [if_pos hi, if_pos (by omega), hi, Nat.add_sub_cancel_left]
      · rw [if_neg hi]
        by_cases h6 : base ≤ i ∧ i < base + k
        · rw [if_pos h6, if_pos (by omega)]
        · rw [if_neg h6, if_neg (by omega)]
    · right
      rw [p1, if_neg (by simp), if_neg (by simp)]
      rw [if_neg (by decide)]
      refine ⟨rfl, p2, p3.trans (by rw [h2]), s3.trans h3, s1.trans h4, fun i => ?_⟩
      rw [s2, h5]
      split
      · rename_i hi
        exact .inr ⟨i - base, by omega, by omega, rfl⟩
      · exact .inl rfl
theorem wr_or {D : Dev} {base n : Nat} {b : List UInt8} (hb : base + 4 ≤ D.n) (ho : D.off = false) (hw : ∀ i, D.wt i = none) : ((wr D base n b).2 = 0 ∧ Wrote D base n b (wr D base n b).1) ∨ ((wr D base n b).2 = 4 ∧ Fell D base n b (wr D base n b).1) :=
  wrGo_or D base n b hb 4 0 D rfl ho rfl rfl rfl (fun i => by rw [hw i, if_neg (by omega)])

/-! the pages of a session -/
structure Pages (D0 : Dev) (r N0 N : Nat) (L : Nat → List Item) (fl : Nat → Nat → Pg) (P : Item → Prop) : Prop where
  le : N0 ≤ N
  lst : ∀ m, N0 < m → m ≤ N → goods (L m) = true ∧ isum (L m) ≤ 1472 ∧ ∀ x ∈ L m, P x
  reg : ∀ j, j < r → (∃ m, N0 < m ∧ m ≤ N ∧ N < m + r ∧ m % r = j ∧ SealedAt (fl j) m (L m)) ∨ ((∀ m, N0 < m → m ≤ N → m % r ≠ j) ∧ ∀ k, k < 4 → fl j k = D0.rpg 0 j k)
structure Alive (D0 : Dev) (r N0 i : Nat) (P : Item → Prop) (G : Lg) (D : Dev) (L : Nat → List Item) : Prop where
  pg : Pages D0 r N0 G.number L D.flg P
  first : G.first = 0
  len : G.regs.length = r
  nn : 4 * r ≤ D.n
  off : D.off = false
  los : G.losses = D.losses
  still : ∀ i, D.wt i = none
  ok : G.Ok
  nd : (akeys G.keys).Nodup
  nums : Nums G
  fresh : Fresh G
  regs : ∀ j, j < r → G.regs[j]? = some (ldS (D.flg j))
  opn : ∀ x ∈ G.opn, P x
  cnt : G.number ≤ N0 + i
structure Cut (D0 : Dev) (r N0 i : Nat) (P : Item → Prop) (G : Lg) (D : Dev) (N : Nat) (L : Nat → List Item) (W : List Item) : Prop where
  pg : Pages D0 r N0 N L D.flg P
  off : D.off = true
  nn : 4 * r ≤ D.n
  los : G.losses ≠ D.losses
  ne : G.opn ≠ []
  wt : ∀ i, D.wt i = none ∨ ∃ k, k < 4 ∧ i = 0 + 4 * ((N + 1) % r) + k ∧ D.wt i = some (.full (Dev.pad (rgPg (records W) (N + 1) k)))
  good : goods W = true
  sum : isum W ≤ 1472
  all : ∀ x ∈ W, P x
  cnt : N ≤ N0 + i
def Sess (D0 : Dev) (r N0 i : Nat) (P : Item → Prop) (G : Lg) (D : Dev) : Prop := (∃ L, Alive D0 r N0 i P G D L) ∨ ∃ N L W, Cut D0 r N0 i P G D N L W

section
variable {D0 D : Dev} {r N0 i N : Nat} {P : Item → Prop} {G : Lg} {L : Nat → List Item} {W : List Item}
theorem Sess.more (h : Sess D0 r N0 i P G D) : Sess D0 r N0 (i + 1) P G D := by
  rcases h with ⟨L, h⟩ | ⟨N, L, W, h⟩
  · exact .inl ⟨L, { h with cnt := (by have := h.cnt; omega) }⟩
  · exact .inr ⟨N, L, W, { h with cnt := (by have := h.cnt; omega) }⟩
theorem Alive.add (h : Alive D0 r N0 i P G D L) {x : Item} (hx : P x) (hg : x.good = true) (hs : isum G.opn + x.size ≤ 1472) : Alive D0 r N0 i P (G.add x) D L :=
  ⟨h.pg, h.first, h.len, h.nn, h.off, h.los, h.still, h.ok.add hg hs, nodup_aset _ _ _ h.nd, (h.fresh.add h.nums x).2, (h.fresh.add h.nums x).1, h.regs, fun y hy => by
    rcases List.mem_append.1 hy with hy | hy
    · exact h.opn y hy
    · simp only [List.mem_singleton] at hy; rw [hy]; exact hx, h.cnt⟩
theorem Alive.next_lt (h : Alive D0 r N0 i P G D L) : G.next < r := by have := h.ok.pos; rw [← h.len]; exact Nat.mod_lt _ this
theorem Alive.next_eq (h : Alive D0 r N0 i P G D L) : G.next = (G.number + 1) % r := by unfold Lg.next; rw [h.len]
theorem Alive.shut (h : Alive D0 r N0 i P G D L) (hb : G.number + 1 < 18446744073709551616) {D' : Dev} (hw : Wrote D (G.first + 4 * G.next) (G.number + 1) (records G.opn) D') :
    Alive D0 r N0 (i + 1) P G.shut D' (fun m => if m = G.number + 1 then G.opn else L m) := by
  have hn := h.next_lt
  have hne := h.next_eq
  have hfl : ∀ j k, k < 4 → D'.flg j k = if j = G.next then .full (Dev.pad (rgPg (records G.opn) (G.number + 1) k)) else D.flg j k := by
    intro j k hk
    unfold Dev.flg
    rw [hw.fl, h.first]
    by_cases hj : j = G.next
    · rw [if_pos hj, if_pos (by omega), hj, Nat.add_sub_cancel_left]
    · rw [if_neg hj, if_neg (by omega)]
  have hslN : SealedAt (D'.flg G.next) (G.number + 1) G.opn := fun k hk => by rw [hfl _ _ hk, if_pos rfl]
  have hld : ∀ j, j ≠ G.next → ldS (D'.flg j) = ldS (D.flg j) := fun j hj => ldS_congr (fun k hk => by rw [hfl _ _ hk, if_neg hj])
  have hldN := load_back hslN h.ok.good h.ok.sum (by omega) hb
  refine ⟨⟨by show N0 ≤ G.number + 1; have := h.pg.le; omega, fun m h1 h2 => ?_, fun j hj => ?_⟩, h.first, by rw [len_shut]; exact h.len, by rw [hw.nn]; exact h.nn, hw.off, by show G.losses = _; rw [hw.los]; exact h.los, hw.still, h.ok.shut h.nd hb, moveK_nodup _ _ _ (giveK_nodup _ _ _ h.nd), h.nums.shut h.ok.pos, h.fresh.shut h.ok h.nd h.nums, fun j hj => ?_, (fun x hx => by cases hx), by show G.number + 1 ≤ _; have := h.cnt; omega⟩
  · have h2' : m ≤ G.number + 1 := h2
    by_cases hm : m = G.number + 1
    · simp only [hm, if_true]; exact ⟨h.ok.good, h.ok.sum, h.opn⟩
    · simp only [hm, if_false]; exact h.pg.lst m h1 (by omega)
  · show (∃ m, N0 < m ∧ m ≤ G.number + 1 ∧ G.number + 1 < m + r ∧ _) ∨ _
    by_cases hj2 : j = G.next
    · subst hj2
      refine .inl ⟨G.number + 1, by have := h.pg.le; omega, Nat.le_refl _, by omega, hne.symm, ?_⟩
      simp only [if_true]
      exact hslN
    · have hs : ∀ n l, SealedAt (D.flg j) n l → SealedAt (D'.flg j) n l := fun n l hh k hk => by rw [hfl _ _ hk, if_neg hj2]; exact hh k hk
      rcases h.pg.reg j hj with ⟨m, h1, h2, h3, h4, h5⟩ | ⟨h1, h2⟩
      · refine .inl ⟨m, h1, by omega, ?_, h4, ?_⟩
        · rcases Nat.lt_or_ge (G.number + 1) (m + r) with h6 | h6
          · exact h6
          · exfalso
            have e : G.number + 1 = m + r := by omega
            apply hj2
            rw [hne, e, Nat.add_mod_right, h4]
        · have : m ≠ G.number + 1 := by omega
          simp only [this, if_false]
          exact hs _ _ h5
      · refine .inr ⟨fun m h3 h4 h5 => ?_, fun k hk => by rw [hfl _ _ hk, if_neg hj2]; exact h2 k hk⟩
        have h4' : m ≤ G.number + 1 := h4
        by_cases hm : m = G.number + 1
        · apply hj2; rw [hne, ← h5, hm]
        · exact h1 m h3 (by omega) h5
  · have hl := h.len
    show ((G.regs.set G.next .no).set G.next ⟨G.number + 1, G.opn⟩)[j]? = _
    by_cases hj2 : j = G.next
    · subst hj2
      rw [List.getElem?_set_self (by rw [List.length_set, hl]; exact hn), hldN]
    · rw [List.getElem?_set_ne (Ne.symm hj2), List.getElem?_set_ne (Ne.symm hj2), h.regs j hj, hld j hj2]
theorem Sess.sl (h : Sess D0 r N0 i P G D) (hb : N0 + i + 1 < 18446744073709551615) : Sess D0 r N0 (i + 1) P (G.sl D).G (G.sl D).D ∧ ((G.sl D).e = 0 → (∃ L, Alive D0 r N0 (i + 1) P (G.sl D).G (G.sl D).D L) ∧ (G.sl D).G.opn = []) := by
  rcases h with ⟨L, h⟩ | ⟨N, L, W, h⟩
  · by_cases h0 : G.opn = []
    · have e : G.sl D = ⟨G, D, [], 0⟩ := by unfold Lg.sl; rw [if_pos h0]
      rw [e]
      have h' : Alive D0 r N0 (i + 1) P G D L := { h with cnt := (by have := h.cnt; omega) }
      exact ⟨.inl ⟨L, h'⟩, fun _ => ⟨⟨L, h'⟩, h0⟩⟩
    · have hnum : G.number + 1 < 18446744073709551616 := by have := h.cnt; omega
      have hfit : G.first + 4 * G.next + 4 ≤ D.n := by have := h.next_lt; have := h.first; have := h.nn; omega
      rcases wr_or (n := G.number + 1) (b := records G.opn) hfit h.off h.still with ⟨h1, h2⟩ | ⟨h1, h2⟩
      · have e : G.sl D = ⟨G.shut, (G.wrote D).1, G.given.1, 0⟩ := by
          unfold Lg.sl
          have h1' : (G.wrote D).2 = 0 := h1
          rw [if_neg h0, if_neg (fun hh => hh h.los), if_neg (by omega), if_pos h1']
        rw [e]
        have hs := h.shut hnum h2
        exact ⟨.inl ⟨_, hs⟩, fun _ => ⟨⟨_, hs⟩, rfl⟩⟩
      · have e : G.sl D = ⟨G.gave, (G.wrote D).1, G.given.1, 4⟩ := by
          unfold Lg.sl
          have h1' : (G.wrote D).2 = 4 := h1
          rw [if_neg h0, if_neg (fun hh => hh h.los), if_neg (by omega), if_neg (by rw [h1']; decide), h1']
        rw [e]
        refine ⟨.inr ⟨G.number, L, G.opn, ?_⟩, fun hh => absurd (show (4 : Int) = 0 from hh) (by decide)⟩
        have hfl : (G.wrote D).1.flg = D.flg := by unfold Dev.flg; rw [show (G.wrote D).1.fl = D.fl from h2.fl]
        refine ⟨by rw [hfl]; exact h.pg, h2.off, by rw [show (G.wrote D).1.n = D.n from h2.nn]; exact h.nn, ?_, h0, fun i => ?_, h.ok.good, h.ok.sum, h.opn, (by have := h.cnt; omega)⟩
        · show G.losses ≠ (G.wrote D).1.losses
          rw [show (G.wrote D).1.losses = Dev.more D.losses from h2.los, h.los]
          exact more_ne _
        · rcases h2.wt i with h3 | ⟨k, h3, h4, h5⟩
          · exact .inl h3
          · refine .inr ⟨k, h3, ?_, h5⟩
            rw [← h.next_eq, h4, h.first]
  · have e : G.sl D = ⟨G, D, [], 4⟩ := by unfold Lg.sl; rw [if_neg h.ne, if_pos h.los]
    rw [e]
    exact ⟨(show Sess D0 r N0 i P G D from .inr ⟨N, L, W, h⟩).more, fun hh => absurd (show (4 : Int) = 0 from hh) (by decide)⟩
theorem Sess.put (h : Sess D0 r N0 i P G D) (hb : N0 + i + 1 < 18446744073709551615) {x : Item} (hx : P x) : Sess D0 r N0 (i + 1) P (G.put D x).G (G.put D x).D := by
  unfold Lg.put
  cases hf : Lg.fits x with
  | false => exact h.more
  | true =>
    have hfg := fits_good hf
    simp only [if_true]
    have hadd : ∀ {G : Lg} {D : Dev}, Sess D0 r N0 (i + 1) P G D → isum G.opn + x.size ≤ 1472 → Sess D0 r N0 (i + 1) P (G.add x) D := by
      intro G D h hs
      rcases h with ⟨L, h⟩ | ⟨N, L, W, h⟩
      · exact .inl ⟨L, h.add hx hfg.1 hs⟩
      · exact .inr ⟨N, L, W, ⟨h.pg, h.off, h.nn, h.los, by simp [Lg.add], h.wt, h.good, h.sum, h.all, h.cnt⟩⟩
    by_cases hs : isum G.opn + x.size ≤ 1472
    · rw [if_pos hs]; exact hadd h.more hs
    · rw [if_neg hs]
      have hsl := h.sl hb
      by_cases he : (G.sl D).e = 0
      · rw [if_pos he]
        exact hadd hsl.1 (by rw [(hsl.2 he).2]; simpa [isum] using hfg.2)
      · rw [if_neg he]; exact hsl.1
end

/-! behind the crash -/
structure Ends (D0 : Dev) (r N0 N : Nat) (P : Item → Prop) (D1 : Dev) (L : Nat → List Item) (W : List Item) (fl : Nat → Nat → Pg) : Prop where
  pg : Pages D0 r N0 N L fl P
  same : ∀ j, j < r → j ≠ (N + 1) % r → ∀ k, k < 4 → D1.rpg 0 j k = fl j k
  next : ∀ k, k < 4 → D1.rpg 0 ((N + 1) % r) k = fl ((N + 1) % r) k ∨ D1.rpg 0 ((N + 1) % r) k = .torn ∨ D1.rpg 0 ((N + 1) % r) k = .full (Dev.pad (rgPg (records W) (N + 1) k))
  good : goods W = true
  sum : isum W ≤ 1472
  all : ∀ x ∈ W, P x
  on : D1.On
  nn : 4 * r ≤ D1.n
  still : ∀ i, D1.wt i = none
  big : N + 1 < 18446744073709551616
theorem crash_pg (D : Dev) (picks : List UInt8) (i : Nat) : (D.crash picks).on.page i = match D.wt i with | none => D.fl i | some p => Dev.fate (D.fl i) p picks[D.rank i]? := rfl
theorem fate_or (a b : Pg) (p : Option UInt8) : Dev.fate a b p = a ∨ Dev.fate a b p = .torn ∨ Dev.fate a b p = b := by
  unfold Dev.fate
  split
  · exact .inl rfl
  · split
    · exact .inl rfl
    · split
      · exact .inr (.inr rfl)
      · exact .inr (.inl rfl)
theorem Sess.ends {D0 D : Dev} {r N0 i : Nat} {P : Item → Prop} {G : Lg} (h : Sess D0 r N0 i P G D) (hr : 0 < r) (hb : N0 + i + 1 < 18446744073709551615) (picks : List UInt8) : ∃ N L W fl, N ≤ N0 + i ∧ Ends D0 r N0 N P (D.crash picks).on L W fl := by
  have hrp : ∀ j k, (D.crash picks).on.rpg 0 j k = (D.crash picks).on.page (0 + 4 * j + k) := fun j k => rfl
  rcases h with ⟨L, h⟩ | ⟨N, L, W, h⟩
  · have he : ∀ j k, (D.crash picks).on.rpg 0 j k = D.flg j k := fun j k => by rw [hrp, crash_pg, h.still]; rfl
    exact ⟨G.number, L, [], D.flg, h.cnt, h.pg, fun j _ _ k _ => he j k, fun k _ => .inl (he _ k), rfl, by simp [isum], (fun x hx => by cases hx), ⟨rfl, rfl⟩, h.nn, (fun i => rfl), by have := h.cnt; omega⟩
  · refine ⟨N, L, W, D.flg, h.cnt, h.pg, fun j hj hne k hk => ?_, fun k hk => ?_, h.good, h.sum, h.all, ⟨rfl, rfl⟩, h.nn, (fun i => rfl), by have := h.cnt; omega⟩
    · rw [hrp, crash_pg]
      rcases h.wt (0 + 4 * j + k) with h1 | ⟨k', h1, h2, _⟩
      · rw [h1]; rfl
      · exfalso; omega
    · rw [hrp, crash_pg]
      rcases h.wt (0 + 4 * ((N + 1) % r) + k) with h1 | ⟨k', h1, h2, h3⟩
      · rw [h1]; exact .inl rfl
      · obtain rfl : k' = k := by omega
        rw [h3]
        exact fate_or _ _ _
section
variable {D0 D1 : Dev} {r N0 N : Nat} {P : Item → Prop} {L : Nat → List Item} {W : List Item} {fl : Nat → Nat → Pg}
/-- the number of a page that stood ahead of the last writing -/
theorem Pages.page_le (h : Pages D0 r N0 N L fl P) (hN0 : N0 = opTop D0 0 r) (hN : N < 18446744073709551616) {j k : Nat} (hj : j < r) (hk : k < 4) : (fl j k).rs ≤ N := by
  rcases h.reg j hj with ⟨m, h1, h2, _, _, h5⟩ | ⟨_, h2⟩
  · rw [h5 k hk, pad_stands _ _ _ (by omega) (by omega)]; exact h2
  · rw [h2 k hk]
    have := opTopT_ge (D := D0) (first := 0) r j hj k hk
    have e : opTopT D0 0 r = N0 := by rw [hN0]; rfl
    have := h.le
    omega
/-- a region that counts ahead of the last writing -/
theorem Pages.region (h : Pages D0 r N0 N L fl P) (hn0 : Nums (Lg.opened D0 0 r)) (hN0 : N0 = opTop D0 0 r) (hN : N < 18446744073709551616) {j : Nat} (hj : j < r) (hp : 0 < (ldS (fl j)).num) :
    (ldS (fl j)).num % r = j ∧ (ldS (fl j)).num ≤ N ∧ N < (ldS (fl j)).num + r := by
  rcases h.reg j hj with ⟨m, h1, h2, h3, h4, h5⟩ | ⟨h1, h2⟩
  · have hl := h.lst m h1 h2
    have := load_back h5 hl.1 hl.2.1 (by omega) (by omega)
    rw [this]
    exact ⟨h4, h2, h3⟩
  · have e := ldS_congr h2
    rw [e] at hp ⊢
    have hn := hn0 j (by rw [opened_rnum, if_pos hj]; exact hp)
    rw [opened_rnum, if_pos hj, opened_len] at hn
    have hn2 : (Lg.opened D0 0 r).number = N0 := hN0.symm
    rw [hn2] at hn
    refine ⟨hn.1, by have := h.le; omega, ?_⟩
    rcases Nat.lt_or_ge N ((ldS (D0.rpg 0 j)).num + r) with h6 | h6
    · exact h6
    · exfalso
      exact h1 ((ldS (D0.rpg 0 j)).num + r) (by omega) h6 (by rw [Nat.add_mod_right]; exact hn.1)
/-- the region that was written last -/
theorem Ends.last (h : Ends D0 r N0 N P D1 L W fl) (hr : 0 < r) (hN0 : N0 = opTop D0 0 r) (hp : 0 < (ldS (D1.rpg 0 ((N + 1) % r))).num) :
    SealedAt (D1.rpg 0 ((N + 1) % r)) (N + 1) W ∨ ∀ k, k < 4 → D1.rpg 0 ((N + 1) % r) k = fl ((N + 1) % r) k := by
  have hj : (N + 1) % r < r := Nat.mod_lt _ hr
  have hb := h.big
  obtain ⟨h1, _⟩ := ldS_pos hp
  by_cases hall : ∀ k, k < 4 → D1.rpg 0 ((N + 1) % r) k = fl ((N + 1) % r) k
  · exact .inr hall
  · left
    obtain ⟨q, hq4, hq⟩ : ∃ k, k < 4 ∧ D1.rpg 0 ((N + 1) % r) k ≠ fl ((N + 1) % r) k := by
      apply Classical.byContradiction
      intro hh
      apply hall
      intro k hk
      apply Classical.byContradiction
      intro hk2
      exact hh ⟨k, hk, hk2⟩
    have hqN : (ldS (D1.rpg 0 ((N + 1) % r))).num = N + 1 := by
      rw [← h1 q hq4]
      rcases h.next q hq4 with h2 | h2 | h2
      · exact absurd h2 hq
      · have := h1 q hq4
        rw [h2] at this
        simp [Pg.rn] at this
        omega
      · rw [h2]; exact pad_num _ _ _ (by omega) hb
    intro k hk
    rcases h.next k hk with h2 | h2 | h2
    · have h3 := h1 k hk
      rw [hqN, h2] at h3
      have h4 := rn_rs (p := fl ((N + 1) % r) k) (k := k) (by omega)
      have h5 := h.pg.page_le hN0 (by omega) hj hk
      omega
    · have := h1 k hk
      rw [h2, hqN] at this
      simp [Pg.rn] at this
    · exact h2
theorem Ends.top_le (h : Ends D0 r N0 N P D1 L W fl) (hr : 0 < r) (hN0 : N0 = opTop D0 0 r) : opTop D1 0 r ≤ N + 1 := by
  have hb := h.big
  refine opTopT_le r (fun j hj k hk => ?_)
  have h5 := h.pg.page_le hN0 (by omega) hj hk
  by_cases hn : j = (N + 1) % r
  · subst hn
    rcases h.next k hk with h2 | h2 | h2
    · rw [h2]; omega
    · rw [h2]; simp [Pg.rs]
    · rw [h2, pad_stands _ _ _ (by omega) hb]; exact Nat.le_refl _
  · rw [h.same j hj hn k hk]; omega
theorem Ends.nums (h : Ends D0 r N0 N P D1 L W fl) (hr : 0 < r) (hn0 : Nums (Lg.opened D0 0 r)) (hN0 : N0 = opTop D0 0 r) : Nums (Lg.opened D1 0 r) := by
  have hb := h.big
  have htop := h.top_le hr hN0
  intro j hp
  rw [opened_rnum] at hp ⊢
  rw [opened_len]
  have hnum : (Lg.opened D1 0 r).number = opTop D1 0 r := rfl
  rw [hnum]
  by_cases hj : j < r
  · rw [if_pos hj] at hp ⊢
    have hge : (ldS (D1.rpg 0 j)).num ≤ opTop D1 0 r := by
      have h1 := (ldS_pos hp).1 0 (by omega)
      have h2 := rn_rs (p := D1.rpg 0 j 0) (k := 0) (by omega)
      have h3 := opTopT_ge (D := D1) (first := 0) r j hj 0 (by omega)
      have e : opTopT D1 0 r = opTop D1 0 r := rfl
      omega
    by_cases hn : j = (N + 1) % r
    · subst hn
      rcases h.last hr hN0 hp with h2 | h2
      · have h3 := load_back h2 h.good h.sum (by omega) hb
        rw [h3] at hge ⊢
        exact ⟨rfl, hge, by show opTop D1 0 r < N + 1 + r; omega⟩
      · have e := ldS_congr h2
        rw [e] at hp hge ⊢
        have h3 := h.pg.region hn0 hN0 (by omega) hj hp
        refine ⟨h3.1, hge, ?_⟩
        have : opTop D1 0 r ≤ N := opTopT_le r (fun j' hj' k hk => by
          have h5 := h.pg.page_le hN0 (by omega) hj' hk
          by_cases hn : j' = (N + 1) % r
          · subst hn; rw [h2 k hk]; exact h5
          · rw [h.same j' hj' hn k hk]; exact h5)
        omega
    · have e := ldS_congr (h.same j hj hn)
      rw [e] at hp hge ⊢
      have h3 := h.pg.region hn0 hN0 (by omega) hj hp
      refine ⟨h3.1, hge, ?_⟩
      rcases Nat.lt_or_ge (N + 1) ((ldS (fl j)).num + r) with h6 | h6
      · omega
      · exfalso
        apply hn
        have e2 : N + 1 = (ldS (fl j)).num + r := by omega
        rw [e2, Nat.add_mod_right]
        exact h3.1.symm
  · rw [if_neg hj] at hp; omega
/-- a region that counts: written in the session, or as it was -/
theorem Ends.region (h : Ends D0 r N0 N P D1 L W fl) (hr : 0 < r) (hN0 : N0 = opTop D0 0 r) {j : Nat} (hj : j < r) (hp : 0 < (ldS (D1.rpg 0 j)).num) :
    (∀ x ∈ (ldS (D1.rpg 0 j)).l, P x) ∨ ((∀ m, N0 < m → m ≤ N → m % r ≠ j) ∧ ∀ k, k < 4 → D1.rpg 0 j k = D0.rpg 0 j k) := by
  have hb := h.big
  have hold : (∀ k, k < 4 → D1.rpg 0 j k = fl j k) → (∀ x ∈ (ldS (D1.rpg 0 j)).l, P x) ∨ ((∀ m, N0 < m → m ≤ N → m % r ≠ j) ∧ ∀ k, k < 4 → D1.rpg 0 j k = D0.rpg 0 j k) := by
    intro hs
    rcases h.pg.reg j hj with ⟨m, h1, h2, h3, h4, h5⟩ | ⟨h1, h2⟩
    · left
      have hl := h.pg.lst m h1 h2
      rw [ldS_congr hs, load_back h5 hl.1 hl.2.1 (by omega) (by omega)]
      exact hl.2.2
    · exact .inr ⟨h1, fun k hk => by rw [hs k hk, h2 k hk]⟩
  by_cases hn : j = (N + 1) % r
  · subst hn
    rcases h.last hr hN0 hp with h2 | h2
    · left
      rw [load_back h2 h.good h.sum (by omega) hb]
      exact h.all
    · exact hold h2
  · exact hold (h.same j hj hn)
/-- what an opened log tells: what was put in the session, or what was told ahead of it -/
theorem Ends.items (h : Ends D0 r N0 N P D1 L W fl) (hr : 0 < r) (hn0 : Nums (Lg.opened D0 0 r)) (hN0 : N0 = opTop D0 0 r) : ∀ x ∈ (Lg.opened D1 0 r).items, P x ∨ x ∈ (Lg.opened D0 0 r).items := by
  intro x hx
  have hn1 := h.nums hr hn0 hN0
  have hf1 := Fresh.opened hn1
  have hf0 := Fresh.opened hn0
  obtain ⟨⟨pop, i, j⟩, hk, _, hpl⟩ := items_mem hx
  rcases hpl with ⟨_, _, h3⟩ | ⟨h1, h2, h3⟩
  · have h3' : ([] : List Item)[j]? = some x := h3
    simp at h3'
  · simp only at h1 h2 h3
    subst h1
    have hpos := byNum_pos h2
    have hi : i < r := by have := byNum_lt _ i h2; rw [opened_len] at this; exact this
    rw [opened_rnum, if_pos hi] at hpos
    rw [opened_rl _ _ _ _ hi] at h3
    rcases h.region hr hN0 hi hpos with h4 | ⟨h4, h5⟩
    · exact .inl (h4 x (List.mem_of_getElem? h3))
    · right
      have e := ldS_congr h5
      obtain ⟨_, hmax⟩ := hf1.som _ _ hk
      have hHas0 : (Lg.opened D0 0 r).Has x.key ⟨false, i, j⟩ := ⟨x, rfl, .inr ⟨rfl, by rw [opened_rnum, if_pos hi, ← e]; exact hpos, by rw [opened_rl _ _ _ _ hi, ← e]; exact h3⟩⟩
      cases hk0 : aget (Lg.opened D0 0 r).keys x.key with
      | none => exact absurd hHas0 (hf0.non _ hk0 _)
      | some p0 =>
        obtain ⟨hH0, hmax0⟩ := hf0.som _ _ hk0
        obtain ⟨pop, i0, j0⟩ := p0
        have hH0' := hH0
        obtain ⟨y, hy, ⟨_, _, hy3⟩ | ⟨hy1, hy2, hy3⟩⟩ := hH0
        · have hy3' : ([] : List Item)[j0]? = some y := hy3
          simp at hy3'
        · simp only at hy1 hy2 hy3
          subst hy1
          have hi0 : i0 < r := by
            rw [opened_rnum] at hy2
            split at hy2
            · assumption
            · omega
          have hel := hmax0 _ hHas0
          have hin : (⟨false, i0, j0⟩ : Pl) = ⟨false, i, j⟩ := by
            -- region i0 as it was: the place stands in the new log as well
            have hsame : (∀ k, k < 4 → D1.rpg 0 i0 k = D0.rpg 0 i0 k) → (⟨false, i0, j0⟩ : Pl) = ⟨false, i, j⟩ := by
              intro hs
              have e0 := ldS_congr hs
              have hH1 : (Lg.opened D1 0 r).Has x.key ⟨false, i0, j0⟩ := ⟨y, hy, .inr ⟨rfl, by rw [opened_rnum, if_pos hi0, e0]; rw [opened_rnum, if_pos hi0] at hy2; exact hy2, by rw [opened_rl _ _ _ _ hi0, e0]; rw [opened_rl _ _ _ _ hi0] at hy3; exact hy3⟩⟩
              have hel1 := hmax _ hH1
              refine elder_antisymm hn0 hH0' hHas0 ?_ hel
              have r1 : (Lg.opened D1 0 r).rank ⟨false, i0, j0⟩ = (Lg.opened D0 0 r).rank ⟨false, i0, j0⟩ := by
                unfold Lg.rank; simp only [Bool.false_eq_true, if_false]; rw [opened_rnum, opened_rnum, if_pos hi0, if_pos hi0, e0]
              have r2 : (Lg.opened D1 0 r).rank ⟨false, i, j⟩ = (Lg.opened D0 0 r).rank ⟨false, i, j⟩ := by
                unfold Lg.rank; simp only [Bool.false_eq_true, if_false]; rw [opened_rnum, opened_rnum, if_pos hi, if_pos hi, e]
              unfold Lg.elder at hel1 ⊢
              rw [r1, r2] at hel1
              exact hel1
            by_cases hii : i0 = i
            · exact hsame (by rw [hii]; exact h5)
            · have hn0i := hn0 i (by rw [opened_rnum, if_pos hi, ← e]; exact hpos)
              have hn0i0 := hn0 i0 hy2
              rw [opened_len] at hn0i hn0i0
              have hnN : (Lg.opened D0 0 r).number = N0 := hN0.symm
              rw [hnN] at hn0i hn0i0
              obtain ⟨a, ha⟩ : ∃ a, a = rnum (Lg.opened D0 0 r).regs i := ⟨_, rfl⟩
              obtain ⟨c, hc⟩ : ∃ c, c = rnum (Lg.opened D0 0 r).regs i0 := ⟨_, rfl⟩
              have hac : a < c := by
                unfold Lg.elder Lg.rank at hel
                simp only [Bool.false_eq_true, if_false] at hel
                rw [← ha, ← hc] at hel
                rcases hel with hel | ⟨hel, _⟩
                · exact hel
                · exfalso; apply hii
                  rw [← hn0i.1, ← hn0i0.1, ← ha, ← hc, hel]
              rw [← ha] at hn0i
              rw [← hc] at hn0i0
              -- no number of region i0 was tried
              have key : ∀ m, N0 < m → m ≤ N + 1 → m % r ≠ i0 := by
                intro m hm1 hm2 hm3
                have h6 : m % r = c % r := by rw [hm3, hn0i0.1]
                have h7 : (m - c) % r = 0 := Nat.sub_mod_eq_zero_of_mod_eq h6
                have h8 := Nat.le_of_dvd (by omega) (Nat.dvd_of_mod_eq_zero h7)
                exact h4 (a + r) (by omega) (by omega) (by rw [Nat.add_mod_right]; exact hn0i.1)
              refine hsame (fun k hk => ?_)
              have hfl : fl i0 k = D0.rpg 0 i0 k := by
                rcases h.pg.reg i0 hi0 with ⟨m, g1, g2, g3, g4, _⟩ | ⟨_, g2⟩
                · exact absurd g4 (key m g1 (by omega))
                · exact g2 k hk
              rw [← hfl]
              exact h.same i0 hi0 (fun hh => key (N + 1) (by have := h.pg.le; omega) (Nat.le_refl _) hh.symm) k hk
          rw [hin] at hk0
          exact mem_items hk0 (byNum_mem (by rw [opened_len]; exact hi) (by rw [opened_rnum, if_pos hi, ← e]; exact hpos)) (by rw [opened_rl _ _ _ _ hi, ← e]; exact h3)
end
/-- what was sealed with OK is told again behind any crash -/
theorem Alive.lasts {D0 D : Dev} {r N0 i : Nat} {P : Item → Prop} {G : Lg} {L : Nat → List Item} (h : Alive D0 r N0 i P G D L) (ho : G.opn = []) (picks : List UInt8) (hn : Nums (Lg.opened (D.crash picks).on 0 r)) :
    (∀ key, aget (Lg.opened (D.crash picks).on 0 r).keys key = aget G.keys key) ∧ (Lg.opened (D.crash picks).on 0 r).regs = G.regs := by
  have he : ∀ j k, (D.crash picks).on.rpg 0 j k = D.flg j k := fun j k => by
    show (D.crash picks).on.page (0 + 4 * j + k) = _
    rw [crash_pg, h.still]; rfl
  have hreg : (Lg.opened (D.crash picks).on 0 r).regs = G.regs := by
    refine List.ext_getElem? (fun j => ?_)
    show (opRegs _ 0 r)[j]? = _
    by_cases hj : j < r
    · rw [opRegs_get _ _ _ _ hj, h.regs j hj, ldS_congr (fun k _ => he j k)]
    · rw [List.getElem?_eq_none (by rw [opRegs_len]; omega), List.getElem?_eq_none (by rw [h.len]; omega)]
  exact ⟨Fresh.same h.nums h.fresh (Fresh.opened hn) hreg ho rfl, hreg⟩

/-! a session begins -/
theorem Alive.begin_ {D0 : Dev} {r : Nat} (hon : D0.off = false) (hst : ∀ i, D0.wt i = none) (hn : Nums (Lg.opened D0 0 r)) (hok : (Lg.opened D0 0 r).Ok) (hnd : (akeys (Lg.opened D0 0 r).keys).Nodup) (hfit : 4 * r ≤ D0.n) (P : Item → Prop) (a : Int) :
    Alive D0 r (opTop D0 0 r) 0 P (Lg.opened D0 0 r) (D0.arm a) (fun _ => []) := by
  have hfl : ∀ j k, (D0.arm a).flg j k = D0.rpg 0 j k := fun j k => by
    show D0.fl (0 + 4 * j + k) = (D0.wt (0 + 4 * j + k)).getD (D0.fl (0 + 4 * j + k))
    rw [hst]; rfl
  refine ⟨⟨Nat.le_refl _, fun m h1 h2 => ?_, fun j hj => .inr ⟨fun m h1 h2 => ?_, fun k _ => hfl j k⟩⟩, rfl, opened_len _ _ _, hfit, hon, rfl, hst, hok, hnd, hn, Fresh.opened hn, fun j hj => ?_, (fun x hx => by cases hx), Nat.le_refl _⟩
  · have h2' : m ≤ opTop D0 0 r := h2
    omega
  · have h2' : m ≤ opTop D0 0 r := h2
    omega
  · show (opRegs D0 0 r)[j]? = _
    rw [opRegs_get _ _ _ _ hj, ldS_congr (fun k _ => hfl j k)]
end Go.Proofs.Ytcmobcbecbajiaa
