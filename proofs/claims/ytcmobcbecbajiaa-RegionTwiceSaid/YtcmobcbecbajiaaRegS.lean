/- A log of two regions that has sealed one item, in plain Lean. -/
import Derived.Test.YtcmobcbecbajiaaRegPl
import Derived.Test.YtcmobcbecbajiaaImgM
import Derived.Test.YtcmobcbecbajiaaRegL
/- Plain laws of regions: what was sealed is read back; a device that is on takes every page. -/
namespace Go.Proofs.Ytcmobcbecbajiaa
open Go.RowKit
set_option linter.unusedSimpArgs false
set_option linter.unusedVariables false

theorem cut_seg (a b c : List UInt8) : cut (a ++ (b ++ c)) a.length (a.length + b.length) = b := by
  unfold cut
  rw [List.drop_left, Nat.add_sub_cancel_left, List.take_left]
theorem rgHead_len (k n m : Nat) : (rgHead k n m).length = 16 := by simp [rgHead, le_length]
theorem rgPart_le (b : List UInt8) (k : Nat) : (rgPart b k).length ≤ 368 := by unfold rgPart; rw [List.length_take]; omega
theorem rgPg_le (b : List UInt8) (n k : Nat) : (rgPg b n k).length ≤ 384 := by unfold rgPg; rw [List.length_append, rgHead_len]; have := rgPart_le b k; omega

theorem pad_parts (b : List UInt8) (n k : Nat) : ∃ z, Dev.pad (rgPg b n k) = [82, 71, UInt8.ofNat k, 0] ++ (le 4 (rgPart b k).length ++ (le 8 n ++ (rgPart b k ++ z))) := by
  refine ⟨List.replicate (384 - (rgPg b n k).length) 0, ?_⟩
  unfold Dev.pad
  simp only [rgPg, rgHead, List.append_assoc]
theorem pad_form (b : List UInt8) (n k : Nat) (hk : k < 256) : rgForm (Dev.pad (rgPg b n k)) k = true := by
  obtain ⟨z, e⟩ := pad_parts b n k
  rw [e]
  have hm := rgPart_le b k
  have h1 : cut ([82, 71, UInt8.ofNat k, 0] ++ (le 4 (rgPart b k).length ++ (le 8 n ++ (rgPart b k ++ z)))) 4 8 = le 4 (rgPart b k).length := by
    have := cut_seg [82, 71, UInt8.ofNat k, 0] (le 4 (rgPart b k).length) (le 8 n ++ (rgPart b k ++ z))
    rw [le_length] at this
    exact this
  unfold rgForm
  rw [h1, num_le_of_lt (by omega)]
  have h2 : (UInt8.ofNat k).toNat = k := by rw [UInt8.toNat_ofNat']; omega
  simp [h2, hm]
theorem pad_num (b : List UInt8) (n k : Nat) (hk : k < 256) (hn : n < 18446744073709551616) : rgN (Dev.pad (rgPg b n k)) k = n := by
  unfold rgN
  rw [pad_form b n k hk, if_pos rfl]
  obtain ⟨z, e⟩ := pad_parts b n k
  rw [e]
  have h1 : cut ([82, 71, UInt8.ofNat k, 0] ++ (le 4 (rgPart b k).length ++ (le 8 n ++ (rgPart b k ++ z)))) 8 16 = le 8 n := by
    have := cut_seg ([82, 71, UInt8.ofNat k, 0] ++ le 4 (rgPart b k).length) (le 8 n) (rgPart b k ++ z)
    rw [List.length_append, le_length, le_length, List.append_assoc] at this
    exact this
  rw [h1, num_le_of_lt (by simpa using hn)]
theorem pad_part (b : List UInt8) (n k : Nat) (hk : k < 256) : rgB (Dev.pad (rgPg b n k)) k = rgPart b k := by
  unfold rgB
  rw [pad_form b n k hk, if_pos rfl]
  obtain ⟨z, e⟩ := pad_parts b n k
  rw [e]
  have hm := rgPart_le b k
  have h1 : cut ([82, 71, UInt8.ofNat k, 0] ++ (le 4 (rgPart b k).length ++ (le 8 n ++ (rgPart b k ++ z)))) 4 8 = le 4 (rgPart b k).length := by
    have := cut_seg [82, 71, UInt8.ofNat k, 0] (le 4 (rgPart b k).length) (le 8 n ++ (rgPart b k ++ z))
    rw [le_length] at this
    exact this
  rw [h1, num_le_of_lt (by omega)]
  have := cut_seg ([82, 71, UInt8.ofNat k, 0] ++ (le 4 (rgPart b k).length ++ le 8 n)) (rgPart b k) z
  simp only [List.length_append, le_length, List.append_assoc] at this
  exact this
theorem pad_stands (b : List UInt8) (n k : Nat) (hk : k < 256) (hn : n < 18446744073709551616) : (Pg.full (Dev.pad (rgPg b n k))).rs = n := by
  show rgN _ _ = n
  have h2 : ((Dev.pad (rgPg b n k)).getD 2 0).toNat = k := by
    obtain ⟨z, e⟩ := pad_parts b n k
    rw [e]
    show (UInt8.ofNat k).toNat = k
    rw [UInt8.toNat_ofNat']; omega
  rw [h2]
  exact pad_num b n k hk hn

theorem parts_all (b : List UInt8) (hb : b.length ≤ 1472) : rgPart b 0 ++ rgPart b 1 ++ rgPart b 2 ++ rgPart b 3 = b := by
  unfold rgPart
  have e : ∀ i, (b.drop (i * 368)).take 368 ++ b.drop ((i + 1) * 368) = b.drop (i * 368) := by
    intro i
    have h := List.take_append_drop 368 (b.drop (i * 368))
    rw [List.drop_drop, show i * 368 + 368 = (i + 1) * 368 by rw [Nat.add_mul]] at h
    exact h
  have h4 : b.drop (4 * 368) = [] := List.drop_eq_nil_of_le (by omega)
  have h3 := e 3
  rw [show 3 + 1 = 4 from rfl, h4, List.append_nil] at h3
  rw [List.append_assoc, List.append_assoc, h3, e 2, e 1]
  simp

/-- a region whose pages stand as they were written -/
def SealedAt (P : Nat → Pg) (n : Nat) (l : List Item) : Prop := ∀ k, k < 4 → P k = .full (Dev.pad (rgPg (records l) n k))
theorem load_back {P : Nat → Pg} {n : Nat} {l : List Item} (h : SealedAt P n l) (hg : goods l = true) (hs : isum l ≤ 1472) (h0 : 0 < n) (hn : n < 18446744073709551616) : ldS P = ⟨n, l⟩ := by
  have hrn : ∀ k, k < 4 → (P k).rn k = n := fun k hk => by rw [h k hk]; exact pad_num _ _ _ (by omega) hn
  have hrb : ∀ k, k < 4 → (P k).rb k = rgPart (records l) k := fun k hk => by rw [h k hk]; exact pad_part _ _ _ (by omega)
  have hB : ldB P 4 = records l := by
    have e : ldB P 4 = (P 0).rb 0 ++ ((P 1).rb 1 ++ ((P 2).rb 2 ++ ((P 3).rb 3 ++ []))) := rfl
    rw [e, hrb 0 (by omega), hrb 1 (by omega), hrb 2 (by omega), hrb 3 (by omega), List.append_nil]
    have := parts_all (records l) (by rw [isum_records]; exact hs)
    simpa [List.append_assoc] using this
  have hN : ldNums P 4 = [n, n, n, n] := by
    have e : ldNums P 4 = [(P 0).rn 0, (P 1).rn 1, (P 2).rn 2, (P 3).rn 3] := rfl
    rw [e, hrn 0 (by omega), hrn 1 (by omega), hrn 2 (by omega), hrn 3 (by omega)]
  unfold ldS
  have hl := listOf_records l 0 hg
  simp only [List.replicate_zero, List.append_nil] at hl
  rw [hB, hl, hN, hrn 0 (by omega)]
  simp only
  rw [if_pos ⟨by simp [listMin, listMax], by omega⟩]
theorem top_back {P : Nat → Pg} {n : Nat} {l : List Item} (h : SealedAt P n l) (hn : n < 18446744073709551616) (m : Nat) : ldTop P m 4 = max m n := by
  have hrs : ∀ k, k < 4 → (P k).rs = n := fun k hk => by rw [h k hk]; exact pad_stands _ _ _ (by omega) hn
  have e : ldTop P m 4 = max (max (max (max m (P 0).rs) (P 1).rs) (P 2).rs) (P 3).rs := rfl
  rw [e, hrs 0 (by omega), hrs 1 (by omega), hrs 2 (by omega), hrs 3 (by omega)]
  omega
theorem load_blank {P : Nat → Pg} (h : ∀ k, k < 4 → P k = .blank) : ldS P = .no ∧ ∀ m, ldTop P m 4 = m := by
  constructor
  · unfold ldS
    have hB : ldB P 4 = [] := by
      have e : ldB P 4 = (P 0).rb 0 ++ ((P 1).rb 1 ++ ((P 2).rb 2 ++ ((P 3).rb 3 ++ []))) := rfl
      rw [e, h 0 (by omega), h 1 (by omega), h 2 (by omega), h 3 (by omega)]; rfl
    have hN : (P 0).rn 0 = 0 := by rw [h 0 (by omega)]; rfl
    rw [hB, hN]
    cases listOf ([] : List UInt8) with
    | none => rfl
    | some l => simp only; rw [if_neg (fun hh => hh.2 rfl)]
  · intro m
    have e : ldTop P m 4 = max (max (max (max m (P 0).rs) (P 1).rs) (P 2).rs) (P 3).rs := rfl
    rw [e, h 0 (by omega), h 1 (by omega), h 2 (by omega), h 3 (by omega)]
    simp [Pg.rs]

/-! a device that is on, with no power cut ahead -/
structure Dev.On (D : Dev) : Prop where
  off : D.off = false
  armed : D.armed = 0
theorem Dev.On.spend {D : Dev} (h : D.On) : D.spent = true ∧ D.spend = D := by
  unfold Dev.spent Dev.spend
  rw [h.off, h.armed]
  simp
theorem Dev.On.changeE {D : Dev} (h : D.On) : D.changeE = 0 := by unfold Dev.changeE; rw [h.spend.1]; rfl
theorem Dev.On.write {D : Dev} (h : D.On) {k : Nat} (hk : k < D.n) {b : List UInt8} (hb : b.length ≤ 384) : D.writeE k b.length = 0 ∧ (D.write k b).On ∧ (D.write k b).n = D.n ∧ (D.write k b).losses = D.losses ∧ ∀ i, (D.write k b).page i = if i = k then .full (Dev.pad b) else D.page i := by
  have hh : D.has (k : Int) = true := by simp [Dev.has]; omega
  unfold Dev.writeE Dev.write Dev.change
  rw [hh, decide_eq_true hb, h.spend.1, h.changeE, h.spend.2]
  refine ⟨rfl, ⟨h.off, h.armed⟩, rfl, rfl, fun i => ?_⟩
  unfold Dev.page Dev.put
  simp only [Bool.and_self, if_true, Int.toNat_natCast]
  by_cases hi : i = k
  · rw [if_pos hi, if_pos hi]; rfl
  · rw [if_neg hi, if_neg hi]
theorem Dev.On.flush {D : Dev} (h : D.On) : D.flush.On ∧ D.flush.n = D.n ∧ D.flush.losses = D.losses ∧ (∀ i, D.flush.page i = D.page i) ∧ ∀ i, D.flush.wt i = none := by
  unfold Dev.flush
  rw [h.spend.1, if_pos rfl, h.spend.2]
  refine ⟨⟨h.off, h.armed⟩, rfl, rfl, fun i => ?_, fun i => rfl⟩
  unfold Dev.page Dev.settled
  simp
/-- the open region is written whole -/
theorem Dev.On.wr {D : Dev} (h : D.On) {base n : Nat} (b : List UInt8) (hb : base + 4 ≤ D.n) :
    (wr D base n b).2 = 0 ∧ (wr D base n b).1.On ∧ (wr D base n b).1.n = D.n ∧ (wr D base n b).1.losses = D.losses ∧ (∀ k, k < 4 → (wr D base n b).1.page (base + k) = .full (Dev.pad (rgPg b n k))) ∧
      (∀ i, (i < base ∨ base + 4 ≤ i) → (wr D base n b).1.page i = D.page i) ∧ ∀ i, (wr D base n b).1.wt i = none := by
  have step : ∀ (D : Dev) (k f : Nat), D.On → base + k < D.n → wrGo (base : Int) n b k (f + 1) D = wrGo (base : Int) n b (k + 1) f (D.write (base + k : Nat) (rgPg b n k)) := by
    intro D k f h hk
    rw [wrGo]
    have e : ((base : Int) + (k : Int)) = ((base + k : Nat) : Int) := by omega
    rw [e, (h.write hk (rgPg_le b n k)).1, if_pos rfl]
  have h0 := h.write (k := base + 0) (by omega) (rgPg_le b n 0)
  have h1 := h0.2.1.write (k := base + 1) (by rw [h0.2.2.1]; omega) (rgPg_le b n 1)
  have h2 := h1.2.1.write (k := base + 2) (by rw [h1.2.2.1, h0.2.2.1]; omega) (rgPg_le b n 2)
  have h3 := h2.2.1.write (k := base + 3) (by rw [h2.2.2.1, h1.2.2.1, h0.2.2.1]; omega) (rgPg_le b n 3)
  have hw : Go.Proofs.Ytcmobcbecbajiaa.wr D base n b = wrGo (base : Int) n b 4 0 ((((D.write (base + 0 : Nat) (rgPg b n 0)).write (base + 1 : Nat) (rgPg b n 1)).write (base + 2 : Nat) (rgPg b n 2)).write (base + 3 : Nat) (rgPg b n 3)) := by
    unfold Go.Proofs.Ytcmobcbecbajiaa.wr
    rw [step D 0 3 h (by omega), step _ 1 2 h0.2.1 (by rw [h0.2.2.1]; omega), step _ 2 1 h1.2.1 (by rw [h1.2.2.1, h0.2.2.1]; omega), step _ 3 0 h2.2.1 (by rw [h2.2.2.1, h1.2.2.1, h0.2.2.1]; omega)]
  rw [hw]
  have hf := h3.2.1.flush
  refine ⟨h3.2.1.changeE, hf.1, ?_, ?_, ?_, ?_, hf.2.2.2.2⟩
  · show Dev.n (Dev.flush _) = _
    rw [hf.2.1, h3.2.2.1, h2.2.2.1, h1.2.2.1, h0.2.2.1]
  · show Dev.losses (Dev.flush _) = _
    rw [hf.2.2.1, h3.2.2.2.1, h2.2.2.2.1, h1.2.2.2.1, h0.2.2.2.1]
  · intro k hk
    show Dev.page (Dev.flush _) _ = _
    rw [hf.2.2.2.1, h3.2.2.2.2, h2.2.2.2.2, h1.2.2.2.2, h0.2.2.2.2]
    match k, hk with
    | 0, _ => rw [if_neg (by omega), if_neg (by omega), if_neg (by omega), if_pos rfl]
    | 1, _ => rw [if_neg (by omega), if_neg (by omega), if_pos rfl]
    | 2, _ => rw [if_neg (by omega), if_pos rfl]
    | 3, _ => rw [if_pos rfl]
  · intro i hi
    show Dev.page (Dev.flush _) _ = _
    rw [hf.2.2.2.1, h3.2.2.2.2, h2.2.2.2.2, h1.2.2.2.2, h0.2.2.2.2, if_neg (by omega), if_neg (by omega), if_neg (by omega), if_neg (by omega)]
end Go.Proofs.Ytcmobcbecbajiaa

/- Logs on a device that is on, in plain Lean. -/
namespace Go.Proofs.Ytcmobcbecbajiaa
open Go.RowKit
set_option linter.unusedSimpArgs false
set_option linter.unusedVariables false

structure Live (G : Lg) (D : Dev) : Prop where
  ok : G.Ok
  nd : (akeys G.keys).Nodup
  on : D.On
  los : G.losses = D.losses
  fit : G.first + 4 * G.regs.length ≤ D.n
theorem Live.next {G : Lg} {D : Dev} (h : Live G D) : G.next < G.regs.length := Nat.mod_lt _ h.ok.pos
theorem Live.wrote {G : Lg} {D : Dev} (h : Live G D) : (G.wrote D).2 = 0 ∧ (G.wrote D).1.On ∧ (G.wrote D).1.n = D.n ∧ (G.wrote D).1.losses = D.losses ∧ SealedAt ((G.wrote D).1.rpg G.first G.next) (G.number + 1) G.opn ∧
    (∀ i, i ≠ G.next → ∀ k, k < 4 → (G.wrote D).1.rpg G.first i k = D.rpg G.first i k) ∧ ∀ i, (G.wrote D).1.wt i = none := by
  have hn := h.next
  have hf := h.fit
  have hw := h.on.wr (base := G.first + 4 * G.next) (n := G.number + 1) (records G.opn) (by omega)
  refine ⟨hw.1, hw.2.1, hw.2.2.1, hw.2.2.2.1, fun k hk => ?_, fun i hi k hk => ?_, hw.2.2.2.2.2.2⟩
  · exact hw.2.2.2.2.1 k hk
  · refine hw.2.2.2.2.2.1 _ ?_
    rcases Nat.lt_or_gt_of_ne hi with h | h <;> omega
theorem moveK_nodup (i : Nat) (ks : Keys) (l : List Item) (hn : (akeys ks).Nodup) : (akeys (moveK i ks l)).Nodup := by
  rw [← moveT_all]; exact moveT_nodup i ks l hn _ (Nat.le_refl _)
theorem giveK_nodup (i : Nat) (ks : Keys) (l : List Item) (hn : (akeys ks).Nodup) : (akeys (giveK i ks l).2).Nodup := by
  rw [← giveT_all]; exact giveT_nodup i ks l hn _ (Nat.le_refl _)
theorem Live.sl {G : Lg} {D : Dev} (h : Live G D) (hn : G.number + 1 < 18446744073709551616) : (G.sl D).e = 0 ∧ Live (G.sl D).G (G.sl D).D ∧ (G.opn = [] → G.sl D = ⟨G, D, [], 0⟩) ∧ (G.opn ≠ [] → G.sl D = ⟨G.shut, (G.wrote D).1, G.given.1, 0⟩) := by
  by_cases h0 : G.opn = []
  · have e : G.sl D = ⟨G, D, [], 0⟩ := by unfold Lg.sl; rw [if_pos h0]
    rw [e]
    exact ⟨rfl, h, fun _ => rfl, fun hh => absurd h0 hh⟩
  · have hw := h.wrote
    have e : G.sl D = ⟨G.shut, (G.wrote D).1, G.given.1, 0⟩ := by
      unfold Lg.sl
      rw [if_neg h0, if_neg (fun hh => hh h.los), if_neg (by omega), if_pos hw.1]
    rw [e]
    refine ⟨rfl, ⟨h.ok.shut h.nd hn, moveK_nodup _ _ _ (giveK_nodup _ _ _ h.nd), hw.2.1, ?_, ?_⟩, fun hh => absurd hh h0, fun _ => rfl⟩
    · show G.losses = _
      rw [hw.2.2.2.1]; exact h.los
    · show G.first + 4 * G.shut.regs.length ≤ (G.wrote D).1.n
      rw [hw.2.2.1]
      have : G.shut.regs.length = G.regs.length := by simp [Lg.shut]
      rw [this]; exact h.fit
theorem Live.put {G : Lg} {D : Dev} (h : Live G D) (hn : G.number + 1 < 18446744073709551616) (x : Item) : Live (G.put D x).G (G.put D x).D ∧ ((G.put D x).e = 0 ↔ Lg.fits x = true) ∧ ((G.put D x).e = 0 ∨ (G.put D x).e = 1) ∧ (Lg.fits x = false → G.put D x = ⟨G, D, [], 1⟩) := by
  unfold Lg.put
  cases hf : Lg.fits x with
  | false => exact ⟨h, by simp, .inr rfl, fun _ => rfl⟩
  | true =>
    unfold Lg.fits at hf
    simp only [Bool.and_eq_true, decide_eq_true_eq] at hf
    have hadd : ∀ {G : Lg} {D : Dev}, Live G D → isum G.opn + x.size ≤ 1472 → Live (G.add x) D := fun hl hs => ⟨hl.ok.add hf.1 hs, nodup_aset _ _ _ hl.nd, hl.on, hl.los, hl.fit⟩
    simp only [if_true]
    by_cases hs : isum G.opn + x.size ≤ 1472
    · rw [if_pos hs]
      exact ⟨hadd h hs, by simp, .inl rfl, fun hh => by cases hh⟩
    · rw [if_neg hs]
      have hsl := h.sl hn
      rw [if_pos hsl.1]
      refine ⟨hadd hsl.2.1 ?_, by simp, .inl rfl, fun hh => by cases hh⟩
      rw [sl_opn hsl.1]
      simpa [isum] using hf.2

/-! a new device -/
theorem opened_new (n r : Nat) : Lg.opened (Dev.new n) 0 r = { losses := 0, first := 0, regs := List.replicate r .no, opn := [], number := 0, keys := [] } := by
  have hb : ∀ i, ldS ((Dev.new n).rpg 0 i) = .no ∧ ∀ m, ldTop ((Dev.new n).rpg 0 i) m 4 = m := fun i => load_blank (fun k _ => rfl)
  have hr : opRegs (Dev.new n) 0 r = List.replicate r .no := by
    unfold opRegs
    rw [List.eq_replicate_iff]
    refine ⟨by simp, fun S hS => ?_⟩
    obtain ⟨i, _, rfl⟩ := List.mem_map.1 hS
    exact (hb i).1
  have ht : opTop (Dev.new n) 0 r = 0 := by
    unfold opTop
    induction r with
    | zero => rfl
    | succ r ih => rw [List.range_succ, List.foldl_append, ih (by
        unfold opRegs at hr ⊢
        rw [List.eq_replicate_iff]
        refine ⟨by simp, fun S hS => ?_⟩
        obtain ⟨i, _, rfl⟩ := List.mem_map.1 hS
        exact (hb i).1)]; exact (hb r).2 0
  have hc : counts (List.replicate r Sealed.no) = [] := by
    unfold counts
    rw [List.filter_eq_nil_iff]
    intro i hi
    simp only [rnum, List.getD_eq_getElem?_getD, List.getElem?_replicate]
    split <;> simp [Sealed.no]
  unfold Lg.opened
  rw [hr, ht]
  have hb2 : byNum (List.replicate r Sealed.no) = [] := by unfold byNum; rw [hc]; rfl
  simp only [hb2]
  rfl
theorem new_on (n : Nat) : (Dev.new n).On := ⟨rfl, rfl⟩
theorem live_new (n r : Nat) (h1 : 1 ≤ r) (h2 : r ≤ 64) (h3 : 4 * r ≤ n) (h4 : n ≤ 4096) : Live (Lg.opened (Dev.new n) 0 r) (Dev.new n) := by
  rw [opened_new]
  refine ⟨⟨by simp; omega, by simpa using h2, by simp; omega, by show (0 : Nat) < _; decide, ?_, rfl, by simp [isum], fun key p hp => by cases hp⟩, by simp [akeys], new_on n, rfl, by simp; exact h3⟩
  intro S hS
  rw [(List.mem_replicate.1 hS).2]
  exact ⟨by simp [Sealed.no], by simp [Sealed.no]⟩
end Go.Proofs.Ytcmobcbecbajiaa

namespace Go.Proofs.Ytcmobcbecbajiaa
open Go.RowKit
set_option linter.unusedSimpArgs false
set_option linter.unusedVariables false

def Lg.new2 : Lg := { losses := 0, first := 0, regs := [.no, .no], opn := [], number := 0, keys := [] }
/-- one item is sealed -/
def Lg.one (losses : Int) (x : Item) : Lg := { losses, first := 0, regs := [.no, ⟨1, [x]⟩], opn := [], number := 1, keys := [(x.key, ⟨false, 1, 0⟩)] }
theorem new2_opened (n : Nat) : Lg.opened (Dev.new n) 0 2 = .new2 := opened_new n 2
theorem fits_good {x : Item} (h : Lg.fits x = true) : x.good = true ∧ x.size ≤ 1472 := by
  unfold Lg.fits at h
  simpa using h
theorem put_new2 (D : Dev) {x : Item} (h : Lg.fits x = true) : Lg.new2.put D x = ⟨Lg.new2.add x, D, [], 0⟩ := by
  have hf := fits_good h
  unfold Lg.put
  rw [if_pos h, if_pos (by simp [Lg.new2, isum]; exact hf.2)]
theorem shut_new2 (x : Item) : (Lg.new2.add x).shut = Lg.one 0 x := by
  have e : (Lg.new2.add x).next = 1 := rfl
  have h1 : giveK 1 [(x.key, (⟨true, 0, 0⟩ : Pl))] Sealed.no.l = ([], [(x.key, ⟨true, 0, 0⟩)]) := rfl
  unfold Lg.shut Lg.given
  rw [e]
  simp [Lg.new2, Lg.add, aset, rl, h1, moveK, aget, Lg.one]
theorem given_new2 (x : Item) : (Lg.new2.add x).given.1 = [] := rfl
/-- a device that holds it -/
structure HasOne (D : Dev) (x : Item) : Prop where
  blank : ∀ k, k < 4 → D.rpg 0 0 k = .blank
  one : SealedAt (D.rpg 0 1) 1 [x]
theorem seal_one (n : Nat) (hn : 8 ≤ n) (h4 : n ≤ 4096) {x : Item} (h : Lg.fits x = true) :
    (Lg.new2.add x).sl (Dev.new n) = ⟨Lg.one 0 x, ((Lg.new2.add x).wrote (Dev.new n)).1, [], 0⟩ ∧ HasOne ((Lg.new2.add x).wrote (Dev.new n)).1 x ∧ ((Lg.new2.add x).wrote (Dev.new n)).1.On ∧ ((Lg.new2.add x).wrote (Dev.new n)).1.n = n ∧ ((Lg.new2.add x).wrote (Dev.new n)).1.losses = 0 ∧ ∀ i, ((Lg.new2.add x).wrote (Dev.new n)).1.wt i = none := by
  have hl := live_new n 2 (by omega) (by omega) (by omega) h4
  rw [new2_opened] at hl
  have hf := fits_good h
  have hl1 : Live (Lg.new2.add x) (Dev.new n) := ⟨hl.ok.add hf.1 (by simp [Lg.new2, isum]; exact hf.2), nodup_aset _ _ _ hl.nd, hl.on, hl.los, hl.fit⟩
  have hs := hl1.sl (by show (0 : Nat) + 1 < _; decide)
  have hw := hl1.wrote
  have e := hs.2.2.2 (by simp [Lg.add, Lg.new2])
  rw [shut_new2, given_new2] at e
  refine ⟨e, ⟨fun k hk => ?_, ?_⟩, hw.2.1, hw.2.2.1, hw.2.2.2.1, hw.2.2.2.2.2.2⟩
  · have := hw.2.2.2.2.2.1 0 (by show (0 : Nat) ≠ 1; decide) k hk
    exact this
  · exact hw.2.2.2.2.1
theorem open_one {D : Dev} {x : Item} (h : HasOne D x) (hx : Lg.fits x = true) : Lg.opened D 0 2 = Lg.one D.losses x := by
  have hf := fits_good hx
  have h0 := load_blank h.blank
  have hg : goods [x] = true := by simp [goods, hf.1]
  have h1 := load_back h.one hg (by simp [isum]; exact hf.2) (by omega) (by omega)
  have t1 := top_back h.one (by omega) 0
  have hr : opRegs D 0 2 = [.no, ⟨1, [x]⟩] := by
    unfold opRegs
    rw [show List.range 2 = [0, 1] from rfl, List.map_cons, List.map_cons, List.map_nil, h0.1, h1]
  have ht : opTop D 0 2 = 1 := by
    unfold opTop
    rw [show List.range 2 = [0, 1] from rfl, List.foldl_cons, List.foldl_cons, List.foldl_nil, h0.2, t1]
    omega
  unfold Lg.opened
  rw [hr, ht]
  have hb : byNum [Sealed.no, ⟨1, [x]⟩] = [1] := rfl
  simp only [hb]
  rfl
theorem on_pages (D : Dev) (hw : ∀ i, D.wt i = none) : (∀ first i k, D.on.rpg first i k = D.rpg first i k) ∧ D.on.On ∧ D.on.n = D.n := by
  refine ⟨fun first i k => ?_, ⟨rfl, rfl⟩, rfl⟩
  unfold Dev.rpg Dev.page Dev.on Dev.settle
  simp [hw]
theorem HasOne.on {D : Dev} {x : Item} (h : HasOne D x) (hw : ∀ i, D.wt i = none) : HasOne D.on x :=
  ⟨fun k hk => by rw [(on_pages D hw).1]; exact h.blank k hk, fun k hk => by rw [(on_pages D hw).1]; exact h.one k hk⟩
theorem one_get (l : Int) (x : Item) : (Lg.one l x).get x.key = x ∧ (Lg.one l x).getE x.key = 0 ∧ (Lg.one l x).items.length = 1 ∧ ((Lg.one l x).drop x.key).has x.key = false ∧ ((Lg.one l x).drop x.key).getE x.key = 5 ∧ ((Lg.one l x).drop x.key).items.length = 0 := by
  have hb : byNum [Sealed.no, ⟨1, [x]⟩] = [1] := rfl
  refine ⟨?_, ?_, ?_, ?_, ?_, ?_⟩
  · simp [Lg.get, Lg.one, aget, Lg.item, rl]
  · simp [Lg.getE, Lg.has, Lg.one, aget]
  · simp [Lg.items, Lg.one, hb, pick, rl, aget]
  · simp [Lg.drop, Lg.has, Lg.one, adel, aget]
  · simp [Lg.getE, Lg.drop, Lg.has, Lg.one, adel, aget]
  · simp [Lg.items, Lg.drop, Lg.one, hb, pick, rl, adel, aget]
/-- a second item under the same key -/
theorem one_put (l : Int) (x y : Item) (D : Dev) (hy : Lg.fits y = true) (hk : y.key = x.key) : (Lg.one l x).put D y = ⟨(Lg.one l x).add y, D, [], 0⟩ ∧ ((Lg.one l x).add y).get x.key = y ∧ ((Lg.one l x).add y).getE x.key = 0 ∧ ((Lg.one l x).add y).has x.key = true := by
  have hf := fits_good hy
  refine ⟨?_, ?_, ?_, ?_⟩
  · unfold Lg.put
    rw [if_pos hy, if_pos (by simp [Lg.one, isum]; exact hf.2)]
  · simp [Lg.get, Lg.add, Lg.one, aset, hk, aget, Lg.item]
  · simp [Lg.getE, Lg.has, Lg.add, Lg.one, aset, hk, aget]
  · simp [Lg.has, Lg.add, Lg.one, aset, hk, aget]
theorem one_bn (l : Int) (x : Item) : byNum (Lg.one l x).regs = [1] := rfl
end Go.Proofs.Ytcmobcbecbajiaa
