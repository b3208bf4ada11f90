/- Packed texts: RegS, EngS, EngA, EngB, EngC. -/
import Derived.Test.YtplpbbdakihnfaaGreatPk07
import Derived.Test.YtplpbbdakihnfaaGreatPk19
import Derived.Test.YtplpbbdakihnfaaGreatPk11
import Derived.Test.YtplpbbdakihnfaaGreatPk15
import Derived.Test.YtplpbbdakihnfaaGreatPk16
import Derived.Test.YtplpbbdakihnfaaGreatPk12
import Derived.Test.YtplpbbdakihnfaaGreatPk17
import Derived.Test.YtplpbbdakihnfaaGreatPk18

/- A log of two regions that has sealed one item, in plain Lean. -/
section
/- Plain laws of regions: what was sealed is read back; a device that is on takes every page. -/
namespace Go.Proofs.YtplpbbdakihnfaaGreat
open Go.RowKit
set_option linter.unusedSimpArgs false
set_option linter.unusedVariables false

theorem cut_seg (a b c : List UInt8) : cut (a ++ (b ++ c)) a.length (a.length + b.length) = b := by
  unfold cut
  rw [List.drop_left, Nat.add_sub_cancel_left, List.take_left]
theorem rgHead_len (k n m : Nat) : (rgHead k n m).length = 16 := by simp [rgHead, le_length]
theorem rgPart_le (b : List UInt8) (k : Nat) : (rgPart b k).length ≤ 368 := by unfold rgPart; rw [List.length_take]; omega
theorem rgPg_le (b : List UInt8) (n k : Nat) : (rgPg b n k).length ≤ 384 := by unfold rgPg; rw [List.length_append, rgHead_len]; have := rgPart_le b k; omega

theorem pad_parts (b : List UInt8) (n k : Nat) : ∃ z, Dev.pad (rgPg b n k) = [82, 71, UInt8.ofNat k, 0] ++ (le 4 (rgPart b k).length ++ (le 8 n ++ (rgPart b k ++ z))) := by
  refine ⟨List.replicate (384 - (rgPg b n k).length) 0, ?_⟩
  unfold Dev.pad
  simp only [rgPg, rgHead, List.append_assoc]
theorem pad_form (b : List UInt8) (n k : Nat) (hk : k < 256) : rgForm (Dev.pad (rgPg b n k)) k = true := by
  obtain ⟨z, e⟩ := pad_parts b n k
  rw [e]
  have hm := rgPart_le b k
  have h1 : cut ([82, 71, UInt8.ofNat k, 0] ++ (le 4 (rgPart b k).length ++ (le 8 n ++ (rgPart b k ++ z)))) 4 8 = le 4 (rgPart b k).length := by
    have := cut_seg [82, 71, UInt8.ofNat k, 0] (le 4 (rgPart b k).length) (le 8 n ++ (rgPart b k ++ z))
    rw [le_length] at this
    exact this
  unfold rgForm
  rw [h1, num_le_of_lt (by omega)]
  have h2 : (UInt8.ofNat k).toNat = k := by rw [UInt8.toNat_ofNat']; omega
  simp [h2, hm]
theorem pad_num (b : List UInt8) (n k : Nat) (hk : k < 256) (hn : n < 18446744073709551616) : rgN (Dev.pad (rgPg b n k)) k = n := by
  unfold rgN
  rw [pad_form b n k hk, if_pos rfl]
  obtain ⟨z, e⟩ := pad_parts b n k
  rw [e]
  have h1 : cut ([82, 71, UInt8.ofNat k, 0] ++ (le 4 (rgPart b k).length ++ (le 8 n ++ (rgPart b k ++ z)))) 8 16 = le 8 n := by
    have := cut_seg ([82, 71, UInt8.ofNat k, 0] ++ le 4 (rgPart b k).length) (le 8 n) (rgPart b k ++ z)
    rw [List.length_append, le_length, le_length, List.append_assoc] at this
    exact this
  rw [h1, num_le_of_lt (by simpa using hn)]
theorem pad_part (b : List UInt8) (n k : Nat) (hk : k < 256) : rgB (Dev.pad (rgPg b n k)) k = rgPart b k := by
  unfold rgB
  rw [pad_form b n k hk, if_pos rfl]
  obtain ⟨z, e⟩ := pad_parts b n k
  rw [e]
  have hm := rgPart_le b k
  have h1 : cut ([82, 71, UInt8.ofNat k, 0] ++ (le 4 (rgPart b k).length ++ (le 8 n ++ (rgPart b k ++ z)))) 4 8 = le 4 (rgPart b k).length := by
    have := cut_seg [82, 71, UInt8.ofNat k, 0] (le 4 (rgPart b k).length) (le 8 n ++ (rgPart b k ++ z))
    rw [le_length] at this
    exact this
  rw [h1, num_le_of_lt (by omega)]
  have := cut_seg ([82, 71, UInt8.ofNat k, 0] ++ (le 4 (rgPart b k).length ++ le 8 n)) (rgPart b k) z
  simp only [List.length_append, le_length, List.append_assoc] at this
  exact this
theorem pad_stands (b : List UInt8) (n k : Nat) (hk : k < 256) (hn : n < 18446744073709551616) : (Pg.full (Dev.pad (rgPg b n k))).rs = n := by
  show rgN _ _ = n
  have h2 : ((Dev.pad (rgPg b n k)).getD 2 0).toNat = k := by
    obtain ⟨z, e⟩ := pad_parts b n k
    rw [e]
    show (UInt8.ofNat k).toNat = k
    rw [UInt8.toNat_ofNat']; omega
  rw [h2]
  exact pad_num b n k hk hn

theorem parts_all (b : List UInt8) (hb : b.length ≤ 1472) : rgPart b 0 ++ rgPart b 1 ++ rgPart b 2 ++ rgPart b 3 = b := by
  unfold rgPart
  have e : ∀ i, (b.drop (i * 368)).take 368 ++ b.drop ((i + 1) * 368) = b.drop (i * 368) := by
    intro i
    have h := List.take_append_drop 368 (b.drop (i * 368))
    rw [List.drop_drop, show i * 368 + 368 = (i + 1) * 368 by rw [Nat.add_mul]] at h
    exact h
  have h4 : b.drop (4 * 368) = [] := List.drop_eq_nil_of_le (by omega)
  have h3 := e 3
  rw [show 3 + 1 = 4 from rfl, h4, List.append_nil] at h3
  rw [List.append_assoc, List.append_assoc, h3, e 2, e 1]
  simp

/-- a region whose pages stand as they were written -/
def SealedAt (P : Nat → Pg) (n : Nat) (l : List Item) : Prop := ∀ k, k < 4 → P k = .full (Dev.pad (rgPg (records l) n k))
theorem load_back {P : Nat → Pg} {n : Nat} {l : List Item} (h : SealedAt P n l) (hg : goods l = true) (hs : isum l ≤ 1472) (h0 : 0 < n) (hn : n < 18446744073709551616) : ldS P = ⟨n, l⟩ := by
  have hrn : ∀ k, k < 4 → (P k).rn k = n := fun k hk => by rw [h k hk]; exact pad_num _ _ _ (by omega) hn
  have hrb : ∀ k, k < 4 → (P k).rb k = rgPart (records l) k := fun k hk => by rw [h k hk]; exact pad_part _ _ _ (by omega)
  have hB : ldB P 4 = records l := by
    have e : ldB P 4 = (P 0).rb 0 ++ ((P 1).rb 1 ++ ((P 2).rb 2 ++ ((P 3).rb 3 ++ []))) := rfl
    rw [e, hrb 0 (by omega), hrb 1 (by omega), hrb 2 (by omega), hrb 3 (by omega), List.append_nil]
    have := parts_all (records l) (by rw [isum_records]; exact hs)
    simpa [List.append_assoc] using this
  have hN : ldNums P 4 = [n, n, n, n] := by
    have e : ldNums P 4 = [(P 0).rn 0, (P 1).rn 1, (P 2).rn 2, (P 3).rn 3] := rfl
    rw [e, hrn 0 (by omega), hrn 1 (by omega), hrn 2 (by omega), hrn 3 (by omega)]
  unfold ldS
  have hl := listOf_records l 0 hg
  simp only [List.replicate_zero, List.append_nil] at hl
  rw [hB, hl, hN, hrn 0 (by omega)]
  simp only
  rw [if_pos ⟨by simp [listMin, listMax], by omega⟩]
theorem top_back {P : Nat → Pg} {n : Nat} {l : List Item} (h : SealedAt P n l) (hn : n < 18446744073709551616) (m : Nat) : ldTop P m 4 = max m n := by
  have hrs : ∀ k, k < 4 → (P k).rs = n := fun k hk => by rw [h k hk]; exact pad_stands _ _ _ (by omega) hn
  have e : ldTop P m 4 = max (max (max (max m (P 0).rs) (P 1).rs) (P 2).rs) (P 3).rs := rfl
  rw [e, hrs 0 (by omega), hrs 1 (by omega), hrs 2 (by omega), hrs 3 (by omega)]
  omega
theorem load_blank {P : Nat → Pg} (h : ∀ k, k < 4 → P k = .blank) : ldS P = .no ∧ ∀ m, ldTop P m 4 = m := by
  constructor
  · unfold ldS
    have hB : ldB P 4 = [] := by
      have e : ldB P 4 = (P 0).rb 0 ++ ((P 1).rb 1 ++ ((P 2).rb 2 ++ ((P 3).rb 3 ++ []))) := rfl
      rw [e, h 0 (by omega), h 1 (by omega), h 2 (by omega), h 3 (by omega)]; rfl
    have hN : (P 0).rn 0 = 0 := by rw [h 0 (by omega)]; rfl
    rw [hB, hN]
    cases listOf ([] : List UInt8) with
    | none => rfl
    | some l => simp only; rw [if_neg (fun hh => hh.2 rfl)]
  · intro m
    have e : ldTop P m 4 = max (max (max (max m (P 0).rs) (P 1).rs) (P 2).rs) (P 3).rs := rfl
    rw [e, h 0 (by omega), h 1 (by omega), h 2 (by omega), h 3 (by omega)]
    simp [Pg.rs]

/-! a device that is on, with no power cut ahead -/
structure Dev.On (D : Dev) : Prop where
  off : D.off = false
  armed : D.armed = 0
theorem Dev.On.spend {D : Dev} (h : D.On) : D.spent = true ∧ D.spend = D := by
  unfold Dev.spent Dev.spend
  rw [h.off, h.armed]
  simp
theorem Dev.On.changeE {D : Dev} (h : D.On) : D.changeE = 0 := by unfold Dev.changeE; rw [h.spend.1]; rfl
theorem Dev.On.write {D : Dev} (h : D.On) {k : Nat} (hk : k < D.n) {b : List UInt8} (hb : b.length ≤ 384) : D.writeE k b.length = 0 ∧ (D.write k b).On ∧ (D.write k b).n = D.n ∧ (D.write k b).losses = D.losses ∧ ∀ i, (D.write k b).page i = if i = k then .full (Dev.pad b) else D.page i := by
  have hh : D.has (k : Int) = true := by simp [Dev.has]; omega
  unfold Dev.writeE Dev.write Dev.change
  rw [hh, decide_eq_true hb, h.spend.1, h.changeE, h.spend.2]
  refine ⟨rfl, ⟨h.off, h.armed⟩, rfl, rfl, fun i => ?_⟩
  unfold Dev.page Dev.put
  simp only [Bool.and_self, if_true, Int.toNat_natCast]
  by_cases hi : i = k
  · rw [if_pos hi, if_pos hi]; rfl
  · rw [if_neg hi, if_neg hi]
theorem Dev.On.flush {D : Dev} (h : D.On) : D.flush.On ∧ D.flush.n = D.n ∧ D.flush.losses = D.losses ∧ (∀ i, D.flush.page i = D.page i) ∧ ∀ i, D.flush.wt i = none := by
  unfold Dev.flush
  rw [h.spend.1, if_pos rfl, h.spend.2]
  refine ⟨⟨h.off, h.armed⟩, rfl, rfl, fun i => ?_, fun i => rfl⟩
  unfold Dev.page Dev.settled
  simp
/-- the open region is written whole -/
theorem Dev.On.wr {D : Dev} (h : D.On) {base n : Nat} (b : List UInt8) (hb : base + 4 ≤ D.n) :
    (wr D base n b).2 = 0 ∧ (wr D base n b).1.On ∧ (wr D base n b).1.n = D.n ∧ (wr D base n b).1.losses = D.losses ∧ (∀ k, k < 4 → (wr D base n b).1.page (base + k) = .full (Dev.pad (rgPg b n k))) ∧
      (∀ i, (i < base ∨ base + 4 ≤ i) → (wr D base n b).1.page i = D.page i) ∧ ∀ i, (wr D base n b).1.wt i = none := by
  have step : ∀ (D : Dev) (k f : Nat), D.On → base + k < D.n → wrGo (base : Int) n b k (f + 1) D = wrGo (base : Int) n b (k + 1) f (D.write (base + k : Nat) (rgPg b n k)) := by
    intro D k f h hk
    rw [wrGo]
    have e : ((base : Int) + (k : Int)) = ((base + k : Nat) : Int) := by omega
    rw [e, (h.write hk (rgPg_le b n k)).1, if_pos rfl]
  have h0 := h.write (k := base + 0) (by omega) (rgPg_le b n 0)
  have h1 := h0.2.1.write (k := base + 1) (by rw [h0.2.2.1]; omega) (rgPg_le b n 1)
  have h2 := h1.2.1.write (k := base + 2) (by rw [h1.2.2.1, h0.2.2.1]; omega) (rgPg_le b n 2)
  have h3 := h2.2.1.write (k := base + 3) (by rw [h2.2.2.1, h1.2.2.1, h0.2.2.1]; omega) (rgPg_le b n 3)
  have hw : Go.Proofs.YtplpbbdakihnfaaGreat.wr D base n b = wrGo (base : Int) n b 4 0 ((((D.write (base + 0 : Nat) (rgPg b n 0)).write (base + 1 : Nat) (rgPg b n 1)).write (base + 2 : Nat) (rgPg b n 2)).write (base + 3 : Nat) (rgPg b n 3)) := by
    unfold Go.Proofs.YtplpbbdakihnfaaGreat.wr
    rw [step D 0 3 h (by omega), step _ 1 2 h0.2.1 (by rw [h0.2.2.1]; omega), step _ 2 1 h1.2.1 (by rw [h1.2.2.1, h0.2.2.1]; omega), step _ 3 0 h2.2.1 (by rw [h2.2.2.1, h1.2.2.1, h0.2.2.1]; omega)]
  rw [hw]
  have hf := h3.2.1.flush
  refine ⟨h3.2.1.changeE, hf.1, ?_, ?_, ?_, ?_, hf.2.2.2.2⟩
  · show Dev.n (Dev.flush _) = _
    rw [hf.2.1, h3.2.2.1, h2.2.2.1, h1.2.2.1, h0.2.2.1]
  · show Dev.losses (Dev.flush _) = _
    rw [hf.2.2.1, h3.2.2.2.1, h2.2.2.2.1, h1.2.2.2.1, h0.2.2.2.1]
  · intro k hk
    show Dev.page (Dev.flush _) _ = _
    rw [hf.2.2.2.1, h3.2.2.2.2, h2.2.2.2.2, h1.2.2.2.2, h0.2.2.2.2]
    match k, hk with
    | 0, _ => rw [if_neg (by omega), if_neg (by omega), if_neg (by omega), if_pos rfl]
    | 1, _ => rw [if_neg (by omega), if_neg (by omega), if_pos rfl]
    | 2, _ => rw [if_neg (by omega), if_pos rfl]
    | 3, _ => rw [if_pos rfl]
  · intro i hi
    show Dev.page (Dev.flush _) _ = _
    rw [hf.2.2.2.1, h3.2.2.2.2, h2.2.2.2.2, h1.2.2.2.2, h0.2.2.2.2, if_neg (by omega), if_neg (by omega), if_neg (by omega), if_neg (by omega)]
end Go.Proofs.YtplpbbdakihnfaaGreat

/- Logs on a device that is on, in plain Lean. -/
namespace Go.Proofs.YtplpbbdakihnfaaGreat
open Go.RowKit
set_option linter.unusedSimpArgs false
set_option linter.unusedVariables false

structure Live (G : Lg) (D : Dev) : Prop where
  ok : G.Ok
  nd : (akeys G.keys).Nodup
  on : D.On
  los : G.losses = D.losses
  fit : G.first + 4 * G.regs.length ≤ D.n
theorem Live.next {G : Lg} {D : Dev} (h : Live G D) : G.next < G.regs.length := Nat.mod_lt _ h.ok.pos
theorem Live.wrote {G : Lg} {D : Dev} (h : Live G D) : (G.wrote D).2 = 0 ∧ (G.wrote D).1.On ∧ (G.wrote D).1.n = D.n ∧ (G.wrote D).1.losses = D.losses ∧ SealedAt ((G.wrote D).1.rpg G.first G.next) (G.number + 1) G.opn ∧
    (∀ i, i ≠ G.next → ∀ k, k < 4 → (G.wrote D).1.rpg G.first i k = D.rpg G.first i k) ∧ ∀ i, (G.wrote D).1.wt i = none := by
  have hn := h.next
  have hf := h.fit
  have hw := h.on.wr (base := G.first + 4 * G.next) (n := G.number + 1) (records G.opn) (by omega)
  refine ⟨hw.1, hw.2.1, hw.2.2.1, hw.2.2.2.1, fun k hk => ?_, fun i hi k hk => ?_, hw.2.2.2.2.2.2⟩
  · exact hw.2.2.2.2.1 k hk
  · refine hw.2.2.2.2.2.1 _ ?_
    rcases Nat.lt_or_gt_of_ne hi with h | h <;> omega
theorem moveK_nodup (i : Nat) (ks : Keys) (l : List Item) (hn : (akeys ks).Nodup) : (akeys (moveK i ks l)).Nodup := by
  rw [← moveT_all]; exact moveT_nodup i ks l hn _ (Nat.le_refl _)
theorem giveK_nodup (i : Nat) (ks : Keys) (l : List Item) (hn : (akeys ks).Nodup) : (akeys (giveK i ks l).2).Nodup := by
  rw [← giveT_all]; exact giveT_nodup i ks l hn _ (Nat.le_refl _)
theorem Live.sl {G : Lg} {D : Dev} (h : Live G D) (hn : G.number + 1 < 18446744073709551616) : (G.sl D).e = 0 ∧ Live (G.sl D).G (G.sl D).D ∧ (G.opn = [] → G.sl D = ⟨G, D, [], 0⟩) ∧ (G.opn ≠ [] → G.sl D = ⟨G.shut, (G.wrote D).1, G.given.1, 0⟩) := by
  by_cases h0 : G.opn = []
  · have e : G.sl D = ⟨G, D, [], 0⟩ := by unfold Lg.sl; rw [if_pos h0]
    rw [e]
    exact ⟨rfl, h, fun _ => rfl, fun hh => absurd h0 hh⟩
  · have hw := h.wrote
    have e : G.sl D = ⟨G.shut, (G.wrote D).1, G.given.1, 0⟩ := by
      unfold Lg.sl
      rw [if_neg h0, if_neg (fun hh => hh h.los), if_neg (by omega), if_pos hw.1]
    rw [e]
    refine ⟨rfl, ⟨h.ok.shut h.nd hn, moveK_nodup _ _ _ (giveK_nodup _ _ _ h.nd), hw.2.1, ?_, ?_⟩, fun hh => absurd hh h0, fun _ => rfl⟩
    · show G.losses = _
      rw [hw.2.2.2.1]; exact h.los
    · show G.first + 4 * G.shut.regs.length ≤ (G.wrote D).1.n
      rw [hw.2.2.1]
      have : G.shut.regs.length = G.regs.length := by simp [Lg.shut]
      rw [this]; exact h.fit
theorem Live.put {G : Lg} {D : Dev} (h : Live G D) (hn : G.number + 1 < 18446744073709551616) (x : Item) : Live (G.put D x).G (G.put D x).D ∧ ((G.put D x).e = 0 ↔ Lg.fits x = true) ∧ ((G.put D x).e = 0 ∨ (G.put D x).e = 1) ∧ (Lg.fits x = false → G.put D x = ⟨G, D, [], 1⟩) := by
  unfold Lg.put
  cases hf : Lg.fits x with
  | false => exact ⟨h, by simp, .inr rfl, fun _ => rfl⟩
  | true =>
    unfold Lg.fits at hf
    simp only [Bool.and_eq_true, decide_eq_true_eq] at hf
    have hadd : ∀ {G : Lg} {D : Dev}, Live G D → isum G.opn + x.size ≤ 1472 → Live (G.add x) D := fun hl hs => ⟨hl.ok.add hf.1 hs, nodup_aset _ _ _ hl.nd, hl.on, hl.los, hl.fit⟩
    simp only [if_true]
    by_cases hs : isum G.opn + x.size ≤ 1472
    · rw [if_pos hs]
      exact ⟨hadd h hs, by simp, .inl rfl, fun hh => by cases hh⟩
    · rw [if_neg hs]
      have hsl := h.sl hn
      rw [if_pos hsl.1]
      refine ⟨hadd hsl.2.1 ?_, by simp, .inl rfl, fun hh => by cases hh⟩
      rw [sl_opn hsl.1]
      simpa [isum] using hf.2

/-! a new device -/
theorem opened_new (n r : Nat) : Lg.opened (Dev.new n) 0 r = { losses := 0, first := 0, regs := List.replicate r .no, opn := [], number := 0, keys := [] } := by
  have hb : ∀ i, ldS ((Dev.new n).rpg 0 i) = .no ∧ ∀ m, ldTop ((Dev.new n).rpg 0 i) m 4 = m := fun i => load_blank (fun k _ => rfl)
  have hr : opRegs (Dev.new n) 0 r = List.replicate r .no := by
    unfold opRegs
    rw [List.eq_replicate_iff]
    refine ⟨by simp, fun S hS => ?_⟩
    obtain ⟨i, _, rfl⟩ := List.mem_map.1 hS
    exact (hb i).1
  have ht : opTop (Dev.new n) 0 r = 0 := by
    unfold opTop
    induction r with
    | zero => rfl
    | succ r ih => rw [List.range_succ, List.foldl_append, ih (by
        unfold opRegs at hr ⊢
        rw [List.eq_replicate_iff]
        refine ⟨by simp, fun S hS => ?_⟩
        obtain ⟨i, _, rfl⟩ := List.mem_map.1 hS
        exact (hb i).1)]; exact (hb r).2 0
  have hc : counts (List.replicate r Sealed.no) = [] := by
    unfold counts
    rw [List.filter_eq_nil_iff]
    intro i hi
    simp only [rnum, List.getD_eq_getElem?_getD, List.getElem?_replicate]
    split <;> simp [Sealed.no]
  unfold Lg.opened
  rw [hr, ht]
  have hb2 : byNum (List.replicate r Sealed.no) = [] := by unfold byNum; rw [hc]; rfl
  simp only [hb2]
  rfl
theorem new_on (n : Nat) : (Dev.new n).On := ⟨rfl, rfl⟩
theorem live_new (n r : Nat) (h1 : 1 ≤ r) (h2 : r ≤ 64) (h3 : 4 * r ≤ n) (h4 : n ≤ 4096) : Live (Lg.opened (Dev.new n) 0 r) (Dev.new n) := by
  rw [opened_new]
  refine ⟨⟨by simp; omega, by simpa using h2, by simp; omega, by show (0 : Nat) < _; decide, ?_, rfl, by simp [isum], fun key p hp => by cases hp⟩, by simp [akeys], new_on n, rfl, by simp; exact h3⟩
  intro S hS
  rw [(List.mem_replicate.1 hS).2]
  exact ⟨by simp [Sealed.no], by simp [Sealed.no]⟩
end Go.Proofs.YtplpbbdakihnfaaGreat

namespace Go.Proofs.YtplpbbdakihnfaaGreat
open Go.RowKit
set_option linter.unusedSimpArgs false
set_option linter.unusedVariables false

def Lg.new2 : Lg := { losses := 0, first := 0, regs := [.no, .no], opn := [], number := 0, keys := [] }
/-- one item is sealed -/
def Lg.one (losses : Int) (x : Item) : Lg := { losses, first := 0, regs := [.no, ⟨1, [x]⟩], opn := [], number := 1, keys := [(x.key, ⟨false, 1, 0⟩)] }
theorem new2_opened (n : Nat) : Lg.opened (Dev.new n) 0 2 = .new2 := opened_new n 2
theorem fits_good {x : Item} (h : Lg.fits x = true) : x.good = true ∧ x.size ≤ 1472 := by
  unfold Lg.fits at h
  simpa using h
theorem put_new2 (D : Dev) {x : Item} (h : Lg.fits x = true) : Lg.new2.put D x = ⟨Lg.new2.add x, D, [], 0⟩ := by
  have hf := fits_good h
  unfold Lg.put
  rw [if_pos h, if_pos (by simp [Lg.new2, isum]; exact hf.2)]
theorem shut_new2 (x : Item) : (Lg.new2.add x).shut = Lg.one 0 x := by
  have e : (Lg.new2.add x).next = 1 := rfl
  have h1 : giveK 1 [(x.key, (⟨true, 0, 0⟩ : Pl))] Sealed.no.l = ([], [(x.key, ⟨true, 0, 0⟩)]) := rfl
  unfold Lg.shut Lg.given
  rw [e]
  simp [Lg.new2, Lg.add, aset, rl, h1, moveK, aget, Lg.one]
theorem given_new2 (x : Item) : (Lg.new2.add x).given.1 = [] := rfl
/-- a device that holds it -/
structure HasOne (D : Dev) (x : Item) : Prop where
  blank : ∀ k, k < 4 → D.rpg 0 0 k = .blank
  one : SealedAt (D.rpg 0 1) 1 [x]
theorem seal_one (n : Nat) (hn : 8 ≤ n) (h4 : n ≤ 4096) {x : Item} (h : Lg.fits x = true) :
    (Lg.new2.add x).sl (Dev.new n) = ⟨Lg.one 0 x, ((Lg.new2.add x).wrote (Dev.new n)).1, [], 0⟩ ∧ HasOne ((Lg.new2.add x).wrote (Dev.new n)).1 x ∧ ((Lg.new2.add x).wrote (Dev.new n)).1.On ∧ ((Lg.new2.add x).wrote (Dev.new n)).1.n = n ∧ ((Lg.new2.add x).wrote (Dev.new n)).1.losses = 0 ∧ ∀ i, ((Lg.new2.add x).wrote (Dev.new n)).1.wt i = none := by
  have hl := live_new n 2 (by omega) (by omega) (by omega) h4
  rw [new2_opened] at hl
  have hf := fits_good h
  have hl1 : Live (Lg.new2.add x) (Dev.new n) := ⟨hl.ok.add hf.1 (by simp [Lg.new2, isum]; exact hf.2), nodup_aset _ _ _ hl.nd, hl.on, hl.los, hl.fit⟩
  have hs := hl1.sl (by show (0 : Nat) + 1 < _; decide)
  have hw := hl1.wrote
  have e := hs.2.2.2 (by simp [Lg.add, Lg.new2])
  rw [shut_new2, given_new2] at e
  refine ⟨e, ⟨fun k hk => ?_, ?_⟩, hw.2.1, hw.2.2.1, hw.2.2.2.1, hw.2.2.2.2.2.2⟩
  · have := hw.2.2.2.2.2.1 0 (by show (0 : Nat) ≠ 1; decide) k hk
    exact this
  · exact hw.2.2.2.2.1
theorem open_one {D : Dev} {x : Item} (h : HasOne D x) (hx : Lg.fits x = true) : Lg.opened D 0 2 = Lg.one D.losses x := by
  have hf := fits_good hx
  have h0 := load_blank h.blank
  have hg : goods [x] = true := by simp [goods, hf.1]
  have h1 := load_back h.one hg (by simp [isum]; exact hf.2) (by omega) (by omega)
  have t1 := top_back h.one (by omega) 0
  have hr : opRegs D 0 2 = [.no, ⟨1, [x]⟩] := by
    unfold opRegs
    rw [show List.range 2 = [0, 1] from rfl, List.map_cons, List.map_cons, List.map_nil, h0.1, h1]
  have ht : opTop D 0 2 = 1 := by
    unfold opTop
    rw [show List.range 2 = [0, 1] from rfl, List.foldl_cons, List.foldl_cons, List.foldl_nil, h0.2, t1]
    omega
  unfold Lg.opened
  rw [hr, ht]
  have hb : byNum [Sealed.no, ⟨1, [x]⟩] = [1] := rfl
  simp only [hb]
  rfl
theorem on_pages (D : Dev) (hw : ∀ i, D.wt i = none) : (∀ first i k, D.on.rpg first i k = D.rpg first i k) ∧ D.on.On ∧ D.on.n = D.n := by
  refine ⟨fun first i k => ?_, ⟨rfl, rfl⟩, rfl⟩
  unfold Dev.rpg Dev.page Dev.on Dev.settle
  simp [hw]
theorem HasOne.on {D : Dev} {x : Item} (h : HasOne D x) (hw : ∀ i, D.wt i = none) : HasOne D.on x :=
  ⟨fun k hk => by rw [(on_pages D hw).1]; exact h.blank k hk, fun k hk => by rw [(on_pages D hw).1]; exact h.one k hk⟩
theorem one_get (l : Int) (x : Item) : (Lg.one l x).get x.key = x ∧ (Lg.one l x).getE x.key = 0 ∧ (Lg.one l x).items.length = 1 ∧ ((Lg.one l x).drop x.key).has x.key = false ∧ ((Lg.one l x).drop x.key).getE x.key = 5 ∧ ((Lg.one l x).drop x.key).items.length = 0 := by
  have hb : byNum [Sealed.no, ⟨1, [x]⟩] = [1] := rfl
  refine ⟨?_, ?_, ?_, ?_, ?_, ?_⟩
  · simp [Lg.get, Lg.one, aget, Lg.item, rl]
  · simp [Lg.getE, Lg.has, Lg.one, aget]
  · simp [Lg.items, Lg.one, hb, pick, rl, aget]
  · simp [Lg.drop, Lg.has, Lg.one, adel, aget]
  · simp [Lg.getE, Lg.drop, Lg.has, Lg.one, adel, aget]
  · simp [Lg.items, Lg.drop, Lg.one, hb, pick, rl, adel, aget]
/-- a second item under the same key -/
theorem one_put (l : Int) (x y : Item) (D : Dev) (hy : Lg.fits y = true) (hk : y.key = x.key) : (Lg.one l x).put D y = ⟨(Lg.one l x).add y, D, [], 0⟩ ∧ ((Lg.one l x).add y).get x.key = y ∧ ((Lg.one l x).add y).getE x.key = 0 ∧ ((Lg.one l x).add y).has x.key = true := by
  have hf := fits_good hy
  refine ⟨?_, ?_, ?_, ?_⟩
  · unfold Lg.put
    rw [if_pos hy, if_pos (by simp [Lg.one, isum]; exact hf.2)]
  · simp [Lg.get, Lg.add, Lg.one, aset, hk, aget, Lg.item]
  · simp [Lg.getE, Lg.has, Lg.add, Lg.one, aset, hk, aget]
  · simp [Lg.has, Lg.add, Lg.one, aset, hk, aget]
theorem one_bn (l : Int) (x : Item) : byNum (Lg.one l x).regs = [1] := rfl
end Go.Proofs.YtplpbbdakihnfaaGreat
end

/- An engine in plain Lean, and how it lies in memory. -/
section
namespace Go.Proofs.YtplpbbdakihnfaaGreat
open Go.RowKit
open Go.ChangeMaps (setBlock)
set_option linter.unusedSimpArgs false
set_option linter.unusedVariables false

structure Eng where
  losses : Int
  blk : Sb
  last : Nat
  J : Jn
  B : Sto
  G : Lg
namespace Eng
def key (k : ByteArray) : Nat := khash k.data.toList
/-- whether an item counts -/
def counts (E : Eng) (x : Item) : Bool := decide (E.blk.horizon < x.ver.toNat) && !E.J.gone (key x.key) x.ver.toNat
def may (E : Eng) (k : ByteArray) : Bool := E.B.may k || E.G.has k
/-- of what the buckets and the log tell, that which counts and is newest -/
def one (E : Eng) (D : Dev) (k : ByteArray) : Option Item :=
  let a := if (E.B.get D k).2 = 0 ∧ E.counts (E.B.get D k).1 = true then some (E.B.get D k).1 else none
  if E.G.getE k = 0 ∧ E.counts (E.G.get k) = true then (match a with
    | some x => if x.ver < (E.G.get k).ver then some (E.G.get k) else some x
    | none => some (E.G.get k)) else a
def get (E : Eng) (D : Dev) (k : ByteArray) : Item := (E.one D k).getD Item.zero
def getE (E : Eng) (D : Dev) (k : ByteArray) : Int := match E.one D k with
  | some _ => 0
  | none => 5
end Eng

abbrev tEng : TypeId := 84
structure EngH where
  E : Nat
  j : JnH
  s : StoH
  g : LgH
def engBox (h : DevH) (t : EngH) (X : Eng) : Array Value := #[.pointer (some ⟨h.d, 0, none⟩), .int .i64 X.losses, .int .u64 X.blk.seq, .int .u64 X.blk.epoch, .int .u64 X.blk.reserved, .int .u64 X.blk.horizon, .int .u64 X.blk.gen, .bool X.blk.clean, .int .i64 X.blk.image, .int .u64 X.last,
  .pointer (some ⟨t.j.J, 0, none⟩), .pointer (some ⟨t.s.s, 0, none⟩), .pointer (some ⟨t.g.L, 0, none⟩)]
/-- what an engine's calls may change -/
def EngH.spot (t : EngH) (h : DevH) : Nat → Prop := fun k => k = t.E ∨ t.j.own k ∨ (∃ p ∈ t.s.ps, k = p.2) ∨ t.g.spot k
/-- all that may change lies at or beyond B -/
def EngH.far (t : EngH) (B : Nat) : Prop := B ≤ t.E ∧ (∀ k, t.j.own k → B ≤ k) ∧ (∀ p ∈ t.s.ps, B ≤ p.2) ∧ ∀ k, t.g.own k → B ≤ k
structure EngAt (w : World) (h : DevH) (t : EngH) (X : Eng) : Prop where
  box : Blk w t.E tEng (engBox h t X)
  jn : JnAt w h t.j X.J
  sto : StoAt w h t.s X.B
  lg : LgAt w h t.g X.G
  jg : ∀ k, t.j.own k → ¬ t.g.own k
  sg : ∀ p ∈ t.s.ps, ¬ t.g.own p.2
  eg : ¬ t.g.own t.E
  blk : X.blk.Ok
  last : X.last < 18446744073709551616
  jfit : X.J.first + X.J.pages ≤ 4096
  pos : 0 < X.B.fs.length
section
variable {N : Nat} {S : Nat → Prop} {w w' : World} {h : DevH} {t : EngH} {X : Eng} {D : Dev}
theorem StoAt.bits_ty (hs : StoAt w h t.s X.B) {p : Nat × Nat} (hp : p ∈ t.s.ps) : ∃ cs, Blk w p.2 tBool cs := by
  obtain ⟨i, hi, e⟩ := List.getElem_of_mem hp
  have h1 : t.s.ps[i]? = some p := by rw [List.getElem?_eq_getElem hi, e]
  have hl := hs.len
  have h2 : X.B.fs[i]? = some (X.B.fs[i]'(by omega)) := List.getElem?_eq_getElem _
  exact ⟨_, (hs.flt i p _ h1 h2).bits⟩
/-- a change of none of its blocks -/
theorem EngAt.foot (he : EngAt w h t X) (hd : DevN N w h D) (hc : Chg h.foot w w') : EngAt w' h t X :=
  { he with
    box := he.box.chg hc (hd.not_foot he.box (by decide) (by decide))
    jn := he.jn.foot hd hc
    sto := he.sto.foot hd hc
    lg := he.lg.foot hd hc }
theorem EngAt.chgNo (he : EngAt w h t X) (hc : Chg No w w') : EngAt w' h t X :=
  { he with
    box := he.box.chg hc (fun h => h)
    jn := he.jn.chgNo hc
    sto := he.sto.chgNo hc
    lg := he.lg.chgNo hc }
end

section
variable {N : Nat} {S : Nat → Prop} {w w' : World} {h : DevH} {t : EngH} {X : Eng} {D : Dev}
set_option maxRecDepth 100000 in
theorem edone_calls (hd : DevN N w h D) (he : EngAt w h t X) (hoff : D.off = false) :
    Calls Tryz.prog 48 #[.pointer (some ⟨t.E, 0, none⟩)] w fun e w' => e = .returned (.bool (decide (X.losses ≠ D.losses))) ∧ ∃ n, w' = w.drewN n := by
  have HL := fun n => Lib.hid (losses_calls (w := w.drewN n) (hd.chgNo ((Chg.refl No w).drewN n)))
  have HP := fun n => Lib.hid (power_calls (w := w.drewN n) (hd.chgNo ((Chg.refl No w).drewN n)))
  have c0 := he.box.cell 0
  have c1 := he.box.cell 1
  simp [engBox] at c0 c1
  obtain ⟨a, ha⟩ : ∃ a, a = X.losses := ⟨_, rfl⟩
  obtain ⟨b, hb⟩ : ∃ b, b = D.losses := ⟨_, rfl⟩
  rw [← ha] at c1 ⊢
  rw [← hb] at HL ⊢
  rw [hoff] at HP
  clear hd he ha hb hoff
  go_enter Tryz.func48, Tryz.ntmps48
  go_wp2_with fail
  go_quiet ((first | (go_at_call 35; exact quiet_left (HL _).out) | (go_at_call 34; exact quiet_left (HP _).out)))
  go_wp2
  go_ret
  refine ⟨?_, _, rfl⟩
  congr 2
  by_cases h : a = b <;> simp [h]
end
end Go.Proofs.YtplpbbdakihnfaaGreat
end

/- The engine's smaller functions, walked: Good, Pages, Block, counts, May. -/
section
namespace Go.Proofs.YtplpbbdakihnfaaGreat
open Go.RowKit
open Go.ChangeMaps (setBlock)
attribute [local go_sem ↓] Go.wp_at_zero Go.wp_at_succ
set_option linter.unusedSimpArgs false
set_option linter.unusedVariables false

theorem Chg.cellNo {a b : World} (hc : Chg No a b) {g i : Nat} {v : Value} (h : a.cell? ⟨g, i, none⟩ = some v) : b.cell? ⟨g, i, none⟩ = some v := by
  by_cases hg : g < a.heap.size
  · have e := hc.block g hg (fun h => h)
    unfold World.cell? at h ⊢
    simp only at h ⊢
    rw [e]
    exact h
  · exfalso
    have e : a.heap[g]? = none := by rw [Array.getElem?_eq_none_iff]; omega
    unfold World.cell? at h
    simp only [e] at h
    cases h
/-- a geometry: journal, buckets, regions, image -/
structure Geo where
  j : Nat
  b : Nat
  r : Nat
  i : Nat
namespace Geo
def V (g : Geo) : Value := .agg #[.int .i64 g.j, .int .i64 g.b, .int .i64 g.r, .int .i64 g.i]
def ok (g : Geo) : Bool := decide (1 ≤ g.j) && decide (g.j ≤ 64) && decide (1 ≤ g.b) && decide (g.b ≤ 64) && decide (1 ≤ g.r) && decide (g.r ≤ 16) && decide (g.i ≤ 256)
def pages (g : Geo) : Nat := 2 + g.j + g.b + 4 * g.r + g.i
end Geo
set_option maxRecDepth 100000 in
theorem egood_calls (g : Geo) (h : g.ok = true) (w : World) :
    Calls Tryz.prog 31 #[g.V] w fun e w' => e = .returned (.bool true) ∧ Chg No w w' := by
  unfold Geo.ok at h
  simp only [Bool.and_eq_true, decide_eq_true_eq] at h
  obtain ⟨⟨⟨⟨⟨⟨h1, h2⟩, h3⟩, h4⟩, h5⟩, h6⟩, h7⟩ := h
  obtain ⟨j, b, r, i⟩ := g
  simp only at h1 h2 h3 h4 h5 h6 h7
  unfold Geo.V
  have a1 : (1 : Int) ≤ (j : Int) := by omega
  have a2 : (j : Int) ≤ 64 := by omega
  have a3 : (1 : Int) ≤ (b : Int) := by omega
  have a4 : (b : Int) ≤ 64 := by omega
  have a5 : (1 : Int) ≤ (r : Int) := by omega
  have a6 : (r : Int) ≤ 16 := by omega
  have a7 : (0 : Int) ≤ (i : Int) := by omega
  have a8 : (i : Int) ≤ 256 := by omega
  go_enter Tryz.func31, Tryz.ntmps31
  go_wp2_with fail
  go_ret
  exact ⟨rfl, by (repeat (first | (with_reducible exact Chg.refl _ _) | (with_reducible assumption) | (with_reducible refine Chg.drewN ?_ _) | (with_reducible refine Chg.drew ?_) | (with_reducible refine Chg.alloc ?_ _) | (with_reducible refine Chg.setCell ?_ (by first | (left; simp [DevH.foot]; done) | (right; simp; done) | (right; simp; omega)) _)))⟩
set_option maxRecDepth 100000 in
theorem ebad_calls (w : World) :
    Calls Tryz.prog 31 #[(Geo.mk 0 0 0 0).V] w fun e w' => e = .returned (.bool false) ∧ Chg No w w' := by
  unfold Geo.V
  go_enter Tryz.func31, Tryz.ntmps31
  go_wp2_with fail
  go_ret
  exact ⟨rfl, by (repeat (first | (with_reducible exact Chg.refl _ _) | (with_reducible assumption) | (with_reducible refine Chg.drewN ?_ _) | (with_reducible refine Chg.drew ?_) | (with_reducible refine Chg.alloc ?_ _) | (with_reducible refine Chg.setCell ?_ (by first | (left; simp [DevH.foot]; done) | (right; simp; done) | (right; simp; omega)) _)))⟩
set_option maxRecDepth 100000 in
theorem epages_calls (g : Geo) (h : g.ok = true) (w : World) :
    Calls Tryz.prog 18 #[g.V] w fun e w' => e = .returned (.int .i64 g.pages) ∧ Chg No w w' := by
  have HG := fun W => Lib.hid (egood_calls g h W)
  unfold Geo.ok at h
  simp only [Bool.and_eq_true, decide_eq_true_eq] at h
  obtain ⟨⟨⟨⟨⟨⟨h1, h2⟩, h3⟩, h4⟩, h5⟩, h6⟩, h7⟩ := h
  obtain ⟨j, b, r, i⟩ := g
  simp only at h1 h2 h3 h4 h5 h6 h7
  unfold Geo.pages
  unfold Geo.V at HG ⊢
  go_enter Tryz.func18, Tryz.ntmps18
  go_wp2_with fail
  refine (HG _).out.mono ?_
  rintro e w1 ⟨rfl, hc1⟩
  have HX := Lib.hid ((Blk.new w 34 #[.int .i64 j, .int .i64 b, .int .i64 r, .int .i64 i]).chg hc1 (fun h => h))
  have HC : Hid (Chg No w w1) := ((Chg.refl No w).alloc _).trans hc1
  have x0 := HX.out.cell 0
  have x1 := HX.out.cell 1
  have x2 := HX.out.cell 2
  have x3 := HX.out.cell 3
  simp at x0 x1 x2 x3
  have a1 : IntKind.i64.wrap (2 + (j : Int)) = 2 + (j : Int) := IntWalk.i64_in _ (by omega)
  have a2 : IntKind.i64.wrap (2 + (j : Int) + (b : Int)) = 2 + (j : Int) + (b : Int) := IntWalk.i64_in _ (by omega)
  have a3 : IntKind.i64.wrap (4 * (r : Int)) = 4 * (r : Int) := IntWalk.i64_in _ (by omega)
  have a4 : IntKind.i64.wrap (2 + (j : Int) + (b : Int) + 4 * (r : Int)) = 2 + (j : Int) + (b : Int) + 4 * (r : Int) := IntWalk.i64_in _ (by omega)
  have a5 : IntKind.i64.wrap (2 + (j : Int) + (b : Int) + 4 * (r : Int) + (i : Int)) = 2 + (j : Int) + (b : Int) + 4 * (r : Int) + (i : Int) := IntWalk.i64_in _ (by omega)
  clear hc1
  go_wp2_with fail
  go_ret
  refine ⟨?_, HC.out⟩
  congr 2
theorem epages_bad (w : World) :
    Calls Tryz.prog 18 #[(Geo.mk 0 0 0 0).V] w fun e w' => e = .returned (.int .i64 0) ∧ Chg No w w' := by
  have HG := fun W => Lib.hid (ebad_calls W)
  unfold Geo.V at HG ⊢
  go_enter Tryz.func18, Tryz.ntmps18
  go_wp2_with fail
  refine (HG _).out.mono ?_
  rintro e w1 ⟨rfl, hc1⟩
  go_wp2_with fail
  have HC : Hid (Chg No w w1) := ((Chg.refl No w).alloc _).trans hc1
  clear hc1
  go_ret
  exact ⟨rfl, HC.out⟩

section
variable {N : Nat} {S : Nat → Prop} {w w' : World} {h : DevH} {t : EngH} {X : Eng} {D : Dev}
set_option maxRecDepth 100000 in
theorem eblock_calls (he : EngAt w h t X) :
    Calls Tryz.prog 30 #[.pointer (some ⟨t.E, 0, none⟩)] w fun e w' => e = .returned (sbV X.blk) ∧ Chg No w w' := by
  have c2 := he.box.cell 2
  have c3 := he.box.cell 3
  have c4 := he.box.cell 4
  have c5 := he.box.cell 5
  have c6 := he.box.cell 6
  have c7 := he.box.cell 7
  have c8 := he.box.cell 8
  simp [engBox] at c2 c3 c4 c5 c6 c7 c8
  rw [sbV_eq]
  have xlt := he.box.lt
  go_enter Tryz.func30, Tryz.ntmps30
  go_wp2_with fail
  refine bodyPost_ret (v := .agg #[.int .u64 X.blk.seq, .int .u64 X.blk.epoch, .int .u64 X.blk.reserved, .int .u64 X.blk.horizon, .int .u64 X.blk.gen, .bool X.blk.clean, .int .i64 X.blk.image]) (by simp [results, Tryz.results30, go_sem]) rfl ⟨rfl, by (repeat (first | (with_reducible exact Chg.refl _ _) | (with_reducible assumption) | (with_reducible refine Chg.drewN ?_ _) | (with_reducible refine Chg.drew ?_) | (with_reducible refine Chg.alloc ?_ _) | (with_reducible refine Chg.setCell ?_ (by first | (left; simp [DevH.foot]; done) | (right; simp; done) | (right; simp; omega)) _)))⟩
set_option maxRecDepth 100000 in
theorem ecounts_calls (he : EngAt w h t X) (x : Item) (hk : x.key.size ≤ 140737488351232) :
    Calls Tryz.prog 51 #[.pointer (some ⟨t.E, 0, none⟩), itemV x] w fun e w' => e = .returned (.bool (X.counts x)) ∧ Chg No w w' := by
  have c5 := he.box.cell 5
  have c10 := he.box.cell 10
  simp [engBox] at c5 c10
  have HH := fun W => Lib.hid (hash_calls x.key W hk)
  have HGN := fun W => Lib.hid (fun hc : Chg No w W => gone_calls (he.jn.chgNo hc) (Eng.key x.key) x.ver.toNat)
  have xlt := he.box.lt
  have HB := Lib.hid he.box
  have HE : Hid (X.counts x = (decide (X.blk.horizon < x.ver.toNat) && !X.J.gone (Eng.key x.key) x.ver.toNat)) := rfl
  rw [HE.out]
  obtain ⟨b, hb⟩ : ∃ b, b = X.J.gone (Eng.key x.key) x.ver.toNat := ⟨_, rfl⟩
  obtain ⟨y, hy⟩ : ∃ y, y = X.blk.horizon := ⟨_, rfl⟩
  obtain ⟨v, hv⟩ : ∃ v, v = x.ver.toNat := ⟨_, rfl⟩
  unfold itemV
  rw [← hy] at c5
  rw [← hb] at HGN
  rw [← hv] at HGN
  rw [← hb, ← hy, ← hv]
  clear he HE hb hy hv HB hk
  unfold Eng.key at HGN
  obtain ⟨z, hz⟩ : ∃ z, z = khash x.key.data.toList := ⟨_, rfl⟩
  rw [← hz] at HH HGN
  clear hz
  by_cases hlt : y < v
  rotate_left
  · have hni : ¬ (y : Int) < (v : Int) := by omega
    rw [decide_eq_false hlt, Bool.false_and]
    go_enter Tryz.func51, Tryz.ntmps51
    go_wp2_with fail
    go_quiet (fail)
    go_wp2_with fail
    go_ret
    exact ⟨rfl, by (repeat (first | (with_reducible exact Chg.refl _ _) | (with_reducible assumption) | (with_reducible refine Chg.drewN ?_ _) | (with_reducible refine Chg.drew ?_) | (with_reducible refine Chg.alloc ?_ _) | (with_reducible refine Chg.setCell ?_ (by first | (left; simp [DevH.foot]; done) | (right; simp; done) | (right; simp; omega)) _)))⟩
  have hyi : (y : Int) < (v : Int) := by omega
  rw [decide_eq_true hlt, Bool.true_and]
  go_enter Tryz.func51, Tryz.ntmps51
  go_wp2_with fail
  go_region_held3 (fun w' => w'.cell? ⟨t.E, 5, none⟩ = some (.int .u64 y) ∧ w'.cell? ⟨t.E, 10, none⟩ = some (.pointer (some ⟨t.j.J, 0, none⟩)) ∧ w'.cell? ⟨w.heap.size, 0, none⟩ = some (.string x.key) ∧ w'.cell? ⟨w.heap.size, 4, none⟩ = some (.int .u64 v)) (first | go_keep)
    (first
      | (go_at_call 52
         refine (HH _).out.mono ?_
         rintro e w3 ⟨rfl, rfl⟩)
      | (go_at_call 78
         refine ((HGN _).out (by (repeat (first | (with_reducible exact Chg.refl _ _) | (with_reducible assumption) | (with_reducible refine Chg.drewN ?_ _) | (with_reducible refine Chg.drew ?_) | (with_reducible refine Chg.alloc ?_ _) | (with_reducible refine Chg.setCell ?_ (by first | (left; simp [DevH.foot]; done) | (right; simp; done) | (right; simp; omega)) _))))).mono ?_
         rintro e w3 ⟨rfl, hc3⟩
         have k0 := hc3.cellNo (g := t.E) (i := 5) (v := .int .u64 y) (by simp [go_sem, c5, c10, xlt, Nat.ne_of_lt xlt])
         have k1 := hc3.cellNo (g := t.E) (i := 10) (v := .pointer (some ⟨t.j.J, 0, none⟩)) (by simp [go_sem, c5, c10, xlt, Nat.ne_of_lt xlt])
         have k2 := hc3.cellNo (g := w.heap.size) (i := 0) (v := .string x.key) (by simp [go_sem, c5, c10, xlt, Nat.ne_of_lt xlt])
         have k3 := hc3.cellNo (g := w.heap.size) (i := 4) (v := .int .u64 v) (by simp [go_sem, c5, c10, xlt, Nat.ne_of_lt xlt])
         have HC3 := Lib.hid hc3
         clear hc3))
  have HC4 : Hid (Chg No w w3) := (((Chg.refl No w).alloc _).drew).trans HC3.out
  clear HC3 k0 k1 k2 k3
  go_wp2_with fail
  go_ret
  exact ⟨rfl, HC4.out⟩
set_option maxRecDepth 100000 in
theorem emay_calls (he : EngAt w h t X) (key : ByteArray) (hk : key.size ≤ 140737488351232) :
    Calls Tryz.prog 21 #[.pointer (some ⟨t.E, 0, none⟩), .string key] w fun e w' => e = .returned (.bool (X.may key)) ∧ Chg No w w' := by
  have c5 := he.box.cell 11
  have c6 := he.box.cell 12
  simp [engBox] at c5 c6
  have HM1 := Lib.hid (smay_calls he.sto he.pos key hk)
  have HM2 := fun W => Lib.hid (fun hc : Chg No w W => may_key (key := key) (he.lg.chgNo hc))
  have HBX := Lib.hid he.box
  have HE : Hid (X.may key = (X.B.may key || X.G.has key)) := rfl
  rw [HE.out]
  obtain ⟨a, ha⟩ : ∃ a, a = X.B.may key := ⟨_, rfl⟩
  obtain ⟨b, hb⟩ : ∃ b, b = X.G.has key := ⟨_, rfl⟩
  rw [← ha] at HM1 ⊢
  rw [← hb] at HM2 ⊢
  clear he HE ha hb hk
  go_enter Tryz.func21, Tryz.ntmps21
  go_wp2_with fail
  refine HM1.out.mono ?_
  rintro e w1 ⟨rfl, hc1⟩
  have HC1 := Lib.hid hc1
  have d12 := (HBX.out.chg hc1 (fun h => h)).cell 12
  simp [engBox] at d12
  clear hc1
  cases a with
  | true =>
    go_wp2_with fail
    go_ret
    exact ⟨rfl, HC1.out⟩
  | false =>
    go_wp2_with fail
    refine ((HM2 _).out HC1.out).mono ?_
    rintro e w2 ⟨rfl, hc2⟩
    have HC2 := Lib.hid (HC1.out.trans hc2)
    clear hc2
    go_wp2_with fail
    go_ret
    exact ⟨rfl, HC2.out⟩
end
end Go.Proofs.YtplpbbdakihnfaaGreat
end

/- The engine's Set, walked. -/
section
namespace Go.Proofs.YtplpbbdakihnfaaGreat
open Go.RowKit
open Go.ChangeMaps (setBlock)
attribute [local go_sem ↓] Go.wp_at_zero Go.wp_at_succ
set_option linter.unusedSimpArgs false
set_option linter.unusedVariables false

namespace Eng
/-- a block is stored -/
def set (X : Eng) (D : Dev) (b : Sb) : Eng := if D.stE b = 0 then { X with blk := D.stR b } else X
end Eng
def set7e (w : World) (g : Nat) (b : Sb) : World := ((((((w.setCell ⟨g, 2, none⟩ (.int .u64 b.seq)).setCell ⟨g, 3, none⟩ (.int .u64 b.epoch)).setCell ⟨g, 4, none⟩ (.int .u64 b.reserved)).setCell ⟨g, 5, none⟩ (.int .u64 b.horizon)).setCell ⟨g, 6, none⟩ (.int .u64 b.gen)).setCell ⟨g, 7, none⟩ (.bool b.clean)).setCell ⟨g, 8, none⟩ (.int .i64 b.image)
section
variable {N : Nat} {S : Nat → Prop} {w w' : World} {h : DevH} {t : EngH} {X : Eng} {D : Dev}
theorem set7e_chg (w : World) (g : Nat) (b : Sb) : Chg (fun k => k = g) w (set7e w g b) := by
  unfold set7e
  have h0 : Chg (fun k => k = g) w (w.setCell ⟨g, 2, none⟩ (.int .u64 b.seq)) := chg_setCell w ⟨g, 2, none⟩ _
  have h1 := Chg.setCell h0 (p := ⟨g, 3, none⟩) (.inl rfl) (.int .u64 b.epoch)
  have h2 := Chg.setCell h1 (p := ⟨g, 4, none⟩) (.inl rfl) (.int .u64 b.reserved)
  have h3 := Chg.setCell h2 (p := ⟨g, 5, none⟩) (.inl rfl) (.int .u64 b.horizon)
  have h4 := Chg.setCell h3 (p := ⟨g, 6, none⟩) (.inl rfl) (.int .u64 b.gen)
  have h5 := Chg.setCell h4 (p := ⟨g, 7, none⟩) (.inl rfl) (.bool b.clean)
  exact Chg.setCell h5 (p := ⟨g, 8, none⟩) (.inl rfl) (.int .i64 b.image)
/-- a change of the engine's own box alone -/
theorem EngAt.boxed {Y : Eng} (he : EngAt w h t X) (hc : Chg (fun k => k = t.E) w w') (hb : Blk w' t.E tEng (engBox h t Y)) (hJ : Y.J = X.J) (hB : Y.B = X.B) (hG : Y.G = X.G) (ho : Y.blk.Ok) (hl : Y.last < 18446744073709551616) : EngAt w' h t Y := by
  have hbx := he.box
  refine { box := hb, jn := ?_, sto := ?_, lg := ?_, jg := he.jg, sg := he.sg, eg := he.eg, blk := ho, last := hl, jfit := by rw [hJ]; exact he.jfit, pos := by rw [hB]; exact he.pos }
  · rw [hJ]
    refine he.jn.chg hc (fun k hk e => ?_)
    subst e
    rcases hk with e | e
    · have h1 := he.jn.box
      rw [← e] at h1
      unfold Blk at h1 hbx
      rw [hbx] at h1
      injection h1 with h1
      injection h1 with _ h1
      exact absurd h1 (by decide)
    · exact he.jn.map.ne_blk hbx e.symm
  · rw [hB]
    refine he.sto.chg hc (fun g cs T hT hb e => ?_)
    subst e
    unfold Blk at hb hbx
    rw [hbx] at hb
    injection hb with hb
    injection hb with _ hb
    rcases hT with rfl | rfl | rfl | rfl <;> exact absurd hb (by decide)
  · rw [hG]
    exact he.lg.chg hc (fun k hk e => he.eg (e ▸ hk))
theorem EngAt.setBlk (he : EngAt w h t X) (b : Sb) (hb : b.Ok) : EngAt (set7e w t.E b) h t { X with blk := b } ∧ Chg (fun k => k = t.E) w (set7e w t.E b) := by
  have hc := set7e_chg w t.E b
  refine ⟨he.boxed hc ?_ rfl rfl rfl hb he.last, hc⟩
  have h2 := ((((((he.box.set_ 2 (.int .u64 b.seq)).set_ 3 (.int .u64 b.epoch)).set_ 4 (.int .u64 b.reserved)).set_ 5 (.int .u64 b.horizon)).set_ 6 (.int .u64 b.gen)).set_ 7 (.bool b.clean)).set_ 8 (.int .i64 b.image)
  unfold set7e
  simpa [engBox] using h2
theorem EngAt.other {w2 w3 : World} {g : Nat} {T : TypeId} {cs : Array Value} (he : EngAt w2 h t X) (hb : Blk w2 g T cs) (h1 : T ≠ tEng) (h2 : T ≠ tJn) (h3 : T ≠ tStore) (h4 : T ≠ tPF) (h5 : T ≠ tFilter) (h6 : T ≠ tBool) (hown : ¬ t.g.own g) (hc : Chg (fun k => k = g) w2 w3) : EngAt w3 h t X := by
  have hne : ∀ {g' : Nat} {T' : TypeId} {cs' : Array Value}, Blk w2 g' T' cs' → T ≠ T' → ¬ g' = g := by
    intro g' T' cs' hb' hT e
    subst e
    unfold Blk at hb hb'
    rw [hb] at hb'
    injection hb' with hb'
    injection hb' with _ hb'
    exact hT hb'
  refine { he with box := he.box.chg hc (hne he.box h1), jn := he.jn.chg hc (fun k hk e => ?_), sto := he.sto.chg hc (fun g' cs' T' hT hb' => ?_), lg := he.lg.chg hc (fun k hk e => hown (e ▸ hk)) }
  · rcases hk with e2 | e2
    · exact hne he.jn.box h2 (e2.symm.trans e)
    · exact he.jn.map.ne_blk hb (e2.symm.trans e)
  · rcases hT with rfl | rfl | rfl | rfl
    · exact hne hb' h3
    · exact hne hb' h4
    · exact hne hb' h5
    · exact hne hb' h6
theorem stR_ok {b : Sb} (hb : b.Ok) (hq : D.sload.seq + 1 < 18446744073709551616) : (D.stR b).Ok := by
  unfold Dev.stR
  split
  · exact Sb.norm_ok ⟨hq, hb.epoch, hb.reserved, hb.horizon, hb.gen, hb.image⟩
  · exact Sb.zero_ok
theorem EngAt.dev_ (he : EngAt w h t X) (hd : DevN N w h D) (hc : Chg (fun k => k = t.E) w w') : DevN N w' h D :=
  dev_one hd he.box hc (by decide) (by decide) (by decide) (by decide)
set_option maxRecDepth 100000 in
set_option maxHeartbeats 4000000 in
theorem eset_calls (hd : DevAt w h D) (he : EngAt w h t X) (hoff : D.off = false) (hn : 2 ≤ D.n) (b : Sb) (hb : b.Ok) (hq : D.sload.seq + 1 < 18446744073709551616) (hls : X.losses = D.losses) :
    Calls Tryz.prog 32 #[.pointer (some ⟨t.E, 0, none⟩), sbV b] w fun e w' => e = .returned (.int .i64 (D.stE b)) ∧ EngAt w' h t (X.set D b) ∧ DevAt w' h (D.stD b) ∧ Chg (fun k => h.foot k ∨ k = t.E) w w' := by
  have HDN := fun W => Lib.hid (fun hc : Chg No w W => edone_calls (hd.chgNo hc) (he.chgNo hc) hoff)
  have HST := fun W => Lib.hid (fun hc : Chg No w W => store_calls ((show DevN w.heap.size w h D from hd).chgNo hc).at_ hoff hn b hb hq)
  rw [show decide (X.losses ≠ D.losses) = false from decide_eq_false (by simp [hls])] at HDN
  have c0 := he.box.cell 0
  simp [engBox] at c0
  have xlt := he.box.lt
  have HE := Lib.hid he
  have HD := Lib.hid hd
  have HB := Lib.hid hb
  have HQ := Lib.hid hq
  obtain ⟨b0, b1, b2, b3, b4, b5, b6⟩ := b
  simp only [sbV_eq] at HST ⊢
  obtain ⟨e0, he0⟩ : ∃ e0, e0 = D.stE ⟨b0, b1, b2, b3, b4, b5, b6⟩ := ⟨_, rfl⟩
  obtain ⟨y, hy⟩ : ∃ y, y = D.stR ⟨b0, b1, b2, b3, b4, b5, b6⟩ := ⟨_, rfl⟩
  obtain ⟨D2, hD2⟩ : ∃ D2, D2 = D.stD ⟨b0, b1, b2, b3, b4, b5, b6⟩ := ⟨_, rfl⟩
  obtain ⟨X2, hX2⟩ : ∃ X2, X2 = X.set D ⟨b0, b1, b2, b3, b4, b5, b6⟩ := ⟨_, rfl⟩
  have HZ1 : Hid (e0 = 0 → X2 = { X with blk := y }) := by
    show e0 = 0 → _
    intro hz
    rw [hX2]; unfold Eng.set; rw [← he0, ← hy, if_pos hz]
  have HZ2 : Hid (e0 ≠ 0 → X2 = X) := by
    show e0 ≠ 0 → _
    intro hz
    rw [hX2]; unfold Eng.set; rw [← he0, if_neg hz]
  rw [← hX2]
  rw [← he0, ← hy, ← hD2] at HST
  rw [← he0, ← hD2]
  clear hd he hoff hn hb hq hls hX2
  have HYO : Hid y.Ok := by show y.Ok; rw [hy]; exact stR_ok HB.out HQ.out
  clear he0 hy hD2 HB HQ
  go_enter Tryz.func32, Tryz.ntmps32
  go_wp2_with fail
  refine ((HDN _).out (by (repeat (first | (with_reducible exact Chg.refl _ _) | (with_reducible assumption) | (with_reducible refine Chg.drewN ?_ _) | (with_reducible refine Chg.drew ?_) | (with_reducible refine Chg.alloc ?_ _) | (with_reducible refine Chg.setCell ?_ (by first | (left; simp [DevH.foot]; done) | (right; simp; done) | (right; simp; omega)) _))))).mono ?_
  rintro e w1 ⟨rfl, n1, hw1⟩
  have HX := Lib.hid (show Blk w1 w.heap.size tSb #[.int .u64 b0, .int .u64 b1, .int .u64 b2, .int .u64 b3, .int .u64 b4, .bool b5, .int .i64 b6] by rw [hw1]; exact (Blk.new w _ _).drewN n1)
  have HC1 : Hid (Chg No w w1) := by show Chg No w w1; rw [hw1]; exact ((Chg.refl No w).alloc _).drewN n1
  have x0 := HX.out.cell 0
  have x1 := HX.out.cell 1
  have x2 := HX.out.cell 2
  have x3 := HX.out.cell 3
  have x4 := HX.out.cell 4
  have x5 := HX.out.cell 5
  have x6 := HX.out.cell 6
  simp at x0 x1 x2 x3 x4 x5 x6
  have c0 := HC1.out.cellNo c0
  have xl1 := HX.out.lt
  clear hw1
  have xne : ¬ w.heap.size = t.E := by omega
  have xne2 : ¬ t.E = w.heap.size := by omega
  have xne3 : (t.E == w.heap.size) = false := by simp; omega
  have xne4 : (w.heap.size == t.E) = false := by simp; omega
  go_wp2_with fail
  go_region_with
    ((go_at_call 61
      refine ((HST _).out (by first | exact HC1.out | exact HC1.out.drew)).mono ?_
      rintro e w2 ⟨rfl, hd2, hc2⟩
      have HE2 := Lib.hid ((HE.out.chgNo HC1.out.drew).foot ((show DevN w.heap.size w h D from HD.out).chgNo HC1.out.drew) hc2)
      have HX2 := Lib.hid (HX.out.drew.chg hc2 (fun hf => by have := foot_size HD.out hf; omega))
      have HD2 := Lib.hid hd2
      have HC2 := Lib.hid (HC1.out.drew.mono (fun _ _ h => h.elim) |>.trans hc2)
      have k0 := HE2.out.box.cell 0
      simp [engBox] at k0
      have y0 := HX2.out.cell 0
      have y1 := HX2.out.cell 1
      have y2 := HX2.out.cell 2
      have y3 := HX2.out.cell 3
      have y4 := HX2.out.cell 4
      have y5 := HX2.out.cell 5
      have y6 := HX2.out.cell 6
      have f0 := HX2.out.frozen 0
      have f1 := HX2.out.frozen 1
      have f2 := HX2.out.frozen 2
      have f3 := HX2.out.frozen 3
      have f4 := HX2.out.frozen 4
      have f5 := HX2.out.frozen 5
      have f6 := HX2.out.frozen 6
      simp at y0 y1 y2 y3 y4 y5 y6
      clear hd2 hc2))
  all_goals
    obtain ⟨w3, hw3⟩ : ∃ w3, w3 = set7 w2 w.heap.size (.int .u64 y.seq) (.int .u64 y.epoch) (.int .u64 y.reserved) (.int .u64 y.horizon) (.int .u64 y.gen) (.bool y.clean) (.int .i64 y.image) := ⟨_, rfl⟩
    have hst := set7_chg w2 w.heap.size (.int .u64 y.seq) (.int .u64 y.epoch) (.int .u64 y.reserved) (.int .u64 y.horizon) (.int .u64 y.gen) (.bool y.clean) (.int .i64 y.image)
    have hX3 := blk7 HX2.out (.int .u64 y.seq) (.int .u64 y.epoch) (.int .u64 y.reserved) (.int .u64 y.horizon) (.int .u64 y.gen) (.bool y.clean) (.int .i64 y.image)
    rw [← hw3] at hst
    have HX3 : Hid (Blk w3 w.heap.size tSb #[.int .u64 y.seq, .int .u64 y.epoch, .int .u64 y.reserved, .int .u64 y.horizon, .int .u64 y.gen, .bool y.clean, .int .i64 y.image]) := by show Blk _ _ _ _; rw [hw3]; exact hX3
    have HE3 := Lib.hid (HE2.out.other HX2.out (by decide) (by decide) (by decide) (by decide) (by decide) (by decide) (fun ho => by have := HE.out.lg.lt _ ho; omega) hst)
    have HD3 : Hid (DevAt w3 h D2) := (dev_one (show DevN w2.heap.size w2 h D2 from HD2.out) HX2.out hst (by decide) (by decide) (by decide) (by decide)).at_
    have HC3 : Hid (Chg (fun k => h.foot k ∨ k = t.E) w w3) := (HC2.out.then hst (fun i hi h => by omega)).mono (fun k _ hk => .inl hk)
    change Exit.then _ _ _ _ (set7 w2 w.heap.size _ _ _ _ _ _ _)
    rw [← hw3]
    clear hw3 hst hX3 y0 y1 y2 y3 y4 y5 y6 f0 f1 f2 f3 f4 f5 f6 k0 x0 x1 x2 x3 x4 x5 x6 HX HC1 HX2 HE2 HD2 HC2
    have x0 := HX3.out.cell 0
    have x1 := HX3.out.cell 1
    have x2 := HX3.out.cell 2
    have x3 := HX3.out.cell 3
    have x4 := HX3.out.cell 4
    have x5 := HX3.out.cell 5
    have x6 := HX3.out.cell 6
    simp at x0 x1 x2 x3 x4 x5 x6
    have e2 := HE3.out.box.cell 2
    have e3 := HE3.out.box.cell 3
    have e4 := HE3.out.box.cell 4
    have e5 := HE3.out.box.cell 5
    have e6 := HE3.out.box.cell 6
    have e7 := HE3.out.box.cell 7
    have e8 := HE3.out.box.cell 8
    have f2 := HE3.out.box.frozen 2
    have f3 := HE3.out.box.frozen 3
    have f4 := HE3.out.box.frozen 4
    have f5 := HE3.out.box.frozen 5
    have f6 := HE3.out.box.frozen 6
    have f7 := HE3.out.box.frozen 7
    have f8 := HE3.out.box.frozen 8
    simp [engBox] at e2 e3 e4 e5 e6 e7 e8
    by_cases hz : e0 = 0
    · have HZ := Lib.hid (HZ1.out hz)
      clear HZ1 HZ2
      subst hz
      go_wp2_with fail
      go_ret
      have hs := HE3.out.setBlk y HYO.out
      refine ⟨rfl, by rw [HZ.out]; exact hs.1, (HE3.out.dev_ (show DevN w3.heap.size w3 h D2 from HD3.out) hs.2).at_, HC3.out.then hs.2 (fun i hi h => .inr h)⟩
    · have HZ := Lib.hid (HZ2.out hz)
      clear HZ1 HZ2
      have hzb : (e0 == 0) = false := by simp [hz]
      go_wp2_with fail
      go_ret
      refine ⟨rfl, by rw [HZ.out]; exact HE3.out, HD3.out, HC3.out⟩
end
end Go.Proofs.YtplpbbdakihnfaaGreat
end

/- The engine's Version and Wipe, walked. -/
section
namespace Go.Proofs.YtplpbbdakihnfaaGreat
open Go.RowKit
open Go.ChangeMaps (setBlock)
attribute [local go_sem ↓] Go.wp_at_zero Go.wp_at_succ
set_option linter.unusedSimpArgs false
set_option linter.unusedVariables false

namespace Eng
def vB (X : Eng) : Sb := { X.blk with reserved := X.blk.reserved + 64 }
/-- the next version: the error, the engine, the device -/
def verE (X : Eng) (D : Dev) : Int := if X.last = X.blk.reserved then D.stE X.vB else 0
def verD (X : Eng) (D : Dev) : Dev := if X.last = X.blk.reserved then D.stD X.vB else D
def verX (X : Eng) (D : Dev) : Eng :=
  let Y := if X.last = X.blk.reserved then X.set D X.vB else X
  if X.verE D = 0 then { Y with last := X.last + 1 } else Y
def verV (X : Eng) (D : Dev) : Nat := if X.verE D = 0 then X.last + 1 else 0
end Eng
section
variable {N : Nat} {S : Nat → Prop} {w w' : World} {h : DevH} {t : EngH} {X : Eng} {D : Dev}
theorem EngAt.setLast (he : EngAt w h t X) (n : Nat) (hn : n < 18446744073709551616) : EngAt (w.setCell ⟨t.E, 9, none⟩ (.int .u64 n)) h t { X with last := n } ∧ Chg (fun k => k = t.E) w (w.setCell ⟨t.E, 9, none⟩ (.int .u64 n)) := by
  have hc : Chg (fun k => k = t.E) w (w.setCell ⟨t.E, 9, none⟩ (.int .u64 n)) := chg_setCell w ⟨t.E, 9, none⟩ _
  refine ⟨he.boxed hc ?_ rfl rfl rfl he.blk hn, hc⟩
  have := he.box.set_ 9 (.int .u64 n)
  simpa [engBox] using this
theorem set_last (X : Eng) (D : Dev) (b : Sb) : (X.set D b).last = X.last := by unfold Eng.set; split <;> rfl
set_option maxRecDepth 100000 in
set_option maxHeartbeats 4000000 in
theorem ever_calls (hd : DevAt w h D) (he : EngAt w h t X) (hoff : D.off = false) (hn : 2 ≤ D.n) (hq : D.sload.seq + 1 < 18446744073709551616) (hls : X.losses = D.losses) (hla : X.last < 18446744073709551615) (hre : X.blk.reserved + 64 < 18446744073709551616) :
    Calls Tryz.prog 20 #[.pointer (some ⟨t.E, 0, none⟩)] w fun e w' => e = .returned (.tuple #[.int .u64 (X.verV D), .int .i64 (X.verE D)]) ∧ EngAt w' h t (X.verX D) ∧ DevAt w' h (X.verD D) ∧ Chg (fun k => h.foot k ∨ k = t.E) w w' := by
  have HE := Lib.hid he
  have HD := Lib.hid hd
  have HB := Lib.hid he.box
  have hbo := he.blk
  have hvo : X.vB.Ok := ⟨hbo.seq, hbo.epoch, hre, hbo.horizon, hbo.gen, hbo.image⟩
  have HST := fun W => Lib.hid (fun (hd : DevAt W h D) (he : EngAt W h t X) => eset_calls hd he hoff hn X.vB hvo hq hls)
  have mx : ((X.last : Int) == 18446744073709551615) = false := by simp; omega
  have lw : IntKind.u64.wrap ((X.last : Int) + 1) = (X.last : Int) + 1 := IntWalk.u64_in _ (by omega)
  clear hd he hoff hn hq hls hbo
  by_cases hr : X.last = X.blk.reserved
  rotate_left
  · have hE : X.verE D = 0 := by unfold Eng.verE; rw [if_neg hr]
    have hV : X.verV D = X.last + 1 := by unfold Eng.verV; rw [if_pos hE]
    have hX : X.verX D = { X with last := X.last + 1 } := by unfold Eng.verX; simp only; rw [if_pos hE, if_neg hr]
    have hD : X.verD D = D := by unfold Eng.verD; rw [if_neg hr]
    rw [hE, hV, hX, hD]
    clear hE hV hX hD HST
    have ne : ((X.last : Int) == (X.blk.reserved : Int)) = false := by simp; omega
    have e2 := HB.out.cell 2
    have e3 := HB.out.cell 3
    have e4 := HB.out.cell 4
    have e5 := HB.out.cell 5
    have e6 := HB.out.cell 6
    have e7 := HB.out.cell 7
    have e8 := HB.out.cell 8
    have e9 := HB.out.cell 9
    have e10 := HB.out.cell 10
    have f9 := HB.out.frozen 9
    simp [engBox] at e2 e3 e4 e5 e6 e7 e8 e9 e10
    have xlt := HB.out.lt
    go_enter Tryz.func20, Tryz.ntmps20
    go_wp2_with fail
    go_quiet (fail)
    go_wp2_with fail
    refine bodyPost_ret (v := .tuple #[.int .u64 ((X.last : Int) + 1), .int .i64 0]) (by simp [results, Tryz.results20, go_sem]) rfl ?_
    have hc : Chg No w (w.drewN nq) := (Chg.refl No w).drewN nq
    have hs := (HE.out.chgNo hc).setLast (X.last + 1) (by omega)
    have el : (((X.last + 1 : Nat)) : Int) = (X.last : Int) + 1 := by omega
    rw [el] at hs
    refine ⟨by rw [el], hs.1, ((HE.out.chgNo hc).dev_ ((show DevN w.heap.size w h D from HD.out).chgNo hc) hs.2).at_, (hc.mono (fun _ _ h => h.elim)).then hs.2 (fun k _ hk => .inr hk)⟩
  have hE : X.verE D = D.stE X.vB := by unfold Eng.verE; rw [if_pos hr]
  have hD : X.verD D = D.stD X.vB := by unfold Eng.verD; rw [if_pos hr]
  have HX1 : Hid (D.stE X.vB = 0 → X.verX D = { X.set D X.vB with last := X.last + 1 } ∧ X.verV D = X.last + 1) := fun hz => by
    unfold Eng.verX Eng.verV
    simp only
    rw [hE, if_pos hz, if_pos hz, if_pos hr]
    exact ⟨rfl, rfl⟩
  have HX2 : Hid (D.stE X.vB ≠ 0 → X.verX D = X.set D X.vB ∧ X.verV D = 0) := fun hz => by
    unfold Eng.verX Eng.verV
    simp only
    rw [hE, if_neg hz, if_neg hz, if_pos hr]
    exact ⟨rfl, rfl⟩
  rw [hE, hD]
  clear hE hD
  obtain ⟨XV, hXV⟩ : ∃ XV, XV = X.verX D := ⟨_, rfl⟩
  obtain ⟨vv, hvv⟩ : ∃ vv, vv = X.verV D := ⟨_, rfl⟩
  obtain ⟨e0, he0⟩ : ∃ e0, e0 = D.stE X.vB := ⟨_, rfl⟩
  obtain ⟨D2, hD2⟩ : ∃ D2, D2 = D.stD X.vB := ⟨_, rfl⟩
  obtain ⟨X2, hX2⟩ : ∃ X2, X2 = X.set D X.vB := ⟨_, rfl⟩
  have HL2 : Hid (X2.last = X.last) := by show X2.last = _; rw [hX2]; exact set_last _ _ _
  rw [← hXV, ← hvv, ← he0, ← hX2] at HX1
  rw [← hXV, ← hvv, ← he0] at HX2
  rw [← hX2] at HX2
  rw [← hXV, ← hvv, ← he0, ← hD2]
  rw [← he0, ← hX2, ← hD2] at HST
  have hvb : sbV X.vB = .agg #[.int .u64 X.blk.seq, .int .u64 X.blk.epoch, .int .u64 ((X.blk.reserved : Int) + 64), .int .u64 X.blk.horizon, .int .u64 X.blk.gen, .bool X.blk.clean, .int .i64 X.blk.image] := by
    rw [sbV_eq, show ((X.vB.reserved : Nat) : Int) = (X.blk.reserved : Int) + 64 from by show (((X.blk.reserved + 64 : Nat)) : Int) = _; omega]
    rfl
  simp only [hvb] at HST
  have hvlo : ((0 : Int) == 0) = true := rfl
  clear hXV hvv he0 hD2 hX2 hvb
  have eq1 : ((X.last : Int) == (X.blk.reserved : Int)) = true := by simp; omega
  have rl : X.blk.reserved < 18446744073709551616 := by omega
  have rs : IntKind.u64.wrap (18446744073709551615 - (X.blk.reserved : Int)) = 18446744073709551615 - (X.blk.reserved : Int) := IntWalk.u64_in _ (by omega)
  have ra : IntKind.u64.wrap ((X.blk.reserved : Int) + 64) = (X.blk.reserved : Int) + 64 := IntWalk.u64_in _ (by omega)
  have rm : (64 : Int) ≤ 18446744073709551615 - (X.blk.reserved : Int) := by omega
  have rm2 : ¬ 18446744073709551615 - (X.blk.reserved : Int) < 64 := by omega
  have e2 := HB.out.cell 2
  have e3 := HB.out.cell 3
  have e4 := HB.out.cell 4
  have e5 := HB.out.cell 5
  have e6 := HB.out.cell 6
  have e7 := HB.out.cell 7
  have e8 := HB.out.cell 8
  have e9 := HB.out.cell 9
  have e10 := HB.out.cell 10
  have f9 := HB.out.frozen 9
  simp [engBox] at e2 e3 e4 e5 e6 e7 e8 e9 e10
  have xlt := HB.out.lt
  go_enter Tryz.func20, Tryz.ntmps20
  go_wp2_with fail
  go_quiet (fail)
  have hcy : Chg No w (w.drewN nq) := (Chg.refl No w).drewN nq
  obtain ⟨wy, hwy⟩ : ∃ wy, wy = w.drewN nq := ⟨_, rfl⟩
  rw [← hwy] at hcy ⊢
  have HCY := Lib.hid hcy
  have HEY := Lib.hid (HE.out.chgNo hcy)
  have HDY : Hid (DevAt wy h D) := ((show DevN w.heap.size w h D from HD.out).chgNo hcy).at_
  have HBY := Lib.hid HEY.out.box
  clear hwy hcy HB HE HD e2 e3 e4 e5 e6 e7 e8 e9 e10 f9 xlt
  have e2 := HBY.out.cell 2
  have e3 := HBY.out.cell 3
  have e4 := HBY.out.cell 4
  have e5 := HBY.out.cell 5
  have e6 := HBY.out.cell 6
  have e7 := HBY.out.cell 7
  have e8 := HBY.out.cell 8
  have e9 := HBY.out.cell 9
  have e10 := HBY.out.cell 10
  have f9 := HBY.out.frozen 9
  simp [engBox] at e2 e3 e4 e5 e6 e7 e8 e9 e10
  have xlt := HBY.out.lt
  have HZ := Lib.hid (Blk.new wy tSb #[.int .u64 0, .int .u64 0, .int .u64 0, .int .u64 0, .int .u64 0, .bool false, .int .i64 0])
  have z0 := HZ.out.cell 0
  have z1 := HZ.out.cell 1
  have z2 := HZ.out.cell 2
  have z3 := HZ.out.cell 3
  have z4 := HZ.out.cell 4
  have z5 := HZ.out.cell 5
  have z6 := HZ.out.cell 6
  have g0 := HZ.out.frozen 0
  have g1 := HZ.out.frozen 1
  have g2 := HZ.out.frozen 2
  have g3 := HZ.out.frozen 3
  have g4 := HZ.out.frozen 4
  have g5 := HZ.out.frozen 5
  have g6 := HZ.out.frozen 6
  simp only [List.getElem?_toArray, List.getElem?_cons_zero, List.getElem?_cons_succ] at z0 z1 z2 z3 z4 z5 z6
  go_wp2_with fail
  have ha : Chg No wy (wy.alloc (.cells #[.int .u64 X.blk.seq, .int .u64 X.blk.epoch, .int .u64 ((X.blk.reserved : Int) + 64), .int .u64 X.blk.horizon, .int .u64 X.blk.gen, .bool X.blk.clean, .int .i64 X.blk.image] tSb)) := (Chg.refl No wy).alloc _
  refine ((HST _).out ((show DevN wy.heap.size wy h D from HDY.out).chgNo ha).at_ (HEY.out.chgNo ha)).mono ?_
  rintro e w2 ⟨rfl, he2, hd2, hc2⟩
  have HE2 := Lib.hid he2
  have HD2 := Lib.hid hd2
  have HC2 : Hid (Chg (fun k => h.foot k ∨ k = t.E) w w2) := ((HCY.out.trans ha).mono (fun _ _ h => h.elim)).trans hc2
  have d9 := he2.box.cell 9
  have d9f := he2.box.frozen 9
  simp [engBox] at d9
  rw [HL2.out] at d9
  clear he2 hd2 hc2 ha e2 e3 e4 e5 e6 e7 e8 e9 e10 f9 HZ z0 z1 z2 z3 z4 z5 z6 g0 g1 g2 g3 g4 g5 g6
  by_cases hz : e0 = 0
  · have HZ := Lib.hid (HX1.out hz)
    clear HX1 HX2
    subst hz
    go_wp2_with fail
    refine bodyPost_ret (v := .tuple #[.int .u64 ((X.blk.reserved : Int) + 1), .int .i64 0]) (by simp [results, Tryz.results20, go_sem]) rfl ?_
    have hs := HE2.out.setLast (X.last + 1) (by omega)
    have el : (((X.last + 1 : Nat)) : Int) = (X.blk.reserved : Int) + 1 := by omega
    rw [el] at hs
    rw [HZ.out.1, HZ.out.2]
    refine ⟨by rw [el], hs.1, (HE2.out.dev_ (show DevN w2.heap.size w2 h D2 from HD2.out) hs.2).at_, HC2.out.then hs.2 (fun k _ hk => .inr hk)⟩
  · have HZ := Lib.hid (HX2.out hz)
    clear HX1 HX2
    have hzb : (e0 == 0) = false := by simp [hz]
    have hzn : (e0 != 0) = true := by simp [hz]
    go_wp2_with fail
    refine bodyPost_ret (v := .tuple #[.int .u64 0, .int .i64 e0]) (by simp [results, Tryz.results20, go_sem]) rfl ?_
    rw [HZ.out.1, HZ.out.2]
    exact ⟨rfl, HE2.out, HD2.out, HC2.out⟩
end
end Go.Proofs.YtplpbbdakihnfaaGreat
end
