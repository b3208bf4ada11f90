/- Packed texts: EngRs, EngX, EngKn, OpenI, EngRi. -/
import Derived.Test.YtplpbbdakihnfaaGreatPq28
import Derived.Test.YtplpbbdakihnfaaGreatPq20
import Derived.Test.YtplpbbdakihnfaaGreatPq24
import Derived.Shelf.SlSortCmp.QuietGrown
import Derived.Test.YtplpbbdakihnfaaGreatPq07
import Derived.Test.YtplpbbdakihnfaaGreatPq29
import Derived.ChangeMaps5
set_option linter.unusedSimpArgs false
set_option linter.unusedVariables false
section
namespace Go.Proofs.YtplpbbdakihnfaaGreat
open Go.RowKit
def Pg.bad (p : Pg) : Prop := sbPick none p.data p.err = none
def sbTwo (p0 p1 : Pg) : Sb := (sbPick (sbPick none p0.data p0.err) p1.data p1.err).getD Sb.zero
theorem reads_off {D : Dev} (h : D.off = false) {i : Nat} (hi : i < D.n) : D.read (i : Int) = (D.page i).data ∧ D.readE (i : Int) = (D.page i).err := by
  have hh : D.has (i : Int) = true := by simp [Dev.has]; omega
  unfold Dev.read Dev.readE
  rw [hh, h, Int.toNat_natCast]
  exact ⟨rfl, rfl⟩
theorem sload_pg {D : Dev} (h : D.off = false) (hn : 2 ≤ D.n) : D.sload = sbTwo (D.page 0) (D.page 1) := by
  rw [Dev.sload_eq]
  have r0 := reads_off h (i := 0) (by omega)
  have r1 := reads_off h (i := 1) (by omega)
  rw [r0.1, r0.2, r1.1, r1.2]
  rfl
theorem torn_pick (b : Option Sb) : sbPick b Pg.torn.data Pg.torn.err = b := sbP_none (.inl dec_nil)
theorem torn_bad : Pg.torn.bad := torn_pick none
structure SlotS (D : Dev) (S : Sb) : Prop where
  sl : D.sload = S
  at_ : ((D.page 0).bad ∧ (D.page 1).bad ∧ S = Sb.zero) ∨ ∃ b, D.page (S.seq % 2) = .full b ∧ Sb.dec b = some S
structure Bnd (S : Sb) (c : Nat) : Prop where
  ok : S.Ok
  few : c ≤ 100000
  seq : S.seq ≤ c
  epoch : S.epoch ≤ c
  res : S.reserved ≤ 64 * c
theorem Bnd.more {S : Sb} {c c' : Nat} (h : Bnd S c) (hc : c ≤ c') (hf : c' ≤ 100000) : Bnd S c' := ⟨h.ok, hf, Nat.le_trans h.seq hc, Nat.le_trans h.epoch hc, Nat.le_trans h.res (Nat.mul_le_mul_left _ hc)⟩
section
variable {D E : Dev} {S : Sb} {c : Nat}
theorem SlotS.same (h : SlotS D S) (hoff : D.off = false) (hn : 2 ≤ D.n) (eoff : E.off = false) (en : E.n = D.n) (h0 : E.page 0 = D.page 0) (h1 : E.page 1 = D.page 1) : SlotS E S := by
  refine ⟨by rw [sload_pg eoff (by omega), h0, h1, ← sload_pg hoff hn]; exact h.sl, ?_⟩
  rcases h.at_ with ⟨q1, q2, q3⟩ | ⟨b, q1, q2⟩
  · exact .inl ⟨by rw [h0]; exact q1, by rw [h1]; exact q2, q3⟩
  · refine .inr ⟨b, ?_, q2⟩
    rw [← q1]
    rcases (by omega : S.seq % 2 = 0 ∨ S.seq % 2 = 1) with e | e
    · rw [e]; exact h0
    · rw [e]; exact h1
theorem SlotS.torn (h : SlotS D S) (hoff : D.off = false) (hn : 2 ≤ D.n) (eoff : E.off = false) (en : E.n = D.n) {k : Nat} (hk : k = (S.seq + 1) % 2) (ht : E.page k = .torn) (ho : ∀ i, i < 2 → i ≠ k → E.page i = D.page i) : SlotS E S := by
  have hs := h.sl
  rw [sload_pg hoff hn] at hs
  rcases (by omega : k = 0 ∧ S.seq % 2 = 1 ∨ k = 1 ∧ S.seq % 2 = 0) with ⟨e1, e2⟩ | ⟨e1, e2⟩
  · subst e1
    have o1 := ho 1 (by omega) (by omega)
    rcases h.at_ with ⟨q1, q2, q3⟩ | ⟨b, q1, q2⟩
    · refine ⟨?_, .inl ⟨by rw [ht]; exact torn_bad, by rw [o1]; exact q2, q3⟩⟩
      rw [sload_pg eoff (by omega), ht, o1]
      unfold sbTwo
      rw [torn_pick]
      have q2' : sbPick none (D.page 1).data (D.page 1).err = none := q2
      rw [q2', q3]; rfl
    · rw [e2] at q1
      refine ⟨?_, .inr ⟨b, by rw [e2, o1]; exact q1, q2⟩⟩
      rw [sload_pg eoff (by omega), ht, o1, q1]
      unfold sbTwo
      rw [torn_pick]
      show (sbPick none b 0).getD Sb.zero = S
      rw [sbP_some q2]; rfl
  · subst e1
    have o0 := ho 0 (by omega) (by omega)
    rcases h.at_ with ⟨q1, q2, q3⟩ | ⟨b, q1, q2⟩
    · refine ⟨?_, .inl ⟨by rw [o0]; exact q1, by rw [ht]; exact torn_bad, q3⟩⟩
      rw [sload_pg eoff (by omega), ht, o0]
      unfold sbTwo
      rw [torn_pick]
      have q1' : sbPick none (D.page 0).data (D.page 0).err = none := q1
      rw [q1', q3]; rfl
    · rw [e2] at q1
      refine ⟨?_, .inr ⟨b, by rw [e2, o0]; exact q1, q2⟩⟩
      rw [sload_pg eoff (by omega), ht, o0, q1]
      unfold sbTwo
      rw [torn_pick]
      show (sbPick none b 0).getD Sb.zero = S
      rw [sbP_some q2]; rfl
theorem SlotS.newer (h : SlotS D S) (hoff : D.off = false) (hn : 2 ≤ D.n) (eoff : E.off = false) (en : E.n = D.n) {k : Nat} {nb : Sb} (hq : nb.seq = S.seq + 1) (hk : k = (S.seq + 1) % 2) {b : List UInt8} (ht : E.page k = .full b) (hb : Sb.dec b = some nb) (ho : ∀ i, i < 2 → i ≠ k → E.page i = D.page i) : SlotS E nb := by
  have hs := h.sl
  rw [sload_pg hoff hn] at hs
  have two := sload_two (S := S) (hs.symm) (nb := nb) (by omega) hb
  refine ⟨?_, .inr ⟨b, by rw [hq, ← hk]; exact ht, hb⟩⟩
  rw [sload_pg eoff (by omega)]
  rcases (by omega : k = 0 ∨ k = 1) with e | e
  · subst e
    rw [ht, ho 1 (by omega) (by omega)]
    exact two.1
  · subst e
    rw [ht, ho 0 (by omega) (by omega)]
    exact two.2
theorem spend_facts (hoff : D.off = false) : (D.spent = true ∧ D.spend.off = false ∧ D.spend.losses = D.losses ∨ D.spent = false) ∧ D.spend.fl = D.fl ∧ D.spend.wt = D.wt ∧ D.spend.n = D.n := by
  unfold Dev.spent Dev.spend
  rw [hoff]
  simp only [Bool.not_false, Bool.true_and, Bool.false_eq_true, if_false]
  by_cases h1 : D.armed = 1
  · rw [if_pos h1]
    exact ⟨.inr (by simp [h1]), rfl, rfl, rfl⟩
  · rw [if_neg h1]
    have hb : (!(D.armed == 1)) = true := by simp [h1]
    split
    · exact ⟨.inl ⟨hb, (by first | rfl | exact hoff), rfl⟩, rfl, rfl, rfl⟩
    · exact ⟨.inl ⟨hb, (by first | rfl | exact hoff), rfl⟩, rfl, rfl, rfl⟩
theorem SlotS.rise (h : SlotS D S) (hoff : D.off = false) (hn : 2 ≤ D.n) (hw : ∀ i, D.wt i = none) (hb : Bnd S c) (hc : c + 1 ≤ 100000) (b : Sb) (hbo : b.Ok) (h1 : b.epoch ≤ c + 1) (h2 : b.reserved ≤ 64 * (c + 1)) (h3 : S.reserved ≤ b.reserved) :
    (D.stE b = 0 ∧ (D.stD b).off = false ∧ (D.stD b).losses = D.losses ∧ (D.stD b).n = D.n ∧ (∀ i, (D.stD b).wt i = none) ∧ SlotS (D.stD b) (D.stR b) ∧ Bnd (D.stR b) (c + 1) ∧ D.stR b = (D.stB b).norm) ∨
    (D.stE b ≠ 0 ∧ (D.stD b).n = D.n ∧ ∀ picks, ∃ S', SlotS ((D.stD b).back picks) S' ∧ Bnd S' (c + 1) ∧ S.reserved ≤ S'.reserved) := by
  have hsq : D.sload.seq + 1 < 18446744073709551616 := by rw [h.sl]; have := hb.seq; omega
  have hs : (D.stB b).seq = S.seq + 1 := by show D.sload.seq + 1 = _; rw [h.sl]
  have hBo : (D.stB b).Ok := ⟨hsq, hbo.epoch, hbo.reserved, hbo.horizon, hbo.gen, hbo.image⟩
  have hpad : Sb.dec (Dev.pad (D.stB b).enc) = some (D.stB b).norm := Sb.dec_enc _ hBo _
  have hbn : Bnd (D.stB b).norm (c + 1) := ⟨Sb.norm_ok hBo, hc, by show (D.stB b).seq ≤ _; rw [hs]; have := hb.seq; omega, h1, h2⟩
  obtain ⟨k, hk⟩ : ∃ k, k = (D.stB b).seq % 2 := ⟨_, rfl⟩
  have hk2 : k < 2 := by omega
  have hW : D.stW b = D.change k (.full (Dev.pad (D.stB b).enc)) := by
    have hh : D.has (k : Int) = true := by simp [Dev.has]; omega
    unfold Dev.stW Dev.write
    rw [← hk, hh, decide_eq_true (by rw [Sb.enc_len]; omega), Int.toNat_natCast]
    rfl
  obtain ⟨s1, s2, s3, s4⟩ := spend_facts hoff
  have hfl : ∀ i, D.fl i = D.page i := fun i => Dev.On.fl_page (hw i)
  rcases s1 with ⟨p1, p2, p3⟩ | p1
  · have hc0 : D.changeE = 0 := by unfold Dev.changeE; rw [p1]; rfl
    have hW2 : D.stW b = D.spend.put k (.full (Dev.pad (D.stB b).enc)) := by rw [hW]; unfold Dev.change; rw [p1]; rfl
    have hD : D.stD b = (D.stW b).flush := by unfold Dev.stD; rw [if_pos hc0]
    have hE : D.stE b = (D.stW b).changeE := by unfold Dev.stE; rw [if_pos hc0]
    have woff : (D.stW b).off = false := by rw [hW2]; exact p2
    have wn : (D.stW b).n = D.n := by rw [hW2]; exact s4
    have wwt : ∀ i, (D.stW b).wt i = if i = k then some (.full (Dev.pad (D.stB b).enc)) else none := fun i => by
      rw [hW2]
      show (if i = k then some (.full (Dev.pad (D.stB b).enc)) else D.spend.wt i) = _
      rw [s3, hw]
    have wfl : ∀ i, (D.stW b).fl i = D.page i := fun i => by
      rw [hW2]
      show D.spend.fl i = _
      rw [s2, hfl]
    obtain ⟨t1, t2, t3, t4⟩ := spend_facts woff
    rcases t1 with ⟨r1, r2, r3⟩ | r1
    · left
      have e0 : D.stE b = 0 := by rw [hE]; unfold Dev.changeE; rw [r1]; rfl
      have hR : D.stR b = (D.stB b).norm := by unfold Dev.stR; rw [if_pos e0]
      have hF : D.stD b = (D.stW b).spend.settled := by rw [hD]; unfold Dev.flush; rw [r1]; rfl
      have fp : ∀ i, (D.stD b).page i = if i = k then .full (Dev.pad (D.stB b).enc) else D.page i := fun i => by
        rw [hF]
        show (((D.stW b).spend.wt i).getD ((D.stW b).spend.fl i)) = _
        rw [t3, t2, wwt, wfl]
        by_cases hi : i = k
        · rw [if_pos hi, if_pos hi]; rfl
        · rw [if_neg hi, if_neg hi]; rfl
      have foff : (D.stD b).off = false := by rw [hF]; exact r2
      have fn : (D.stD b).n = D.n := by rw [hF]; show (D.stW b).spend.n = _; rw [t4, wn]
      refine ⟨e0, foff, ?_, fn, fun i => by rw [hF]; rfl, ?_, by rw [hR]; exact hbn, hR⟩
      · rw [hF]; show (D.stW b).spend.losses = _
        rw [r3, hW2]; exact p3
      · rw [hR]
        exact h.newer hoff hn foff fn (k := k) (nb := (D.stB b).norm) hs (by rw [hk, hs]) (by rw [fp, if_pos rfl]) hpad (fun i _ hi => by rw [fp, if_neg hi])
    · right
      have e0 : D.stE b ≠ 0 := by rw [hE]; unfold Dev.changeE; rw [r1]; decide
      have hF : D.stD b = (D.stW b).spend := by rw [hD]; unfold Dev.flush; rw [r1]; rfl
      have fn : (D.stD b).n = D.n := by rw [hF, t4, wn]
      refine ⟨e0, fn, fun picks => ?_⟩
      have bp : ∀ i, ((D.stD b).back picks).page i = match (D.stD b).wt i with | none => (D.stD b).fl i | some p => Dev.fate ((D.stD b).fl i) p picks[(D.stD b).rank i]? := fun i => rfl
      have ho : ∀ i, i < 2 → i ≠ k → ((D.stD b).back picks).page i = D.page i := fun i _ hi => by
        rw [bp, hF, t3, t2, wwt, wfl, if_neg hi]
      have hkp : ((D.stD b).back picks).page k = D.page k ∨ ((D.stD b).back picks).page k = .torn ∨ ((D.stD b).back picks).page k = .full (Dev.pad (D.stB b).enc) := by
        rw [bp, hF, t3, t2, wwt, wfl, if_pos rfl]
        exact fate_in _ _ _
      have bn : ((D.stD b).back picks).n = D.n := fn
      rcases hkp with e | e | e
      · refine ⟨S, h.same hoff hn rfl bn ?_ ?_, hb.more (Nat.le_succ c) hc, Nat.le_refl _⟩
        · by_cases h0 : 0 = k
          · rw [h0]; exact e
          · exact ho 0 (by omega) h0
        · by_cases h0 : 1 = k
          · rw [h0]; exact e
          · exact ho 1 (by omega) h0
      · exact ⟨S, h.torn hoff hn rfl bn (k := k) (by rw [hk, hs]) e ho, hb.more (Nat.le_succ c) hc, Nat.le_refl _⟩
      · exact ⟨_, h.newer hoff hn rfl bn (k := k) (nb := (D.stB b).norm) hs (by rw [hk, hs]) e hpad ho, hbn, h3⟩
  · right
    have hc0 : D.changeE = 4 := by unfold Dev.changeE; rw [p1]; rfl
    have hW2 : D.stW b = D.spend := by rw [hW]; unfold Dev.change; rw [p1]; rfl
    have hD : D.stD b = D.spend := by unfold Dev.stD; rw [if_neg (by rw [hc0]; decide), hW2]
    refine ⟨by unfold Dev.stE; rw [if_neg (by rw [hc0]; decide), hc0]; decide, by rw [hD]; exact s4, fun picks => ⟨S, ?_, hb.more (Nat.le_succ c) hc, Nat.le_refl _⟩⟩
    have bp : ∀ i, ((D.stD b).back picks).page i = D.page i := fun i => by
      have e : ((D.stD b).back picks).page i = match (D.stD b).wt i with | none => (D.stD b).fl i | some p => Dev.fate ((D.stD b).fl i) p picks[(D.stD b).rank i]? := rfl
      rw [e, hD, s3, s2, hw]
      exact hfl i
    exact h.same hoff hn rfl (by show (D.stD b).n = _; rw [hD]; exact s4) (bp 0) (bp 1)
theorem SlotS.back_ (h : SlotS D S) (hoff : D.off = false) (hn : 2 ≤ D.n) (hw : ∀ i, D.wt i = none) (picks : List UInt8) : SlotS (D.back picks) S :=
  h.same hoff hn rfl rfl (back_still D picks (hw 0)) (back_still D picks (hw 1))
end
structure RiseSt (X : Eng) (D : Dev) (c l : Nat) : Prop where
  off : D.off = false
  n : D.n = 11
  wt : ∀ i, D.wt i = none
  los : X.losses = D.losses
  slot : SlotS D X.blk
  bnd : Bnd X.blk c
  last : X.last ≤ X.blk.reserved
  l : l ≤ X.last
def RiseEnd (D : Dev) (c l : Nat) : Prop := ∀ picks, (D.back picks).n = 11 ∧ ∃ S, SlotS (D.back picks) S ∧ Bnd S c ∧ l ≤ S.reserved
section
variable {X : Eng} {D : Dev} {c l : Nat}
theorem RiseSt.end_ (h : RiseSt X D c l) : RiseEnd D c l := fun picks => ⟨h.n, _, h.slot.back_ h.off (by rw [h.n]; omega) h.wt picks, h.bnd, Nat.le_trans h.l h.last⟩
theorem RiseEnd.more {c' : Nat} (h : RiseEnd D c l) (hc : c ≤ c') (hf : c' ≤ 100000) : RiseEnd D c' l := fun picks => by
  obtain ⟨h1, S, h2, h3, h4⟩ := h picks
  exact ⟨h1, S, h2, h3.more hc hf, h4⟩
theorem RiseSt.arm (h : RiseSt X D c l) (n : Int) : RiseSt X (D.arm n) c l := ⟨h.off, h.n, h.wt, h.los, h.slot.same h.off (by rw [h.n]; omega) h.off rfl rfl rfl, h.bnd, h.last, h.l⟩
theorem RiseSt.pre (h : RiseSt X D c l) : D.off = false ∧ 2 ≤ D.n ∧ D.sload.seq + 1 < 18446744073709551616 ∧ X.losses = D.losses ∧ X.last < 18446744073709551615 ∧ X.blk.reserved + 64 < 18446744073709551616 := by
  have h1 := h.bnd.seq
  have h2 := h.bnd.few
  have h3 := h.bnd.res
  have h4 := h.last
  exact ⟨h.off, by rw [h.n]; omega, by rw [h.slot.sl]; omega, h.los, by omega, by omega⟩
theorem RiseSt.version (h : RiseSt X D c l) (hc : c + 1 ≤ 100000) : (X.verE D = 0 ∧ X.verV D = X.last + 1 ∧ RiseSt (X.verX D) (X.verD D) (c + 1) (X.last + 1)) ∨ (X.verE D ≠ 0 ∧ RiseEnd (X.verD D) (c + 1) l) := by
  have hn2 : 2 ≤ D.n := by rw [h.n]; omega
  by_cases hl : X.last = X.blk.reserved
  · have h2 := h.bnd.few
    have h3 := h.bnd.res
    have hok := h.bnd.ok
    have hb : X.vB.Ok := ⟨hok.seq, hok.epoch, by show X.blk.reserved + 64 < _; omega, hok.horizon, hok.gen, hok.image⟩
    have eE : X.verE D = D.stE X.vB := by unfold Eng.verE; rw [if_pos hl]
    have eD : X.verD D = D.stD X.vB := by unfold Eng.verD; rw [if_pos hl]
    rcases h.slot.rise h.off hn2 h.wt h.bnd hc X.vB hb (Nat.le_succ_of_le h.bnd.epoch) (by show X.blk.reserved + 64 ≤ _; omega) (by show X.blk.reserved ≤ X.blk.reserved + 64; omega) with ⟨q1, q2, q3, q4, q5, q6, q7, q8⟩ | ⟨q1, q2, q3⟩
    · left
      have e0 : X.verE D = 0 := by rw [eE]; exact q1
      have eX : X.verX D = { X.set D X.vB with last := X.last + 1 } := by unfold Eng.verX; simp only; rw [if_pos hl, if_pos e0]
      have eS : X.set D X.vB = { X with blk := D.stR X.vB } := by unfold Eng.set; rw [if_pos q1]
      refine ⟨e0, by unfold Eng.verV; rw [if_pos e0], ?_⟩
      rw [eX, eS, eD]
      refine ⟨q2, q4.trans h.n, q5, by rw [q3]; exact h.los, q6, q7, ?_, Nat.le_refl _⟩
      show X.last + 1 ≤ (D.stR X.vB).reserved
      rw [q8]
      show X.last + 1 ≤ X.blk.reserved + 64
      omega
    · right
      refine ⟨by rw [eE]; exact q1, fun picks => ?_⟩
      obtain ⟨S', k1, k2, k3⟩ := q3 picks
      rw [eD]
      exact ⟨q2.trans h.n, S', k1, k2, Nat.le_trans h.l (Nat.le_trans h.last k3)⟩
  · left
    have e0 : X.verE D = 0 := by unfold Eng.verE; rw [if_neg hl]
    have eX : X.verX D = { X with last := X.last + 1 } := by unfold Eng.verX; simp only; rw [if_neg hl, if_pos e0]
    have eD : X.verD D = D := by unfold Eng.verD; rw [if_neg hl]
    refine ⟨e0, by unfold Eng.verV; rw [if_pos e0], ?_⟩
    rw [eX, eD]
    exact ⟨h.off, h.n, h.wt, h.los, h.slot, h.bnd.more (Nat.le_succ c) hc, by show X.last + 1 ≤ X.blk.reserved; have := h.last; omega, Nat.le_refl _⟩
end
structure RiseOn (D : Dev) (c l : Nat) : Prop where
  on : D.On
  n : D.n = 11
  wt : ∀ i, D.wt i = none
  S : ∃ S, SlotS D S ∧ Bnd S c ∧ l ≤ S.reserved
theorem RiseEnd.on {D : Dev} {c l : Nat} (h : RiseEnd D c l) (picks : List UInt8) : RiseOn (D.back picks) c l := by
  obtain ⟨h1, h2⟩ := h picks
  exact ⟨⟨rfl, rfl⟩, h1, fun _ => rfl, h2⟩
theorem blank_bad : Pg.blank.bad := sbP_none (.inl dec_nil)
theorem rise_new : RiseOn (Dev.new 11) 0 0 := by
  refine ⟨⟨rfl, rfl⟩, rfl, fun _ => rfl, Sb.zero, ⟨?_, .inl ⟨blank_bad, blank_bad, rfl⟩⟩, ⟨Sb.zero_ok, by decide, by decide, by decide, by decide⟩, Nat.le_refl _⟩
  rw [sload_pg (D := Dev.new 11) rfl (by show 2 ≤ 11; decide)]
  show sbTwo .blank .blank = _
  unfold sbTwo
  rw [show sbPick none Pg.blank.data Pg.blank.err = none from blank_bad, show sbPick none Pg.blank.data Pg.blank.err = none from blank_bad]
  rfl
theorem RiseOn.open_ {D : Dev} {c l : Nat} (h : RiseOn D c l) (hc : c + 1 ≤ 100000) (g : Geo) : D.off = false ∧ D.sload.seq + 1 < 18446744073709551616 ∧ D.sload.epoch + 1 < 18446744073709551616 ∧ D.stE (Eng.now D) = 0 ∧ RiseSt (Eng.opened D g) (D.stD (Eng.now D)) (c + 1) l := by
  obtain ⟨S, h1, h2, h3⟩ := h.S
  have hs := h1.sl
  have b1 := h2.seq
  have b2 := h2.epoch
  have b3 := h2.few
  have b4 := h2.res
  have hok := h2.ok
  have hsq : D.sload.seq + 1 < 18446744073709551616 := by rw [hs]; omega
  have hep : D.sload.epoch + 1 < 18446744073709551616 := by rw [hs]; omega
  have hnow : (Eng.now D).Ok := by
    unfold Eng.now
    rw [hs]
    exact ⟨hok.seq, by show S.epoch + 1 < _; omega, hok.reserved, hok.horizon, hok.gen, hok.image⟩
  have hn2 : 2 ≤ D.n := by rw [h.n]; omega
  obtain ⟨q1, _, _, _, _⟩ := sb_store h.on hn2 _ hnow hsq
  have hr : (Eng.now D).reserved = S.reserved := by unfold Eng.now; rw [hs]
  have he : (Eng.now D).epoch = S.epoch + 1 := by unfold Eng.now; rw [hs]
  refine ⟨h.on.off, hsq, hep, q1, ?_⟩
  rcases h1.rise h.on.off hn2 h.wt h2 hc (Eng.now D) hnow (by omega) (by omega) (by omega) with ⟨_, k2, k3, k4, k5, k6, k7, k8⟩ | ⟨k1, _⟩
  · have hY : Eng.opened D g = { Eng.raw D g with blk := D.stR (Eng.now D) } := by unfold Eng.opened Eng.set; rw [if_pos q1]
    rw [hY]
    have hR : (D.stR (Eng.now D)).reserved = S.reserved := by rw [k8]; exact hr
    refine ⟨k2, k4.trans h.n, k5, k3.symm, k6, k7, ?_, ?_⟩
    · show D.sload.reserved ≤ (D.stR (Eng.now D)).reserved
      rw [hR, hs]; exact Nat.le_refl _
    · show l ≤ D.sload.reserved
      rw [hs]; exact h3
  · exact absurd q1 k1
end Go.Proofs.YtplpbbdakihnfaaGreat
end

section
namespace Go.Proofs.YtplpbbdakihnfaaGreat
open Go.RowKit
attribute [local go_sem ↓] Go.wp_at_zero Go.wp_at_succ
section
variable {w w' : World} {h : DevH} {D : Dev}
end
end Go.Proofs.YtplpbbdakihnfaaGreat
end

section
namespace Go.Proofs.YtplpbbdakihnfaaGreat
open Go.RowKit
attribute [local go_sem ↓] Go.wp_at_zero Go.wp_at_succ
theorem eng_new11 (w : World) : Calls Tryz.prog 13 #[.int .i64 11] w fun e w' => ∃ h : DevH, e = .returned (.tuple #[.pointer (some ⟨h.d, 0, none⟩), .int .i64 0]) ∧ DevAt w' h (Dev.new 11) ∧ Chg No w w' ∧ ∀ k, h.foot k → w.heap.size ≤ k := new_calls 11 w (by decide) (by decide)
def zs (n : Nat) : ByteArray := ⟨(List.replicate n (0 : UInt8)).toArray⟩
end Go.Proofs.YtplpbbdakihnfaaGreat
end

section
namespace Go.Proofs.YtplpbbdakihnfaaGreat
open Go.RowKit Go.ChangeShapes Go.WideShapes
section
variable {H : Type} {enc : TypeId × Value → H} {w : World} {base : Nat} {spare : Nat → Bool} {held : Bool}
theorem int_cells1 : Tryz.prog.cellsOf 3 = 1 := by kernel_rfl
def intsV (l : List Int) : List Value := l.map (fun z => .int .i64 z)
set_option maxRecDepth 100000 in
theorem open_intsV {b0 : Nat} {v : Value} {d : DataW H} {p : List MemPlace} (hv : Value.okWide Tryz.prog w .any b0 66 v) (h : DataW.Trod enc Tryz.prog w base (fun _ => true) held 66 v d p) :
    ∃ (A : Option Addr) (n c : Nat) (l : List Int) (t : TypeId), v = .slice A n c ∧ l.length = n ∧ n ≤ c ∧ Rd w t A n (intsV l) := by
  obtain ⟨A, n, c, rfl⟩ := okWide_slice Tryz.underlying66 hv
  obtain ⟨fuel, hf⟩ := h
  rcases open_ints Tryz.underlying66 Tryz.underlying3 int_cells1 hf with ⟨hcs, _⟩ | ⟨a, len, cap, zs, hcs, _, hl, hm, hz, hx, hcell, hwz⟩
  · simp only [Value.cells, List.cons.injEq, and_true, Value.slice.injEq] at hcs
    obtain ⟨rfl, rfl, rfl⟩ := hcs
    exact ⟨none, 0, 0, [], tU8, rfl, rfl, Nat.le_refl _, Rd.nil _ _ _⟩
  · simp only [Value.cells, List.cons.injEq, and_true, Value.slice.injEq] at hcs
    obtain ⟨rfl, rfl, rfl⟩ := hcs
    simp only [if_true] at hz
    have hlen : (zs.take n).length = n := by simp; omega
    by_cases hn : n = 0
    · subst hn
      exact ⟨some a, 0, c, [], tU8, rfl, rfl, Nat.zero_le _, Rd.nil _ _ _⟩
    · obtain ⟨g, off, spot⟩ := a
      have hspot : spot = none := by
        have := hcell 0 (by omega)
        simpa [Addr.add] using World.cell?_spot this
      subst hspot
      have h00 := hcell 0 (by omega)
      obtain ⟨cur, t, fz, hg⟩ : ∃ cur t fz, w.heap[g]? = some (.cells cur t fz) := by
        unfold World.cell? at h00
        simp only [Addr.add, if_true] at h00
        split at h00
        · rename_i c t fz hh; exact ⟨c, t, fz, hh⟩
        · cases h00
      refine ⟨some ⟨g, off, none⟩, n, c, zs.take n, t, rfl, hlen, hl, ⟨by unfold intsV; rw [List.length_map, hlen], fun _ => ⟨g, off, cur, fz, rfl, hg, ?_⟩⟩⟩
      intro j u hu
      unfold intsV at hu
      have hj : j < n := by
        have := (List.getElem?_eq_some_iff.1 hu).1
        simp at this; omega
      have hjz : j < zs.length := by omega
      rw [List.getElem?_map, List.getElem?_take_of_lt hj, List.getElem?_eq_getElem hjz] at hu
      have hc := hcell j hjz
      rw [add_at, cell_of_row w g _ cur t fz hg] at hc
      rw [hc, ← hu, List.getD_eq_getElem?_getD, List.getElem?_eq_getElem hjz]
      rfl
end
end Go.Proofs.YtplpbbdakihnfaaGreat
end

section
namespace Go.Proofs.YtplpbbdakihnfaaGreat
open Go.RowKit
attribute [local go_sem ↓] Go.wp_at_zero Go.wp_at_succ
theorem bits_and_small (a : Int) (m : Nat) (hm : m < 1000) : ∃ q : Nat, bits .and .i64 a (m : Int) = (q : Int) ∧ q ≤ m := by
  refine ⟨(BitVec.ofInt 64 a &&& BitVec.ofInt 64 (m : Int)).toNat, ?_, ?_⟩
  · show IntKind.i64.wrap ((BitVec.ofInt 64 a &&& BitVec.ofInt 64 (m : Int)).toNat : Int) = _
    refine IntWalk.i64_in _ ?_
    have : (BitVec.ofInt 64 a &&& BitVec.ofInt 64 (m : Int)).toNat ≤ m := by
      rw [BitVec.toNat_and]
      refine Nat.le_trans Nat.and_le_right ?_
      rw [BitVec.ofInt_natCast, BitVec.toNat_ofNat]
      exact Nat.mod_le _ _
    omega
  · rw [BitVec.toNat_and]
    refine Nat.le_trans Nat.and_le_right ?_
    rw [BitVec.ofInt_natCast, BitVec.toNat_ofNat]
    exact Nat.mod_le _ _
def RiseW (w0 : World) (h : DevH) (c l : Nat) (wr : World) : Prop := ∃ D, DevAt wr h D ∧ RiseOn D c l ∧ Chg No w0 wr
def RiseV (w0 : World) (h : DevH) (t : EngH) (c l : Nat) (wr : World) : Prop := ∃ X D, DevAt wr h D ∧ EngAt wr h t X ∧ RiseSt X D c l ∧ Chg No w0 wr
set_option maxRecDepth 100000 in
set_option maxHeartbeats 8000000 in
theorem erises_calls (w : World) (A : Option Addr) (n cp : Nat) (l : List Int) (te : TypeId) (hn : l.length = n) (hr : Rd w te A n (intsV l))
    (A3 : Option Addr) (n3 cp3 : Nat) (picks : List UInt8) (te3 : TypeId) (hn3 : picks.length = n3) (hr3 : Rd w te3 A3 n3 (bys picks)) :
    Calls Tryz.prog 11 #[.slice A n cp, .slice A3 n3 cp3] w fun e w' => e = .returned (.bool true) ∧ Chg No w w' := by
  have HAW := Lib.hid (awake10_calls w)
  have HN1 := fun W => Lib.hid (eng_new11 W)
  have HSM := fun W => Lib.hid (small_calls W)
  have H1 := Lib.hid (And.intro hn hr)
  have H3 := Lib.hid (And.intro hn3 hr3)
  clear hn hr hn3 hr3
  by_cases hle : n ≤ 12
  rotate_left
  · have hb2 : (12 : Int) < (n : Int) := by omega
    clear hle
    go_enter Tryz.func11, Tryz.ntmps11
    go_wp2_with fail
    refine HAW.out.mono ?_
    rintro e w1 ⟨rfl, hc1⟩
    have HC1 := Lib.hid hc1
    clear hc1
    go_wp2_with fail
    go_ret
    exact ⟨rfl, HC1.out⟩
  have hb2 : ¬ (12 : Int) < (n : Int) := by omega
  go_enter Tryz.func11, Tryz.ntmps11
  go_wp2_with fail
  refine HAW.out.mono ?_
  rintro e w1 ⟨rfl, hc1⟩
  have HC1 := Lib.hid hc1
  clear hc1 HAW
  go_wp2_with fail
  refine (HN1 _).out.mono ?_
  rintro e w2 ⟨h, rfl, hd2, hc2, hf2⟩
  have HS0 : Hid (RiseW w h 0 0 w2) := ⟨_, hd2, rise_new, HC1.out.trans hc2⟩
  have HFF : Hid (∀ k, h.foot k → w.heap.size ≤ k) := fun k hk => Nat.le_trans HC1.out.size (hf2 k hk)
  clear hd2 hc2 hf2 HN1 HC1
  go_wp2_with fail
  go_loopg [7, 8] n (fun g v7 v8 wr => ∃ k LL : Nat, v8 = .int .i64 k ∧ v7 = .int .u64 LL ∧ k ≤ n ∧ n - k = g ∧ Hid (RiseW w h (200 * k) LL wr))
  case atStart => exact ⟨0, 0, rfl, rfl, by omega, by omega, HS0.out⟩
  case round =>
    obtain ⟨k, LL, rfl, rfl, hk, hg, HH⟩ := hrel
    obtain ⟨D, hd, hon, hch⟩ := HH.out
    have HD := Lib.hid hd
    have HON := Lib.hid hon
    have HCH := Lib.hid hch
    clear hd hon hch HH HS0
    by_cases hkn : k < n
    · obtain ⟨z, hz⟩ : ∃ z, l[k]? = some z := ⟨_, List.getElem?_eq_getElem (by rw [H1.out.1]; exact hkn)⟩
      obtain ⟨gy, oy, eA, hgy, hcy⟩ := H1.out.2.at_ (j := k) hkn
      have HAK := Lib.hid H1.out.2
      subst eA
      have HCY : Hid (∀ W, Chg No w W → W.cell? ⟨gy, oy + k, none⟩ = some (.int .i64 z)) := fun W hW => by
        obtain ⟨g2, o2, e2, _, hc2⟩ := (HAK.out.chg hW (fun _ _ _ _ h => h)).at_ (j := k) hkn
        injection e2 with e2
        injection e2 with e3 e4
        subst e3
        subst e4
        exact hc2 _ _ (by unfold intsV; rw [List.getElem?_map, hz]; rfl)
      clear hcy hgy hz
      obtain ⟨o1, o2, o3, o4, o5⟩ := HON.out.open_ (by omega) gSmall
      have hfit : gSmall.pages ≤ D.n := by rw [HON.out.n]; decide
      have HOP := fun W => Lib.hid (fun hd : DevAt W h D => eopen_calls hd gSmall rfl hfit o1 o2 o3 o4)
      have HST := Lib.hid o5
      clear o1 o2 o3 o4 o5 hfit
      go_wp2_with fail
      refine (HSM _).out.mono ?_
      rintro e w3 ⟨rfl, hc3⟩
      have HD3 := Lib.hid ((DevN.chgNo HD.out hc3).at_)
      have HC3 := Lib.hid (HCH.out.trans hc3)
      clear hc3 HD HCH
      go_wp2_with fail
      refine ((HOP _).out HD3.out).mono ?_
      rintro e w4 ⟨t, rfl, ⟨he4, hf4⟩, hd4, hc4⟩
      have HE4 := Lib.hid he4
      have HD4 := Lib.hid hd4
      have HC4 : Hid (Chg No w w4) := HC3.out.then hc4 (fun i hi hk => by have := HFF.out i hk; omega)
      have HTE : Hid (w.heap.size ≤ t.E) := Nat.le_trans HC3.out.size hf4.1
      clear he4 hf4 hd4 hc4 HOP HD3 HC3
      rw [sbV_eq]
      have a5 : Chg No w4 (w4.alloc (.cells #[.int .u64 D.sload.seq, .int .u64 D.sload.epoch, .int .u64 D.sload.reserved, .int .u64 D.sload.horizon, .int .u64 D.sload.gen, .bool D.sload.clean, .int .i64 D.sload.image] tSb)) := (Chg.refl No w4).alloc _
      have d5 := HCY.out _ (HC4.out.trans a5)
      obtain ⟨q1, e1, l1⟩ := bits_and_small z 1 (by decide)
      obtain ⟨q3, e3, l3⟩ := bits_and_small z 3 (by decide)
      have e1' : bits .and .i64 z 1 = (q1 : Int) := e1
      have e3' : bits .and .i64 z 3 = (q3 : Int) := e3
      obtain ⟨Q, eQ, lQ⟩ := bits_and_small (z / 4) 127 (by decide)
      have eQ' : bits .and .i64 (z / 4) 127 = (Q : Int) := eQ
      have hw3 : IntKind.i64.wrap (1 + (q3 : Int)) = 1 + (q3 : Int) := IntWalk.i64_in _ (by omega)
      have HR5 : Hid (RiseV w h t (200 * k + 1) LL (w4.alloc (.cells #[.int .u64 D.sload.seq, .int .u64 D.sload.epoch, .int .u64 D.sload.reserved, .int .u64 D.sload.horizon, .int .u64 D.sload.gen, .bool D.sload.clean, .int .i64 D.sload.image] tSb))) := ⟨_, _, ((show DevN w4.heap.size w4 h _ from HD4.out).chgNo a5).at_, HE4.out.chgNo a5, HST.out, HC4.out.trans a5⟩
      clear e1 e3 eQ a5 HD4 HE4 HC4 HST HON
      by_cases hq1 : (q1 : Int) = 1
      · have HRM : Hid (RiseV w h t (200 * k + 1) LL (w4.alloc (.cells #[.int .u64 D.sload.seq, .int .u64 D.sload.epoch, .int .u64 D.sload.reserved, .int .u64 D.sload.horizon, .int .u64 D.sload.gen, .bool D.sload.clean, .int .i64 D.sload.image] tSb))) := HR5.out
        obtain ⟨X6, D6, hd6, he6, hs6, hc6⟩ := HRM.out
        have HAR := Lib.hid (arm_calls (show DevN _ _ h D6 from hd6) (1 + (q3 : Int)) (by omega))
        have HE6 := Lib.hid he6
        have HD6 := Lib.hid hd6
        have HS6 := Lib.hid hs6
        have HC6 := Lib.hid hc6
        clear hd6 he6 hs6 hc6 HRM HR5
        go_wp2_with fail
        refine HAR.out.mono ?_
        rintro e w7 ⟨rfl, hd7, hc7⟩
        have HR7 : Hid (RiseV w h t (200 * k + 1) LL w7) := ⟨X6, _, hd7, HE6.out.foot (show DevN _ _ h D6 from HD6.out) hc7, HS6.out.arm _, HC6.out.then hc7 (fun i hi hk => by have := HFF.out i hk; omega)⟩
        have d7 := HCY.out w7 (by obtain ⟨_, _, _, _, _, h9⟩ := HR7.out; exact h9)
        clear hd7 hc7 HAR HE6 HD6 HS6 HC6 d5
        go_wp2_with fail
        go_loopg [7, 12] Q (fun g v7 v12 wr => ∃ j L2 : Nat, v12 = .int .i64 j ∧ v7 = .int .u64 L2 ∧ j ≤ Q ∧ Q - j = g ∧ Hid (RiseV w h t (200 * k + 1 + j) L2 wr))
        case atStart => exact ⟨0, LL, rfl, rfl, by omega, by omega, HR7.out⟩
        case round =>
          obtain ⟨j, L2, rfl, rfl, hj, hg2, HH⟩ := hrel
          have d8 := HCY.out wr (by obtain ⟨_, _, _, _, _, h9⟩ := HH.out; exact h9)
          obtain ⟨X8, D8, hd8, he8, hs8, hc8⟩ := HH.out
          have HD8 := Lib.hid hd8
          have HE8 := Lib.hid he8
          have HS8 := Lib.hid hs8
          have HC8 := Lib.hid hc8
          clear hd8 he8 hs8 hc8 HH
          by_cases hjq : (j : Int) < (Q : Int)
          · obtain ⟨p1, p2, p3, p4, p5, p6⟩ := HS8.out.pre
            have HV := Lib.hid (ever_calls HD8.out HE8.out p1 p2 p3 p4 p5 p6)
            have HVR := HS8.out.version (by omega)
            have hl8 := HS8.out.l
            clear p1 p2 p3 p4
            rcases HVR with ⟨v1, v2, v3⟩ | ⟨v1, v2⟩
            · rw [v1, v2] at HV
              have HV3 := Lib.hid v3
              have hle : ¬ ((X8.last + 1 : Nat) : Int) ≤ (L2 : Int) := by omega
              obtain ⟨nv, hnv⟩ : ∃ nv, nv = X8.last + 1 := ⟨_, rfl⟩
              rw [← hnv] at HV HV3 hle
              clear v1 v2 v3 hnv hl8 p5 p6
              go_wp2_with fail
              refine HV.out.mono ?_
              rintro e w9 ⟨rfl, he9, hd9, hc9⟩
              have HR9 : Hid (RiseV w h t (200 * k + 1 + (j + 1)) nv w9) := ⟨_, _, hd9, he9, HV3.out, HC8.out.then hc9 (fun i hi hk => by
                rcases hk with hk | rfl
                · have := HFF.out i hk; omega
                · have := HTE.out; omega)⟩
              clear he9 hd9 hc9 HV HV3 HD8 HE8 HS8 HC8 d8
              go_wp2_with fail
              go_roundg (Q - (j + 1))
              case measure => omega
              case rel => exact ⟨j + 1, nv, by go_num, rfl, by omega, rfl, HR9.out⟩
            · have hv0 : X8.verV D8 = 0 := by unfold Eng.verV; rw [if_neg v1]
              rw [hv0] at HV
              have HEN := Lib.hid v2
              obtain ⟨er, her⟩ : ∃ er, er = X8.verE D8 := ⟨_, rfl⟩
              rw [← her] at HV v1
              have v1' : (er == 0) = false := by simpa using v1
              clear v2 hv0 her hl8 p5 p6
              go_wp2_with fail
              refine HV.out.mono ?_
              rintro e w9 ⟨rfl, he9, hd9, hc9⟩
              have HDZ := Lib.hid hd9
              have HCZ : Hid (Chg No w w9) := HC8.out.then hc9 (fun i hi hk => by
                rcases hk with hk | rfl
                · have := HFF.out i hk; omega
                · have := HTE.out; omega)
              have HEND : Hid (RiseEnd (X8.verD D8) (200 * k + 1 + j + 1) L2) := HEN.out
              clear he9 hd9 hc9 HV HD8 HE8 HS8 HC8 d8
              have HCR := Lib.hid (crash10 HDZ.out HFF.out HCZ.out A3 n3 cp3 picks te3 H3.out.1 H3.out.2)
              go_wp2_with fail
              refine HCR.out.mono ?_
              rintro e w10 ⟨rfl, hd10, hc10, hf10⟩
              have HD10 := Lib.hid hd10
              have HC10 := Lib.hid hc10
              clear hd10 hc10 hf10 HCR
              go_wp2_with fail
              refine (on10 HD10.out HFF.out HC10.out).mono ?_
              rintro e w11 ⟨rfl, hd11, hc11, hf11⟩
              have HS11 : Hid (RiseW w h (200 * (k + 1)) L2 w11) := ⟨_, hd11, (HEND.out.more (c' := 200 * (k + 1)) (by omega) (by omega)).on picks, hc11⟩
              clear hd11 hc11 hf11 HD10 HC10
              go_wp2_with fail
              go_roundg (n - (k + 1))
              case measure => omega
              case rel => exact ⟨k + 1, L2, by go_num, rfl, by omega, rfl, HS11.out⟩
          · have HDZ := HD8
            have HCZ := HC8
            have HEND := Lib.hid HS8.out.end_
            have HCR := Lib.hid (crash10 HDZ.out HFF.out HCZ.out A3 n3 cp3 picks te3 H3.out.1 H3.out.2)
            go_wp2_with fail
            refine HCR.out.mono ?_
            rintro e w10 ⟨rfl, hd10, hc10, hf10⟩
            have HD10 := Lib.hid hd10
            have HC10 := Lib.hid hc10
            clear hd10 hc10 hf10 HCR
            go_wp2_with fail
            refine (on10 HD10.out HFF.out HC10.out).mono ?_
            rintro e w11 ⟨rfl, hd11, hc11, hf11⟩
            have HS11 : Hid (RiseW w h (200 * (k + 1)) L2 w11) := ⟨_, hd11, (HEND.out.more (c' := 200 * (k + 1)) (by omega) (by omega)).on picks, hc11⟩
            clear hd11 hc11 hf11 HD10 HC10
            go_wp2_with fail
            go_roundg (n - (k + 1))
            case measure => omega
            case rel => exact ⟨k + 1, L2, by go_num, rfl, by omega, rfl, HS11.out⟩
      · clear d5
        have d5 := HCY.out _ (by obtain ⟨_, _, _, _, _, h9⟩ := HR5.out; exact h9)
        have hqb : ((q1 : Int) == 1) = false := by simpa using hq1
        go_wp2_with fail
        go_loopg [7, 12] Q (fun g v7 v12 wr => ∃ j L2 : Nat, v12 = .int .i64 j ∧ v7 = .int .u64 L2 ∧ j ≤ Q ∧ Q - j = g ∧ Hid (RiseV w h t (200 * k + 1 + j) L2 wr))
        case atStart => exact ⟨0, LL, rfl, rfl, by omega, by omega, HR5.out⟩
        case round =>
          obtain ⟨j, L2, rfl, rfl, hj, hg2, HH⟩ := hrel
          have d8 := HCY.out wr (by obtain ⟨_, _, _, _, _, h9⟩ := HH.out; exact h9)
          obtain ⟨X8, D8, hd8, he8, hs8, hc8⟩ := HH.out
          have HD8 := Lib.hid hd8
          have HE8 := Lib.hid he8
          have HS8 := Lib.hid hs8
          have HC8 := Lib.hid hc8
          clear hd8 he8 hs8 hc8 HH
          by_cases hjq : (j : Int) < (Q : Int)
          · obtain ⟨p1, p2, p3, p4, p5, p6⟩ := HS8.out.pre
            have HV := Lib.hid (ever_calls HD8.out HE8.out p1 p2 p3 p4 p5 p6)
            have HVR := HS8.out.version (by omega)
            have hl8 := HS8.out.l
            clear p1 p2 p3 p4
            rcases HVR with ⟨v1, v2, v3⟩ | ⟨v1, v2⟩
            · rw [v1, v2] at HV
              have HV3 := Lib.hid v3
              have hle : ¬ ((X8.last + 1 : Nat) : Int) ≤ (L2 : Int) := by omega
              obtain ⟨nv, hnv⟩ : ∃ nv, nv = X8.last + 1 := ⟨_, rfl⟩
              rw [← hnv] at HV HV3 hle
              clear v1 v2 v3 hnv hl8 p5 p6
              go_wp2_with fail
              refine HV.out.mono ?_
              rintro e w9 ⟨rfl, he9, hd9, hc9⟩
              have HR9 : Hid (RiseV w h t (200 * k + 1 + (j + 1)) nv w9) := ⟨_, _, hd9, he9, HV3.out, HC8.out.then hc9 (fun i hi hk => by
                rcases hk with hk | rfl
                · have := HFF.out i hk; omega
                · have := HTE.out; omega)⟩
              clear he9 hd9 hc9 HV HV3 HD8 HE8 HS8 HC8 d8
              go_wp2_with fail
              go_roundg (Q - (j + 1))
              case measure => omega
              case rel => exact ⟨j + 1, nv, by go_num, rfl, by omega, rfl, HR9.out⟩
            · have hv0 : X8.verV D8 = 0 := by unfold Eng.verV; rw [if_neg v1]
              rw [hv0] at HV
              have HEN := Lib.hid v2
              obtain ⟨er, her⟩ : ∃ er, er = X8.verE D8 := ⟨_, rfl⟩
              rw [← her] at HV v1
              have v1' : (er == 0) = false := by simpa using v1
              clear v2 hv0 her hl8 p5 p6
              go_wp2_with fail
              refine HV.out.mono ?_
              rintro e w9 ⟨rfl, he9, hd9, hc9⟩
              have HDZ := Lib.hid hd9
              have HCZ : Hid (Chg No w w9) := HC8.out.then hc9 (fun i hi hk => by
                rcases hk with hk | rfl
                · have := HFF.out i hk; omega
                · have := HTE.out; omega)
              have HEND : Hid (RiseEnd (X8.verD D8) (200 * k + 1 + j + 1) L2) := HEN.out
              clear he9 hd9 hc9 HV HD8 HE8 HS8 HC8 d8
              have HCR := Lib.hid (crash10 HDZ.out HFF.out HCZ.out A3 n3 cp3 picks te3 H3.out.1 H3.out.2)
              go_wp2_with fail
              refine HCR.out.mono ?_
              rintro e w10 ⟨rfl, hd10, hc10, hf10⟩
              have HD10 := Lib.hid hd10
              have HC10 := Lib.hid hc10
              clear hd10 hc10 hf10 HCR
              go_wp2_with fail
              refine (on10 HD10.out HFF.out HC10.out).mono ?_
              rintro e w11 ⟨rfl, hd11, hc11, hf11⟩
              have HS11 : Hid (RiseW w h (200 * (k + 1)) L2 w11) := ⟨_, hd11, (HEND.out.more (c' := 200 * (k + 1)) (by omega) (by omega)).on picks, hc11⟩
              clear hd11 hc11 hf11 HD10 HC10
              go_wp2_with fail
              go_roundg (n - (k + 1))
              case measure => omega
              case rel => exact ⟨k + 1, L2, by go_num, rfl, by omega, rfl, HS11.out⟩
          · have HDZ := HD8
            have HCZ := HC8
            have HEND := Lib.hid HS8.out.end_
            have HCR := Lib.hid (crash10 HDZ.out HFF.out HCZ.out A3 n3 cp3 picks te3 H3.out.1 H3.out.2)
            go_wp2_with fail
            refine HCR.out.mono ?_
            rintro e w10 ⟨rfl, hd10, hc10, hf10⟩
            have HD10 := Lib.hid hd10
            have HC10 := Lib.hid hc10
            clear hd10 hc10 hf10 HCR
            go_wp2_with fail
            refine (on10 HD10.out HFF.out HC10.out).mono ?_
            rintro e w11 ⟨rfl, hd11, hc11, hf11⟩
            have HS11 : Hid (RiseW w h (200 * (k + 1)) L2 w11) := ⟨_, hd11, (HEND.out.more (c' := 200 * (k + 1)) (by omega) (by omega)).on picks, hc11⟩
            clear hd11 hc11 hf11 HD10 HC10
            go_wp2_with fail
            go_roundg (n - (k + 1))
            case measure => omega
            case rel => exact ⟨k + 1, L2, by go_num, rfl, by omega, rfl, HS11.out⟩
    · obtain rfl : n = k := by omega
      go_wp2_with fail
      go_ret
      exact ⟨rfl, HCH.out⟩
end Go.Proofs.YtplpbbdakihnfaaGreat
end
