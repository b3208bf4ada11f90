/- Packed texts: EngPa, EngPb, EngPc, EngPd, EngPe. -/
import Derived.Test.YtplpbbdakihnfaaGreatPk22
import Derived.Test.YtplpbbdakihnfaaGreatPk24
import Derived.Test.YtplpbbdakihnfaaGreatPk25

/- An engine on a device that is on, in plain Lean: what a step keeps of the device; the super block. -/
section
namespace Go.Proofs.YtplpbbdakihnfaaGreat
open Go.RowKit
set_option linter.unusedSimpArgs false
set_option linter.unusedVariables false

/-- a step that leaves the pages A as they are (it may flush them) -/
structure Keep (A : Nat → Prop) (D D' : Dev) : Prop where
  n : D'.n = D.n
  on : D'.On
  los : D'.losses = D.losses
  page : ∀ i, A i → D'.page i = D.page i
  wt : ∀ i, A i → D'.wt i = D.wt i ∨ D'.wt i = none
  fl : ∀ i, A i → D'.fl i = D.fl i ∨ D'.fl i = D.page i
section
variable {A A' : Nat → Prop} {D D' D2 : Dev}
theorem Keep.refl (h : D.On) : Keep A D D := ⟨rfl, h, rfl, fun _ _ => rfl, fun _ _ => .inl rfl, fun _ _ => .inl rfl⟩
theorem Keep.trans (h : Keep A D D') (k : Keep A D' D2) : Keep A D D2 :=
  ⟨k.n.trans h.n, k.on, k.los.trans h.los, fun i hi => (k.page i hi).trans (h.page i hi), fun i hi => (k.wt i hi).elim (fun e => e ▸ h.wt i hi) .inr, fun i hi => by
    rcases k.fl i hi with e | e
    · rw [e]; exact h.fl i hi
    · rw [e]; exact .inr (h.page i hi)⟩
theorem Keep.mono (h : Keep A D D') (hA : ∀ i, A' i → A i) : Keep A' D D' := ⟨h.n, h.on, h.los, fun i hi => h.page i (hA i hi), fun i hi => h.wt i (hA i hi), fun i hi => h.fl i (hA i hi)⟩
theorem Keep.still (h : Keep A D D') {i : Nat} (hi : A i) (h0 : D.wt i = none) : D'.wt i = none := (h.wt i hi).elim (fun e => e.trans h0) id
theorem Keep.put (h : D.On) (k : Nat) (p : Pg) (hk : ∀ i, A i → i ≠ k) : Keep A D (D.put k p) := by
  refine ⟨rfl, ⟨h.off, h.armed⟩, rfl, fun i hi => ?_, fun i hi => .inl ?_, fun i hi => .inl rfl⟩
  · simp [Dev.page, Dev.put, hk i hi]
  · simp [Dev.put, hk i hi]
theorem Keep.flush (h : D.On) : Keep A D D.flush := by
  have hf := h.flush
  refine ⟨hf.2.1, hf.1, hf.2.2.1, fun i _ => hf.2.2.2.1 i, fun i _ => .inr (hf.2.2.2.2 i), fun i _ => .inr ?_⟩
  unfold Dev.flush
  rw [h.spend.1, if_pos rfl, h.spend.2]
  rfl
theorem Dev.On.fl_page {i : Nat} (h : D.wt i = none) : D.fl i = D.page i := by unfold Dev.page; rw [h]; rfl
/-- a page is written and flushed -/
theorem Keep.store (h : D.On) {k : Nat} (hk : k < D.n) {b : List UInt8} (hb : b.length ≤ 384) (hA : ∀ i, A i → i ≠ k) : Keep A D (D.write k b).flush ∧ (D.write k b).changeE = 0 ∧ D.changeE = 0 ∧ (∀ i, (D.write k b).flush.page i = if i = k then .full (Dev.pad b) else D.page i) ∧ ∀ i, (D.write k b).flush.wt i = none := by
  have hw := h.write hk hb
  have hf := hw.2.1.flush
  have e : D.write (k : Int) b = D.put k (.full (Dev.pad b)) := by
    have hh : D.has (k : Int) = true := by simp [Dev.has]; omega
    unfold Dev.write Dev.change
    rw [hh, decide_eq_true hb, h.spend.1, h.spend.2, Int.toNat_natCast]
    rfl
  refine ⟨?_, hw.2.1.changeE, h.changeE, fun i => by rw [hf.2.2.2.1 i]; exact hw.2.2.2.2 i, hf.2.2.2.2⟩
  rw [e]
  exact (Keep.put h k _ hA).trans (Keep.flush ⟨h.off, h.armed⟩)
end

/-! the super block -/
theorem sbP_none {best : Option Sb} {p : List UInt8} {e : Int} (h : Sb.dec p = none ∨ e ≠ 0) : sbPick best p e = best := by
  unfold sbPick
  rcases h with h | h
  · rw [h]
  · cases Sb.dec p with
    | none => rfl
    | some b => simp only [if_neg h]
theorem sbP_some {best : Option Sb} {p : List UInt8} {b : Sb} (h : Sb.dec p = some b) : sbPick best p 0 = match best with | none => some b | some c => if c.seq < b.seq then some b else some c := by
  unfold sbPick
  rw [h]
  cases best <;> simp
/-- what two pages tell; one of them is written anew -/
theorem sload_two {p0 p1 : List UInt8} {e0 e1 : Int} {S : Sb} (hS : S = (sbPick (sbPick none p0 e0) p1 e1).getD Sb.zero) {nb : Sb} (hn : S.seq < nb.seq) {q : List UInt8} (hq : Sb.dec q = some nb) :
    (sbPick (sbPick none q 0) p1 e1).getD Sb.zero = nb ∧ (sbPick (sbPick none p0 e0) q 0).getD Sb.zero = nb := by
  have h0 : sbPick none q 0 = some nb := by rw [sbP_some hq]
  constructor
  · rw [h0]
    by_cases h1 : Sb.dec p1 = none ∨ e1 ≠ 0
    · rw [sbP_none h1]; rfl
    · have he : e1 = 0 := by
        by_cases h : e1 = 0
        · exact h
        · exact absurd (.inr h) h1
      subst he
      cases hd : Sb.dec p1 with
      | none => exact absurd (.inl hd) h1
      | some c =>
        rw [sbP_some hd]
        have hc : c.seq ≤ S.seq := by
          rw [hS, sbP_some hd]
          cases sbPick none p0 e0 with
          | none => simp
          | some a =>
            simp only
            split
            · simp
            · rename_i h; simp; omega
        simp only
        rw [if_neg (by omega)]
        rfl
  · rw [sbP_some hq]
    cases hp : sbPick none p0 e0 with
    | none => rfl
    | some a =>
      have ha : a.seq ≤ S.seq := by
        rw [hS, hp]
        by_cases h1 : Sb.dec p1 = none ∨ e1 ≠ 0
        · rw [sbP_none h1]; simp
        · have he : e1 = 0 := by
            by_cases h : e1 = 0
            · exact h
            · exact absurd (.inr h) h1
          subst he
          cases hd : Sb.dec p1 with
          | none => exact absurd (.inl hd) h1
          | some c =>
            rw [sbP_some hd]
            simp only
            split
            · rename_i h; simp; omega
            · simp
      simp only
      rw [if_pos (by omega)]
      rfl
theorem Dev.sload_eq (D : Dev) : D.sload = (sbPick (sbPick none (D.read ((0 : Nat) : Int)) (D.readE ((0 : Nat) : Int))) (D.read ((1 : Nat) : Int)) (D.readE ((1 : Nat) : Int))).getD Sb.zero := rfl
theorem Dev.On.reads {D : Dev} (h : D.On) {i : Nat} (hi : i < D.n) : D.read (i : Int) = (D.page i).data ∧ D.readE (i : Int) = (D.page i).err := by
  have hh : D.has (i : Int) = true := by simp [Dev.has]; omega
  unfold Dev.read Dev.readE
  rw [hh, h.off, Int.toNat_natCast]
  exact ⟨rfl, rfl⟩
/-- a block is stored -/
theorem sb_store {D : Dev} (h : D.On) (hn : 2 ≤ D.n) (b : Sb) (hb : b.Ok) (hq : D.sload.seq + 1 < 18446744073709551616) :
    D.stE b = 0 ∧ (D.stD b).sload = (D.stB b).norm ∧ D.stR b = (D.stB b).norm ∧ Keep (fun i => 2 ≤ i) D (D.stD b) ∧ ∀ i, (D.stD b).wt i = none := by
  have hlt : (D.stB b).seq % 2 < 2 := Nat.mod_lt _ (by omega)
  have hs : (D.stB b).seq = D.sload.seq + 1 := rfl
  have hbo : (D.stB b).Ok := ⟨hq, hb.epoch, hb.reserved, hb.horizon, hb.gen, hb.image⟩
  have hst := Keep.store (A := fun i => 2 ≤ i) h (k := (D.stB b).seq % 2) (by omega) (b := (D.stB b).enc) (by rw [Sb.enc_len]; omega) (fun i hi => by have : 2 ≤ i := hi; omega)
  have eE : D.stE b = 0 := by unfold Dev.stE; rw [if_pos hst.2.2.1]; exact hst.2.1
  have eD : D.stD b = (D.write (((D.stB b).seq % 2 : Nat) : Int) (D.stB b).enc).flush := by unfold Dev.stD; rw [if_pos hst.2.2.1]; rfl
  refine ⟨eE, ?_, by unfold Dev.stR; rw [if_pos eE], by rw [eD]; exact hst.1, by rw [eD]; exact hst.2.2.2.2⟩
  rw [eD]
  have hpad : Sb.dec (Dev.pad (D.stB b).enc) = some (D.stB b).norm := Sb.dec_enc _ hbo _
  have hsq : D.sload.seq < (D.stB b).norm.seq := by show D.sload.seq < D.sload.seq + 1; omega
  have hon := hst.1.on
  have hn' : (D.write (((D.stB b).seq % 2 : Nat) : Int) (D.stB b).enc).flush.n = D.n := hst.1.n
  have two := sload_two (D.sload_eq) hsq hpad
  rw [Dev.sload_eq]
  have r0 := hon.reads (i := 0) (by rw [hn']; omega)
  have r1 := hon.reads (i := 1) (by rw [hn']; omega)
  have o0 := h.reads (i := 0) (by omega)
  have o1 := h.reads (i := 1) (by omega)
  have p0 := hst.2.2.2.1 0
  have p1 := hst.2.2.2.1 1
  rw [r0.1, r0.2, r1.1, r1.2, p0, p1]
  rw [o0.1, o0.2, o1.1, o1.2] at two
  rcases (by omega : (D.stB b).seq % 2 = 0 ∨ (D.stB b).seq % 2 = 1) with e | e
  · rw [e, if_pos rfl, if_neg (by omega)]
    exact two.1
  · rw [e, if_neg (by omega), if_pos rfl]
    exact two.2
theorem sload_keep {A : Nat → Prop} {D D' : Dev} (h : D.On) (hk : Keep A D D') (hA : ∀ i, i < 2 → A i) : D'.sload = D.sload := sload_same h hk.on hk.n (fun i hi => hk.page i (hA i hi))
end Go.Proofs.YtplpbbdakihnfaaGreat
end

/- An engine's run, in plain Lean: the power on; where its parts lie; its block, as it stands on the device. -/
section
namespace Go.Proofs.YtplpbbdakihnfaaGreat
open Go.RowKit
set_option linter.unusedSimpArgs false
set_option linter.unusedVariables false

structure Run (g : Geo) (c : Nat) (X : Eng) (D : Dev) : Prop where
  geo : g.ok = true
  on : D.On
  fit : g.pages ≤ D.n
  few : c ≤ 1000000
  los : X.losses = D.losses
  jls : X.J.losses = D.losses
  bls : X.B.losses = D.losses
  gls : X.G.losses = D.losses
  j1 : X.J.first = 2
  j2 : X.J.pages = g.j
  b1 : X.B.first = ((2 + g.j : Nat) : Int)
  b2 : X.B.fs.length = g.b
  g1 : X.G.first = 2 + g.j + g.b
  g2 : X.G.regs.length = g.r
  sl : D.sload = X.blk
  ok : X.blk.Ok
  w0 : D.wt 0 = none
  w1 : D.wt 1 = none
  seq : X.blk.seq ≤ c
  epoch : X.blk.epoch ≤ c
  gen : X.blk.gen ≤ c
  res : X.blk.reserved ≤ 64 * c
  last : X.last ≤ X.blk.reserved
  hor : X.blk.horizon ≤ X.last
section
variable {g : Geo} {c : Nat} {X : Eng} {D D' : Dev}
theorem Geo.parts {g : Geo} (h : g.ok = true) : 1 ≤ g.j ∧ g.j ≤ 64 ∧ 1 ≤ g.b ∧ g.b ≤ 64 ∧ 1 ≤ g.r ∧ g.r ≤ 16 ∧ g.i ≤ 256 := by
  unfold Geo.ok at h
  simp only [Bool.and_eq_true, decide_eq_true_eq] at h
  obtain ⟨⟨⟨⟨⟨⟨h1, h2⟩, h3⟩, h4⟩, h5⟩, h6⟩, h7⟩ := h
  exact ⟨h1, h2, h3, h4, h5, h6, h7⟩
theorem Run.n2 (h : Run g c X D) : 2 ≤ D.n := by have := h.fit; unfold Geo.pages at this; omega
theorem Run.sq (h : Run g c X D) : D.sload.seq + 1 < 18446744073709551616 := by rw [h.sl]; have := h.seq; have := h.few; omega
theorem Run.fit_ (h : Run g c X D) : X.Fit D :=
  ⟨h.on, h.los, h.jls, h.n2, by rw [h.j1]; exact Nat.le_refl _, by rw [h.j1, h.j2]; have := h.fit; unfold Geo.pages at this; omega, h.sq, by have := h.gen; have := h.few; omega⟩
theorem Run.more (h : Run g c X D) {c' : Nat} (hc : c ≤ c') (hf : c' ≤ 1000000) : Run g c' X D :=
  { h with few := hf, seq := Nat.le_trans h.seq hc, epoch := Nat.le_trans h.epoch hc, gen := Nat.le_trans h.gen hc, res := Nat.le_trans h.res (Nat.mul_le_mul_left _ hc) }
/-- a step of one of its stores -/
theorem Run.part (h : Run g c X D) {X' : Eng} (hk : Keep (fun i => i < 2) D D') (e1 : X'.losses = X.losses) (e2 : X'.blk = X.blk) (e3 : X'.last = X.last)
    (j1 : X'.J.first = X.J.first) (j2 : X'.J.pages = X.J.pages) (j3 : X'.J.losses = X.J.losses) (b1 : X'.B.first = X.B.first) (b2 : X'.B.fs.length = X.B.fs.length) (b3 : X'.B.losses = X.B.losses)
    (g1 : X'.G.first = X.G.first) (g2 : X'.G.regs.length = X.G.regs.length) (g3 : X'.G.losses = X.G.losses) : Run g c X' D' :=
  ⟨h.geo, hk.on, by rw [hk.n]; exact h.fit, h.few, by rw [e1, hk.los]; exact h.los, by rw [j3, hk.los]; exact h.jls, by rw [b3, hk.los]; exact h.bls, by rw [g3, hk.los]; exact h.gls,
    j1.trans h.j1, j2.trans h.j2, b1.trans h.b1, b2.trans h.b2, g1.trans h.g1, g2.trans h.g2, by rw [e2, sload_keep h.on hk (fun i hi => hi)]; exact h.sl, by rw [e2]; exact h.ok,
    hk.still (by decide : (0 : Nat) < 2) h.w0, hk.still (by decide : (1 : Nat) < 2) h.w1, by rw [e2]; exact h.seq, by rw [e2]; exact h.epoch, by rw [e2]; exact h.gen, by rw [e2]; exact h.res, by rw [e2, e3]; exact h.last, by rw [e2, e3]; exact h.hor⟩
/-- a block is stored -/
theorem Run.set (h : Run g c X D) (hc : c + 1 ≤ 1000000) (b : Sb) (hb : b.Ok) (h1 : b.epoch ≤ c + 1) (h2 : b.gen ≤ c + 1) (h3 : b.reserved ≤ 64 * (c + 1)) (h4 : X.last ≤ b.reserved) (h5 : b.horizon ≤ X.last) :
    D.stE b = 0 ∧ X.set D b = { X with blk := { b with seq := X.blk.seq + 1, image := b.img } } ∧ Run g (c + 1) (X.set D b) (D.stD b) ∧ Keep (fun i => 2 ≤ i) D (D.stD b) ∧ ∀ i, (D.stD b).wt i = none := by
  obtain ⟨q1, q2, q3, q4, q5⟩ := sb_store h.on h.n2 b hb h.sq
  have eb : D.stR b = { b with seq := X.blk.seq + 1, image := b.img } := by
    rw [q3]; unfold Dev.stB Sb.norm Sb.img; rw [h.sl]
  have e : X.set D b = { X with blk := { b with seq := X.blk.seq + 1, image := b.img } } := by unfold Eng.set; rw [if_pos q1, eb]
  have hok : (D.stR b).Ok := stR_ok hb h.sq
  refine ⟨q1, e, ?_, q4, q5⟩
  rw [e]
  rw [eb] at hok
  rw [q3.symm.trans eb] at q2
  exact ⟨h.geo, q4.on, by rw [q4.n]; exact h.fit, hc, by rw [q4.los]; exact h.los, by rw [q4.los]; exact h.jls, by rw [q4.los]; exact h.bls, by rw [q4.los]; exact h.gls, h.j1, h.j2, h.b1, h.b2, h.g1, h.g2, q2, hok, q5 0, q5 1,
    Nat.succ_le_succ h.seq, h1, h2, h3, h4, h5⟩
/-- Version -/
theorem Run.version (h : Run g c X D) (hc : c + 1 ≤ 1000000) : X.verE D = 0 ∧ X.verV D = X.last + 1 ∧ Run g (c + 1) (X.verX D) (X.verD D) ∧ Keep (fun i => 2 ≤ i) D (X.verD D) ∧
    (X.verX D).last = X.last + 1 ∧ (X.verX D).J = X.J ∧ (X.verX D).B = X.B ∧ (X.verX D).G = X.G ∧ (X.verX D).blk.horizon = X.blk.horizon ∧ (X.verX D).blk.gen = X.blk.gen ∧ (X.verX D).blk.epoch = X.blk.epoch ∧
    (X.verX D).blk.reserved = if X.last = X.blk.reserved then X.blk.reserved + 64 else X.blk.reserved := by
  by_cases hl : X.last = X.blk.reserved
  · have hb : X.vB.Ok := ⟨h.ok.seq, h.ok.epoch, by show X.blk.reserved + 64 < _; have := h.res; have := h.few; omega, h.ok.horizon, h.ok.gen, h.ok.image⟩
    obtain ⟨q1, q2, q3, q4, q5⟩ := h.set hc X.vB hb (Nat.le_succ_of_le h.epoch) (Nat.le_succ_of_le h.gen) (by show X.blk.reserved + 64 ≤ _; have := h.res; omega) (by show X.last ≤ X.blk.reserved + 64; have := h.last; omega) h.hor
    have eE : X.verE D = 0 := by unfold Eng.verE; rw [if_pos hl]; exact q1
    have eX : X.verX D = { X.set D X.vB with last := X.last + 1 } := by unfold Eng.verX; simp only; rw [if_pos hl, if_pos eE]
    have eD : X.verD D = D.stD X.vB := by unfold Eng.verD; rw [if_pos hl]
    refine ⟨eE, by unfold Eng.verV; rw [if_pos eE], ?_, by rw [eD]; exact q4, by rw [eX], by rw [eX, q2], by rw [eX, q2], by rw [eX, q2], by rw [eX, q2]; rfl, by rw [eX, q2]; rfl, by rw [eX, q2]; rfl, by rw [eX, q2, if_pos hl]; rfl⟩
    rw [eX, eD]
    have h9 : X.last + 1 ≤ (X.set D X.vB).blk.reserved := by rw [q2]; show X.last + 1 ≤ X.blk.reserved + 64; omega
    have h8 : (X.set D X.vB).blk.horizon ≤ X.last + 1 := by rw [q2]; show X.blk.horizon ≤ _; have := h.hor; omega
    exact { q3 with last := h9, hor := h8 }
  · have eE : X.verE D = 0 := by unfold Eng.verE; rw [if_neg hl]
    have eX : X.verX D = { X with last := X.last + 1 } := by unfold Eng.verX; simp only; rw [if_neg hl, if_pos eE]
    have eD : X.verD D = D := by unfold Eng.verD; rw [if_neg hl]
    refine ⟨eE, by unfold Eng.verV; rw [if_pos eE], ?_, by rw [eD]; exact Keep.refl h.on, by rw [eX], by rw [eX], by rw [eX], by rw [eX], by rw [eX], by rw [eX], by rw [eX], by rw [eX, if_neg hl]⟩
    rw [eX, eD]
    have h2 := h.more (Nat.le_succ c) hc
    exact { h2 with last := by show X.last + 1 ≤ X.blk.reserved; have := h.last; omega, hor := by show X.blk.horizon ≤ X.last + 1; have := h.hor; omega }
/-- Wipe -/
theorem Run.wipe (h : Run g c X D) (hc : c + 1 ≤ 1000000) : X.wipeE D = 0 ∧ Run g (c + 1) (X.wipeX D) (D.stD X.wB) ∧ Keep (fun i => 2 ≤ i) D (D.stD X.wB) ∧
    X.wipeX D = { X with blk := { X.blk with horizon := X.last, gen := X.blk.gen + 1, seq := X.blk.seq + 1, image := X.blk.img }, J := X.J.begun (X.blk.gen + 1) } := by
  have hb : X.wB.Ok := ⟨h.ok.seq, h.ok.epoch, h.ok.reserved, by show X.last < _; have := h.last; have := h.res; have := h.few; omega, by show X.blk.gen + 1 < _; have := h.gen; have := h.few; omega, h.ok.image⟩
  obtain ⟨q1, q2, q3, q4, q5⟩ := h.set hc X.wB hb (Nat.le_succ_of_le h.epoch) (Nat.succ_le_succ h.gen) (by show X.blk.reserved ≤ _; have := h.res; omega) h.last (Nat.le_refl _)
  have e : X.wipeX D = { X with blk := { X.blk with horizon := X.last, gen := X.blk.gen + 1, seq := X.blk.seq + 1, image := X.blk.img }, J := X.J.begun (X.blk.gen + 1) } := by
    unfold Eng.wipeX
    rw [if_pos q1, q2]
    rfl
  refine ⟨q1, ?_, q4, e⟩
  rw [q2] at q3
  rw [e]
  exact { q3 with }
end
end Go.Proofs.YtplpbbdakihnfaaGreat
end

/- An engine's buckets, in plain Lean: what they hold, on the pages and ahead of a flush. -/
section
namespace Go.Proofs.YtplpbbdakihnfaaGreat
open Go.RowKit
set_option linter.unusedSimpArgs false
set_option linter.unusedVariables false

/-- a page that holds the items l -/
def PgIs (p : Pg) (l : List Item) : Prop := (p = .blank ∧ l = []) ∨ ∃ b, p = .full b ∧ listOf b = some l ∧ b.length = 384
theorem PageIs_iff {D : Dev} {i : Nat} {l : List Item} : PageIs D i l ↔ PgIs (D.page i) l := Iff.rfl
/-- the buckets: Q holds of all that stands in one, or stood there when it was flushed last; of the latter all is there still, but for keys K -/
structure Bks (f : Nat) (Q : Item → Prop) (K : ByteArray → Prop) (B : Sto) (D : Dev) (ls : List (List Item)) : Prop where
  bk : Bkt f D B ls
  fine : Fine B ls
  q : ∀ (i : Nat) (l : List Item), ls[i]? = some l → ∀ x ∈ l, Q x
  fl : ∀ (i : Nat) (l : List Item), ls[i]? = some l → ∃ l', PgIs (D.fl (f + i)) l' ∧ ∀ x ∈ l', Q x ∧ B.may x.key = true ∧ (x ∈ l ∨ K x.key)
section
variable {f : Nat} {Q Q' : Item → Prop} {K : ByteArray → Prop} {B : Sto} {D D' : Dev} {ls : List (List Item)}
theorem Bks.mono (h : Bks f Q K B D ls) (hq : ∀ x, Q x → Q' x) : Bks f Q' K B D ls :=
  ⟨h.bk, h.fine, fun i l hi x hx => hq x (h.q i l hi x hx), fun i l hi => by obtain ⟨l', h1, h2⟩ := h.fl i l hi; exact ⟨l', h1, fun x hx => ⟨hq x (h2 x hx).1, (h2 x hx).2⟩⟩⟩
theorem Bks.get_ (h : Bks f Q K B D ls) (key : ByteArray) : ∃ l, ls[B.no key]? = some l := ⟨_, List.getElem?_eq_getElem (h.bk.no_ key)⟩
theorem Bks.may_ (h : Bks f Q K B D ls) {i : Nat} {l : List Item} (hi : ls[i]? = some l) {x : Item} (hx : x ∈ l) : B.may x.key = true := h.fine.may h.bk.len hi hx
/-- a step elsewhere -/
theorem Bks.keep (h : Bks f Q K B D ls) (hk : Keep (fun i => f ≤ i ∧ i < f + B.fs.length) D D') : Bks f Q K B D' ls := by
  have hin : ∀ (i : Nat) (l : List Item), ls[i]? = some l → f ≤ f + i ∧ f + i < f + B.fs.length := by
    intro i l hi
    have := (List.getElem?_eq_some_iff.1 hi).1
    have := h.bk.len
    omega
  refine ⟨⟨hk.on.off, hk.on.armed, by rw [hk.los]; exact h.bk.los, h.bk.first, h.bk.len, h.bk.pos, by rw [hk.n]; exact h.bk.fits, fun i l hi => ?_⟩, h.fine, h.q, fun i l hi => ?_⟩
  · rw [PageIs_iff, hk.page _ (hin i l hi)]; exact h.bk.pg i l hi
  · rcases hk.fl _ (hin i l hi) with e | e
    · rw [e]; exact h.fl i l hi
    · rw [e]; exact ⟨l, h.bk.pg i l hi, fun x hx => ⟨h.q i l hi x hx, h.may_ hi hx, .inl hx⟩⟩
theorem add_may (B : Sto) (x : Item) (key : ByteArray) (h : B.may key = true) : (B.add x).may key = true := by
  unfold Sto.may at h ⊢
  rw [add_no]
  simp only [Sto.add]
  rw [List.getD_eq_getElem?_getD] at h ⊢
  rw [List.getElem?_modify]
  cases hb : B.fs[B.no key]? with
  | none => rw [hb] at h; simpa using h
  | some b =>
    rw [hb] at h
    simp only [Option.map_some, Option.getD_some] at h ⊢
    split
    · exact fmay_keeps _ _ _ h
    · exact h
theorem put_fl (D : Dev) (i : Nat) (p : Pg) (j : Nat) : (D.put i p).fl j = D.fl j := rfl
/-- a bucket's page is written anew -/
theorem Bks.put_ (h : Bks f Q K B D ls) {B' : Sto} {i : Nat} {l0 l : List Item} {b : List UInt8} (h0 : ls[i]? = some l0) (hbk : Bkt f (D.put (f + i) (.full b)) B' (ls.set i l)) (hfi : Fine B' (ls.set i l)) (hq : ∀ x ∈ l, Q x)
    (hm : ∀ key, B.may key = true → B'.may key = true) (hK : ∀ x ∈ l0, x ∈ l ∨ K x.key) : Bks f Q K B' (D.put (f + i) (.full b)) (ls.set i l) := by
  have hlt : i < ls.length := (List.getElem?_eq_some_iff.1 h0).1
  refine ⟨hbk, hfi, fun j l' hj x hx => ?_, fun j l' hj => ?_⟩
  · by_cases hij : i = j
    · subst hij
      rw [List.getElem?_set_self hlt] at hj
      injection hj with hj
      subst hj
      exact hq x hx
    · rw [List.getElem?_set_ne hij] at hj
      exact h.q j l' hj x hx
  · rw [put_fl]
    by_cases hij : i = j
    · subst hij
      rw [List.getElem?_set_self hlt] at hj
      injection hj with hj
      subst hj
      obtain ⟨l1, q1, q2⟩ := h.fl i l0 h0
      exact ⟨l1, q1, fun x hx => ⟨(q2 x hx).1, hm _ (q2 x hx).2.1, (q2 x hx).2.2.elim (fun hh => hK x hh) .inr⟩⟩
    · rw [List.getElem?_set_ne hij] at hj
      obtain ⟨l1, q1, q2⟩ := h.fl j l' hj
      exact ⟨l1, q1, fun x hx => ⟨(q2 x hx).1, hm _ (q2 x hx).2.1, (q2 x hx).2.2⟩⟩
/-- the same, flushed: nothing of before is asked -/
theorem Bks.flush_ {D1 : Dev} (hbk : Bkt f D1 B ls) (hfi : Fine B ls) (hq : ∀ (i : Nat) (l : List Item), ls[i]? = some l → ∀ x ∈ l, Q x) (ho : D1.On) : Bks f Q K B D1.flush ls := by
  have hf := Keep.flush (A := fun _ => True) ho
  have hp : ∀ i, D1.flush.fl i = D1.page i := by
    intro i
    unfold Dev.flush
    rw [ho.spend.1, if_pos rfl, ho.spend.2]
    rfl
  refine ⟨⟨hf.on.off, hf.on.armed, by rw [hf.los]; exact hbk.los, hbk.first, hbk.len, hbk.pos, by rw [hf.n]; exact hbk.fits, fun i l hi => ?_⟩, hfi, hq, fun i l hi => ?_⟩
  · rw [PageIs_iff, hf.page _ trivial]; exact hbk.pg i l hi
  · rw [hp]; exact ⟨l, hbk.pg i l hi, fun x hx => ⟨hq i l hi x hx, hfi.may hbk.len hi hx, .inl hx⟩⟩
end
section
variable {f : Nat} {Q : Item → Prop} {K : ByteArray → Prop} {X : Eng} {D : Dev} {ls : List (List Item)}
/-- a small item is put -/
theorem Bks.small (h : Bks f Q K X.B D ls) {x : Item} (hx : x.good = true) (hs : x.size ≤ 384) (hqx : Q x) {l : List Item} (hl : ls[X.B.no x.key]? = some l) (hK : ∀ y, Q y → y ≠ x → y.key = x.key → K x.key) (hnew : x ∉ l) :
    X.B.lE D (X.B.no x.key) = 0 ∧ X.B.putE D x = 0 ∧ X.psE D x = 0 ∧ Keep (fun i => i ≠ f + X.B.no x.key) D (X.psD D x) ∧ Bks f Q K (X.B.add x) (X.psD D x) (ls.set (X.B.no x.key) (pleft l x)) := by
  have ho : D.On := ⟨h.bk.off, h.bk.armed⟩
  have hp := h.bk.put hx hl
  obtain ⟨p1, p2, p3, p4⟩ := hp
  have hfi := h.fine.put x hs hl
  have hi : X.B.no x.key < X.B.fs.length := X.B.no_lt h.bk.pos x.key
  have hg := goods_pnew ((h.bk.pg _ l hl).good) hx
  have hlay := listOf_layB (pleft l x) 384 (by omega) (goods_drop hg _) (fitN_fits _)
  have eD : X.B.putD D x = D.put (f + X.B.no x.key) (.full (layB (pleft l x) ((384 : Nat) : Int))) := by
    have hnw : X.B.nw D x = pnew l x := by unfold Sto.nw pnew; rw [(h.bk.lE_ hl).2]
    unfold Sto.putD
    rw [hnw]
    exact (h.bk.write_ hi hlay.2).2
  have hk0 : Keep (fun i => i ≠ f + X.B.no x.key) D (X.B.putD D x) := by rw [eD]; exact Keep.put ho _ _ (fun i hi => hi)
  have hq : ∀ y ∈ pleft l x, Q y := fun y hy => by
    rcases pleft_sub hy with rfl | ⟨h1, _⟩
    · exact hqx
    · exact h.q _ l hl y h1
  by_cases hout : pout l x = []
  · have e1 : X.psD D x = X.B.putD D x := by unfold Eng.psD; rw [p3, hout]; rfl
    have e2 : X.psE D x = 0 := by unfold Eng.psE; rw [p3, hout]; rfl
    refine ⟨p1, p2, e2, by rw [e1]; exact hk0, ?_⟩
    rw [e1]
    have p4' := p4
    rw [eD] at p4 ⊢
    refine h.put_ hl p4 hfi hq (fun key hk => add_may X.B x key hk) (fun y hy => ?_)
    by_cases hyk : y.key = x.key
    · right
      rw [hyk]
      exact hK y (h.q _ l hl y hy) (fun e => hnew (e ▸ hy)) hyk
    · left
      have hpl : pleft l x = pnew l x := by have := pnew_split l x; rw [hout] at this; simpa using this
      rw [hpl]
      unfold pnew
      exact List.mem_append_left _ (mem_rid.2 ⟨hy, hyk⟩)
  · have hne : (X.B.out D x).length ≠ 0 := by rw [p3]; intro e; exact hout (List.length_eq_zero_iff.1 e)
    have ho2 : (X.B.putD D x).On := ⟨p4.off, p4.armed⟩
    have e1 : X.psD D x = (X.B.putD D x).flush := by unfold Eng.psD; rw [if_neg hne]
    have e2 : X.psE D x = 0 := by unfold Eng.psE; rw [if_neg hne]; exact ho2.changeE
    refine ⟨p1, p2, e2, by rw [e1]; exact hk0.trans (Keep.flush ho2), ?_⟩
    rw [e1]
    have hlt : X.B.no x.key < ls.length := (List.getElem?_eq_some_iff.1 hl).1
    refine Bks.flush_ p4 hfi (fun j l' hj y hy => ?_) ho2
    by_cases hij : X.B.no x.key = j
    · subst hij
      rw [List.getElem?_set_self hlt] at hj
      injection hj with hj
      subst hj
      exact hq y hy
    · rw [List.getElem?_set_ne hij] at hj
      exact h.q j l' hj y hy
/-- a key is dropped -/
theorem Bks.drop_ (h : Bks f Q K X.B D ls) (key : ByteArray) {l : List Item} (hl : ls[X.B.no key]? = some l) (hK : ∀ y, Q y → y.key = key → K key) :
    X.B.lE D (X.B.no key) = 0 ∧ X.B.dropE D key = (if rid l key = l then 5 else 0) ∧ Keep (fun i => i ≠ f + X.B.no key) D (X.B.dropD D key) ∧ Bks f Q K X.B (X.B.dropD D key) (ls.set (X.B.no key) (rid l key)) := by
  have ho : D.On := ⟨h.bk.off, h.bk.armed⟩
  obtain ⟨p1, p2, p4⟩ := h.bk.drop key hl
  have hll := h.bk.lE_ hl
  have hi : X.B.no key < X.B.fs.length := X.B.no_lt h.bk.pos key
  have hre : X.B.rest D key = rid l key := by unfold Sto.rest; rw [hll.2]
  have hg := goods_rid ((h.bk.pg _ l hl).good) key
  have hlay := listOf_layB (rid l key) 384 (by omega) hg (Nat.le_trans (records_rid l key) (h.bk.pg _ l hl).le)
  have hfi := h.fine.drop key hl
  refine ⟨p1, p2, ?_⟩
  by_cases hs : rid l key = l
  · have e : X.B.dropD D key = D := by unfold Sto.dropD; rw [hre, hll.2, if_pos (by rw [hs])]
    have e2 : ls.set (X.B.no key) (rid l key) = ls := by
      rw [hs]
      apply List.ext_getElem?
      intro j
      by_cases hj : X.B.no key = j
      · subst hj; rw [List.getElem?_set_self (h.bk.no_ key), hl]
      · rw [List.getElem?_set_ne hj]
    rw [e, e2]
    exact ⟨Keep.refl ho, h⟩
  · have e : X.B.dropD D key = D.put (f + X.B.no key) (.full (layB (rid l key) ((384 : Nat) : Int))) := by
      unfold Sto.dropD
      rw [hre, hll.2, if_neg (fun e => hs (rid_same e))]
      exact (h.bk.write_ hi hlay.2).2
    rw [e] at p4 ⊢
    refine ⟨Keep.put ho _ _ (fun i hi => hi), h.put_ hl p4 hfi (fun y hy => h.q _ l hl y (mem_rid.1 hy).1) (fun _ hk => hk) (fun y hy => ?_)⟩
    by_cases hyk : y.key = key
    · right; rw [hyk]; exact hK y (h.q _ l hl y hy) hyk
    · left; exact mem_rid.2 ⟨hy, hyk⟩
/-- what the buckets tell of a key -/
theorem Bks.tell (h : Bks f Q K X.B D ls) (key : ByteArray) {l : List Item} (hl : ls[X.B.no key]? = some l) : X.B.get D key = (match l.find? (keyed key) with | some x => (x, 0) | none => (Item.zero, 5)) := by
  have hll := h.bk.lE_ hl
  unfold Sto.get
  cases hm : X.B.may key with
  | true =>
    simp only [if_true]
    rw [if_pos hll.1, hll.2]
    cases l.find? (keyed key) <;> rfl
  | false =>
    simp only [Bool.false_eq_true, if_false]
    cases hf : l.find? (keyed key) with
    | none => rfl
    | some x =>
      exfalso
      have h1 := List.mem_of_find?_eq_some hf
      have h2 : x.key = key := by have := List.find?_some hf; simpa [keyed] using this
      have h3 := h.may_ hl h1
      rw [h2, hm] at h3
      cases h3
end
end Go.Proofs.YtplpbbdakihnfaaGreat
end

/- An engine's log, in plain Lean: what it holds, on the pages and in memory; which keys its items are known by. -/
section
namespace Go.Proofs.YtplpbbdakihnfaaGreat
open Go.RowKit
set_option linter.unusedSimpArgs false
set_option linter.unusedVariables false

/-- each key has its newest place; a key that has none, and stands somewhere, is known by C -/
structure Cov (C : ByteArray → Prop) (G : Lg) : Prop where
  non : ∀ key, aget G.keys key = none → ∀ p, G.Has key p → C key
  som : ∀ key p, aget G.keys key = some p → G.Has key p ∧ ∀ q, G.Has key q → G.elder q p
theorem Fresh.cov {G : Lg} (h : Fresh G) (C : ByteArray → Prop) : Cov C G := ⟨fun key hk p hp => (h.non key hk p hp).elim, h.som⟩
theorem Cov.mono {C C' : ByteArray → Prop} {G : Lg} (h : Cov C G) (hc : ∀ k, C k → C' k) : Cov C' G := ⟨fun key hk p hp => hc _ (h.non key hk p hp), h.som⟩
theorem Cov.add {C : ByteArray → Prop} {G : Lg} (hn : Nums G) (h : Cov C G) (x : Item) : Cov C (G.add x) ∧ Nums (G.add x) := by
  have hH : ∀ key q, x.key ≠ key → (G.add x).Has key q → G.Has key q := by
    rintro key q hne ⟨y, hy, ⟨h1, h2, h3⟩ | h⟩
    · have h3' : (G.opn ++ [x])[q.ix]? = some y := h3
      rcases Nat.lt_or_ge q.ix G.opn.length with hlt | hge
      · rw [List.getElem?_append_left hlt] at h3'
        exact ⟨y, hy, .inl ⟨h1, h2, h3'⟩⟩
      · rw [List.getElem?_append_right hge] at h3'
        rcases Nat.eq_or_lt_of_le hge with e | e
        · rw [← e] at h3'
          simp at h3'
          exact absurd (by rw [h3']; exact hy) hne
        · rw [List.getElem?_eq_none (by simp; omega)] at h3'
          cases h3'
    · exact ⟨y, hy, .inr h⟩
  have hH2 : ∀ key q, G.Has key q → (G.add x).Has key q := by
    rintro key q ⟨y, hy, ⟨h1, h2, h3⟩ | h⟩
    · refine ⟨y, hy, .inl ⟨h1, h2, ?_⟩⟩
      show (G.opn ++ [x])[q.ix]? = some y
      rw [List.getElem?_append_left (List.getElem?_eq_some_iff.1 h3).1]
      exact h3
    · exact ⟨y, hy, .inr h⟩
  refine ⟨⟨fun key hk p hp => ?_, fun key p hk => ?_⟩, hn⟩
  · have hk' : aget (aset G.keys x.key ⟨true, 0, G.opn.length⟩) key = none := hk
    rw [aget_aset] at hk'
    split at hk'
    · cases hk'
    · rename_i hne
      exact h.non _ hk' p (hH _ _ hne hp)
  · have hk' : aget (aset G.keys x.key ⟨true, 0, G.opn.length⟩) key = some p := hk
    rw [aget_aset] at hk'
    split at hk'
    · rename_i he
      injection hk' with hk'
      subst hk'
      refine ⟨⟨x, he, .inl ⟨rfl, rfl, ?_⟩⟩, fun q hq => ?_⟩
      · show (G.opn ++ [x])[G.opn.length]? = some x
        rw [List.getElem?_append_right (Nat.le_refl _), Nat.sub_self]; rfl
      · obtain ⟨y, hy, ⟨h1, h2, h3⟩ | ⟨h1, h2, h3⟩⟩ := hq
        · have hl := (List.getElem?_eq_some_iff.1 h3).1
          have hl' : q.ix < (G.opn ++ [x]).length := hl
          rw [List.length_append] at hl'
          simp only [List.length_singleton] at hl'
          right
          refine ⟨?_, by show q.ix ≤ G.opn.length; omega⟩
          unfold Lg.rank
          rw [h1]; rfl
        · left
          have := (hn _ h2).2.1
          unfold Lg.rank
          rw [h1]
          show rnum G.regs q.rg < G.number + 1
          omega
    · rename_i hne
      obtain ⟨hp, hm⟩ := h.som _ _ hk'
      exact ⟨hH2 _ _ hp, fun q hq => hm q (hH _ _ hne hq)⟩

theorem Cov.shut {C : ByteArray → Prop} {G : Lg} (ho : G.Ok) (hd : (akeys G.keys).Nodup) (hn : Nums G) (h : Cov C G) : Cov C G.shut := by
  have hp := ho.pos
  have hopn : ∀ key q, G.shut.Has key q → q.op = false ∧ ((q.rg = G.next ∧ G.Has key ⟨true, 0, q.ix⟩) ∨ (q.rg ≠ G.next ∧ G.Has key q)) := by
    rintro key q ⟨y, hy, ⟨h1, h2, h3⟩ | ⟨h1, h2, h3⟩⟩
    · have h3' : ([] : List Item)[q.ix]? = some y := h3
      simp at h3'
    · refine ⟨h1, ?_⟩
      rw [rnum_shut G hp] at h2
      rw [rl_shut G hp] at h3
      by_cases hq : q.rg = G.next
      · rw [if_pos hq] at h3
        exact .inl ⟨hq, y, hy, .inl ⟨rfl, rfl, h3⟩⟩
      · rw [if_neg hq] at h2 h3
        exact .inr ⟨hq, y, hy, .inr ⟨h1, h2, h3⟩⟩
  have hrk : ∀ q : Pl, q.op = false → G.shut.rank q = if q.rg = G.next then G.number + 1 else rnum G.regs q.rg := by
    intro q hq
    unfold Lg.rank
    rw [hq, if_neg (by simp), rnum_shut G hp]
  have hrkG : ∀ q : Pl, q.op = false → G.rank q = rnum G.regs q.rg := by
    intro q hq
    unfold Lg.rank
    rw [hq, if_neg (by simp)]
  refine ⟨fun key hk q hq => ?_, fun key p1 hk => ?_⟩
  · rw [shut_get G ho hd] at hk
    obtain ⟨hqo, hq⟩ := hopn key q hq
    cases hg : aget G.keys key with
    | none =>
      rcases hq with ⟨_, hq⟩ | ⟨_, hq⟩
      · exact h.non _ hg _ hq
      · exact h.non _ hg _ hq
    | some p =>
      rw [hg] at hk
      simp only at hk
      split at hk
      · cases hk
      · rename_i hop
        have hop' : p.op = false := by simpa using hop
        split at hk
        · rename_i hrg
          exfalso
          obtain ⟨⟨x, _, hx⟩, hmax⟩ := h.som _ _ hg
          rcases hx with ⟨h1, _⟩ | ⟨_, h2, _⟩
          · rw [hop'] at h1; cases h1
          · have hnm := hn _ h2
            rcases hq with ⟨_, hq⟩ | ⟨hne, hq⟩
            · have := hmax _ hq
              unfold Lg.elder at this
              rw [hrkG p hop'] at this
              have e : G.rank ⟨true, 0, q.ix⟩ = G.number + 1 := rfl
              rw [e] at this
              omega
            · have := hmax _ hq
              unfold Lg.elder at this
              rw [hrkG p hop', hrkG q hqo] at this
              obtain ⟨y, _, hy⟩ := hq
              rcases hy with ⟨h1, _⟩ | ⟨_, h3, _⟩
              · rw [hqo] at h1; cases h1
              · have hnq := hn _ h3
                have h5 : rnum G.regs p.rg % G.regs.length = (G.number + 1) % G.regs.length := by rw [hnm.1, hrg]; rfl
                have h6 := mod_next h5 hnm.2.1 hnm.2.2
                have h7 : rnum G.regs q.rg = rnum G.regs p.rg := by omega
                apply hne
                rw [← hnq.1, h7, hnm.1]
                exact hrg
        · cases hk
  · rw [shut_get G ho hd] at hk
    cases hg : aget G.keys key with
    | none => rw [hg] at hk; cases hk
    | some p =>
      rw [hg] at hk
      simp only at hk
      obtain ⟨⟨x, hxk, hx⟩, hmax⟩ := h.som _ _ hg
      by_cases hop : p.op = true
      · rw [if_pos hop] at hk
        injection hk with hk
        subst hk
        rcases hx with ⟨_, _, hx⟩ | ⟨h1, _⟩
        · refine ⟨⟨x, hxk, .inr ⟨rfl, ?_, ?_⟩⟩, fun q hq => ?_⟩
          · rw [rnum_shut G hp, if_pos rfl]; omega
          · rw [rl_shut G hp, if_pos rfl]; exact hx
          · obtain ⟨hqo, hq⟩ := hopn key q hq
            unfold Lg.elder
            rw [hrk q hqo, hrk _ rfl, if_pos rfl]
            rcases hq with ⟨hr, hq⟩ | ⟨hr, hq⟩
            · rw [if_pos hr]
              right
              refine ⟨rfl, ?_⟩
              have := hmax _ hq
              unfold Lg.elder Lg.rank at this
              rw [hop] at this
              simp only [if_true] at this
              show q.ix ≤ p.ix
              omega
            · rw [if_neg hr]
              left
              obtain ⟨y, _, hy⟩ := hq
              rcases hy with ⟨h1, _⟩ | ⟨_, h3, _⟩
              · rw [hqo] at h1; cases h1
              · have := (hn _ h3).2.1; omega
        · rw [hop] at h1; cases h1
      · rw [if_neg hop] at hk
        have hop' : p.op = false := by simpa using hop
        split at hk
        · cases hk
        · rename_i hrg
          injection hk with hk
          subst hk
          rcases hx with ⟨h1, _⟩ | ⟨_, h2, h3⟩
          · exact absurd h1 hop
          · refine ⟨⟨x, hxk, .inr ⟨hop', ?_, ?_⟩⟩, fun q hq => ?_⟩
            · rw [rnum_shut G hp, if_neg hrg]; exact h2
            · rw [rl_shut G hp, if_neg hrg]; exact h3
            · obtain ⟨hqo, hq⟩ := hopn key q hq
              unfold Lg.elder
              rw [hrk q hqo, hrk _ hop', if_neg hrg]
              rcases hq with ⟨hr, hq⟩ | ⟨hr, hq⟩
              · exfalso
                have := hmax _ hq
                unfold Lg.elder at this
                rw [hrkG p hop'] at this
                have e : G.rank ⟨true, 0, q.ix⟩ = G.number + 1 := rfl
                rw [e] at this
                have := (hn _ h2).2.1
                omega
              · rw [if_neg hr]
                have := hmax _ hq
                unfold Lg.elder at this
                rw [hrkG p hop', hrkG q hqo] at this
                exact this


theorem Cov.drop {C : ByteArray → Prop} {G : Lg} (hd : (akeys G.keys).Nodup) (h : Cov C G) (key : ByteArray) (hc : C key) : Cov C (G.drop key) := by
  refine ⟨fun k hk p hp => ?_, fun k p hk => ?_⟩
  · have hk' : aget (adel G.keys key) k = none := hk
    rw [aget_adel _ hd] at hk'
    split at hk'
    · rename_i e; rw [← e]; exact hc
    · exact h.non k hk' p hp
  · have hk' : aget (adel G.keys key) k = some p := hk
    rw [aget_adel _ hd] at hk'
    split at hk'
    · cases hk'
    · exact h.som k p hk'
/-- what stands somewhere is known by C, or has a place -/
theorem Cov.known {C : ByteArray → Prop} {G : Lg} (h : Cov C G) {key : ByteArray} {p : Pl} (hp : G.Has key p) : C key ∨ G.has key = true := by
  unfold Lg.has
  cases hk : aget G.keys key with
  | none => exact .inl (h.non key hk p hp)
  | some q => exact .inr rfl

/-- a region, as its pages have it -/
def RgIs (P : Nat → Pg) (S : Sealed) : Prop := (S = .no ∧ ∀ k, k < 4 → P k = .blank) ∨ (0 < S.num ∧ S.num < 18446744073709551616 ∧ SealedAt P S.num S.l ∧ goods S.l = true ∧ isum S.l ≤ 1472)
structure Lgs (Q : Item → Prop) (C : ByteArray → Prop) (c : Nat) (G : Lg) (D : Dev) : Prop where
  live : Live G D
  nums : Nums G
  cov : Cov C G
  few : c ≤ 1000000
  num : G.number ≤ c
  q : ∀ (i : Nat) (S : Sealed), G.regs[i]? = some S → ∀ x ∈ S.l, Q x
  qo : ∀ x ∈ G.opn, Q x
  pg : ∀ (i : Nat) (S : Sealed), G.regs[i]? = some S → RgIs (D.rpg G.first i) S
  still : ∀ i, G.first ≤ i → i < G.first + 4 * G.regs.length → D.wt i = none
section
variable {Q Q' : Item → Prop} {C C' : ByteArray → Prop} {c c' : Nat} {G : Lg} {D D' : Dev}
theorem Lgs.mono (h : Lgs Q C c G D) (hq : ∀ x, Q x → Q' x) (hC : ∀ k, C k → C' k) (hc : c ≤ c') (hf : c' ≤ 1000000) : Lgs Q' C' c' G D :=
  ⟨h.live, h.nums, h.cov.mono hC, hf, Nat.le_trans h.num hc, fun i S hS x hx => hq x (h.q i S hS x hx), fun x hx => hq x (h.qo x hx), h.pg, h.still⟩
theorem Lgs.lt (h : Lgs Q C c G D) : G.number + 1 < 18446744073709551616 := by have := h.num; have := h.few; omega
/-- a step elsewhere -/
theorem Lgs.keep (h : Lgs Q C c G D) (hk : Keep (fun i => G.first ≤ i ∧ i < G.first + 4 * G.regs.length) D D') : Lgs Q C c G D' := by
  refine ⟨⟨h.live.ok, h.live.nd, hk.on, by rw [hk.los]; exact h.live.los, by rw [hk.n]; exact h.live.fit⟩, h.nums, h.cov, h.few, h.num, h.q, h.qo, fun i S hS => ?_, fun i h1 h2 => hk.still ⟨h1, h2⟩ (h.still i h1 h2)⟩
  have hlt := (List.getElem?_eq_some_iff.1 hS).1
  have e : ∀ k, k < 4 → D'.rpg G.first i k = D.rpg G.first i k := fun k hk4 => hk.page _ (by show G.first ≤ G.first + 4 * i + k ∧ G.first + 4 * i + k < _; omega)
  rcases h.pg i S hS with ⟨h1, h2⟩ | ⟨h1, h2, h3, h4, h5⟩
  · exact .inl ⟨h1, fun k hk4 => (e k hk4).trans (h2 k hk4)⟩
  · exact .inr ⟨h1, h2, fun k hk4 => (e k hk4).trans (h3 k hk4), h4, h5⟩
theorem Lgs.drop (h : Lgs Q C c G D) (key : ByteArray) (hc : C key) : Lgs Q C c (G.drop key) D :=
  ⟨⟨h.live.ok.drop h.live.nd key, nodup_adel _ _ h.live.nd, h.live.on, h.live.los, h.live.fit⟩, h.nums, h.cov.drop h.live.nd key hc, h.few, h.num, h.q, h.qo, h.pg, h.still⟩
theorem Lgs.add (h : Lgs Q C c G D) {x : Item} (hx : x.good = true) (hs : isum G.opn + x.size ≤ 1472) (hq : Q x) : Lgs Q C c (G.add x) D := by
  obtain ⟨c1, c2⟩ := h.cov.add h.nums x
  refine ⟨⟨h.live.ok.add hx hs, nodup_aset _ _ _ h.live.nd, h.live.on, h.live.los, h.live.fit⟩, c2, c1, h.few, h.num, h.q, fun y hy => ?_, h.pg, h.still⟩
  have hy' : y ∈ G.opn ++ [x] := hy
  rcases List.mem_append.1 hy' with hy' | hy'
  · exact h.qo y hy'
  · rw [List.mem_singleton.1 hy']; exact hq
/-- the open region is sealed -/
theorem Lgs.sl (h : Lgs Q C c G D) (hc : c + 1 ≤ 1000000) : (G.sl D).e = 0 ∧ (G.sl D).G.opn = [] ∧ Lgs Q C (c + 1) (G.sl D).G (G.sl D).D ∧ Keep (fun i => i < G.first ∨ G.first + 4 * G.regs.length ≤ i) D (G.sl D).D ∧
    (G.sl D).G.first = G.first ∧ (G.sl D).G.regs.length = G.regs.length ∧ (G.sl D).G.losses = G.losses ∧ (G.opn = [] → G.sl D = ⟨G, D, [], 0⟩) := by
  have hs := h.live.sl h.lt
  refine ⟨hs.1, sl_opn hs.1, ?_⟩
  by_cases h0 : G.opn = []
  · rw [hs.2.2.1 h0]
    exact ⟨h.mono (fun _ h => h) (fun _ h => h) (Nat.le_succ c) hc, Keep.refl h.live.on, rfl, rfl, rfl, fun _ => rfl⟩
  · have e := hs.2.2.2 h0
    have hw := h.live.wrote
    have hnx := h.live.next
    have hl := hs.2.1
    rw [e] at hl ⊢
    have hf := h.live.fit
    have hwr := h.live.on.wr (base := G.first + 4 * G.next) (n := G.number + 1) (records G.opn) (by omega)
    have hgt : ∀ i, G.shut.regs[i]? = if i = G.next then some ⟨G.number + 1, G.opn⟩ else G.regs[i]? := by
      intro i
      show ((G.regs.set G.next .no).set G.next ⟨G.number + 1, G.opn⟩)[i]? = _
      by_cases hi : i = G.next
      · subst hi; rw [if_pos rfl, List.getElem?_set_self (by simpa using hnx)]
      · rw [if_neg hi, List.getElem?_set_ne (Ne.symm hi), List.getElem?_set_ne (Ne.symm hi)]
    refine ⟨⟨hl, h.nums.shut h.live.ok.pos, h.cov.shut h.live.ok h.live.nd h.nums, hc, Nat.succ_le_succ h.num, fun i S hS x hx => ?_, fun x hx => (by cases hx), fun i S hS => ?_, fun i _ _ => hw.2.2.2.2.2.2 i⟩, ?_, rfl, len_shut G, rfl, fun hh => absurd hh h0⟩
    · rw [hgt] at hS
      split at hS
      · injection hS with hS; subst hS; exact h.qo x hx
      · exact h.q i S hS x hx
    · rw [hgt] at hS
      split at hS
      · rename_i hi
        injection hS with hS
        subst hS
        subst hi
        exact .inr ⟨Nat.succ_pos _, h.lt, hw.2.2.2.2.1, h.live.ok.good, h.live.ok.sum⟩
      · rename_i hi
        have e2 : ∀ k, k < 4 → (G.wrote D).1.rpg G.shut.first i k = D.rpg G.first i k := fun k hk4 => hw.2.2.2.2.2.1 i hi k hk4
        rcases h.pg i S hS with ⟨h1, h2⟩ | ⟨h1, h2, h3, h4, h5⟩
        · exact .inl ⟨h1, fun k hk4 => (e2 k hk4).trans (h2 k hk4)⟩
        · exact .inr ⟨h1, h2, fun k hk4 => (e2 k hk4).trans (h3 k hk4), h4, h5⟩
    · have hpg : ∀ i, (i < G.first ∨ G.first + 4 * G.regs.length ≤ i) → (G.wrote D).1.page i = D.page i := fun i hi => hwr.2.2.2.2.2.1 i (by omega)
      refine ⟨hw.2.2.1, hw.2.1, hw.2.2.2.1, hpg, fun i _ => .inr (hw.2.2.2.2.2.2 i), fun i hi => .inr ?_⟩
      rw [← hpg i hi]
      exact Dev.On.fl_page (hw.2.2.2.2.2.2 i)
/-- a great item is put -/
theorem Lgs.put (h : Lgs Q C c G D) (hc : c + 1 ≤ 1000000) {x : Item} (hf : Lg.fits x = true) (hq : Q x) : (G.put D x).e = 0 ∧ Lgs Q C (c + 1) (G.put D x).G (G.put D x).D ∧ Keep (fun i => i < G.first ∨ G.first + 4 * G.regs.length ≤ i) D (G.put D x).D ∧
    (G.put D x).G.first = G.first ∧ (G.put D x).G.regs.length = G.regs.length ∧ (G.put D x).G.losses = G.losses ∧ (G.put D x).G.view x.key = some x ∧ (∀ key, key ≠ x.key → (G.put D x).G.view key = none ∨ (G.put D x).G.view key = G.view key) := by
  obtain ⟨hg, hsz⟩ := fits_good hf
  unfold Lg.put
  rw [hf]
  simp only [if_true]
  by_cases hs : isum G.opn + x.size ≤ 1472
  · rw [if_pos hs]
    refine ⟨rfl, (h.add hg hs hq).mono (fun _ h => h) (fun _ h => h) (Nat.le_succ c) hc, Keep.refl h.live.on, rfl, rfl, rfl, ?_, fun key hk => ?_⟩
    · show (G.add x).view x.key = some x
      rw [Lg.view_add G h.live.ok, if_pos rfl]
    · right
      show (G.add x).view key = _
      rw [Lg.view_add G h.live.ok, if_neg (Ne.symm hk)]
  · rw [if_neg hs]
    obtain ⟨q1, q2, q3, q4, q5, q6, q7, _⟩ := h.sl hc
    rw [if_pos q1]
    refine ⟨rfl, q3.add hg (by rw [q2]; simpa [isum] using hsz) hq, q4, q5, q6, q7, ?_, fun key hk => ?_⟩
    · show ((G.sl D).G.add x).view x.key = some x
      rw [Lg.view_add _ q3.live.ok, if_pos rfl]
    · show ((G.sl D).G.add x).view key = none ∨ ((G.sl D).G.add x).view key = G.view key
      rw [Lg.view_add _ q3.live.ok, if_neg (Ne.symm hk)]
      have hsl := h.live.sl h.lt
      by_cases h0 : G.opn = []
      · rw [hsl.2.2.1 h0]; exact .inr rfl
      · rw [hsl.2.2.2 h0]
        show G.shut.view key = none ∨ G.shut.view key = _
        rw [Lg.view_shut G h.live.ok h.live.nd]
        split
        · exact .inl rfl
        · exact .inr rfl
end
end Go.Proofs.YtplpbbdakihnfaaGreat
end

/- An engine's journal, in plain Lean: its marks, as they stand on its pages. -/
section
namespace Go.Proofs.YtplpbbdakihnfaaGreat
open Go.RowKit
set_option linter.unusedSimpArgs false
set_option linter.unusedVariables false

def mkOk (l : List Mk) : Prop := l.length ≤ 23 ∧ ∀ m ∈ l, m.1 < 18446744073709551616 ∧ m.2 < 18446744073709551616
structure Jns (J : Jn) (D : Dev) : Prop where
  used : J.used ≤ J.pages
  gen : J.gen < 18446744073709551616
  pg : ∃ ls : List (List Mk), ls.length = J.used ∧ J.marks = note [] ls.flatten ∧ ∀ (i : Nat) (l : List Mk), ls[i]? = some l → D.page (J.first + i) = .full (Dev.pad (jnPage J.gen l)) ∧ mkOk l
  rest : ∀ i, J.used ≤ i → i < J.pages → D.page (J.first + i) = .blank ∨ ∃ (g' : Nat) (l' : List Mk), D.page (J.first + i) = .full (Dev.pad (jnPage g' l')) ∧ g' < J.gen ∧ mkOk l'
  still : ∀ i, J.first ≤ i → i < J.first + J.pages → D.wt i = none
section
variable {J : Jn} {D D' : Dev}
theorem Jns.keep (h : Jns J D) (hk : Keep (fun i => J.first ≤ i ∧ i < J.first + J.pages) D D') : Jns J D' := by
  refine ⟨h.used, h.gen, ?_, fun i h1 h2 => ?_, fun i h1 h2 => hk.still ⟨h1, h2⟩ (h.still i h1 h2)⟩
  · obtain ⟨ls, q1, q2, q3⟩ := h.pg
    refine ⟨ls, q1, q2, fun i l hi => ?_⟩
    have hlt := (List.getElem?_eq_some_iff.1 hi).1
    have := h.used
    rw [hk.page _ ⟨by omega, by omega⟩]
    exact q3 i l hi
  · rw [hk.page _ ⟨by omega, by omega⟩]; exact h.rest i h1 h2
theorem Jns.lose (h : Jns J D) (a : Int) : Jns { J with losses := a } D := ⟨h.used, h.gen, h.pg, h.rest, h.still⟩
/-- it begins anew, in a later generation -/
theorem Jns.begun (h : Jns J D) {gen : Nat} (hg : J.gen < gen) (hl : gen < 18446744073709551616) : Jns (J.begun gen) D := by
  refine ⟨Nat.zero_le _, hl, ⟨[], rfl, rfl, fun i l hi => by cases hi⟩, fun i _ h2 => ?_, h.still⟩
  have h2' : i < J.pages := h2
  by_cases hu : J.used ≤ i
  · rcases h.rest i hu h2' with e | ⟨g', l', e1, e2, e3⟩
    · exact .inl e
    · exact .inr ⟨g', l', e1, Nat.lt_trans e2 hg, e3⟩
  · obtain ⟨ls, q1, q2, q3⟩ := h.pg
    have hlt : i < ls.length := by omega
    obtain ⟨e1, e2⟩ := q3 i _ (List.getElem?_eq_getElem hlt)
    exact .inr ⟨J.gen, _, e1, hg, e2⟩
/-- marks are added -/
theorem Jns.add (h : Jns J D) (ho : D.On) (hls : J.losses = D.losses) (hf : J.first + J.pages ≤ D.n) {l : List Mk} (hl : mkOk l) :
    (J.addE D l = 0 ∧ J.used < J.pages ∧ J.addJ D l = { J with used := J.used + 1, marks := note J.marks l } ∧ Jns (J.addJ D l) (J.addD D l) ∧ Keep (fun i => i ≠ J.first + J.used) D (J.addD D l)) ∨
    (J.addE D l = 7 ∧ J.used = J.pages ∧ J.addJ D l = J ∧ J.addD D l = D) := by
  by_cases hr : J.room = 0
  · right
    refine ⟨by unfold Jn.addE; rw [if_neg (by simp [hls]), if_pos hr], by unfold Jn.room at hr; have := h.used; omega, by unfold Jn.addJ; rw [if_pos (.inr (.inl hr))], by unfold Jn.addD; rw [if_pos (.inr hr)]⟩
  · left
    have hlt : J.used < J.pages := by unfold Jn.room at hr; omega
    have hst := Keep.store (A := fun i => i ≠ J.first + J.used) ho (k := J.first + J.used) (by omega) (b := jnPage J.gen l) (jnPage_le J.gen l hl.1) (fun i hi => hi)
    have eW : J.wD D l = D.write ((J.first + J.used : Nat) : Int) (jnPage J.gen l) := rfl
    have e1 : J.addE D l = 0 := by unfold Jn.addE; rw [if_neg (by simp [hls]), if_neg hr, if_neg (by rw [hst.2.2.1]; simp), eW]; exact hst.2.1
    have e2 : J.addJ D l = { J with used := J.used + 1, marks := note J.marks l } := by
      unfold Jn.addJ
      rw [if_neg (fun h9 => h9.elim (fun h1 => h1 hls) (fun h9 => h9.elim hr (fun h1 => h1 hst.2.2.1))), eW, if_neg (by rw [hst.2.1]; simp)]
    have e3 : J.addD D l = (D.write ((J.first + J.used : Nat) : Int) (jnPage J.gen l)).flush := by
      unfold Jn.addD
      rw [if_neg (fun h9 => h9.elim (fun h1 => h1 hls) hr), if_neg (by rw [hst.2.2.1]; simp), eW]
    refine ⟨e1, hlt, e2, ?_, by rw [e3]; exact hst.1⟩
    rw [e2, e3]
    have hp := hst.2.2.2.1
    refine ⟨hlt, h.gen, ?_, fun i h1 h2 => ?_, fun i _ _ => hst.2.2.2.2 i⟩
    · obtain ⟨ls, q1, q2, q3⟩ := h.pg
      refine ⟨ls ++ [l], by rw [List.length_append, q1]; rfl, by rw [List.flatten_append, note_append, ← q2]; simp, fun i l' hi => ?_⟩
      show (D.write ((J.first + J.used : Nat) : Int) (jnPage J.gen l)).flush.page (J.first + i) = _ ∧ _
      rw [hp]
      by_cases hiu : i < ls.length
      · rw [List.getElem?_append_left hiu] at hi
        rw [if_neg (by omega)]
        exact q3 i l' hi
      · rw [List.getElem?_append_right (by omega)] at hi
        have e0 : i - ls.length = 0 := by
          by_cases h9 : i - ls.length = 0
          · exact h9
          · rw [List.getElem?_eq_none (by simp; omega)] at hi; cases hi
        rw [e0] at hi
        injection hi with hi
        subst hi
        rw [if_pos (by omega)]
        exact ⟨rfl, hl⟩
    · show (D.write ((J.first + J.used : Nat) : Int) (jnPage J.gen l)).flush.page (J.first + i) = _ ∨ _
      have h1' : J.used + 1 ≤ i := h1
      rw [hp, if_neg (by omega)]
      exact h.rest i (by omega) h2
theorem jnRead_other {g g' : Nat} {l : List Mk} (hg : g' < 18446744073709551616) (hl : mkOk l) (hne : g' ≠ g) (z : List UInt8) : jnRead (jnPage g' l ++ z) g = none := by
  have h := jnRead_page g' l hg hl.1 hl.2 z
  unfold jnRead at h ⊢
  have hf : jnForm (jnPage g' l ++ z) g' = true := by
    cases h1 : jnForm (jnPage g' l ++ z) g' with
    | true => rfl
    | false => rw [h1] at h; cases h
  have hn : num (cut (jnPage g' l ++ z) 8 16) = g' := by
    unfold jnForm at hf
    simp only [Bool.and_eq_true, decide_eq_true_eq] at hf
    exact hf.2.2
  have hff : jnForm (jnPage g' l ++ z) g = false := by
    unfold jnForm
    rw [hn, decide_eq_false hne]
    simp
  rw [hff]; rfl
/-- opened anew it is as it was -/
theorem Jns.opened (h : Jns J D) (ho : D.On) (hf : J.first + J.pages ≤ D.n) : Jn.opened D J.first J.pages J.gen = { J with losses := D.losses } := by
  obtain ⟨ls, q1, q2, q3⟩ := h.pg
  have hgo : ∀ (f u : Nat), u + f = J.pages → u ≤ J.used → jnGo D J.first J.gen f u (note [] (ls.take u).flatten) = (J.used, J.marks) := by
    intro f
    induction f with
    | zero =>
      intro u hu hle
      have e : u = J.used := by have := h.used; omega
      subst e
      rw [jnGo, q2, List.take_of_length_le (by omega)]
    | succ f ih =>
      intro u hu hle
      have hr := ho.reads (i := J.first + u) (by omega)
      rw [jnGo, hr.1, hr.2]
      by_cases hlt : u < J.used
      · have hg := List.getElem?_eq_getElem (l := ls) (i := u) (by omega)
        obtain ⟨e1, e2⟩ := q3 u _ hg
        rw [e1]
        have e3 : jnRead (Pg.full (Dev.pad (jnPage J.gen ls[u]))).data J.gen = some ls[u] := jnRead_page J.gen _ h.gen e2.1 e2.2 _
        rw [if_neg (by simp [Pg.err]), if_pos (by rfl), e3]
        simp only
        have e4 : note (note [] (ls.take u).flatten) ls[u] = note [] (ls.take (u + 1)).flatten := by
          rw [List.take_add_one, hg, Option.toList, List.flatten_append, note_append]
          simp
        rw [e4]
        exact ih (u + 1) (by omega) (by omega)
      · have e : u = J.used := by omega
        subst e
        have em : note [] (ls.take J.used).flatten = J.marks := by rw [q2, List.take_of_length_le (by omega)]
        rw [em]
        rcases h.rest J.used (Nat.le_refl _) (by omega) with e1 | ⟨g', l', e1, e2, e3⟩
        · rw [e1, if_pos (by rfl)]
        · rw [e1, if_neg (by simp [Pg.err]), if_pos (by rfl)]
          have e4 : jnRead (Pg.full (Dev.pad (jnPage g' l'))).data J.gen = none := jnRead_other (by have := h.gen; omega) e3 (by omega) _
          rw [e4]
  have h0 := hgo J.pages 0 (by omega) (Nat.zero_le _)
  simp only [List.take_zero, List.flatten_nil] at h0
  have h0' : jnGo D J.first J.gen J.pages 0 [] = (J.used, J.marks) := h0
  unfold Jn.opened
  rw [h0']
theorem note1_grow (ms : Marks) (m : Mk) {k : Int} {w : Nat} (h : aget ms k = some w) : ∃ w', aget (note1 ms m) k = some w' ∧ w ≤ w' := by
  rw [note1_get, h]
  split
  · exact ⟨_, rfl, Nat.le_max_left _ _⟩
  · exact ⟨w, rfl, Nat.le_refl _⟩
theorem note_grow (l : List Mk) : ∀ (ms : Marks) {k : Int} {w : Nat}, aget ms k = some w → ∃ w', aget (note ms l) k = some w' ∧ w ≤ w' := by
  induction l with
  | nil => intro ms k w h; exact ⟨w, h, Nat.le_refl _⟩
  | cons m r ih =>
    intro ms k w h
    obtain ⟨w1, h1, h2⟩ := note1_grow ms m h
    obtain ⟨w2, h3, h4⟩ := ih (note1 ms m) h1
    exact ⟨w2, h3, Nat.le_trans h2 h4⟩
theorem note_gone (l : List Mk) : ∀ (ms : Marks) {k v : Nat}, (k, v) ∈ l → ∃ w, aget (note ms l) (k : Int) = some w ∧ v ≤ w := by
  induction l with
  | nil => intro ms k v h; cases h
  | cons m r ih =>
    intro ms k v h
    rcases List.mem_cons.1 h with e | h
    · subst e
      have h1 : ∃ w, aget (note1 ms (k, v)) (k : Int) = some w ∧ v ≤ w := by
        rw [note1_get, if_pos rfl]
        cases aget ms (k : Int) with
        | none => exact ⟨v, rfl, Nat.le_refl _⟩
        | some a => exact ⟨_, rfl, Nat.le_max_right _ _⟩
      obtain ⟨w, h2, h3⟩ := h1
      obtain ⟨w', h4, h5⟩ := note_grow r _ h2
      exact ⟨w', h4, Nat.le_trans h3 h5⟩
    · exact ih _ h
/-- marks that were added; what was gone stays so -/
theorem gone_note {J : Jn} {l : List Mk} {k v ver : Nat} (h : (k, v) ∈ l) (hv : ver ≤ v) : ({ J with marks := note J.marks l } : Jn).gone k ver = true := by
  obtain ⟨w, h1, h2⟩ := note_gone l J.marks h
  unfold Jn.gone
  simp only
  rw [h1]
  simp only [decide_eq_true_eq]
  omega
theorem gone_grow {J : Jn} {l : List Mk} {k ver : Nat} (h : J.gone k ver = true) : ({ J with marks := note J.marks l } : Jn).gone k ver = true := by
  unfold Jn.gone at h ⊢
  cases hk : aget J.marks (k : Int) with
  | none => rw [hk] at h; cases h
  | some w =>
    rw [hk] at h
    simp only [decide_eq_true_eq] at h
    obtain ⟨w', h1, h2⟩ := note_grow l J.marks hk
    simp only
    rw [h1]
    simp only [decide_eq_true_eq]
    omega
end
end Go.Proofs.YtplpbbdakihnfaaGreat
end
