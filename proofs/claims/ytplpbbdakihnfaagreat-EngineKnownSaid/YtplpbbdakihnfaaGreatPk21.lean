/- Packed texts: EngD, EngE, EngG, EngJ. -/
import Derived.Test.YtplpbbdakihnfaaGreatPk20
import Derived.Test.YtplpbbdakihnfaaGreatPk11
import Derived.Test.YtplpbbdakihnfaaGreatPk09
import Derived.Test.YtplpbbdakihnfaaGreatPk03

/- The engine's Settle, walked. -/
section
namespace Go.Proofs.YtplpbbdakihnfaaGreat
open Go.RowKit
open Go.ChangeMaps (setBlock)
attribute [local go_sem ↓] Go.wp_at_zero Go.wp_at_succ
set_option linter.unusedSimpArgs false
set_option linter.unusedVariables false

namespace Eng
/-- what is not written yet is written -/
def stlE (X : Eng) (D : Dev) : Int := if (X.G.sl D).e = 0 then (X.G.sl D).D.changeE else (X.G.sl D).e
def stlD (X : Eng) (D : Dev) : Dev := if (X.G.sl D).e = 0 then (X.G.sl D).D.flush else (X.G.sl D).D
def stlX (X : Eng) (D : Dev) : Eng := { X with G := (X.G.sl D).G }
end Eng
section
variable {N : Nat} {S : Nat → Prop} {w w' : World} {h : DevH} {t : EngH} {X : Eng} {D : Dev}
theorem JnAt.not_foot {tj : JnH} {J : Jn} (hj : JnAt w h tj J) (hd : DevN N w h D) (k : Nat) (hk : tj.own k) : ¬ h.foot k := by
  rcases hk with rfl | rfl
  · exact hd.not_foot hj.box (by decide) (by decide)
  · rintro (hk | hk | hk)
    · obtain ⟨a, b, c, e, hb⟩ := hd.box
      exact hj.map.ne_blk hb hk
    · obtain ⟨ps, hb, _⟩ := hd.row
      exact hj.map.ne_blk hb hk
    · exact hj.far hk
/-- the log did something -/
theorem EngAt.log {R : LgR} {v : Value} {g' : LgH} (he : EngAt w h t X) (hd : DevN N w h D) (hp : LgPost w h t.g R v g' w') : EngAt w' h { t with g := g' } { X with G := R.G } := by
  have hnf : ∀ k, t.g.spot k → t.g.own k := fun k hk => he.lg.spot_own hk
  refine { box := ?_, jn := ?_, sto := ?_, lg := hp.log, jg := ?_, sg := ?_, eg := ?_, blk := he.blk, last := he.last, jfit := he.jfit, pos := he.pos }
  · have h1 := he.box.chg hp.chg (by
      rintro (hk | hk)
      · exact hd.not_foot he.box (by decide) (by decide) hk
      · exact he.eg (hnf _ hk))
    have e : engBox h { t with g := g' } { X with G := R.G } = engBox h t X := by unfold engBox; simp only; rw [hp.L]
    rw [e]
    exact h1
  · refine he.jn.chg hp.chg (fun k hk => ?_)
    rintro (h1 | h1)
    · exact he.jn.not_foot hd k hk h1
    · exact he.jg k hk (hnf _ h1)
  · refine he.sto.chg hp.chg (fun g cs T hT hb => ?_)
    rintro (h1 | h1)
    · exact hd.not_foot hb (by rcases hT with rfl | rfl | rfl | rfl <;> decide) (by rcases hT with rfl | rfl | rfl | rfl <;> decide) h1
    · have h2 := he.lg.spot_ty g h1 cs T hb
      rcases hT with rfl | rfl | rfl | rfl <;> rcases h2 with h2 | h2 | h2 <;> exact absurd h2 (by decide)
  · intro k hk h1
    rcases hp.own k h1 with h2 | h2
    · exact he.jg k hk h2
    · have := he.jn.lt hk; omega
  · intro p hpp h1
    obtain ⟨cs, hb⟩ := he.sto.bits_ty hpp
    have hlt := hb.lt
    rcases hp.own _ h1 with h2 | h2
    · exact he.sg p hpp h2
    · omega
  · intro h1
    have hlt := he.box.lt
    rcases hp.own _ h1 with h2 | h2
    · exact he.eg h2
    · have h3 : w.heap.size ≤ t.E := h2
      omega
set_option maxRecDepth 100000 in
set_option maxHeartbeats 4000000 in
theorem esettle_calls (hd : DevAt w h D) (he : EngAt w h t X) (hoff : D.off = false) (hls : X.losses = D.losses) :
    Calls Tryz.prog 28 #[.pointer (some ⟨t.E, 0, none⟩)] w fun e w' => ∃ g', e = .returned (.int .i64 (X.stlE D)) ∧ (EngAt w' h { t with g := g' } (X.stlX D) ∧ ∀ k, g'.own k → t.g.own k ∨ w.heap.size ≤ k) ∧ DevAt w' h (X.stlD D) ∧ Chg (fun k => h.foot k ∨ t.g.spot k) w w' := by
  have HDN := fun W => Lib.hid (fun hc : Chg No w W => edone_calls (hd.chgNo hc) (he.chgNo hc) hoff)
  rw [show decide (X.losses ≠ D.losses) = false from decide_eq_false (by simp [hls])] at HDN
  have HSL := fun W => Lib.hid (fun hc : Chg No w W => seal_calls ((show DevN w.heap.size w h D from hd).chgNo hc) (he.chgNo hc).lg)
  have HE := Lib.hid he
  have HD := Lib.hid hd
  have c12 := he.box.cell 12
  have c0 := he.box.cell 0
  simp [engBox] at c12 c0
  obtain ⟨R, hR⟩ : ∃ R, R = X.G.sl D := ⟨_, rfl⟩
  obtain ⟨e0, he0⟩ : ∃ e0, e0 = R.e := ⟨_, rfl⟩
  have HRE := Lib.hid he0
  have hE : X.stlE D = if e0 = 0 then R.D.changeE else e0 := by unfold Eng.stlE; rw [← hR, ← he0]
  have hDD : X.stlD D = if e0 = 0 then R.D.flush else R.D := by unfold Eng.stlD; rw [← hR, ← he0]
  have hX : X.stlX D = { X with G := R.G } := by unfold Eng.stlX; rw [← hR]
  obtain ⟨eE, heE⟩ : ∃ eE, eE = X.stlE D := ⟨_, rfl⟩
  obtain ⟨eD, heD⟩ : ∃ eD, eD = X.stlD D := ⟨_, rfl⟩
  rw [← heE] at hE
  rw [← heD] at hDD
  have HE1 := Lib.hid hE
  have HE2 := Lib.hid hDD
  rw [hX, ← heE, ← heD]
  rw [← hR, ← he0] at HSL
  clear hd he hoff hls hR he0 hE hDD hX heE heD
  go_enter Tryz.func28, Tryz.ntmps28
  go_wp2_with fail
  refine ((HDN _).out (by (repeat (first | (with_reducible exact Chg.refl _ _) | (with_reducible assumption) | (with_reducible refine Chg.drewN ?_ _) | (with_reducible refine Chg.drew ?_) | (with_reducible refine Chg.alloc ?_ _) | (with_reducible refine Chg.setCell ?_ (by first | (left; simp [DevH.foot]; done) | (right; simp; done) | (right; simp; omega)) _))))).mono ?_
  rintro e w1 ⟨rfl, n1, hw1⟩
  have HC1 : Hid (Chg No w w1) := by show Chg No w w1; rw [hw1]; exact (Chg.refl No w).drewN n1
  have c12 := HC1.out.cellNo c12
  have c0 := HC1.out.cellNo c0
  clear hw1
  go_wp2_with fail
  refine ((HSL _).out HC1.out).mono ?_
  rintro e w2 ⟨v, g', rfl, hp⟩
  have HE3 := Lib.hid ((HE.out.chgNo HC1.out).log ((show DevN w.heap.size w h D from HD.out).chgNo HC1.out) hp)
  have HD3 := Lib.hid hp.dev
  have HOW : Hid (∀ k, g'.own k → t.g.own k ∨ w.heap.size ≤ k) := fun k hk => (hp.own k hk).imp id (Nat.le_trans HC1.out.size)
  have HC3 : Hid (Chg (fun k => h.foot k ∨ t.g.spot k) w w2) := (HC1.out.mono (fun _ _ h => h.elim)).trans hp.chg
  have d0 := HE3.out.box.cell 0
  simp [engBox] at d0
  clear hp
  by_cases hz : e0 = 0
  · have HEE : Hid (eE = R.D.changeE) := by show _ = _; rw [HE1.out, if_pos hz]
    have HED : Hid (eD = R.D.flush) := by show _ = _; rw [HE2.out, if_pos hz]
    clear HE1 HE2
    subst hz
    have HFL := Lib.hid (flush_calls (show DevN w2.heap.size w2 h R.D from HD3.out))
    go_wp2_with fail
    refine HFL.out.mono ?_
    rintro e w3 ⟨rfl, hd4, hc4⟩
    have HE4 := Lib.hid (HE3.out.foot (show DevN w2.heap.size w2 h R.D from HD3.out) hc4)
    have HD4 := Lib.hid hd4
    have HC4 : Hid (Chg (fun k => h.foot k ∨ t.g.spot k) w w3) := HC3.out.then hc4 (fun k _ hk => .inl hk)
    clear hd4 hc4
    go_wp2_with fail
    go_ret
    exact ⟨g', by rw [HEE.out]; rfl, ⟨HE4.out, HOW.out⟩, by rw [HED.out]; exact HD4.out, HC4.out⟩
  · have HEE : Hid (eE = e0) := by show _ = _; rw [HE1.out, if_neg hz]
    have HED : Hid (eD = R.D) := by show _ = _; rw [HE2.out, if_neg hz]
    clear HE1 HE2
    have hzn : (e0 != 0) = true := by simp [hz]
    go_wp2_with fail
    go_ret
    exact ⟨g', by rw [HEE.out]; rfl, ⟨HE3.out, HOW.out⟩, by rw [HED.out]; exact HD3.out, HC3.out⟩
end
end Go.Proofs.YtplpbbdakihnfaaGreat
end

/- The engine's Wipe, walked. -/
section
namespace Go.Proofs.YtplpbbdakihnfaaGreat
open Go.RowKit
open Go.ChangeMaps (setBlock)
attribute [local go_sem ↓] Go.wp_at_zero Go.wp_at_succ
set_option linter.unusedSimpArgs false
set_option linter.unusedVariables false

def Jn.begun (J : Jn) (gen : Nat) : Jn := { J with gen := gen, used := 0, marks := [] }
namespace Eng
def wB (X : Eng) : Sb := { X.blk with horizon := X.last, gen := X.blk.gen + 1 }
/-- all is let go -/
def wipeE (X : Eng) (D : Dev) : Int := D.stE X.wB
def wipeX (X : Eng) (D : Dev) : Eng := if D.stE X.wB = 0 then { X.set D X.wB with J := X.J.begun (X.blk.gen + 1) } else X
end Eng
section
variable {N : Nat} {S : Nat → Prop} {w w' : World} {h : DevH} {t : EngH} {X : Eng} {D : Dev}
theorem set_J (X : Eng) (D : Dev) (b : Sb) : (X.set D b).J = X.J := by unfold Eng.set; split <;> rfl
/-- the journal began anew -/
theorem EngAt.begun {gen M' : Nat} (he : EngAt w h t X) (hd : DevN N w h D) (hg : gen < 18446744073709551616)
    (hb : Blk w' t.j.J tJn #[.pointer (some ⟨h.d, 0, none⟩), .int .i64 X.J.losses, .int .i64 X.J.first, .int .i64 X.J.pages, .int .u64 gen, .int .i64 0, .map (some M')]) (hm : MapIs ukey w' M' (jes [])) (hM : w.heap.size ≤ M')
    (hc : Chg (fun k => k = t.j.J) w w') : EngAt w' h { t with j := ⟨t.j.J, M'⟩ } { X with J := X.J.begun gen } ∧ DevN N w' h D := by
  have hjb := he.jn.box
  have hne : ∀ {g' : Nat} {T' : TypeId} {cs' : Array Value}, Blk w g' T' cs' → tJn ≠ T' → ¬ g' = t.j.J := by
    intro g' T' cs' hb' hT e
    subst e
    unfold Blk at hjb hb'
    rw [hjb] at hb'
    injection hb' with hb'
    injection hb' with _ hb'
    exact hT hb'
  refine ⟨{ box := ?_, jn := ⟨hb, hm, he.jn.fit, Nat.zero_le _, hg, ?_⟩, sto := ?_, lg := ?_, jg := ?_, sg := he.sg, eg := he.eg, blk := he.blk, last := he.last, jfit := he.jfit, pos := he.pos }, dev_one hd hjb hc (by decide) (by decide) (by decide) (by decide)⟩
  · exact he.box.chg hc (hne he.box (by decide))
  · intro e
    have h1 : h.foot M' := .inr (.inr e)
    have := foot_size hd h1
    omega
  · refine he.sto.chg hc (fun g' cs' T' hT hb' => ?_)
    rcases hT with rfl | rfl | rfl | rfl <;> exact hne hb' (by decide)
  · exact he.lg.chg hc (fun k hk e => he.jg k (.inl e) hk)
  · intro k hk h1
    rcases hk with e | e
    · exact he.jg k (.inl e) h1
    · have := he.lg.lt k h1
      have e2 : k = M' := e
      omega
set_option maxRecDepth 100000 in
set_option maxHeartbeats 4000000 in
theorem ewipe_calls (hd : DevAt w h D) (he : EngAt w h t X) (hoff : D.off = false) (hn : 2 ≤ D.n) (hq : D.sload.seq + 1 < 18446744073709551616) (hls : X.losses = D.losses) (hge : X.blk.gen + 1 < 18446744073709551616) :
    Calls Tryz.prog 26 #[.pointer (some ⟨t.E, 0, none⟩)] w fun e w' => ∃ M', e = .returned (.int .i64 (X.wipeE D)) ∧ EngAt w' h { t with j := ⟨t.j.J, M'⟩ } (X.wipeX D) ∧ DevAt w' h (D.stD X.wB) ∧ Chg (fun k => h.foot k ∨ k = t.E ∨ t.j.own k) w w' ∧ (M' = t.j.M ∨ w.heap.size ≤ M') := by
  have HE := Lib.hid he
  have HD := Lib.hid hd
  have HB := Lib.hid he.box
  have hbo := he.blk
  have hla := he.last
  have hvo : X.wB.Ok := ⟨hbo.seq, hbo.epoch, hbo.reserved, hla, hge, hbo.image⟩
  have HST := fun W => Lib.hid (fun (hd : DevAt W h D) (he : EngAt W h t X) => eset_calls hd he hoff hn X.wB hvo hq hls)
  have gw : IntKind.u64.wrap ((X.blk.gen : Int) + 1) = (X.blk.gen : Int) + 1 := IntWalk.u64_in _ (by omega)
  have hgl : X.blk.gen < 18446744073709551616 := by omega
  clear hd he hoff hn hq hls hbo hvo
  obtain ⟨XV, hXV⟩ : ∃ XV, XV = X.wipeX D := ⟨_, rfl⟩
  obtain ⟨e0, he0⟩ : ∃ e0, e0 = D.stE X.wB := ⟨_, rfl⟩
  obtain ⟨D2, hD2⟩ : ∃ D2, D2 = D.stD X.wB := ⟨_, rfl⟩
  obtain ⟨X2, hX2⟩ : ∃ X2, X2 = X.set D X.wB := ⟨_, rfl⟩
  have HJ2 : Hid (X2.J = X.J) := by show X2.J = _; rw [hX2]; exact set_J _ _ _
  have HX1 : Hid (e0 = 0 → XV = { X2 with J := X.J.begun (X.blk.gen + 1) }) := fun hz => by
    rw [hXV, hX2]; unfold Eng.wipeX; rw [← he0, if_pos hz]
  have HX2 : Hid (e0 ≠ 0 → XV = X ∧ X2 = X) := fun hz => by
    rw [hXV, hX2]; unfold Eng.wipeX Eng.set; rw [← he0, if_neg hz, if_neg hz]; exact ⟨rfl, rfl⟩
  rw [← hXV, ← hD2, show X.wipeE D = e0 from he0.symm]
  rw [← he0, ← hX2, ← hD2] at HST
  have hvb : sbV X.wB = .agg #[.int .u64 X.blk.seq, .int .u64 X.blk.epoch, .int .u64 X.blk.reserved, .int .u64 X.last, .int .u64 ((X.blk.gen : Int) + 1), .bool X.blk.clean, .int .i64 X.blk.image] := by
    rw [sbV_eq, show ((X.wB.gen : Nat) : Int) = (X.blk.gen : Int) + 1 from by show (((X.blk.gen + 1 : Nat)) : Int) = _; omega]
    rfl
  simp only [hvb] at HST
  clear hXV he0 hD2 hX2 hvb
  have e2 := HB.out.cell 2
  have e3 := HB.out.cell 3
  have e4 := HB.out.cell 4
  have e5 := HB.out.cell 5
  have e6 := HB.out.cell 6
  have e7 := HB.out.cell 7
  have e8 := HB.out.cell 8
  have e9 := HB.out.cell 9
  have e10 := HB.out.cell 10
  simp [engBox] at e2 e3 e4 e5 e6 e7 e8 e9 e10
  have xlt := HB.out.lt
  have HZ := Lib.hid (Blk.new w tSb #[.int .u64 0, .int .u64 0, .int .u64 0, .int .u64 0, .int .u64 0, .bool false, .int .i64 0])
  have z0 := HZ.out.cell 0
  have z1 := HZ.out.cell 1
  have z2 := HZ.out.cell 2
  have z3 := HZ.out.cell 3
  have z4 := HZ.out.cell 4
  have z5 := HZ.out.cell 5
  have z6 := HZ.out.cell 6
  have g0 := HZ.out.frozen 0
  have g1 := HZ.out.frozen 1
  have g2 := HZ.out.frozen 2
  have g3 := HZ.out.frozen 3
  have g4 := HZ.out.frozen 4
  have g5 := HZ.out.frozen 5
  have g6 := HZ.out.frozen 6
  simp only [List.getElem?_toArray, List.getElem?_cons_zero, List.getElem?_cons_succ] at z0 z1 z2 z3 z4 z5 z6
  go_enter Tryz.func26, Tryz.ntmps26
  go_wp2_with fail
  obtain ⟨w1, hw1⟩ : ∃ w1, w1 = w.alloc (.cells #[.int .u64 X.blk.seq, .int .u64 X.blk.epoch, .int .u64 X.blk.reserved, .int .u64 X.blk.horizon, .int .u64 X.blk.gen, .bool X.blk.clean, .int .i64 X.blk.image] tSb) := ⟨_, rfl⟩
  change Code.wp _ _ _ _ (w.alloc (.cells #[.int .u64 X.blk.seq, .int .u64 X.blk.epoch, .int .u64 X.blk.reserved, .int .u64 X.blk.horizon, .int .u64 X.blk.gen, .bool X.blk.clean, .int .i64 X.blk.image] tSb))
  rw [← hw1]
  have HC1 : Hid (Chg No w w1) := by show Chg No w w1; rw [hw1]; exact (Chg.refl No w).alloc _
  have HX1b : Hid (Blk w1 w.heap.size tSb #[.int .u64 X.blk.seq, .int .u64 X.blk.epoch, .int .u64 X.blk.reserved, .int .u64 X.blk.horizon, .int .u64 X.blk.gen, .bool X.blk.clean, .int .i64 X.blk.image]) := by show Blk _ _ _ _; rw [hw1]; exact Blk.new w tSb _
  clear hw1 HZ z0 z1 z2 z3 z4 z5 z6 g0 g1 g2 g3 g4 g5 g6 e2 e3 e4 e5 e6 e7 e8
  have e9 := HC1.out.cellNo e9
  have e10 := HC1.out.cellNo e10
  have z3 := HX1b.out.cell 3
  have z4 := HX1b.out.cell 4
  have g3 := HX1b.out.frozen 3
  have g4 := HX1b.out.frozen 4
  simp at z3 z4
  have xne : ¬ w.heap.size = t.E := by omega
  have xne2 : ¬ t.E = w.heap.size := by omega
  go_region_with (fail)
  all_goals
    obtain ⟨w2, hw2⟩ : ∃ w2, w2 = (((w1.setCell ⟨w.heap.size, 3, none⟩ (.int .u64 X.last)).setCell ⟨w.heap.size, 4, none⟩ (.int .u64 ((X.blk.gen : Int) + 1)))).drew := ⟨_, rfl⟩
    change Exit.then _ _ _ _ (World.drew ((w1.setCell ⟨w.heap.size, 3, none⟩ (.int .u64 X.last)).setCell ⟨w.heap.size, 4, none⟩ (.int .u64 ((X.blk.gen : Int) + 1))))
    rw [← hw2]
    have HX2b : Hid (Blk w2 w.heap.size tSb #[.int .u64 X.blk.seq, .int .u64 X.blk.epoch, .int .u64 X.blk.reserved, .int .u64 X.last, .int .u64 ((X.blk.gen : Int) + 1), .bool X.blk.clean, .int .i64 X.blk.image]) := by
      show Blk _ _ _ _
      rw [hw2]
      have := (HX1b.out.set_ 3 (.int .u64 X.last)).set_ 4 (.int .u64 ((X.blk.gen : Int) + 1))
      refine Blk.drew ?_
      simpa using this
    have hcs : Chg (fun k => k = w.heap.size) w1 w2 := by
      rw [hw2]
      exact (Chg.setCell (chg_setCell w1 ⟨w.heap.size, 3, none⟩ _) (p := ⟨w.heap.size, 4, none⟩) (.inl rfl) _).drew
    have HE2 := Lib.hid ((HE.out.chgNo HC1.out).other HX1b.out (by decide) (by decide) (by decide) (by decide) (by decide) (by decide) (fun ho => by have := HE.out.lg.lt _ ho; omega) hcs)
    have HD2 : Hid (DevAt w2 h D) := (dev_one ((show DevN w.heap.size w h D from HD.out).chgNo HC1.out) HX1b.out hcs (by decide) (by decide) (by decide) (by decide)).at_
    have HC2 : Hid (Chg No w w2) := HC1.out.then hcs (fun i hi e => by omega)
    clear hw2 hcs HX1b HC1 z3 z4 g3 g4 e9 e10
    have z0 := HX2b.out.cell 0
    have z1 := HX2b.out.cell 1
    have z2 := HX2b.out.cell 2
    have z3 := HX2b.out.cell 3
    have z4 := HX2b.out.cell 4
    have z5 := HX2b.out.cell 5
    have z6 := HX2b.out.cell 6
    simp at z0 z1 z2 z3 z4 z5 z6
    go_wp2_with fail
    refine ((HST _).out HD2.out HE2.out).mono ?_
    rintro e w3 ⟨rfl, he3, hd3, hc3⟩
    have HE3 := Lib.hid he3
    have HD3 := Lib.hid hd3
    have HC3 : Hid (Chg (fun k => h.foot k ∨ k = t.E) w w3) := (HC2.out.mono (fun _ _ h => h.elim)).trans hc3
    have HX3 := Lib.hid (HX2b.out.chg hc3 (by
      rintro (hf | hf)
      · have := foot_size HD.out hf; omega
      · omega))
    clear he3 hd3 hc3 z0 z1 z2 z3 z4 z5 z6
    have z4 := HX3.out.cell 4
    simp at z4
    have e10 := HE3.out.box.cell 10
    simp [engBox] at e10
    by_cases hz : e0 = 0
    · have HZ1 := Lib.hid (HX1.out hz)
      clear HX1 HX2
      subst hz
      have HBJ : Hid (Blk w3 t.j.J tJn #[.pointer (some ⟨h.d, 0, none⟩), .int .i64 X2.J.losses, .int .i64 X2.J.first, .int .i64 X2.J.pages, .int .u64 X2.J.gen, .int .i64 X2.J.used, .map (some t.j.M)]) := HE3.out.jn.box
      have hg1 : X.blk.gen + 1 < 18446744073709551616 := hge
      have el : (((X.blk.gen + 1 : Nat)) : Int) = (X.blk.gen : Int) + 1 := by omega
      have HBG : Hid (∀ W, Chg No w3 W → Calls Tryz.prog 59 #[.pointer (some ⟨t.j.J, 0, none⟩), .int .u64 ((X.blk.gen : Int) + 1)] W fun e w' => e = .returned (.tuple #[]) ∧ ∃ M', w.heap.size ≤ M' ∧ EngAt w' h { t with j := ⟨t.j.J, M'⟩ } { X2 with J := X2.J.begun (X.blk.gen + 1) } ∧ DevAt w' h D2 ∧ Chg (fun k => k = t.j.J) W w') := by
        show ∀ W, _
        intro W hcW
        have hb := begin_calls (t := t.j) (HBJ.out.chg hcW (fun h => h)) (X.blk.gen + 1)
        rw [el] at hb
        refine hb.mono ?_
        rintro e w4 ⟨rfl, hb4, hm4, hc4⟩
        have hsz := hcW.size
        have hsz3 := HC3.out.size
        have hd3 := (show DevN w3.heap.size w3 h D2 from HD3.out).chgNo hcW
        have hb4' : Blk w4 t.j.J tJn #[.pointer (some ⟨h.d, 0, none⟩), .int .i64 X2.J.losses, .int .i64 X2.J.first, .int .i64 X2.J.pages, .int .u64 (X.blk.gen + 1 : Nat), .int .i64 0, .map (some W.heap.size)] := by rw [el]; exact hb4
        have hh := (HE3.out.chgNo hcW).begun hd3 hg1 hb4' hm4 (Nat.le_refl _) hc4
        exact ⟨rfl, W.heap.size, by omega, hh.1, hh.2.at_, hc4⟩
      go_wp2_with fail
      go_still_tail 6, (by kernel_rfl)
      change wpList _ _ _ _ _ w3.drew
      have HB5 := Lib.hid (HBG.out w3.drew (Chg.refl No w3).drew)
      have HC5 : Hid (Chg (fun k => h.foot k ∨ k = t.E) w w3.drew) := HC3.out.drew
      clear HBG HX3 HE3 HD3 HBJ HC3
      go_wp2_with fail
      refine HB5.out.mono ?_
      rintro e w4 ⟨rfl, M', hM, he4, hd4, hc4⟩
      have HE4 := Lib.hid he4
      have HD4 := Lib.hid hd4
      have HM := Lib.hid hM
      have HC4 : Hid (Chg (fun k => h.foot k ∨ k = t.E ∨ t.j.own k) w w4) := (HC5.out.mono (fun k _ hk => by
        rcases hk with h1 | h1
        · exact .inl h1
        · exact .inr (.inl h1))).then hc4 (fun k _ hk => .inr (.inr (.inl hk)))
      clear he4 hd4 hc4 hM
      go_wp2_with fail
      go_ret
      refine ⟨M', rfl, ?_, HD4.out, HC4.out, .inr HM.out⟩
      rw [HZ1.out]
      have := HE4.out
      rw [HJ2.out] at this
      exact this
    · have HZ1 := Lib.hid (HX2.out hz)
      clear HX1 HX2
      have hzb : (e0 == 0) = false := by simp [hz]
      have hzn : (e0 != 0) = true := by simp [hz]
      go_wp2_with fail
      go_ret
      refine ⟨t.j.M, rfl, ?_, HD3.out, HC3.out.mono (fun k _ hk => ?_), .inl rfl⟩
      · rw [HZ1.out.1]
        have := HE3.out
        rw [HZ1.out.2] at this
        exact this
      · rcases hk with h1 | h1
        · exact .inl h1
        · exact .inr (.inl h1)
end
end Go.Proofs.YtplpbbdakihnfaaGreat
end

/- The engine's Put, walked: items that may not be kept, small ones. -/
section
namespace Go.Proofs.YtplpbbdakihnfaaGreat
open Go.RowKit
open Go.ChangeMaps (setBlock)
attribute [local go_sem ↓] Go.wp_at_zero Go.wp_at_succ
set_option linter.unusedSimpArgs false
set_option linter.unusedVariables false

namespace Eng
/-- a small item is put (the power is on) -/
def psD (X : Eng) (D : Dev) (x : Item) : Dev := if (X.B.out D x).length = 0 then X.B.putD D x else (X.B.putD D x).flush
def psE (X : Eng) (D : Dev) (x : Item) : Int := if (X.B.out D x).length = 0 then 0 else (X.B.putD D x).changeE
def psX (X : Eng) (D : Dev) (x : Item) : Eng := if X.psE D x = 0 then { X with B := X.B.add x, G := X.G.drop x.key } else { X with B := X.B.add x }
end Eng
section
variable {N : Nat} {S : Nat → Prop} {w w' : World} {h : DevH} {t : EngH} {X : Eng} {D : Dev}
theorem LgAt.mixed {g : LgH} {G : Lg} {T : Nat → Prop} (hl : LgAt w h g G) (hd : DevN N w h D) (hc : Chg (fun k => h.foot k ∨ T k) w w') (hT : ∀ k, g.own k → T k → False) : LgAt w' h g G := by
  have hs : ∀ k, g.spot k → ¬ (h.foot k ∨ T k) := by
    intro k hk
    rintro (h1 | h1)
    · exact hl.not_foot hd k hk h1
    · exact hT k (hl.spot_own hk) h1
  have hrow : ∀ v l, SlAt w g v l → SlAt w' g v l := by
    rintro v l ⟨A, c, e, h1, h2, h3⟩
    refine ⟨A, c, e, h1, h2.notS hc (fun g' off hk hA => ?_), h3⟩
    rintro (h4 | h4)
    · obtain ⟨g2, off2, cur, fz, e2, hg2, _⟩ := h2.2 hk
      rw [hA] at e2
      injection e2 with e2
      injection e2 with e2
      subst e2
      exact hd.not_foot hg2 (by decide) (by decide) h4
    · exact hT g' (h3 g' off (by omega) hA).1 h4
  exact { hl with
    box := hl.box.chg hc (hs _ (.inl rfl))
    regs := by
      obtain ⟨ses, h1, h2, h3⟩ := hl.regs
      refine ⟨ses, h1, own_chg h2 hc (fun k hk => hs k (.inr (.inr (.inl hk)))), fun i S hS => ?_⟩
      obtain ⟨v, e, hv⟩ := h3 i S hS
      exact ⟨v, e, hrow _ _ hv⟩
    opn := own_chg hl.opn hc (fun k hk => hs k (.inr (.inr (.inr hk))))
    map := hl.map.chg hc (hs _ (.inr (.inl rfl)))
    lt := fun k hk => Nat.lt_of_lt_of_le (hl.lt k hk) hc.size }
/-- a store's Put went through -/
theorem EngAt.bits {B' : Sto} (he : EngAt w h t X) (hd : DevN N w h D) (hc : Chg (fun k => h.foot k ∨ ∃ p ∈ t.s.ps, k = p.2) w w') (hs : StoAt w' h t.s B') (hp : 0 < B'.fs.length) : EngAt w' h t { X with B := B' } := by
  have hne : ∀ {g : Nat} {T : TypeId} {cs : Array Value}, Blk w g T cs → T ≠ tDev → T ≠ tPP → T ≠ tBool → ¬ (h.foot g ∨ ∃ p ∈ t.s.ps, g = p.2) := by
    intro g T cs hb h1 h2 h3
    rintro (h4 | ⟨p, hp, rfl⟩)
    · exact hd.not_foot hb h1 h2 h4
    · obtain ⟨cs2, hb2⟩ := he.sto.bits_ty hp
      unfold Blk at hb hb2
      rw [hb] at hb2
      injection hb2 with hb2
      injection hb2 with _ hb2
      exact h3 hb2
  refine { box := he.box.chg hc (hne he.box (by decide) (by decide) (by decide)), jn := he.jn.chg hc (fun k hk => ?_), sto := hs, lg := ?_, jg := he.jg, sg := he.sg, eg := he.eg, blk := he.blk, last := he.last, jfit := he.jfit, pos := hp }
  · rcases hk with e | e
    · rw [e]; exact hne he.jn.box (by decide) (by decide) (by decide)
    · rw [e]
      rintro (h4 | ⟨p, hp, h5⟩)
      · exact he.jn.not_foot hd _ (.inr rfl) h4
      · obtain ⟨cs2, hb2⟩ := he.sto.bits_ty hp
        exact he.jn.map.ne_blk hb2 h5
  · -- in two steps: first the bits (none of them the log's), then the device's
    have h1 : ∀ k, t.g.own k → (∃ p ∈ t.s.ps, k = p.2) → False := fun k hk ⟨p, hp, e⟩ => he.sg p hp (e ▸ hk)
    exact he.lg.mixed hd hc h1
set_option maxRecDepth 100000 in
set_option maxHeartbeats 4000000 in
theorem eput_bad (he : EngAt w h t X) (x : Item) (hk : x.key.size ≤ 140737488351232) (hv : x.val.size ≤ 140737488351232) (hb : x.good = false ∨ 1472 < x.size) :
    Calls Tryz.prog 16 #[.pointer (some ⟨t.E, 0, none⟩), itemV x] w fun e w' => e = .returned (.int .i64 (if x.good = false then 1 else 2)) ∧ Chg No w w' := by
  have HGD := fun W => Lib.hid (good_calls x W)
  have HSZ := fun W => Lib.hid (size_calls x W hk hv)
  unfold itemV
  clear he hk hv
  obtain ⟨sz, hsz⟩ : ∃ sz, sz = x.size := ⟨_, rfl⟩
  obtain ⟨gd, hgd⟩ : ∃ gd, gd = x.good := ⟨_, rfl⟩
  rw [← hsz] at HSZ hb
  rw [← hgd] at HGD hb
  rw [← hgd]
  clear hsz hgd
  go_enter Tryz.func16, Tryz.ntmps16
  go_wp2_with fail
  refine (HGD _).out.mono ?_
  rintro e w1 ⟨rfl, hc1⟩
  have HC1 : Hid (Chg No w w1) := ((Chg.refl No w).alloc _).trans hc1
  have HX := Lib.hid ((Blk.new w tItem #[.string x.key, .string x.val, .int .u32 x.flags.toNat, .int .i64 x.exp.toInt, .int .u64 x.ver.toNat]).chg hc1 (fun h => h))
  have x0 := HX.out.cell 0
  have x1 := HX.out.cell 1
  have x2 := HX.out.cell 2
  have x3 := HX.out.cell 3
  have x4 := HX.out.cell 4
  simp at x0 x1 x2 x3 x4
  clear hc1
  cases gd with
  | false =>
    go_wp2_with fail
    go_ret
    exact ⟨rfl, HC1.out⟩
  | true =>
    have hs : 1472 < sz := by rcases hb with h1 | h1; cases h1; exact h1
    have hsi : (1472 : Int) < (sz : Int) := by omega
    clear hb
    go_wp2_with fail
    refine (HSZ _).out.mono ?_
    rintro e w2 ⟨rfl, hc2⟩
    have HC2 := Lib.hid (HC1.out.trans hc2)
    clear hc2
    go_wp2_with fail
    go_ret
    exact ⟨rfl, HC2.out⟩
end
end Go.Proofs.YtplpbbdakihnfaaGreat
end

/- The engine's Get, walked. -/
section
namespace Go.Proofs.YtplpbbdakihnfaaGreat
open Go.RowKit
attribute [local go_sem ↓] Go.wp_at_zero Go.wp_at_succ
set_option linter.unusedSimpArgs false
set_option linter.unusedVariables false

/-- of what is best so far and what one store tells, the better -/
def Eng.pick (E : Eng) (o : Option Item) (y : Item) (z : Int) : Option Item :=
  if z = 0 ∧ E.counts y = true then (match o with
    | some x => if x.ver < y.ver then some y else some x
    | none => some y) else o
theorem Eng.one_eq (E : Eng) (D : Dev) (k : ByteArray) : E.one D k = E.pick (E.pick none (E.B.get D k).1 (E.B.get D k).2) (E.G.get k) (E.G.getE k) := rfl
theorem Eng.pick_bad (E : Eng) (o : Option Item) (y : Item) (z : Int) (h : z ≠ 0) : E.pick o y z = o := by
  unfold Eng.pick
  rw [if_neg (fun h2 => h h2.1)]
theorem Eng.pick_no (E : Eng) (o : Option Item) (y : Item) (z : Int) (h : E.counts y = false) : E.pick o y z = o := by
  unfold Eng.pick
  rw [if_neg (fun h2 => by rw [h] at h2; cases h2.2)]
theorem Eng.pick_new (E : Eng) (y : Item) (h : E.counts y = true) : E.pick none y 0 = some y := by
  unfold Eng.pick
  rw [if_pos ⟨rfl, h⟩]
theorem Eng.pick_lt (E : Eng) (x y : Item) (h : E.counts y = true) (hl : x.ver < y.ver) : E.pick (some x) y 0 = some y := by
  unfold Eng.pick
  rw [if_pos ⟨rfl, h⟩]
  simp only [if_pos hl]
theorem Eng.pick_le (E : Eng) (x y : Item) (h : E.counts y = true) (hl : ¬ x.ver < y.ver) : E.pick (some x) y 0 = some x := by
  unfold Eng.pick
  rw [if_pos ⟨rfl, h⟩]
  simp only [if_neg hl]
theorem DevN.foot_lt {N : Nat} {w : World} {h : DevH} {D : Dev} (hd : DevN N w h D) {k : Nat} (hk : h.foot k) : k < w.heap.size := by
  obtain ⟨a, b, c, e, hb⟩ := hd.box
  obtain ⟨ps, hb2, _⟩ := hd.row
  obtain ⟨es, hb3, _⟩ := hd.map
  have h1 := hb.lt
  have h2 := hb2.lt
  have h3 := hb3.lt
  rcases hk with rfl | rfl | rfl
  · exact h1
  · exact h2
  · exact h3
/-- what is best of none, one, or both stores -/
def Eng.sel (X : Eng) (y0 : Item) (e0 : Int) (y1 : Item) (e1 : Int) : Nat → Option Item
  | 0 => none
  | 1 => X.pick none y0 e0
  | _ => X.pick (X.pick none y0 e0) y1 e1
abbrev tFun : TypeId := 42

def set5 (w : World) (g : Nat) (y : Item) : World := ((((w.setCell ⟨g, 0, none⟩ (.string y.key)).setCell ⟨g, 1, none⟩ (.string y.val)).setCell ⟨g, 2, none⟩ (.int .u32 y.flags.toNat)).setCell ⟨g, 3, none⟩ (.int .i64 y.exp.toInt)).setCell ⟨g, 4, none⟩ (.int .u64 y.ver.toNat)
theorem set5_chg (w : World) (g : Nat) (y : Item) : Chg (fun j => j = g) w (set5 w g y) := by
  unfold set5
  have h0 : Chg (fun k => k = g) w (w.setCell ⟨g, 0, none⟩ (.string y.key)) := chg_setCell w ⟨g, 0, none⟩ _
  have h1 := Chg.setCell h0 (p := ⟨g, 1, none⟩) (.inl rfl) (.string y.val)
  have h2 := Chg.setCell h1 (p := ⟨g, 2, none⟩) (.inl rfl) (.int .u32 y.flags.toNat)
  have h3 := Chg.setCell h2 (p := ⟨g, 3, none⟩) (.inl rfl) (.int .i64 y.exp.toInt)
  exact Chg.setCell h3 (p := ⟨g, 4, none⟩) (.inl rfl) (.int .u64 y.ver.toNat)
theorem set5_blk {w : World} {g : Nat} {x : Item} (h : Blk w g tItem (itc x).toArray) (y : Item) : Blk (set5 w g y) g tItem (itc y).toArray := by
  unfold set5
  have := ((((h.set_ 0 (.string y.key)).set_ 1 (.string y.val)).set_ 2 (.int .u32 y.flags.toNat)).set_ 3 (.int .i64 y.exp.toInt)).set_ 4 (.int .u64 y.ver.toNat)
  simpa [itc] using this
section
variable {N : Nat} {w w' : World} {h : DevH} {t : EngH} {X : Eng} {D : Dev}
set_option maxRecDepth 100000 in
set_option maxHeartbeats 4000000 in
theorem eget_calls (hd : DevN N w h D) (he : EngAt w h t X) (hoff : D.off = false) (hls : X.losses = D.losses) (key : ByteArray) (hk : key.size ≤ 140737488351232)
    (hz4 : (X.B.get D key).2 ≠ 4) (hkb : (X.B.get D key).1.key.size ≤ 140737488351232) (hkg : (X.G.get key).key.size ≤ 140737488351232) :
    Calls Tryz.prog 17 #[.pointer (some ⟨t.E, 0, none⟩), .string key] w fun e w' => e = .returned (.tuple #[itemV (X.get D key), .int .i64 (X.getE D key)]) ∧ DevN N w' h D ∧ Chg h.foot w w' := by
  have HDN := fun W => Lib.hid (fun hc : Chg No w W => edone_calls (hd.chgNo hc) (he.chgNo hc) hoff)
  rw [show decide (X.losses ≠ D.losses) = false from decide_eq_false (by simp [hls])] at HDN
  have HE := Lib.hid he
  have HD : Hid (DevN N w h D) := hd
  have HFL : Hid (∀ k, h.foot k → k < w.heap.size) := fun k hk => hd.foot_lt hk
  have HG0 := fun W => Lib.hid (fun (hd2 : DevN N W h D) (hc : Chg h.foot w W) => get_calls hd2 (he.foot hd hc).sto he.pos key hk)
  have HG1 := fun W => Lib.hid (fun (hd2 : DevN N W h D) (hc : Chg h.foot w W) => gget_calls (he.foot hd hc).lg key)
  have HCN := fun W y => Lib.hid (fun (hc : Chg h.foot w W) (hy : y.key.size ≤ 140737488351232) => ecounts_calls (he.foot hd hc) y hy)
  have HRES : Hid (X.get D key = (X.one D key).getD Item.zero ∧ X.getE D key = match X.one D key with | some _ => 0 | none => 5) := ⟨rfl, rfl⟩
  have HONE := Lib.hid (X.one_eq D key)
  obtain ⟨y0, hy0⟩ : ∃ y, y = (X.B.get D key).1 := ⟨_, rfl⟩
  obtain ⟨e0, hz0⟩ : ∃ z, z = (X.B.get D key).2 := ⟨_, rfl⟩
  obtain ⟨y1, hy1⟩ : ∃ y, y = X.G.get key := ⟨_, rfl⟩
  obtain ⟨e1, hz1⟩ : ∃ z, z = X.G.getE key := ⟨_, rfl⟩
  rw [← hy0, ← hz0] at HG0 HONE
  rw [← hy1, ← hz1] at HG1 HONE
  rw [← hy0] at hkb
  rw [← hz0] at hz4
  rw [← hy1] at hkg
  have hz14 : e1 ≠ 4 := by
    rw [hz1]
    unfold Lg.getE
    split <;> decide
  have c11 := he.box.cell 11
  have c12 := he.box.cell 12
  simp [engBox] at c11 c12
  have xlt := he.box.lt
  have hmf : ∀ (fn : Fn) (first cap : Array Value) (w : World), (Instr.makeFunc fn first cap).run Tryz.prog w = .ok (.func fn first cap) w := fun _ _ _ _ => rfl
  clear hd he hoff hls hy0 hz0 hy1 hz1
  go_enter Tryz.func17, Tryz.ntmps17
  go_wp2_with fail
  refine ((HDN _).out (by (repeat (first | (with_reducible exact Chg.refl _ _) | (with_reducible assumption) | (with_reducible refine Chg.drewN ?_ _) | (with_reducible refine Chg.drew ?_) | (with_reducible refine Chg.alloc ?_ _) | (with_reducible refine Chg.setCell ?_ (by first | (left; simp [DevH.foot]; done) | (right; simp; done) | (right; simp; omega)) _))))).mono ?_
  rintro e w1 ⟨rfl, n1, hw1⟩
  have HC1 : Hid (Chg No w w1) := by show Chg No w w1; rw [hw1]; exact ((Chg.refl No w).alloc _).drewN n1
  have HR1 : Hid (Blk w1 w.heap.size tItem #[.string ⟨#[]⟩, .string ⟨#[]⟩, .int .u32 0, .int .i64 0, .int .u64 0]) := by show Blk _ _ _ _; rw [hw1]; exact (Blk.new w tItem _).drewN n1
  have c11 := HC1.out.cellNo c11
  have c12 := HC1.out.cellNo c12
  have HZ := Lib.hid (Blk.new w1 tItem #[.string ⟨#[]⟩, .string ⟨#[]⟩, .int .u32 0, .int .i64 0, .int .u64 0])
  have z0 := HZ.out.cell 0
  have z1 := HZ.out.cell 1
  have z2 := HZ.out.cell 2
  have z3 := HZ.out.cell 3
  have z4 := HZ.out.cell 4
  have g0 := HZ.out.frozen 0
  have g1 := HZ.out.frozen 1
  have g2 := HZ.out.frozen 2
  have g3 := HZ.out.frozen 3
  have g4 := HZ.out.frozen 4
  simp only [List.getElem?_toArray, List.getElem?_cons_zero, List.getElem?_cons_succ] at z0 z1 z2 z3 z4
  have xl1 : t.E < w1.heap.size := by have := HC1.out.size; omega
  clear hw1
  go_wp2_with fail
  have z5 : (w1.alloc (.cells #[.string ⟨#[]⟩, .string ⟨#[]⟩, .int .u32 0, .int .i64 0, .int .u64 0] tItem)).cell? ⟨t.E, 11, none⟩ = some (.pointer (some ⟨t.s.s, 0, none⟩)) := by simp [go_sem, c11, xl1, Nat.ne_of_lt xl1]
  have z6 : (w1.alloc (.cells #[.string ⟨#[]⟩, .string ⟨#[]⟩, .int .u32 0, .int .i64 0, .int .u64 0] tItem)).cell? ⟨t.E, 12, none⟩ = some (.pointer (some ⟨t.g.L, 0, none⟩)) := by simp [go_sem, c12, xl1, Nat.ne_of_lt xl1]
  go_region_held3 (fun w' => w'.cell? ⟨t.E, 11, none⟩ = some (.pointer (some ⟨t.s.s, 0, none⟩)) ∧ w'.cell? ⟨t.E, 12, none⟩ = some (.pointer (some ⟨t.g.L, 0, none⟩))) (first | go_keep) (fail)
  all_goals
    have hb0 : Chg No w1 ((w1.alloc (.cells #[.string ⟨#[]⟩, .string ⟨#[]⟩, .int .u32 0, .int .i64 0, .int .u64 0] tItem)).alloc (.cells #[.func (.func 49) #[.pointer (some ⟨t.s.s, 0, none⟩)] #[], .func (.func 50) #[.pointer (some ⟨t.g.L, 0, none⟩)] #[]] tFun)).drew := by (repeat (first | (with_reducible exact Chg.refl _ _) | (with_reducible assumption) | (with_reducible refine Chg.drewN ?_ _) | (with_reducible refine Chg.drew ?_) | (with_reducible refine Chg.alloc ?_ _) | (with_reducible refine Chg.setCell ?_ (by first | (left; simp [DevH.foot]; done) | (right; simp; done) | (right; simp; omega)) _)))
    have hb1 := ((Blk.new w1 tItem #[.string ⟨#[]⟩, .string ⟨#[]⟩, .int .u32 0, .int .i64 0, .int .u64 0]).alloc (.cells #[.func (.func 49) #[.pointer (some ⟨t.s.s, 0, none⟩)] #[], .func (.func 50) #[.pointer (some ⟨t.g.L, 0, none⟩)] #[]] tFun)).drew
    have hb2 := (Blk.new (w1.alloc (.cells #[.string ⟨#[]⟩, .string ⟨#[]⟩, .int .u32 0, .int .i64 0, .int .u64 0] tItem)) tFun #[.func (.func 49) #[.pointer (some ⟨t.s.s, 0, none⟩)] #[], .func (.func 50) #[.pointer (some ⟨t.g.L, 0, none⟩)] #[]]).drew
    rw [World.size_alloc] at hb2
    obtain ⟨w4, hw4⟩ : ∃ w4, w4 = ((w1.alloc (.cells #[.string ⟨#[]⟩, .string ⟨#[]⟩, .int .u32 0, .int .i64 0, .int .u64 0] tItem)).alloc (.cells #[.func (.func 49) #[.pointer (some ⟨t.s.s, 0, none⟩)] #[], .func (.func 50) #[.pointer (some ⟨t.g.L, 0, none⟩)] #[]] tFun)).drew := ⟨_, rfl⟩
    rw [← hw4] at hb0 hb1 hb2
    have HC4 : Hid (Chg No w w4) := HC1.out.trans hb0
    have HB : Hid (Blk w4 w1.heap.size tItem (itc Item.zero).toArray) := hb1
    have HF := Lib.hid hb2
    have HR : Hid (Blk w4 w.heap.size tItem (itc Item.zero).toArray) := HR1.out.chg hb0 (fun h => h)
    have hw14 : w.heap.size < w1.heap.size := HR1.out.lt
    have HLTB : Hid (w.heap.size < w1.heap.size) := hw14
    rw [← hw4]
    have HNB : Hid (¬ h.foot w1.heap.size ∧ ¬ h.foot w.heap.size ∧ ¬ h.foot (w1.heap.size + 1)) := ⟨fun hk => by have := HFL.out _ hk; omega, fun hk => by have := HFL.out _ hk; omega, fun hk => by have := HFL.out _ hk; omega⟩
    have HDV : Hid (DevN N w4 h D) := HD.out.chgNo HC4.out
    clear hw4 hb0 hb1 hb2 c11 c12 z5 z6 HZ z0 z1 z2 z3 z4 g0 g1 g2 g3 g4 HR1 HC1 HDN hmf
    go_wp2_with fail
    go_loopg [7, 28] 2 (fun g v7 v28 wr => ∃ (k : Nat) (o : Option Item), v28 = .int .i64 k ∧ k ≤ 2 ∧ 2 - k = g ∧ v7 = .bool o.isSome ∧ Hid (o = X.sel y0 e0 y1 e1 k ∧ DevN N wr h D ∧ Chg h.foot w wr ∧ Chg (fun j => h.foot j ∨ j = w1.heap.size) w4 wr ∧ Blk wr w1.heap.size tItem (itc (o.getD Item.zero)).toArray))
    case atStart => exact ⟨0, none, rfl, by omega, rfl, rfl, rfl, HDV.out, HC4.out.mono (fun _ _ h => h.elim), Chg.refl _ _, HB.out⟩
    case round =>
      obtain ⟨k, o, rfl, hk, hg, rfl, H⟩ := hrel
      by_cases h2 : k < 2
      · obtain rfl | rfl : k = 0 ∨ k = 1 := by omega
        · have f0 := (HF.out.chg H.out.2.2.2.1 (by rintro (h9 | h9) <;> first | exact HNB.out.2.2 h9 | omega)).cell 0
          simp at f0
          have HCALL := Lib.hid ((HG0 wr).out H.out.2.1 H.out.2.2.1)
          go_wp2_with fail
          refine HCALL.out.mono ?_
          rintro e w2 ⟨rfl, hd2, hc2⟩
          have HD2 := Lib.hid hd2
          have HC2 : Hid (Chg h.foot w w2) := H.out.2.2.1.trans hc2
          have HC42 : Hid (Chg (fun j => h.foot j ∨ j = w1.heap.size) w4 w2) := H.out.2.2.2.1.trans (hc2.mono (fun _ _ h => .inl h))
          have HB2 : Hid (Blk w2 w1.heap.size tItem (itc (o.getD Item.zero)).toArray) := H.out.2.2.2.2.chg hc2 HNB.out.1
          have HS : Hid (X.sel y0 e0 y1 e1 (0 + 1) = X.pick o y0 e0) := by show _ = _; rw [H.out.1]; rfl
          have hlt2 : w1.heap.size < w2.heap.size := HB2.out.lt
          have HZ := Lib.hid (Blk.new w2 tItem #[.string ⟨#[]⟩, .string ⟨#[]⟩, .int .u32 0, .int .i64 0, .int .u64 0])
          have z0 := HZ.out.cell 0
          have z1 := HZ.out.cell 1
          have z2 := HZ.out.cell 2
          have z3 := HZ.out.cell 3
          have z4 := HZ.out.cell 4
          have g0 := HZ.out.frozen 0
          have g1 := HZ.out.frozen 1
          have g2 := HZ.out.frozen 2
          have g3 := HZ.out.frozen 3
          have g4 := HZ.out.frozen 4
          simp only [List.getElem?_toArray, List.getElem?_cons_zero, List.getElem?_cons_succ] at z0 z1 z2 z3 z4
          have q4 : (e0 == 4) = false := by simpa using hz4
          clear H HCALL hd2 hc2 f0
          unfold itemV
          by_cases he0 : e0 = 0
          · subst he0
            go_wp2_with fail
            refine ((HCN _ y0).out (HC2.out.alloc _) hkb).mono ?_
            rintro e w3 ⟨rfl, hc3⟩
            have HC3 : Hid (Chg h.foot w w3) := (HC2.out.alloc _).trans (hc3.mono (fun _ _ h => h.elim))
            have HC43 : Hid (Chg (fun j => h.foot j ∨ j = w1.heap.size) w4 w3) := (HC42.out.alloc _).trans (hc3.mono (fun _ _ h => h.elim))
            have HD3 : Hid (DevN N w3 h D) := HD2.out.chgNo (((Chg.refl No w2).alloc _).trans hc3)
            have HB3 : Hid (Blk w3 w1.heap.size tItem (itc (o.getD Item.zero)).toArray) := (HB2.out.alloc _).chg hc3 (fun h => h)
            have HY3 : Hid (Blk w3 w2.heap.size tItem (itc y0).toArray) := (Blk.new w2 tItem (itc y0).toArray).chg hc3 (fun h => h)
            have hlt3 : w2.heap.size < w3.heap.size := HY3.out.lt
            have xn : ¬ w1.heap.size = w2.heap.size := by omega
            have xn2 : ¬ w2.heap.size = w1.heap.size := by omega
            clear hc3 HC2 HC42 HD2 HB2 HZ z0 z1 z2 z3 z4 g0 g1 g2 g3 g4
            cases hcn : X.counts y0 with
            | false =>
              have HPK := Lib.hid (X.pick_no o y0 0 hcn)
              clear hcn
              go_wp2_with fail
              go_roundg (2 - (0 + 1))
              case measure => omega
              case rel => exact ⟨0 + 1, o, by go_num, by omega, rfl, rfl, by rw [HS.out, HPK.out], HD3.out, HC3.out, HC43.out, HB3.out⟩
            | true =>
              have y0_ := HY3.out.cell 0
              have y1_ := HY3.out.cell 1
              have y2_ := HY3.out.cell 2
              have y3_ := HY3.out.cell 3
              have y4_ := HY3.out.cell 4
              have b0 := HB3.out.cell 0
              have b1 := HB3.out.cell 1
              have b2 := HB3.out.cell 2
              have b3 := HB3.out.cell 3
              have b4 := HB3.out.cell 4
              have k0 := HB3.out.frozen 0
              have k1 := HB3.out.frozen 1
              have k2 := HB3.out.frozen 2
              have k3 := HB3.out.frozen 3
              have k4 := HB3.out.frozen 4
              simp only [itc, List.getElem?_toArray, List.getElem?_cons_zero, List.getElem?_cons_succ] at y0_ y1_ y2_ y3_ y4_ b0 b1 b2 b3 b4
              have xb : w1.heap.size < w3.heap.size := HB3.out.lt
              cases o with
              | none =>
                have HPK := Lib.hid (X.pick_new y0 hcn)
                clear hcn
                simp only [Option.getD_none] at b0 b1 b2 b3 b4
                go_wp2_with fail
                obtain ⟨w5, hw5⟩ : ∃ w5, w5 = set5 w3 w1.heap.size y0 := ⟨_, rfl⟩
                have HB5 : Hid (Blk w5 w1.heap.size tItem (itc y0).toArray) := by rw [hw5]; exact set5_blk HB3.out y0
                have HC5 : Hid (Chg (fun j => j = w1.heap.size) w3 w5) := by rw [hw5]; exact set5_chg w3 w1.heap.size y0
                have HD5 := Lib.hid (devN_new HD.out HD3.out HC3.out (HC5.out.mono (fun j _ hj => by have e : j = w1.heap.size := hj; have h9 : w.heap.size < w1.heap.size := HLTB.out; show w.heap.size ≤ j; omega)))
                unfold set5 at hw5
                rw [← hw5]
                clear hw5
                go_roundg (2 - (0 + 1))
                case measure => omega
                case rel => exact ⟨0 + 1, some y0, by go_num, by omega, rfl, rfl, by rw [HS.out, HPK.out], HD5.out.1, HD5.out.2, HC43.out.trans (HC5.out.mono (fun j _ hj => .inr hj)), HB5.out⟩
              | some x =>
                simp only [Option.getD_some] at b0 b1 b2 b3 b4
                by_cases hv : x.ver < y0.ver
                · have HPK := Lib.hid (X.pick_lt x y0 hcn hv)
                  have hvi : (x.ver.toNat : Int) < (y0.ver.toNat : Int) := by have := UInt64.lt_iff_toNat_lt.1 hv; omega
                  clear hcn hv
                  go_wp2_with fail
                  obtain ⟨w5, hw5⟩ : ∃ w5, w5 = set5 w3 w1.heap.size y0 := ⟨_, rfl⟩
                  have HB5 : Hid (Blk w5 w1.heap.size tItem (itc y0).toArray) := by rw [hw5]; exact set5_blk HB3.out y0
                  have HC5 : Hid (Chg (fun j => j = w1.heap.size) w3 w5) := by rw [hw5]; exact set5_chg w3 w1.heap.size y0
                  have HD5 := Lib.hid (devN_new HD.out HD3.out HC3.out (HC5.out.mono (fun j _ hj => by have e : j = w1.heap.size := hj; have h9 : w.heap.size < w1.heap.size := HLTB.out; show w.heap.size ≤ j; omega)))
                  unfold set5 at hw5
                  rw [← hw5]
                  clear hw5
                  go_roundg (2 - (0 + 1))
                  case measure => omega
                  case rel => exact ⟨0 + 1, some y0, by go_num, by omega, rfl, rfl, by rw [HS.out, HPK.out], HD5.out.1, HD5.out.2, HC43.out.trans (HC5.out.mono (fun j _ hj => .inr hj)), HB5.out⟩
                · have HPK := Lib.hid (X.pick_le x y0 hcn hv)
                  have hvi : ¬ (x.ver.toNat : Int) < (y0.ver.toNat : Int) := by have h9 : ¬ x.ver.toNat < y0.ver.toNat := (fun h => hv (UInt64.lt_iff_toNat_lt.2 h)); omega
                  clear hcn hv
                  go_wp2_with fail
                  go_roundg (2 - (0 + 1))
                  case measure => omega
                  case rel => exact ⟨0 + 1, some x, by go_num, by omega, rfl, rfl, by rw [HS.out, HPK.out], HD3.out, HC3.out, HC43.out, HB3.out⟩
          · have q0 : (e0 == 0) = false := by simpa using he0
            have HPK := Lib.hid (X.pick_bad o y0 e0 he0)
            clear he0
            go_wp2_with fail
            go_roundg (2 - (0 + 1))
            case measure => omega
            case rel => exact ⟨0 + 1, o, by go_num, by omega, rfl, rfl, by rw [HS.out, HPK.out], HD2.out.chgNo (by (repeat (first | (with_reducible exact Chg.refl _ _) | (with_reducible assumption) | (with_reducible refine Chg.drewN ?_ _) | (with_reducible refine Chg.drew ?_) | (with_reducible refine Chg.alloc ?_ _) | (with_reducible refine Chg.setCell ?_ (by first | (left; simp [DevH.foot]; done) | (right; simp; done) | (right; simp; omega)) _)))), HC2.out.alloc _, HC42.out.alloc _, HB2.out.alloc _⟩
        · have f0 := (HF.out.chg H.out.2.2.2.1 (by rintro (h9 | h9) <;> first | exact HNB.out.2.2 h9 | omega)).cell 1
          simp at f0
          have HCALL := Lib.hid ((HG1 wr).out H.out.2.1 H.out.2.2.1)
          go_wp2_with fail
          refine HCALL.out.mono ?_
          rintro e w2 ⟨rfl, hc2'⟩
          have hd2 := H.out.2.1.chgNo hc2'
          have hc2 : Chg h.foot wr w2 := hc2'.mono (fun _ _ h => h.elim)
          clear hc2'
          have HD2 := Lib.hid hd2
          have HC2 : Hid (Chg h.foot w w2) := H.out.2.2.1.trans hc2
          have HC42 : Hid (Chg (fun j => h.foot j ∨ j = w1.heap.size) w4 w2) := H.out.2.2.2.1.trans (hc2.mono (fun _ _ h => .inl h))
          have HB2 : Hid (Blk w2 w1.heap.size tItem (itc (o.getD Item.zero)).toArray) := H.out.2.2.2.2.chg hc2 HNB.out.1
          have HS : Hid (X.sel y0 e0 y1 e1 (1 + 1) = X.pick o y1 e1) := by show _ = _; rw [H.out.1]; rfl
          have hlt2 : w1.heap.size < w2.heap.size := HB2.out.lt
          have HZ := Lib.hid (Blk.new w2 tItem #[.string ⟨#[]⟩, .string ⟨#[]⟩, .int .u32 0, .int .i64 0, .int .u64 0])
          have z0 := HZ.out.cell 0
          have z1 := HZ.out.cell 1
          have z2 := HZ.out.cell 2
          have z3 := HZ.out.cell 3
          have z4 := HZ.out.cell 4
          have g0 := HZ.out.frozen 0
          have g1 := HZ.out.frozen 1
          have g2 := HZ.out.frozen 2
          have g3 := HZ.out.frozen 3
          have g4 := HZ.out.frozen 4
          simp only [List.getElem?_toArray, List.getElem?_cons_zero, List.getElem?_cons_succ] at z0 z1 z2 z3 z4
          have q4 : (e1 == 4) = false := by simpa using hz14
          clear H HCALL hd2 hc2 f0
          unfold itemV
          by_cases he0 : e1 = 0
          · subst he0
            go_wp2_with fail
            refine ((HCN _ y1).out (HC2.out.alloc _) hkg).mono ?_
            rintro e w3 ⟨rfl, hc3⟩
            have HC3 : Hid (Chg h.foot w w3) := (HC2.out.alloc _).trans (hc3.mono (fun _ _ h => h.elim))
            have HC43 : Hid (Chg (fun j => h.foot j ∨ j = w1.heap.size) w4 w3) := (HC42.out.alloc _).trans (hc3.mono (fun _ _ h => h.elim))
            have HD3 : Hid (DevN N w3 h D) := HD2.out.chgNo (((Chg.refl No w2).alloc _).trans hc3)
            have HB3 : Hid (Blk w3 w1.heap.size tItem (itc (o.getD Item.zero)).toArray) := (HB2.out.alloc _).chg hc3 (fun h => h)
            have HY3 : Hid (Blk w3 w2.heap.size tItem (itc y1).toArray) := (Blk.new w2 tItem (itc y1).toArray).chg hc3 (fun h => h)
            have hlt3 : w2.heap.size < w3.heap.size := HY3.out.lt
            have xn : ¬ w1.heap.size = w2.heap.size := by omega
            have xn2 : ¬ w2.heap.size = w1.heap.size := by omega
            clear hc3 HC2 HC42 HD2 HB2 HZ z0 z1 z2 z3 z4 g0 g1 g2 g3 g4
            cases hcn : X.counts y1 with
            | false =>
              have HPK := Lib.hid (X.pick_no o y1 0 hcn)
              clear hcn
              go_wp2_with fail
              go_roundg (2 - (1 + 1))
              case measure => omega
              case rel => exact ⟨1 + 1, o, by go_num, by omega, rfl, rfl, by rw [HS.out, HPK.out], HD3.out, HC3.out, HC43.out, HB3.out⟩
            | true =>
              have y0_ := HY3.out.cell 0
              have y1_ := HY3.out.cell 1
              have y2_ := HY3.out.cell 2
              have y3_ := HY3.out.cell 3
              have y4_ := HY3.out.cell 4
              have b0 := HB3.out.cell 0
              have b1 := HB3.out.cell 1
              have b2 := HB3.out.cell 2
              have b3 := HB3.out.cell 3
              have b4 := HB3.out.cell 4
              have k0 := HB3.out.frozen 0
              have k1 := HB3.out.frozen 1
              have k2 := HB3.out.frozen 2
              have k3 := HB3.out.frozen 3
              have k4 := HB3.out.frozen 4
              simp only [itc, List.getElem?_toArray, List.getElem?_cons_zero, List.getElem?_cons_succ] at y0_ y1_ y2_ y3_ y4_ b0 b1 b2 b3 b4
              have xb : w1.heap.size < w3.heap.size := HB3.out.lt
              cases o with
              | none =>
                have HPK := Lib.hid (X.pick_new y1 hcn)
                clear hcn
                simp only [Option.getD_none] at b0 b1 b2 b3 b4
                go_wp2_with fail
                obtain ⟨w5, hw5⟩ : ∃ w5, w5 = set5 w3 w1.heap.size y1 := ⟨_, rfl⟩
                have HB5 : Hid (Blk w5 w1.heap.size tItem (itc y1).toArray) := by rw [hw5]; exact set5_blk HB3.out y1
                have HC5 : Hid (Chg (fun j => j = w1.heap.size) w3 w5) := by rw [hw5]; exact set5_chg w3 w1.heap.size y1
                have HD5 := Lib.hid (devN_new HD.out HD3.out HC3.out (HC5.out.mono (fun j _ hj => by have e : j = w1.heap.size := hj; have h9 : w.heap.size < w1.heap.size := HLTB.out; show w.heap.size ≤ j; omega)))
                unfold set5 at hw5
                rw [← hw5]
                clear hw5
                go_roundg (2 - (1 + 1))
                case measure => omega
                case rel => exact ⟨1 + 1, some y1, by go_num, by omega, rfl, rfl, by rw [HS.out, HPK.out], HD5.out.1, HD5.out.2, HC43.out.trans (HC5.out.mono (fun j _ hj => .inr hj)), HB5.out⟩
              | some x =>
                simp only [Option.getD_some] at b0 b1 b2 b3 b4
                by_cases hv : x.ver < y1.ver
                · have HPK := Lib.hid (X.pick_lt x y1 hcn hv)
                  have hvi : (x.ver.toNat : Int) < (y1.ver.toNat : Int) := by have := UInt64.lt_iff_toNat_lt.1 hv; omega
                  clear hcn hv
                  go_wp2_with fail
                  obtain ⟨w5, hw5⟩ : ∃ w5, w5 = set5 w3 w1.heap.size y1 := ⟨_, rfl⟩
                  have HB5 : Hid (Blk w5 w1.heap.size tItem (itc y1).toArray) := by rw [hw5]; exact set5_blk HB3.out y1
                  have HC5 : Hid (Chg (fun j => j = w1.heap.size) w3 w5) := by rw [hw5]; exact set5_chg w3 w1.heap.size y1
                  have HD5 := Lib.hid (devN_new HD.out HD3.out HC3.out (HC5.out.mono (fun j _ hj => by have e : j = w1.heap.size := hj; have h9 : w.heap.size < w1.heap.size := HLTB.out; show w.heap.size ≤ j; omega)))
                  unfold set5 at hw5
                  rw [← hw5]
                  clear hw5
                  go_roundg (2 - (1 + 1))
                  case measure => omega
                  case rel => exact ⟨1 + 1, some y1, by go_num, by omega, rfl, rfl, by rw [HS.out, HPK.out], HD5.out.1, HD5.out.2, HC43.out.trans (HC5.out.mono (fun j _ hj => .inr hj)), HB5.out⟩
                · have HPK := Lib.hid (X.pick_le x y1 hcn hv)
                  have hvi : ¬ (x.ver.toNat : Int) < (y1.ver.toNat : Int) := by have h9 : ¬ x.ver.toNat < y1.ver.toNat := (fun h => hv (UInt64.lt_iff_toNat_lt.2 h)); omega
                  clear hcn hv
                  go_wp2_with fail
                  go_roundg (2 - (1 + 1))
                  case measure => omega
                  case rel => exact ⟨1 + 1, some x, by go_num, by omega, rfl, rfl, by rw [HS.out, HPK.out], HD3.out, HC3.out, HC43.out, HB3.out⟩
          · have q0 : (e1 == 0) = false := by simpa using he0
            have HPK := Lib.hid (X.pick_bad o y1 e1 he0)
            clear he0
            go_wp2_with fail
            go_roundg (2 - (1 + 1))
            case measure => omega
            case rel => exact ⟨1 + 1, o, by go_num, by omega, rfl, rfl, by rw [HS.out, HPK.out], HD2.out.chgNo (by (repeat (first | (with_reducible exact Chg.refl _ _) | (with_reducible assumption) | (with_reducible refine Chg.drewN ?_ _) | (with_reducible refine Chg.drew ?_) | (with_reducible refine Chg.alloc ?_ _) | (with_reducible refine Chg.setCell ?_ (by first | (left; simp [DevH.foot]; done) | (right; simp; done) | (right; simp; omega)) _)))), HC2.out.alloc _, HC42.out.alloc _, HB2.out.alloc _⟩
      · obtain rfl : k = 2 := by omega
        have HOO : Hid (X.one D key = o) := by show _ = _; rw [H.out.1, HONE.out]; rfl
        have HB3 := Lib.hid H.out.2.2.2.2
        have HR3 : Hid (Blk wr w.heap.size tItem (itc Item.zero).toArray) := HR.out.chg H.out.2.2.2.1 (by rintro (h9 | h9) <;> first | exact HNB.out.2.1 h9 | (have := HLTB.out; omega))
        have HDF : Hid (DevN N wr h D ∧ Chg h.foot w wr) := ⟨H.out.2.1, H.out.2.2.1⟩
        have b0 := HB3.out.cell 0
        have b1 := HB3.out.cell 1
        have b2 := HB3.out.cell 2
        have b3 := HB3.out.cell 3
        have b4 := HB3.out.cell 4
        have z0 := HR3.out.cell 0
        have z1 := HR3.out.cell 1
        have z2 := HR3.out.cell 2
        have z3 := HR3.out.cell 3
        have z4 := HR3.out.cell 4
        have k0 := HR3.out.frozen 0
        have k1 := HR3.out.frozen 1
        have k2 := HR3.out.frozen 2
        have k3 := HR3.out.frozen 3
        have k4 := HR3.out.frozen 4
        simp only [itc, List.getElem?_toArray, List.getElem?_cons_zero, List.getElem?_cons_succ] at z0 z1 z2 z3 z4 b0 b1 b2 b3 b4
        have xb : w.heap.size < wr.heap.size := HR3.out.lt
        have xn : ¬ w1.heap.size = w.heap.size := by omega
        have xn2 : ¬ w.heap.size = w1.heap.size := by omega
        clear H h2 hk
        cases o with
        | none =>
          have HA : Hid (X.get D key = Item.zero ∧ X.getE D key = 5) := by show _ ∧ _; rw [HRES.out.1, HRES.out.2, HOO.out]; exact ⟨rfl, rfl⟩
          go_wp2_with fail
          refine bodyPost_ret (v := .tuple #[itemV Item.zero, .int .i64 5]) (by simp [results, Tryz.results17, go_sem, z0, z1, z2, z3, z4]; exact ⟨rfl, rfl, rfl, rfl, rfl⟩) rfl ?_
          have h5 := devN_new HD.out HDF.out.1 HDF.out.2 ((set5_chg wr w.heap.size Item.zero).mono (fun j _ e => Nat.le_of_eq (Eq.symm e)))
          exact ⟨by rw [HA.out.1, HA.out.2], h5.1, h5.2⟩
        | some x =>
          have HA : Hid (X.get D key = x ∧ X.getE D key = 0) := by show _ ∧ _; rw [HRES.out.1, HRES.out.2, HOO.out]; exact ⟨rfl, rfl⟩
          simp only [Option.getD_some] at b0 b1 b2 b3 b4
          go_wp2_with fail
          refine bodyPost_ret (v := .tuple #[itemV x, .int .i64 0]) (by simp [results, Tryz.results17, go_sem, z0, z1, z2, z3, z4, b0, b1, b2, b3, b4, xn, xn2]) rfl ?_
          have h5 := devN_new HD.out HDF.out.1 HDF.out.2 ((set5_chg wr w.heap.size x).mono (fun j _ e => Nat.le_of_eq (Eq.symm e)))
          exact ⟨by rw [HA.out.1, HA.out.2], h5.1, h5.2⟩
end
end Go.Proofs.YtplpbbdakihnfaaGreat
end
