/- Packed texts: EngF, EngH, EngI, PlnB. -/
import Derived.Test.YtplpbbdakihnfaaGreatPq20
import Derived.Test.YtplpbbdakihnfaaGreatPq16
import Derived.Test.YtplpbbdakihnfaaGreatPq17
import Derived.Test.YtplpbbdakihnfaaGreatPq05
set_option linter.unusedSimpArgs false
set_option linter.unusedVariables false
section
namespace Go.Proofs.YtplpbbdakihnfaaGreat
open Go.RowKit
open Go.ChangeMaps (setBlock)
attribute [local go_sem ↓] Go.wp_at_zero Go.wp_at_succ
abbrev tGeo : TypeId := 34
namespace Eng
def raw (D : Dev) (g : Geo) : Eng := { losses := D.losses, blk := D.sload, last := D.sload.reserved, J := Jn.opened D 2 g.j D.sload.gen, B := Sto.open_ D (2 + g.j) g.b, G := Lg.opened D (2 + g.j + g.b) g.r }
def now (D : Dev) : Sb := { D.sload with epoch := D.sload.epoch + 1, clean := false }
def opened (D : Dev) (g : Geo) : Eng := (raw D g).set D (now D)
end Eng
section
variable {N : Nat} {S : Nat → Prop} {w w' : World} {h : DevH} {D : Dev}
structure Opn (w W : World) (h : DevH) (D : Dev) (g : Geo) (E Y : Nat) (cs : Array Value) (y : Sb) : Prop where
  dev : DevAt W h D
  geo : Blk W w.heap.size tGeo #[.int .i64 g.j, .int .i64 g.b, .int .i64 g.r, .int .i64 g.i]
  res : Blk W (w.heap.size + 1) tSb #[.int .u64 0, .int .u64 0, .int .u64 0, .int .u64 0, .int .u64 0, .bool false, .int .i64 0]
  eng : Blk W E tEng cs
  was : Blk W Y tSb #[.int .u64 y.seq, .int .u64 y.epoch, .int .u64 y.reserved, .int .u64 y.horizon, .int .u64 y.gen, .bool y.clean, .int .i64 y.image]
  chg : Chg h.foot w W
  lt : w.heap.size ≤ E
theorem Opn.foot {w W W' : World} {g : Geo} {E Y : Nat} {cs : Array Value} {y : Sb} (ho : Opn w W h D g E Y cs y) (hc : Chg h.foot W W') (hd : DevAt W' h D) : Opn w W' h D g E Y cs y :=
  ⟨hd, ho.geo.chg hc (ho.dev.not_foot ho.geo (by decide) (by decide)), ho.res.chg hc (ho.dev.not_foot ho.res (by decide) (by decide)), ho.eng.chg hc (ho.dev.not_foot ho.eng (by decide) (by decide)), ho.was.chg hc (ho.dev.not_foot ho.was (by decide) (by decide)), ho.chg.trans hc, ho.lt⟩
theorem Opn.chgNo {w W W' : World} {g : Geo} {E Y : Nat} {cs : Array Value} {y : Sb} (ho : Opn w W h D g E Y cs y) (hc : Chg No W W') : Opn w W' h D g E Y cs y :=
  ho.foot (hc.mono (fun _ _ h => h.elim)) ((show DevN W.heap.size W h D from ho.dev).chgNo hc).at_
theorem Opn.store {w W W' : World} {g : Geo} {E Y : Nat} {cs cs' : Array Value} {y : Sb} (ho : Opn w W h D g E Y cs y) (hc : Chg (fun k => k = E) W W') (hb : Blk W' E tEng cs') : Opn w W' h D g E Y cs' y := by
  have hne : ∀ {g' : Nat} {T' : TypeId} {cs' : Array Value}, Blk W g' T' cs' → tEng ≠ T' → ¬ g' = E := by
    intro g' T' cs' hb' hT e
    subst e
    have h1 := ho.eng
    unfold Blk at h1 hb'
    rw [h1] at hb'
    injection hb' with hb'
    injection hb' with _ hb'
    exact hT hb'
  exact ⟨(dev_one (show DevN W.heap.size W h D from ho.dev) ho.eng hc (by decide) (by decide) (by decide) (by decide)).at_, ho.geo.chg hc (hne ho.geo (by decide)), ho.res.chg hc (hne ho.res (by decide)), hb, ho.was.chg hc (hne ho.was (by decide)), ho.chg.then hc (fun i hi e => by have := ho.lt; omega), ho.lt⟩
theorem blk_two {w : World} {E g : Nat} {T : TypeId} {cs cs' : Array Value} (hb : Blk w E tEng cs) (hb' : Blk w g T cs') (hT : tEng ≠ T) : ¬ g = E := by
  intro e
  subst e
  unfold Blk at hb hb'
  rw [hb] at hb'
  injection hb' with hb'
  injection hb' with _ hb'
  exact hT hb'
theorem JnAt.one {E : Nat} {cs : Array Value} {tj : JnH} {J : Jn} (hj : JnAt w h tj J) (hb : Blk w E tEng cs) (hc : Chg (fun k => k = E) w w') : JnAt w' h tj J :=
  hj.chg hc (fun k hk e => by
    rcases hk with e2 | e2
    · exact blk_two hb hj.box (by decide) (e2.symm.trans e)
    · exact hj.map.ne_blk hb (e2.symm.trans e))
theorem StoAt.one {E : Nat} {cs : Array Value} {ts : StoH} {B : Sto} (hs : StoAt w h ts B) (hb : Blk w E tEng cs) (hc : Chg (fun k => k = E) w w') : StoAt w' h ts B :=
  hs.chg hc (fun g' cs' T' hT hb' => by
    rcases hT with rfl | rfl | rfl | rfl <;> exact blk_two hb hb' (by decide))
theorem sbs_ok (D : Dev) : ∀ (k : Nat) (b : Sb), D.sbs k = some b → b.Ok := by
  intro k
  induction k with
  | zero => intro b h; cases h
  | succ k ih =>
    intro b h
    unfold Dev.sbs sbPick at h
    split at h
    · rename_i b2 hb2
      split at h
      · split at h
        · injection h with h; rw [← h]; exact Sb.dec_ok hb2
        · rename_i c hc
          split at h
          · injection h with h; rw [← h]; exact Sb.dec_ok hb2
          · injection h with h; rw [← h]; exact ih c hc
      · exact ih b h
    · exact ih b h
theorem sload_ok (D : Dev) : D.sload.Ok := by
  unfold Dev.sload
  cases h : D.sbs 2 with
  | none => exact Sb.zero_ok
  | some b => exact sbs_ok D 2 b h
set_option maxRecDepth 100000 in
set_option maxHeartbeats 4000000 in
theorem eopen_calls (hd : DevAt w h D) (g : Geo) (hg : g.ok = true) (hfit : g.pages ≤ D.n) (hoff : D.off = false) (hq : D.sload.seq + 1 < 18446744073709551616) (hep : D.sload.epoch + 1 < 18446744073709551616) (hE : D.stE (Eng.now D) = 0) :
    Calls Tryz.prog 14 #[.pointer (some ⟨h.d, 0, none⟩), g.V] w fun e w' => ∃ t, e = .returned (.tuple #[.pointer (some ⟨t.E, 0, none⟩), sbV D.sload, .int .i64 0]) ∧ (EngAt w' h t (Eng.opened D g) ∧ t.far w.heap.size) ∧ DevAt w' h (D.stD (Eng.now D)) ∧ Chg h.foot w w' := by
  have hnm := hd.nmost
  have HGD := fun W => Lib.hid (egood_calls g hg W)
  have HPG := fun W => Lib.hid (epages_calls g hg W)
  have HDP := fun W => Lib.hid (fun hc : Chg No w W => pages_calls (hd.chgNo hc))
  have HPW := fun W => Lib.hid (fun hc : Chg No w W => power_calls (hd.chgNo hc))
  have HLS := fun W => Lib.hid (fun hc : Chg No w W => losses_calls (hd.chgNo hc))
  rw [hoff] at HPW
  have HD := Lib.hid hd
  have hp2 : 2 ≤ D.n := by unfold Geo.pages at hfit; omega
  have HLD := fun W => Lib.hid (fun hc : Chg No w W => load_calls7 ((show DevN w.heap.size w h D from hd).chgNo hc).at_ hoff hp2)
  have hpl : decide (D.n < g.pages) = false := decide_eq_false (by omega)
  obtain ⟨pg, hpg⟩ : ∃ pg, pg = g.pages := ⟨_, rfl⟩
  rw [← hpg] at HPG hpl
  have HFIT := Lib.hid hfit
  have HOFF := Lib.hid hoff
  have HEE := Lib.hid hE
  have HOK := Lib.hid hg
  have HQ := Lib.hid hq
  have HEP := Lib.hid hep
  clear hd hg hfit hoff hq hep hE hpg
  obtain ⟨gj, gb, gr, gi⟩ := g
  have hbb := HOK.out
  unfold Geo.ok at hbb
  simp only [Bool.and_eq_true, decide_eq_true_eq] at hbb
  obtain ⟨⟨⟨⟨⟨⟨bj1, bj2⟩, bb1⟩, bb2⟩, br1⟩, br2⟩, bi⟩ := hbb
  have bfit : 2 + gj + gb + 4 * gr + gi ≤ D.n := HFIT.out
  have a1 : IntKind.i64.wrap (2 + (gj : Int)) = 2 + (gj : Int) := IntWalk.i64_in _ (by omega)
  have a2 : IntKind.i64.wrap (2 + (gj : Int) + (gb : Int)) = 2 + (gj : Int) + (gb : Int) := IntWalk.i64_in _ (by omega)
  have HB1 := Lib.hid bj1
  have HB2 := Lib.hid (And.intro bb1 (And.intro bb2 (And.intro br1 br2)))
  have HB3 := Lib.hid bfit
  have HB4 := Lib.hid bj2
  clear bj1 bj2 bb1 bb2 br1 br2 bi bfit
  unfold Geo.V at HGD HPG ⊢
  simp only at HGD HPG ⊢
  go_enter Tryz.func14, Tryz.ntmps14
  go_wp2_with fail
  obtain ⟨w1, hw1⟩ : ∃ w1, w1 = (w.alloc (.cells #[.int .i64 gj, .int .i64 gb, .int .i64 gr, .int .i64 gi] tGeo)).alloc (.cells #[.int .u64 0, .int .u64 0, .int .u64 0, .int .u64 0, .int .u64 0, .bool false, .int .i64 0] tSb) := ⟨_, rfl⟩
  change Code.wp _ _ _ _ ((w.alloc (.cells #[.int .i64 gj, .int .i64 gb, .int .i64 gr, .int .i64 gi] tGeo)).alloc (.cells #[.int .u64 0, .int .u64 0, .int .u64 0, .int .u64 0, .int .u64 0, .bool false, .int .i64 0] tSb))
  rw [← hw1]
  have HC1 : Hid (Chg No w w1) := by show Chg No w w1; rw [hw1]; exact ((Chg.refl No w).alloc _).alloc _
  have HG1 : Hid (Blk w1 w.heap.size tGeo #[.int .i64 gj, .int .i64 gb, .int .i64 gr, .int .i64 gi]) := by show Blk _ _ _ _; rw [hw1]; exact (Blk.new w tGeo _).alloc _
  have HR1 : Hid (Blk w1 (w.heap.size + 1) tSb #[.int .u64 0, .int .u64 0, .int .u64 0, .int .u64 0, .int .u64 0, .bool false, .int .i64 0]) := by
    show Blk _ _ _ _
    rw [hw1]
    have := Blk.new (w.alloc (.cells #[.int .i64 gj, .int .i64 gb, .int .i64 gr, .int .i64 gi] tGeo)) tSb #[.int .u64 0, .int .u64 0, .int .u64 0, .int .u64 0, .int .u64 0, .bool false, .int .i64 0]
    simp only [World.size_alloc] at this
    exact this
  have z0 := HG1.out.cell 0
  have z1 := HG1.out.cell 1
  have z2 := HG1.out.cell 2
  have z3 := HG1.out.cell 3
  simp at z0 z1 z2 z3
  clear hw1
  go_region_held3 (fun w' => w'.cell? ⟨w.heap.size, 0, none⟩ = some (.int .i64 gj) ∧ w'.cell? ⟨w.heap.size, 1, none⟩ = some (.int .i64 gb) ∧ w'.cell? ⟨w.heap.size, 2, none⟩ = some (.int .i64 gr) ∧ w'.cell? ⟨w.heap.size, 3, none⟩ = some (.int .i64 gi)) (first | go_keep)
    (first
      | (go_at_call 31
         refine (HGD _).out.mono ?_
         rintro e w3 ⟨rfl, hc3⟩
         have HC3 := Lib.hid ((by (repeat (first | (with_reducible exact Chg.refl _ _) | (with_reducible assumption) | (with_reducible refine Chg.drewN ?_ _) | (with_reducible refine Chg.drew ?_) | (with_reducible refine Chg.alloc ?_ _) | (with_reducible refine Chg.setCell ?_ (by first | (left; simp [DevH.foot]; done) | (right; simp; done) | (right; simp; omega)) _))) : Chg No w1 _).trans hc3)
         have k0 := HC3.out.cellNo z0
         have k1 := HC3.out.cellNo z1
         have k2 := HC3.out.cellNo z2
         have k3 := HC3.out.cellNo z3
         clear hc3)
      | (go_at_call 33
         refine ((HDP _).out (by first | exact HC1.out.trans HC3.out | exact HC1.out.trans HC3.out.drew | exact HC1.out.trans HC4.out)).mono ?_
         rintro e w4 ⟨rfl, rfl⟩)
      | (go_at_call 18
         refine (HPG _).out.mono ?_
         rintro e w4 ⟨rfl, hc4⟩
         have HC4 := Lib.hid ((by first | exact HC3.out | exact HC3.out.drew : Chg No w1 _).trans hc4)
         have j0 := HC4.out.cellNo z0
         have j1 := HC4.out.cellNo z1
         have j2 := HC4.out.cellNo z2
         have j3 := HC4.out.cellNo z3
         clear hc4))
  have HC5 := Lib.hid (HC1.out.trans HC4.out)
  have HG5 := Lib.hid (HG1.out.chg HC4.out (fun h => h))
  have HR5 := Lib.hid (HR1.out.chg HC4.out (fun h => h))
  have hlt5 := HC5.out.size
  clear z0 z1 z2 z3 k0 k1 k2 k3 j0 j1 j2 j3 HC3 HC4 HC1 HG1 HR1 HGD HPG HDP
  go_wp2_with fail
  refine ((HPW _).out HC5.out).mono ?_
  rintro e w5 ⟨rfl, rfl⟩
  go_wp2_with fail
  refine ((HLS _).out HC5.out).mono ?_
  rintro e w5 ⟨rfl, rfl⟩
  clear HPW HLS
  go_wp2_with fail
  obtain ⟨w5, hw5⟩ : ∃ w5, w5 = w4.alloc (.cells #[.pointer (some ⟨h.d, 0, none⟩), .int .i64 D.losses, .int .u64 0, .int .u64 0, .int .u64 0, .int .u64 0, .int .u64 0, .bool false, .int .i64 0, .int .u64 0, .pointer none, .pointer none, .pointer none] tEng) := ⟨_, rfl⟩
  obtain ⟨E, hE⟩ : ∃ E, E = w4.heap.size := ⟨_, rfl⟩
  have HEB5 : Hid (Blk w5 E tEng #[.pointer (some ⟨h.d, 0, none⟩), .int .i64 D.losses, .int .u64 0, .int .u64 0, .int .u64 0, .int .u64 0, .int .u64 0, .bool false, .int .i64 0, .int .u64 0, .pointer none, .pointer none, .pointer none]) := by show Blk _ _ _ _; rw [hw5, hE]; exact Blk.new w4 tEng _
  have ha5 : Chg No w4 w5 := by rw [hw5]; exact (Chg.refl No w4).alloc _
  have HC6 := Lib.hid (HC5.out.trans ha5)
  have HG6 := Lib.hid (HG5.out.chg ha5 (fun h => h))
  have HR6 := Lib.hid (HR5.out.chg ha5 (fun h => h))
  have HEL : Hid (w.heap.size ≤ E) := by show _ ≤ _; rw [hE]; exact hlt5
  rw [← hw5, ← hE]
  clear hw5 hE ha5 hlt5 HC5 HG5 HR5
  refine ((HLD _).out HC6.out).mono ?_
  rintro e w6 ⟨rfl, hd6, hc6⟩
  clear HLD
  obtain ⟨y, hy⟩ : ∃ y, y = D.sload := ⟨_, rfl⟩
  obtain ⟨x0, hx0⟩ : ∃ x0, x0 = D.sbsE := ⟨_, rfl⟩
  have HYO : Hid y.Ok := by show y.Ok; rw [hy]; exact sload_ok D
  have HY := Lib.hid hy
  have hx5 : x0 = 0 ∨ x0 = 5 := by rw [hx0]; exact sbsE_in D
  rw [← hy, ← hx0]
  simp only [sbV_eq]
  have HO6 : ∀ W Y, Hid (Chg No w6 W → Blk W Y tSb #[.int .u64 y.seq, .int .u64 y.epoch, .int .u64 y.reserved, .int .u64 y.horizon, .int .u64 y.gen, .bool y.clean, .int .i64 y.image] → Opn w W h D ⟨gj, gb, gr, gi⟩ E Y #[.pointer (some ⟨h.d, 0, none⟩), .int .i64 D.losses, .int .u64 0, .int .u64 0, .int .u64 0, .int .u64 0, .int .u64 0, .bool false, .int .i64 0, .int .u64 0, .pointer none, .pointer none, .pointer none] y) := fun W Y => Lib.hid (fun hc hb => by
    have hd5 := (show DevN w.heap.size w h D from HD.out).chgNo HC6.out
    have hcc : Chg h.foot w5 W := hc6.trans (hc.mono (fun _ _ h => h.elim))
    exact ⟨((show DevN w6.heap.size w6 h D from hd6).chgNo hc).at_, HG6.out.chg hcc (hd5.not_foot HG6.out (by decide) (by decide)), HR6.out.chg hcc (hd5.not_foot HR6.out (by decide) (by decide)), HEB5.out.chg hcc (hd5.not_foot HEB5.out (by decide) (by decide)), hb, (HC6.out.mono (fun _ _ h => h.elim)).trans hcc, HEL.out⟩)
  have HZ := Lib.hid (Blk.new w6 tSb #[.int .u64 0, .int .u64 0, .int .u64 0, .int .u64 0, .int .u64 0, .bool false, .int .i64 0])
  have HGQ := Lib.hid (HG6.out.chg hc6 (((show DevN w.heap.size w h D from HD.out).chgNo HC6.out).not_foot HG6.out (by decide) (by decide)))
  have q0 := HGQ.out.cell 0
  have q1 := HGQ.out.cell 1
  have q2 := HGQ.out.cell 2
  have q3 := HGQ.out.cell 3
  simp at q0 q1 q2 q3
  have hql := HGQ.out.lt
  have HX5 := Lib.hid hx5
  clear hy hx0 hd6 hc6 HC6 HG6 HR6 HEB5 hx5
  have z0 := HZ.out.cell 0
  have z1 := HZ.out.cell 1
  have z2 := HZ.out.cell 2
  have z3 := HZ.out.cell 3
  have z4 := HZ.out.cell 4
  have z5 := HZ.out.cell 5
  have z6 := HZ.out.cell 6
  have g0 := HZ.out.frozen 0
  have g1 := HZ.out.frozen 1
  have g2 := HZ.out.frozen 2
  have g3 := HZ.out.frozen 3
  have g4 := HZ.out.frozen 4
  have g5 := HZ.out.frozen 5
  have g6 := HZ.out.frozen 6
  simp only [List.getElem?_toArray, List.getElem?_cons_zero, List.getElem?_cons_succ] at z0 z1 z2 z3 z4 z5 z6
  rcases HX5.out with hx5 | hx5
  all_goals
    rw [hx5]
    clear HX5 hx5
    go_wp2_with fail
    obtain ⟨w7, hw7⟩ : ∃ w7, w7 = w6.alloc (.cells #[.int .u64 y.seq, .int .u64 y.epoch, .int .u64 y.reserved, .int .u64 y.horizon, .int .u64 y.gen, .bool y.clean, .int .i64 y.image] tSb) := ⟨_, rfl⟩
    obtain ⟨Y, hYs⟩ : ∃ Y, Y = w6.heap.size := ⟨_, rfl⟩
    have HO7 := Lib.hid ((HO6 w7 Y).out (by rw [hw7]; exact (Chg.refl No w6).alloc _) (by rw [hw7, hYs]; exact Blk.new w6 tSb _))
    rw [← hw7, ← hYs]
    clear hw7 hYs z0 z1 z2 z3 z4 z5 z6 g0 g1 g2 g3 g4 g5 g6 q0 q1 q2 q3 hql HGQ HO6 HZ
    have hjc := jopen_calls HO7.out.dev HOFF.out 2 gj y.gen HB1.out (by have := HB3.out; omega) HYO.out.gen
    rw [show ((2 : Nat) : Int) = 2 from rfl] at hjc
    refine hjc.mono ?_
    rintro e w8 ⟨tj, rfl, hj8, hd8, hjn8, hc8⟩
    have HO8 := Lib.hid (HO7.out.foot hc8 hd8)
    have HJ8 := Lib.hid hj8
    have HJN : Hid (∀ k, tj.own k → w.heap.size ≤ k) := fun k hk => by have h1 := hjn8 k hk; have h2 := HO7.out.chg.size; omega
    have q0 := HO8.out.geo.cell 0
    have q1 := HO8.out.geo.cell 1
    have q2 := HO8.out.geo.cell 2
    have k10 := HO8.out.eng.cell 10
    have f10 := HO8.out.eng.frozen 10
    simp at q0 q1 q2 k10
    have hEg : ¬ E = w.heap.size := HO8.out.eng.ne_ HO8.out.geo (by decide)
    have hgE : ¬ w.heap.size = E := fun e => hEg e.symm
    clear hjc hj8 hd8 hjn8 hc8 HO7
    go_wp2_with fail
    obtain ⟨w9, hw9⟩ : ∃ w9, w9 = w8.setCell ⟨E, 10, none⟩ (.pointer (some ⟨tj.J, 0, none⟩)) := ⟨_, rfl⟩
    have hs9 : Chg (fun k => k = E) w8 w9 := by rw [hw9]; exact chg_setCell w8 ⟨E, 10, none⟩ _
    have HO9 := Lib.hid (HO8.out.store (cs' := #[.pointer (some ⟨h.d, 0, none⟩), .int .i64 D.losses, .int .u64 0, .int .u64 0, .int .u64 0, .int .u64 0, .int .u64 0, .bool false, .int .i64 0, .int .u64 0, .pointer (some ⟨tj.J, 0, none⟩), .pointer none, .pointer none]) hs9 (by
      rw [hw9]
      have := HO8.out.eng.set_ 10 (.pointer (some ⟨tj.J, 0, none⟩))
      simpa using this))
    have HJ9 := Lib.hid (HJ8.out.one HO8.out.eng hs9)
    rw [← hw9]
    clear hw9 hs9 HO8 HJ8 q0 q1 q2 k10 f10
    have hsc := open_calls HO9.out.dev (2 + gj) gb HB2.out.1 (by have := HB2.out.2.1; omega) (by have := HB3.out; omega) HOFF.out (fun i hi => by
      have h3 := HB3.out
      have h4 := on_read HOFF.out (k := 2 + gj + i) (by omega)
      unfold Sto.lE
      simp only
      rw [if_pos True.intro, if_pos]
      have e : ((2 + gj : Nat) : Int) + (i : Int) = ((2 + gj + i : Nat) : Int) := by omega
      rw [e]
      exact h4.1)
    rw [show ((2 + gj : Nat) : Int) = 2 + (gj : Int) from by omega] at hsc
    refine hsc.mono ?_
    rintro e w10 ⟨ts, rfl, hd10, hs10, hc10, hps10⟩
    have HO10 := Lib.hid (HO9.out.foot hc10 hd10.at_)
    have HJ10 := Lib.hid (HJ9.out.foot (show DevN w9.heap.size w9 h D from HO9.out.dev) hc10)
    have HS10 := Lib.hid hs10
    have HPS : Hid (∀ p ∈ ts.ps, w.heap.size ≤ p.2) := fun p hp => by have h1 := hps10 p hp; have h2 := HO9.out.chg.size; omega
    have q0 := HO10.out.geo.cell 0
    have q1 := HO10.out.geo.cell 1
    have q2 := HO10.out.geo.cell 2
    have k11 := HO10.out.eng.cell 11
    have f11 := HO10.out.eng.frozen 11
    simp at q0 q1 q2 k11
    clear hsc hd10 hs10 hc10 hps10 HO9 HJ9
    go_wp2_with fail
    obtain ⟨w11, hw11⟩ : ∃ w11, w11 = w10.setCell ⟨E, 11, none⟩ (.pointer (some ⟨ts.s, 0, none⟩)) := ⟨_, rfl⟩
    have hs11 : Chg (fun k => k = E) w10 w11 := by rw [hw11]; exact chg_setCell w10 ⟨E, 11, none⟩ _
    have HO11 := Lib.hid (HO10.out.store (cs' := #[.pointer (some ⟨h.d, 0, none⟩), .int .i64 D.losses, .int .u64 0, .int .u64 0, .int .u64 0, .int .u64 0, .int .u64 0, .bool false, .int .i64 0, .int .u64 0, .pointer (some ⟨tj.J, 0, none⟩), .pointer (some ⟨ts.s, 0, none⟩), .pointer none]) hs11 (by
      rw [hw11]
      have := HO10.out.eng.set_ 11 (.pointer (some ⟨ts.s, 0, none⟩))
      simpa using this))
    have HJ11 := Lib.hid (HJ10.out.one HO10.out.eng hs11)
    have HS11 := Lib.hid (HS10.out.one HO10.out.eng hs11)
    rw [← hw11]
    clear hw11 hs11 HO10 HJ10 HS10 q0 q1 q2 k11 f11
    have hgc := gopen_calls (show DevN w11.heap.size w11 h D from HO11.out.dev) (2 + gj + gb) gr HB2.out.2.2.1 (by have := HB2.out.2.2.2; omega) (by have := HB3.out; omega) HOFF.out
    rw [show ((2 + gj + gb : Nat) : Int) = 2 + (gj : Int) + (gb : Int) from by omega] at hgc
    refine hgc.mono ?_
    rintro e w12 ⟨tg, rfl, hg12, hd12, hgn12, hc12⟩
    have HO12 := Lib.hid (HO11.out.foot hc12 hd12.at_)
    have HJ12 := Lib.hid (HJ11.out.foot (show DevN w11.heap.size w11 h D from HO11.out.dev) hc12)
    have HS12 := Lib.hid (HS11.out.foot (show DevN w11.heap.size w11 h D from HO11.out.dev) hc12)
    have HG12 := Lib.hid hg12
    have HGN : Hid (∀ k, tg.own k → w11.heap.size ≤ k) := hgn12
    have k12 := HO12.out.eng.cell 12
    have f12 := HO12.out.eng.frozen 12
    simp at k12
    clear hgc hg12 hd12 hgn12 hc12
    go_wp2_with fail
    obtain ⟨w13, hw13⟩ : ∃ w13, w13 = w12.setCell ⟨E, 12, none⟩ (.pointer (some ⟨tg.L, 0, none⟩)) := ⟨_, rfl⟩
    have hs13 : Chg (fun k => k = E) w12 w13 := by rw [hw13]; exact chg_setCell w12 ⟨E, 12, none⟩ _
    have HO13 := Lib.hid (HO12.out.store (cs' := #[.pointer (some ⟨h.d, 0, none⟩), .int .i64 D.losses, .int .u64 0, .int .u64 0, .int .u64 0, .int .u64 0, .int .u64 0, .bool false, .int .i64 0, .int .u64 0, .pointer (some ⟨tj.J, 0, none⟩), .pointer (some ⟨ts.s, 0, none⟩), .pointer (some ⟨tg.L, 0, none⟩)]) hs13 (by
      rw [hw13]
      have := HO12.out.eng.set_ 12 (.pointer (some ⟨tg.L, 0, none⟩))
      simpa using this))
    have hEl : E < w11.heap.size := HO11.out.eng.lt
    have HE13 : Hid (EngAt w13 h ⟨E, tj, ts, tg⟩ { losses := D.losses, blk := Sb.zero, last := 0, J := Jn.opened D 2 gj y.gen, B := Sto.open_ D ((2 + gj : Nat) : Int) gb, G := Lg.opened D (2 + gj + gb) gr }) := by
      refine { box := HO13.out.eng, jn := HJ12.out.one HO12.out.eng hs13, sto := HS12.out.one HO12.out.eng hs13, lg := HG12.out.chg hs13 (fun k hk e => by have := HGN.out k hk; omega), jg := fun k hk h1 => ?_, sg := fun p hp h1 => ?_, eg := fun h1 => ?_, blk := Sb.zero_ok, last := (by show (0 : Nat) < _; decide), jfit := HJ12.out.fit, pos := ?_ }
      · have h2 := HJ11.out.lt hk
        have h3 := HGN.out k h1
        omega
      · obtain ⟨cs, hb⟩ := StoAt.bits_ty (t := ⟨E, tj, ts, tg⟩) (X := { losses := D.losses, blk := Sb.zero, last := 0, J := Jn.opened D 2 gj y.gen, B := Sto.open_ D ((2 + gj : Nat) : Int) gb, G := Lg.opened D (2 + gj + gb) gr }) HS11.out hp
        have h2 := hb.lt
        have h3 := HGN.out _ h1
        omega
      · have h3 := HGN.out _ h1
        have h4 : w11.heap.size ≤ E := h3
        omega
      · show 0 < (Sto.open_ D ((2 + gj : Nat) : Int) gb).fs.length
        unfold Sto.open_
        rw [List.length_map, List.length_range]
        exact HB2.out.1
    rw [← hw13]
    have HOWN : Hid (¬ tg.own (w.heap.size + 1)) := fun h1 => by
      have h2 := HGN.out _ h1
      have h3 := HO11.out.res.lt
      omega
    have HFAR : Hid (EngH.far ⟨E, tj, ts, tg⟩ w.heap.size) := ⟨HEL.out, HJN.out, HPS.out, fun k hk => Nat.le_trans HO11.out.chg.size (HGN.out k hk)⟩
    clear hw13 hs13 HO12 HJ12 HS12 HG12 HO11 HJ11 HS11 HGN k12 f12 hEl HJN HPS
    have y0 := HO13.out.was.cell 0
    have y1 := HO13.out.was.cell 1
    have y2 := HO13.out.was.cell 2
    have y3 := HO13.out.was.cell 3
    have y4 := HO13.out.was.cell 4
    have y5 := HO13.out.was.cell 5
    have y6 := HO13.out.was.cell 6
    have e2 := HO13.out.eng.cell 2
    have e3 := HO13.out.eng.cell 3
    have e4 := HO13.out.eng.cell 4
    have e5 := HO13.out.eng.cell 5
    have e6 := HO13.out.eng.cell 6
    have e7 := HO13.out.eng.cell 7
    have e8 := HO13.out.eng.cell 8
    have e9 := HO13.out.eng.cell 9
    have f2 := HO13.out.eng.frozen 2
    have f3 := HO13.out.eng.frozen 3
    have f4 := HO13.out.eng.frozen 4
    have f5 := HO13.out.eng.frozen 5
    have f6 := HO13.out.eng.frozen 6
    have f7 := HO13.out.eng.frozen 7
    have f8 := HO13.out.eng.frozen 8
    have f9 := HO13.out.eng.frozen 9
    simp at y0 y1 y2 y3 y4 y5 y6 e2 e3 e4 e5 e6 e7 e8 e9
    have hEY : ¬ E = Y := HO13.out.eng.ne_ HO13.out.was (by decide)
    have hYE : ¬ Y = E := fun e => hEY e.symm
    go_region_with (fail)
    all_goals
      have hb1 := HE13.out.setBlk y HYO.out
      have hb2 := hb1.1.setLast y.reserved HYO.out.reserved
      obtain ⟨w14, hw14⟩ : ∃ w14, w14 = ((set7e w13 E y).setCell ⟨E, 9, none⟩ (.int .u64 y.reserved)).drew := ⟨_, rfl⟩
      have hc14 : Chg (fun k => k = E) w13 w14 := by rw [hw14]; exact (hb1.2.trans hb2.2).drew
      have HE14 : Hid (EngAt w14 h ⟨E, tj, ts, tg⟩ (Eng.raw D ⟨gj, gb, gr, gi⟩)) := by
        have := hb2.1.chgNo ((Chg.refl No _).drew)
        show EngAt _ _ _ _
        rw [hw14]
        unfold Eng.raw
        rw [← HY.out]
        exact this
      have HO14 := Lib.hid (HO13.out.store hc14 HE14.out.box)
      change Exit.then _ _ _ _ (((set7e w13 E y).setCell ⟨E, 9, none⟩ (.int .u64 y.reserved)).drew)
      rw [← hw14]
      clear hw14 hb1 hb2 hc14 HE13 HO13 y0 y1 y2 y3 y4 y5 y6 e2 e3 e4 e5 e6 e7 e8 e9 f2 f3 f4 f5 f6 f7 f8 f9
      have y0 := HO14.out.was.cell 0
      have y1 := HO14.out.was.cell 1
      have y2 := HO14.out.was.cell 2
      have y3 := HO14.out.was.cell 3
      have y4 := HO14.out.was.cell 4
      have y5 := HO14.out.was.cell 5
      have y6 := HO14.out.was.cell 6
      simp at y0 y1 y2 y3 y4 y5 y6
      have hYl := HO14.out.was.lt
      have ew : IntKind.u64.wrap ((y.epoch : Int) + 1) = (y.epoch : Int) + 1 := IntWalk.u64_in _ (by have := HEP.out; rw [← HY.out] at this; omega)
      have HZ := Lib.hid (Blk.new w14 tSb #[.int .u64 0, .int .u64 0, .int .u64 0, .int .u64 0, .int .u64 0, .bool false, .int .i64 0])
      have z0 := HZ.out.cell 0
      have z1 := HZ.out.cell 1
      have z2 := HZ.out.cell 2
      have z3 := HZ.out.cell 3
      have z4 := HZ.out.cell 4
      have z5 := HZ.out.cell 5
      have z6 := HZ.out.cell 6
      have g0 := HZ.out.frozen 0
      have g1 := HZ.out.frozen 1
      have g2 := HZ.out.frozen 2
      have g3 := HZ.out.frozen 3
      have g4 := HZ.out.frozen 4
      have g5 := HZ.out.frozen 5
      have g6 := HZ.out.frozen 6
      simp only [List.getElem?_toArray, List.getElem?_cons_zero, List.getElem?_cons_succ] at z0 z1 z2 z3 z4 z5 z6
      go_wp2_with fail
      have ha15 : Chg No w14 (w14.alloc (.cells #[.int .u64 y.seq, .int .u64 ((y.epoch : Int) + 1), .int .u64 y.reserved, .int .u64 y.horizon, .int .u64 y.gen, .bool false, .int .i64 y.image] tSb)) := (Chg.refl No w14).alloc _
      have HO15 := Lib.hid (HO14.out.chgNo ha15)
      have hok : (Eng.now D).Ok := by
        unfold Eng.now
        rw [← HY.out]
        exact ⟨HYO.out.seq, by have := HEP.out; rw [← HY.out] at this; exact this, HYO.out.reserved, HYO.out.horizon, HYO.out.gen, HYO.out.image⟩
      have hes := eset_calls HO15.out.dev (HE14.out.chgNo ha15) HOFF.out hp2 (Eng.now D) hok HQ.out rfl
      have hnv : sbV (Eng.now D) = .agg #[.int .u64 y.seq, .int .u64 ((y.epoch : Int) + 1), .int .u64 y.reserved, .int .u64 y.horizon, .int .u64 y.gen, .bool false, .int .i64 y.image] := by
        unfold Eng.now
        rw [← HY.out, sbV_eq]
        rfl
      rw [hnv, HEE.out] at hes
      refine hes.mono ?_
      rintro e w16 ⟨rfl, he16, hd16, hc16⟩
      have HE16 := Lib.hid he16
      have HD16 := Lib.hid hd16
      have hEl : w.heap.size ≤ E := HO15.out.lt
      have HC16 : Hid (Chg h.foot w w16) := HO15.out.chg.then hc16 (fun k hk h1 => by
        rcases h1 with h1 | h1
        · exact h1
        · have h2 : k = E := h1
          omega)
      have HW16 := Lib.hid (HO15.out.was.chg hc16 (by
        rintro (h1 | h1)
        · exact HO15.out.dev.not_foot HO15.out.was (by decide) (by decide) h1
        · exact hYE h1))
      have hER : ¬ w.heap.size + 1 = E := blk_two HO15.out.eng HO15.out.res (by decide)
      have HR16 := Lib.hid (HO15.out.res.chg hc16 (by
        rintro (h1 | h1)
        · exact HO15.out.dev.not_foot HO15.out.res (by decide) (by decide) h1
        · exact hER h1))
      clear he16 hd16 hc16 hes hnv hok ha15 HO15 HE14 HO14 HZ z0 z1 z2 z3 z4 z5 z6 g0 g1 g2 g3 g4 g5 g6 y0 y1 y2 y3 y4 y5 y6
      have y0 := HW16.out.cell 0
      have y1 := HW16.out.cell 1
      have y2 := HW16.out.cell 2
      have y3 := HW16.out.cell 3
      have y4 := HW16.out.cell 4
      have y5 := HW16.out.cell 5
      have y6 := HW16.out.cell 6
      have z0 := HR16.out.cell 0
      have z1 := HR16.out.cell 1
      have z2 := HR16.out.cell 2
      have z3 := HR16.out.cell 3
      have z4 := HR16.out.cell 4
      have z5 := HR16.out.cell 5
      have z6 := HR16.out.cell 6
      have g0 := HR16.out.frozen 0
      have g1 := HR16.out.frozen 1
      have g2 := HR16.out.frozen 2
      have g3 := HR16.out.frozen 3
      have g4 := HR16.out.frozen 4
      have g5 := HR16.out.frozen 5
      have g6 := HR16.out.frozen 6
      simp at y0 y1 y2 y3 y4 y5 y6 z0 z1 z2 z3 z4 z5 z6
      go_wp2_with fail
      go_region_with (fail)
      all_goals
        go_wp2_with fail
        have hst := (set7_chg w16 (w.heap.size + 1) (.int .u64 y.seq) (.int .u64 y.epoch) (.int .u64 y.reserved) (.int .u64 y.horizon) (.int .u64 y.gen) (.bool y.clean) (.int .i64 y.image)).drew
        refine bodyPost_ret (v := .tuple #[.pointer (some ⟨E, 0, none⟩), .agg #[.int .u64 y.seq, .int .u64 y.epoch, .int .u64 y.reserved, .int .u64 y.horizon, .int .u64 y.gen, .bool y.clean, .int .i64 y.image], .int .i64 0]) (by simp [results, Tryz.results14, go_sem, z0, z1, z2, z3, z4, z5, z6]) rfl ?_
        refine ⟨⟨E, tj, ts, tg⟩, by rw [← HY.out, sbV_eq], ⟨HE16.out.other HR16.out (by decide) (by decide) (by decide) (by decide) (by decide) (by decide) HOWN.out hst, HFAR.out⟩, (dev_one (show DevN w16.heap.size w16 h _ from HD16.out) HR16.out hst (by decide) (by decide) (by decide) (by decide)).at_, HC16.out.then hst (fun i hi e => by
          have h2 : i = w.heap.size + 1 := e
          omega)⟩
end
end Go.Proofs.YtplpbbdakihnfaaGreat
end

section
namespace Go.Proofs.YtplpbbdakihnfaaGreat
open Go.RowKit
open Go.ChangeMaps (setBlock)
attribute [local go_sem ↓] Go.wp_at_zero Go.wp_at_succ
section
variable {N : Nat} {S : Nat → Prop} {w w' : World} {h : DevH} {t : EngH} {X : Eng} {D : Dev}
theorem EngAt.logged {G' : Lg} (he : EngAt w h t X) (hl : LgAt w' h t.g G') (hc : Chg (fun k => k = t.g.M) w w') : EngAt w' h t { X with G := G' } := by
  have hM := he.lg.ownM
  refine { he with box := he.box.chg hc (fun e => he.eg (by rw [e]; exact hM)), jn := he.jn.chg hc (fun k hk e => he.jg k hk (by rw [e]; exact hM)), sto := he.sto.chg hc (fun g cs T hT hb e => he.lg.map.ne_blk hb e.symm), lg := hl }
set_option maxRecDepth 100000 in
set_option maxHeartbeats 4000000 in
theorem eput_small (hd : DevAt w h D) (he : EngAt w h t X) (x : Item) (hk : x.key.size ≤ 140737488351232) (hv : x.val.size ≤ 140737488351232) (hg : x.good = true) (hx : x.size ≤ 120)
    (hle : X.B.lE D (X.B.no x.key) = 0) (hpe : X.B.putE D x = 0) :
    Calls Tryz.prog 16 #[.pointer (some ⟨t.E, 0, none⟩), itemV x] w fun e w' => e = .returned (.int .i64 (X.psE D x)) ∧ EngAt w' h t (X.psX D x) ∧ DevAt w' h (X.psD D x) ∧ Chg (fun k => h.foot k ∨ (∃ p ∈ t.s.ps, k = p.2) ∨ k = t.g.M) w w' := by
  have HGD := fun W => Lib.hid (good_calls x W)
  have HSZ := fun W => Lib.hid (size_calls x W hk hv)
  have HPU := fun W => Lib.hid (fun hc : Chg No w W => sput_calls ((show DevN w.heap.size w h D from hd).chgNo hc) (he.chgNo hc).sto he.pos x hg hx hle hpe)
  unfold itemV at HPU ⊢
  have HE := Lib.hid he
  have HD := Lib.hid hd
  have c11 := he.box.cell 11
  have c12 := he.box.cell 12
  have c0 := he.box.cell 0
  simp [engBox] at c11 c12 c0
  have xlt := he.box.lt
  rw [hg] at HGD
  obtain ⟨sz, hsz⟩ : ∃ sz, sz = x.size := ⟨_, rfl⟩
  rw [← hsz] at HSZ hx
  have hs1 : ¬ (1472 : Int) < (sz : Int) := by omega
  have hs2 : (sz : Int) ≤ 120 := by omega
  have HPOS := Lib.hid he.pos
  clear hd he hk hv hg hx hle hpe hsz
  go_enter Tryz.func16, Tryz.ntmps16
  go_wp2_with fail
  refine (HGD _).out.mono ?_
  rintro e w1 ⟨rfl, hc1⟩
  have HC1 : Hid (Chg No w w1) := ((Chg.refl No w).alloc _).trans hc1
  have HX := Lib.hid ((Blk.new w tItem #[.string x.key, .string x.val, .int .u32 x.flags.toNat, .int .i64 x.exp.toInt, .int .u64 x.ver.toNat]).chg hc1 (fun h => h))
  have x0 := HX.out.cell 0
  have x1 := HX.out.cell 1
  have x2 := HX.out.cell 2
  have x3 := HX.out.cell 3
  have x4 := HX.out.cell 4
  simp at x0 x1 x2 x3 x4
  clear hc1
  go_wp2_with fail
  refine (HSZ _).out.mono ?_
  rintro e w2 ⟨rfl, hc2⟩
  have HC2 := Lib.hid (HC1.out.trans hc2)
  have HX2 := Lib.hid (HX.out.chg hc2 (fun h => h))
  clear x0 x1 x2 x3 x4 HX HC1
  have x0 := HX2.out.cell 0
  have x1 := HX2.out.cell 1
  have x2 := HX2.out.cell 2
  have x3 := HX2.out.cell 3
  have x4 := HX2.out.cell 4
  simp at x0 x1 x2 x3 x4
  clear hc2
  go_wp2_with fail
  refine (HSZ _).out.mono ?_
  rintro e w3 ⟨rfl, hc3⟩
  have HC3 := Lib.hid (HC2.out.trans hc3)
  have HX3 := Lib.hid (HX2.out.chg hc3 (fun h => h))
  clear x0 x1 x2 x3 x4 HX2 HC2
  have x0 := HX3.out.cell 0
  have x1 := HX3.out.cell 1
  have x2 := HX3.out.cell 2
  have x3 := HX3.out.cell 3
  have x4 := HX3.out.cell 4
  simp at x0 x1 x2 x3 x4
  have c11 := HC3.out.cellNo c11
  have c12 := HC3.out.cellNo c12
  have c0 := HC3.out.cellNo c0
  clear hc3
  go_wp2_with fail
  go_region_held3 (fun w' => w'.cell? ⟨t.E, 11, none⟩ = some (.pointer (some ⟨t.s.s, 0, none⟩)) ∧ w'.cell? ⟨w.heap.size, 0, none⟩ = some (.string x.key) ∧ w'.cell? ⟨w.heap.size, 1, none⟩ = some (.string x.val) ∧ w'.cell? ⟨w.heap.size, 2, none⟩ = some (.int .u32 x.flags.toNat) ∧ w'.cell? ⟨w.heap.size, 3, none⟩ = some (.int .i64 x.exp.toInt) ∧ w'.cell? ⟨w.heap.size, 4, none⟩ = some (.int .u64 x.ver.toNat)) (first | go_keep)
    ((go_at_call 42
      refine ((HPU _).out HC3.out.drew).mono ?_
      rintro e w4 ⟨v, rfl, ho4, hd4, hs4, hc4⟩
      have hD3 := (show DevN w.heap.size w h D from HD.out).chgNo HC3.out.drew
      have HE4 := Lib.hid ((HE.out.chgNo HC3.out.drew).bits hD3 hc4 hs4 (by show 0 < (X.B.add x).fs.length; unfold Sto.add; simp only [List.length_modify]; exact HPOS.out))
      have HD4 := Lib.hid hd4
      obtain ⟨Av, cv, rfl, hncv, hrdv⟩ := own_slice ho4
      have HC4 : Hid (Chg (fun k => h.foot k ∨ (∃ p ∈ t.s.ps, k = p.2) ∨ k = t.g.M) w w4) := (HC3.out.drew.mono (fun _ _ h => h.elim)).trans (hc4.mono (fun k _ hk => by
        rcases hk with h1 | h1
        · exact .inl h1
        · exact .inr (.inl h1)))
      have HX4 := Lib.hid (HX3.out.drew.chg hc4 (by
        rintro (h1 | ⟨p, hp, h1⟩)
        · have := foot_size HD.out h1; omega
        · obtain ⟨cs2, hb2⟩ := HE.out.sto.bits_ty hp
          have := hb2.lt
          omega))
      have k11 := HE4.out.box.cell 11
      have k12 := HE4.out.box.cell 12
      have k0 := HE4.out.box.cell 0
      simp [engBox] at k11 k12 k0
      have j0 := HX4.out.cell 0
      have j1 := HX4.out.cell 1
      have j2 := HX4.out.cell 2
      have j3 := HX4.out.cell 3
      have j4 := HX4.out.cell 4
      simp at j0 j1 j2 j3 j4
      clear ho4 hd4 hs4 hc4 hD3 hncv hrdv))
  all_goals
    clear x0 x1 x2 x3 x4 c11 c12 c0
    obtain ⟨n, hn⟩ : ∃ n, n = (X.B.out D x).length := ⟨_, rfl⟩
    have HN := Lib.hid hn
    rw [← hn]
    clear hn
    by_cases hn0 : n = 0
    · have nf : ¬ (0 : Int) < (n : Int) := by omega
      have hE0 : X.psE D x = 0 := by unfold Eng.psE; rw [← HN.out, if_pos hn0]
      have hD0 : X.psD D x = X.B.putD D x := by unfold Eng.psD; rw [← HN.out, if_pos hn0]
      have hX0 : X.psX D x = { X with B := X.B.add x, G := X.G.drop x.key } := by unfold Eng.psX; rw [if_pos hE0]
      have H0 := Lib.hid hE0
      have H1 := Lib.hid hD0
      have H2 := Lib.hid hX0
      clear hE0 hD0 hX0
      go_wp2_with fail
      go_still_tail 6, (by kernel_rfl)
      change wpList _ _ _ _ _ w4.drew
      have HDR := Lib.hid (gdrop_calls (HE4.out.chgNo (Chg.refl No w4).drew).lg x.key)
      go_wp2_with fail
      refine HDR.out.mono ?_
      rintro e w9 ⟨rfl, hl9, hc9⟩
      have HE9 := Lib.hid ((HE4.out.chgNo (Chg.refl No w4).drew).logged hl9 hc9)
      have HD9 : Hid (DevAt w9 h (X.B.putD D x)) := (dev_map ((show DevN w4.heap.size w4 h (X.B.putD D x) from HD4.out).chgNo (Chg.refl No w4).drew) (HE4.out.lg.map.chg (Chg.refl No w4).drew (fun h => h)) HE4.out.lg.far hc9).at_
      have HC9 : Hid (Chg (fun k => h.foot k ∨ (∃ p ∈ t.s.ps, k = p.2) ∨ k = t.g.M) w w9) := HC4.out.drew.then hc9 (fun k _ hk => .inr (.inr hk))
      clear hl9 hc9
      go_wp2_with fail
      go_ret
      exact ⟨by rw [H0.out]; rfl, by rw [H2.out]; exact HE9.out, by rw [H1.out]; exact HD9.out, HC9.out⟩
    · have nt : (0 : Int) < (n : Int) := by omega
      obtain ⟨e1, he1⟩ : ∃ e1, e1 = (X.B.putD D x).changeE := ⟨_, rfl⟩
      have hE0 : X.psE D x = e1 := by unfold Eng.psE; rw [← HN.out, if_neg hn0, he1]
      have hD0 : X.psD D x = (X.B.putD D x).flush := by unfold Eng.psD; rw [← HN.out, if_neg hn0]
      have H0 := Lib.hid hE0
      have H1 := Lib.hid hD0
      have H2 : Hid (e1 = 0 → X.psX D x = { X with B := X.B.add x, G := X.G.drop x.key }) := fun hz => by unfold Eng.psX; rw [hE0, if_pos hz]
      have H3 : Hid (e1 ≠ 0 → X.psX D x = { X with B := X.B.add x }) := fun hz => by unfold Eng.psX; rw [hE0, if_neg hz]
      have HFL := Lib.hid (flush_calls (show DevN w4.heap.size w4 h _ from HD4.out))
      rw [← he1] at HFL
      clear hE0 hD0 he1
      go_wp2_with fail
      refine HFL.out.mono ?_
      rintro e w5 ⟨rfl, hd5, hc5⟩
      have hD4 := (show DevN w4.heap.size w4 h _ from HD4.out)
      have HE5 := Lib.hid (HE4.out.foot hD4 hc5)
      have HX5 := Lib.hid (HX4.out.chg hc5 (hD4.not_foot HX4.out (by decide) (by decide)))
      have HD5 := Lib.hid hd5
      have HC5 : Hid (Chg (fun k => h.foot k ∨ (∃ p ∈ t.s.ps, k = p.2) ∨ k = t.g.M) w w5) := HC4.out.then hc5 (fun k _ hk => .inl hk)
      clear k11 k12 k0 j0 j1 j2 j3 j4 hd5 hc5 hD4
      have k12 := HE5.out.box.cell 12
      simp [engBox] at k12
      have j0 := HX5.out.cell 0
      simp at j0
      by_cases hz : e1 = 0
      · have H4 := Lib.hid (H2.out hz)
        clear H2 H3
        subst hz
        go_wp2_with fail
        go_still_tail 6, (by kernel_rfl)
        change wpList _ _ _ _ _ w5.drew
        have HDR := Lib.hid (gdrop_calls (HE5.out.chgNo (Chg.refl No w5).drew).lg x.key)
        go_wp2_with fail
        refine HDR.out.mono ?_
        rintro e w9 ⟨rfl, hl9, hc9⟩
        have HE9 := Lib.hid ((HE5.out.chgNo (Chg.refl No w5).drew).logged hl9 hc9)
        have HD9 : Hid (DevAt w9 h ((X.B.putD D x).flush)) := (dev_map ((show DevN w5.heap.size w5 h ((X.B.putD D x).flush) from HD5.out).chgNo (Chg.refl No w5).drew) (HE5.out.lg.map.chg (Chg.refl No w5).drew (fun h => h)) HE5.out.lg.far hc9).at_
        have HC9 : Hid (Chg (fun k => h.foot k ∨ (∃ p ∈ t.s.ps, k = p.2) ∨ k = t.g.M) w w9) := HC5.out.drew.then hc9 (fun k _ hk => .inr (.inr hk))
        clear hl9 hc9
        go_wp2_with fail
        go_ret
        exact ⟨by rw [H0.out]; rfl, by rw [H4.out]; exact HE9.out, by rw [H1.out]; exact HD9.out, HC9.out⟩
      · have H4 := Lib.hid (H3.out hz)
        clear H2 H3
        have hzb : (e1 == 0) = false := by simp [hz]
        go_wp2_with fail
        go_ret
        exact ⟨by rw [H0.out]; rfl, by rw [H4.out]; exact HE5.out, by rw [H1.out]; exact HD5.out, HC5.out⟩
end
end Go.Proofs.YtplpbbdakihnfaaGreat
end

section
namespace Go.Proofs.YtplpbbdakihnfaaGreat
open Go.RowKit
open Go.ChangeMaps (setBlock)
attribute [local go_sem ↓] Go.wp_at_zero Go.wp_at_succ
namespace Eng
def pgE (X : Eng) (D : Dev) (x : Item) : Int := if (X.G.put D x).e = 0 then (if X.B.may x.key = true then (if X.B.dropE (X.G.put D x).D x.key = 5 then 0 else X.B.dropE (X.G.put D x).D x.key) else 0) else (X.G.put D x).e
def pgD (X : Eng) (D : Dev) (x : Item) : Dev := if (X.G.put D x).e = 0 ∧ X.B.may x.key = true then X.B.dropD (X.G.put D x).D x.key else (X.G.put D x).D
def pgX (X : Eng) (D : Dev) (x : Item) : Eng := { X with G := (X.G.put D x).G }
end Eng
section
variable {N : Nat} {S : Nat → Prop} {w w' : World} {h : DevH} {t : EngH} {X : Eng} {D : Dev}
set_option maxRecDepth 100000 in
set_option maxHeartbeats 4000000 in
theorem eput_great (hd : DevAt w h D) (he : EngAt w h t X) (x : Item) (hk : x.key.size ≤ 140737488351232) (hv : x.val.size ≤ 140737488351232) (hg : x.good = true) (hx : 120 < x.size) (hx2 : x.size ≤ 1472)
    (hle : X.B.lE (X.G.put D x).D (X.B.no x.key) = 0) :
    Calls Tryz.prog 16 #[.pointer (some ⟨t.E, 0, none⟩), itemV x] w fun e w' => ∃ g', e = .returned (.int .i64 (X.pgE D x)) ∧ (EngAt w' h { t with g := g' } (X.pgX D x) ∧ ∀ k, g'.own k → t.g.own k ∨ w.heap.size ≤ k) ∧ DevAt w' h (X.pgD D x) ∧ Chg (fun k => h.foot k ∨ t.g.spot k) w w' := by
  have HGD := fun W => Lib.hid (good_calls x W)
  have HSZ := fun W => Lib.hid (size_calls x W hk hv)
  have HPU := fun W => Lib.hid (fun hc : Chg No w W => gput_calls ((show DevN w.heap.size w h D from hd).chgNo hc) (he.chgNo hc).lg x hk hv)
  unfold itemV at HPU ⊢
  have HE := Lib.hid he
  have HD := Lib.hid hd
  have c12 := he.box.cell 12
  simp [engBox] at c12
  have xlt := he.box.lt
  rw [hg] at HGD
  obtain ⟨sz, hsz⟩ : ∃ sz, sz = x.size := ⟨_, rfl⟩
  rw [← hsz] at HSZ hx hx2
  have hs1 : ¬ (1472 : Int) < (sz : Int) := by omega
  have hs2 : ¬ (sz : Int) ≤ 120 := by omega
  have HLE := Lib.hid hle
  have HK := Lib.hid hk
  obtain ⟨R, hR⟩ : ∃ R, R = X.G.put D x := ⟨_, rfl⟩
  obtain ⟨e0, he0⟩ : ∃ e0, e0 = R.e := ⟨_, rfl⟩
  have HPE : Hid (X.pgE D x = if e0 = 0 then (if X.B.may x.key = true then (if X.B.dropE R.D x.key = 5 then 0 else X.B.dropE R.D x.key) else 0) else e0) := by show X.pgE D x = _; unfold Eng.pgE; rw [← hR, ← he0]
  have HPD : Hid (X.pgD D x = if e0 = 0 ∧ X.B.may x.key = true then X.B.dropD R.D x.key else R.D) := by show X.pgD D x = _; unfold Eng.pgD; rw [← hR, ← he0]
  have HPX : Hid (X.pgX D x = { X with G := R.G }) := by show X.pgX D x = _; unfold Eng.pgX; rw [← hR]
  rw [← hR] at HLE HPU
  rw [← he0] at HPU
  clear hd he hk hv hg hx hx2 hle hsz hR he0
  go_enter Tryz.func16, Tryz.ntmps16
  go_wp2_with fail
  refine (HGD _).out.mono ?_
  rintro e w1 ⟨rfl, hc1⟩
  have HC1 : Hid (Chg No w w1) := ((Chg.refl No w).alloc _).trans hc1
  have HX := Lib.hid ((Blk.new w tItem #[.string x.key, .string x.val, .int .u32 x.flags.toNat, .int .i64 x.exp.toInt, .int .u64 x.ver.toNat]).chg hc1 (fun h => h))
  have x0 := HX.out.cell 0
  have x1 := HX.out.cell 1
  have x2 := HX.out.cell 2
  have x3 := HX.out.cell 3
  have x4 := HX.out.cell 4
  simp at x0 x1 x2 x3 x4
  clear hc1
  go_wp2_with fail
  refine (HSZ _).out.mono ?_
  rintro e w2 ⟨rfl, hc2⟩
  have HC2 := Lib.hid (HC1.out.trans hc2)
  have HX2 := Lib.hid (HX.out.chg hc2 (fun h => h))
  clear x0 x1 x2 x3 x4 HX HC1
  have x0 := HX2.out.cell 0
  have x1 := HX2.out.cell 1
  have x2 := HX2.out.cell 2
  have x3 := HX2.out.cell 3
  have x4 := HX2.out.cell 4
  simp at x0 x1 x2 x3 x4
  clear hc2
  go_wp2_with fail
  refine (HSZ _).out.mono ?_
  rintro e w3 ⟨rfl, hc3⟩
  have HC3 := Lib.hid (HC2.out.trans hc3)
  have HX3 := Lib.hid (HX2.out.chg hc3 (fun h => h))
  clear x0 x1 x2 x3 x4 HX2 HC2
  have x0 := HX3.out.cell 0
  have x1 := HX3.out.cell 1
  have x2 := HX3.out.cell 2
  have x3 := HX3.out.cell 3
  have x4 := HX3.out.cell 4
  simp at x0 x1 x2 x3 x4
  have c12 := HC3.out.cellNo c12
  clear hc3
  go_wp2_with fail
  go_region_held3 (fun w' => w'.cell? ⟨t.E, 12, none⟩ = some (.pointer (some ⟨t.g.L, 0, none⟩)) ∧ w'.cell? ⟨w.heap.size, 0, none⟩ = some (.string x.key) ∧ w'.cell? ⟨w.heap.size, 1, none⟩ = some (.string x.val) ∧ w'.cell? ⟨w.heap.size, 2, none⟩ = some (.int .u32 x.flags.toNat) ∧ w'.cell? ⟨w.heap.size, 3, none⟩ = some (.int .i64 x.exp.toInt) ∧ w'.cell? ⟨w.heap.size, 4, none⟩ = some (.int .u64 x.ver.toNat)) (first | go_keep)
    ((go_at_call 45
      refine ((HPU _).out HC3.out.drew).mono ?_
      rintro e w4 ⟨v, g', rfl, hp⟩
      have hD3 := (show DevN w.heap.size w h D from HD.out).chgNo HC3.out.drew
      have HE4 := Lib.hid ((HE.out.chgNo HC3.out.drew).log hD3 hp)
      have HD4 := Lib.hid hp.dev
      have HOW : Hid (∀ k, g'.own k → t.g.own k ∨ w.heap.size ≤ k) := fun k hk => (hp.own k hk).imp id (Nat.le_trans HC3.out.drew.size)
      have HGL : Hid (g'.L = t.g.L) := hp.L
      have HC4 : Hid (Chg (fun k => h.foot k ∨ t.g.spot k) w w4) := (HC3.out.drew.mono (fun _ _ h => h.elim)).trans hp.chg
      have HX4 := Lib.hid (HX3.out.drew.chg hp.chg (by
        rintro (h1 | h1)
        · have := foot_size HD.out h1; omega
        · have := HE.out.lg.lt _ (HE.out.lg.spot_own h1); omega))
      have k11 := HE4.out.box.cell 11
      have k12 := HE4.out.box.cell 12
      simp [engBox] at k11 k12
      rw [HGL.out] at k12
      have j0 := HX4.out.cell 0
      have j1 := HX4.out.cell 1
      have j2 := HX4.out.cell 2
      have j3 := HX4.out.cell 3
      have j4 := HX4.out.cell 4
      simp at j0 j1 j2 j3 j4
      clear hp hD3))
  all_goals
    clear x0 x1 x2 x3 x4 c12
    by_cases hz : e0 = 0
    rotate_left
    · have hzn : (e0 != 0) = true := by simp [hz]
      go_wp2_with fail
      go_ret
      exact ⟨g', by rw [HPE.out, if_neg hz]; rfl, by rw [HPX.out]; exact ⟨HE4.out, HOW.out⟩, by rw [HPD.out, if_neg (fun hh => hz hh.1)]; exact HD4.out, HC4.out⟩
    · subst hz
      have HM := Lib.hid (smay_calls (HE4.out.chgNo (Chg.refl No w4).drew).sto HE4.out.pos x.key HK.out)
      go_wp2_with fail
      go_still_tail 6, (by kernel_rfl)
      change wpList _ _ _ _ _ w4.drew
      go_wp2_with fail
      refine HM.out.mono ?_
      rintro e w5 ⟨rfl, hc5⟩
      have HC45 : Hid (Chg No w4 w5) := (Chg.refl No w4).drew.trans hc5
      have HE5 := Lib.hid (HE4.out.chgNo HC45.out)
      have HD5 : Hid (DevAt w5 h R.D) := ((show DevN w4.heap.size w4 h R.D from HD4.out).chgNo HC45.out).at_
      have HX5 := Lib.hid (HX4.out.chg HC45.out (fun h => h))
      have HC5 : Hid (Chg (fun k => h.foot k ∨ t.g.spot k) w w5) := HC4.out.then HC45.out (fun _ _ h => h.elim)
      clear hc5 k11 k12 j0 j1 j2 j3 j4
      have k11 := HE5.out.box.cell 11
      simp [engBox] at k11
      have j0 := HX5.out.cell 0
      simp at j0
      obtain ⟨my, hmy⟩ : ∃ my, my = X.B.may x.key := ⟨_, rfl⟩
      rw [← hmy] at HPE HPD ⊢
      clear hmy HM
      cases my with
      | false =>
        go_wp2_with fail
        go_ret
        exact ⟨g', by rw [HPE.out]; rfl, by rw [HPX.out]; exact ⟨HE5.out, HOW.out⟩, by rw [HPD.out, if_neg (fun hh => by cases hh.2)]; exact HD5.out, HC5.out⟩
      | true =>
        have HDP := Lib.hid (drop_calls (D := R.D) ((show DevN w5.heap.size w5 h R.D from HD5.out).chgNo (Chg.refl No w5).drew) (HE5.out.chgNo (Chg.refl No w5).drew).sto HE5.out.pos x.key HK.out HLE.out)
        obtain ⟨de, hde⟩ : ∃ de, de = X.B.dropE R.D x.key := ⟨_, rfl⟩
        have HPE2 : Hid (X.pgE D x = if de = 5 then 0 else de) := by show X.pgE D x = _; rw [HPE.out, hde]; simp
        have HDP2 : Hid (Calls Tryz.prog 47 #[.pointer (some ⟨t.s.s, 0, none⟩), .string x.key] w5.drew fun e w' => e = .returned (.int .i64 de) ∧ DevAt w' h (X.B.dropD R.D x.key) ∧ Chg h.foot w5.drew w') := by show Calls _ _ _ _ _; rw [hde]; exact HDP.out
        clear hde HDP HPE
        go_wp2_with fail
        go_region_held3 (fun w' => w'.cell? ⟨t.E, 11, none⟩ = some (.pointer (some ⟨t.s.s, 0, none⟩)) ∧ w'.cell? ⟨w.heap.size, 0, none⟩ = some (.string x.key)) (first | go_keep)
          ((go_at_call 47
            refine HDP2.out.mono ?_
            rintro e w6 ⟨rfl, hd6, hc6⟩
            have hD5 := ((show DevN w5.heap.size w5 h R.D from HD5.out).chgNo (Chg.refl No w5).drew)
            have HE6 := Lib.hid ((HE5.out.chgNo (Chg.refl No w5).drew).foot hD5 hc6)
            have HX6 := Lib.hid (HX5.out.drew.chg hc6 (hD5.not_foot HX5.out.drew (by decide) (by decide)))
            have HD6 := Lib.hid hd6
            have HC6 : Hid (Chg (fun k => h.foot k ∨ t.g.spot k) w w6) := HC5.out.drew.then hc6 (fun k _ hk => .inl hk)
            have i11 := HE6.out.box.cell 11
            simp [engBox] at i11
            have i0 := HX6.out.cell 0
            simp at i0
            clear hd6 hc6 hD5))
        all_goals
          by_cases h5 : de = 5
          · subst h5
            go_wp2_with fail
            refine bodyPost_ret (v := .int .i64 0) (by first | rfl | simp [results, Tryz.results16, go_sem]) rfl ?_
            exact ⟨by rw [HPE2.out]; rfl, ⟨g', by rw [HPX.out]; exact ⟨HE6.out, HOW.out⟩⟩, by rw [HPD.out, if_pos (by simp)]; exact HD6.out, HC6.out⟩
          · have h5b : (de != 5) = true := by simp [h5]
            go_wp2_with fail
            refine bodyPost_ret (v := .int .i64 de) (by first | rfl | simp [results, Tryz.results16, go_sem]) rfl ?_
            exact ⟨g', by rw [HPE2.out, if_neg h5], by rw [HPX.out]; exact ⟨HE6.out, HOW.out⟩, by rw [HPD.out, if_pos (by simp)]; exact HD6.out, HC6.out⟩
end
end Go.Proofs.YtplpbbdakihnfaaGreat
end

section
namespace Go.Proofs.YtplpbbdakihnfaaGreat
open Go.RowKit
def PageIs (D : Dev) (i : Nat) (l : List Item) : Prop := (D.page i = .blank ∧ l = []) ∨ ∃ b, D.page i = .full b ∧ listOf b = some l ∧ b.length = 384
structure Bkt (f : Nat) (D : Dev) (B : Sto) (ls : List (List Item)) : Prop where
  off : D.off = false
  armed : D.armed = 0
  los : B.losses = D.losses
  first : B.first = (f : Int)
  len : ls.length = B.fs.length
  pos : 0 < B.fs.length
  fits : f + B.fs.length ≤ D.n
  pg : ∀ (i : Nat) (l : List Item), ls[i]? = some l → PageIs D (f + i) l
section
variable {f : Nat} {D : Dev} {B : Sto} {ls : List (List Item)}
theorem Bkt.lE_ (h : Bkt f D B ls) {i : Nat} {l : List Item} (hi : ls[i]? = some l) : B.lE D i = 0 ∧ B.lL D i = l := by
  have hlt : f + i < D.n := by
    have := (List.getElem?_eq_some_iff.1 hi).1
    have := h.len
    have := h.fits
    omega
  have hhas : D.has ((f + i : Nat) : Int) = true := by simp [Dev.has]; omega
  have hrE : D.readE ((f + i : Nat) : Int) = (D.page (f + i)).err := by unfold Dev.readE; rw [hhas, h.off, Int.toNat_natCast]; rfl
  have hr : D.read ((f + i : Nat) : Int) = (D.page (f + i)).data := by unfold Dev.read; rw [hhas, h.off, Int.toNat_natCast]; rfl
  have hfi : (f : Int) + (i : Int) = ((f + i : Nat) : Int) := by omega
  unfold Sto.lE Sto.lL
  rw [if_pos h.los, h.first, hfi, hrE, hr]
  rcases h.pg i l hi with ⟨hp, rfl⟩ | ⟨b, hp, hl, _⟩
  · rw [hp]; simp [Pg.err]
  · rw [hp]; simp [Pg.err, Pg.data, h.los, listL, hl]
theorem Bkt.spent_ (h : Bkt f D B ls) : D.spent = true ∧ D.spend = D := by
  refine ⟨by simp [Dev.spent, h.off, h.armed], ?_⟩
  unfold Dev.spend
  rw [h.off, h.armed]
  simp
theorem Bkt.write_ (h : Bkt f D B ls) {i : Nat} (hi : i < B.fs.length) {b : List UInt8} (hb : b.length = 384) : D.writeE (B.first + i) 384 = 0 ∧ D.write (B.first + i) b = D.put (f + i) (.full b) := by
  have hlt : f + i < D.n := by have := h.fits; omega
  have hhas : D.has ((f + i : Nat) : Int) = true := by simp [Dev.has]; omega
  have hfi : (f : Int) + (i : Int) = ((f + i : Nat) : Int) := by omega
  rw [h.first, hfi]
  have hpad : Dev.pad b = b := by simp [Dev.pad, hb]
  refine ⟨by unfold Dev.writeE Dev.changeE; rw [hhas, h.spent_.1]; rfl, ?_⟩
  unfold Dev.write Dev.change
  rw [hhas, hb, h.spent_.1, h.spent_.2, hpad, Int.toNat_natCast]
  rfl
theorem Bkt.put_ (h : Bkt f D B ls) {i : Nat} (hi : i < B.fs.length) {b : List UInt8} {l : List Item} (hl : listOf b = some l) (hb : b.length = 384) (fs : List (List Bool)) (hfs : fs.length = B.fs.length) :
    Bkt f (D.put (f + i) (.full b)) { B with fs := fs } (ls.set i l) := by
  refine { off := h.off, armed := h.armed, los := h.los, first := h.first, len := by simp [h.len, hfs], pos := by show 0 < fs.length; rw [hfs]; exact h.pos, fits := by show f + fs.length ≤ D.n; rw [hfs]; exact h.fits, pg := ?_ }
  intro j l' hj
  by_cases hij : i = j
  · subst hij
    rw [List.getElem?_set_self (by rw [h.len]; exact hi)] at hj
    injection hj with hj
    subst hj
    exact .inr ⟨b, by simp [Dev.page, Dev.put], hl, hb⟩
  · rw [List.getElem?_set_ne hij] at hj
    have e : (D.put (f + i) (.full b)).page (f + j) = D.page (f + j) := by
      have hne : ¬ j = i := fun e => hij e.symm
      simp [Dev.page, Dev.put, hne]
    rcases h.pg j l' hj with ⟨h1, h2⟩ | ⟨b', h1, h2⟩
    · exact .inl ⟨e.trans h1, h2⟩
    · exact .inr ⟨b', e.trans h1, h2⟩
theorem fitN_fits (l : List Item) : (records (l.drop (fitN l))).length ≤ 384 := by
  induction l with
  | nil => simp [records, fitN]
  | cons x r ih =>
    rw [fitN]
    by_cases h : 384 < (records (x :: r)).length
    · rw [if_pos h, List.drop_succ_cons]; exact ih
    · rw [if_neg h, List.drop_zero]; omega
theorem listOf_good {b : List UInt8} {l : List Item} (h : listOf b = some l) : goods l = true := lst_good (k := b.length + 1) h
theorem PageIs.good {i : Nat} {l : List Item} (h : PageIs D i l) : goods l = true := by
  rcases h with ⟨_, rfl⟩ | ⟨b, _, hl, _⟩
  · rfl
  · exact listOf_good hl
def pnew (l : List Item) (x : Item) : List Item := rid l x.key ++ [x]
def pout (l : List Item) (x : Item) : List Item := (pnew l x).take (fitN (pnew l x))
def pleft (l : List Item) (x : Item) : List Item := (pnew l x).drop (fitN (pnew l x))
theorem goods_pnew {l : List Item} {x : Item} (hl : goods l = true) (hx : x.good = true) : goods (pnew l x) = true := by
  unfold pnew
  rw [goods_append, goods_rid hl]
  simp [goods, hx]
theorem Bkt.no_ (h : Bkt f D B ls) (key : ByteArray) : B.no key < ls.length := by rw [h.len]; exact B.no_lt h.pos key
theorem Bkt.put (h : Bkt f D B ls) {x : Item} (hx : x.good = true) {l : List Item} (hl : ls[B.no x.key]? = some l) :
    B.lE D (B.no x.key) = 0 ∧ B.putE D x = 0 ∧ B.out D x = pout l x ∧ Bkt f (B.putD D x) (B.add x) (ls.set (B.no x.key) (pleft l x)) := by
  have hll := h.lE_ hl
  have hi : B.no x.key < B.fs.length := B.no_lt h.pos x.key
  have hnw : B.nw D x = pnew l x := by unfold Sto.nw pnew; rw [hll.2]
  have hg := goods_pnew ((h.pg _ l hl).good) hx
  have hlay := listOf_layB (pleft l x) 384 (by omega) (goods_drop hg _) (fitN_fits _)
  have hw := h.write_ hi hlay.2
  refine ⟨hll.1, hw.1, by unfold Sto.out pout; rw [hnw], ?_⟩
  have e : B.putD D x = D.put (f + B.no x.key) (.full (layB (pleft l x) ((384 : Nat) : Int))) := by
    unfold Sto.putD
    rw [hnw]
    exact hw.2
  rw [e]
  exact h.put_ hi hlay.1 hlay.2 _ (by simp)
theorem lst_records {k : Nat} : ∀ {b : List UInt8} {l : List Item}, lst k b = some l → (records l).length ≤ b.length := by
  induction k with
  | zero => intro b l h; cases h
  | succ k ih =>
    intro b l h
    rw [lst] at h
    cases ht : take b with
    | none => rw [ht] at h; simp at h; subst h; simp [records]
    | bad => rw [ht] at h; cases h
    | ok x n =>
      rw [ht] at h
      have h1 := take_ok_len ht
      simp only [Option.map_eq_some_iff] at h
      obtain ⟨r, hr, rfl⟩ := h
      have h2 := ih hr
      rw [List.length_drop] at h2
      simp only [records, List.flatMap_cons, List.length_append, record_length] at h2 ⊢
      omega
theorem PageIs.le {i : Nat} {l : List Item} (h : PageIs D i l) : (records l).length ≤ 384 := by
  rcases h with ⟨_, rfl⟩ | ⟨b, _, hl, hb⟩
  · simp [records]
  · rw [← hb]; exact lst_records (k := b.length + 1) hl
theorem records_rid (l : List Item) (key : ByteArray) : (records (rid l key)).length ≤ (records l).length := by
  induction l with
  | nil => simp [rid]
  | cons x r ih =>
    simp only [rid, records, List.filter_cons, List.flatMap_cons, List.length_append] at ih ⊢
    split
    · simp only [List.flatMap_cons, List.length_append]; omega
    · omega
theorem rid_same {l : List Item} {key : ByteArray} (h : (rid l key).length = l.length) : rid l key = l := List.filter_eq_self.2 (List.length_filter_eq_length_iff.1 h)
theorem Bkt.drop (h : Bkt f D B ls) (key : ByteArray) {l : List Item} (hl : ls[B.no key]? = some l) :
    B.lE D (B.no key) = 0 ∧ B.dropE D key = (if rid l key = l then 5 else 0) ∧ Bkt f (B.dropD D key) B (ls.set (B.no key) (rid l key)) := by
  have hll := h.lE_ hl
  have hi : B.no key < B.fs.length := B.no_lt h.pos key
  have hre : B.rest D key = rid l key := by unfold Sto.rest; rw [hll.2]
  have hg := goods_rid ((h.pg _ l hl).good) key
  have hlay := listOf_layB (rid l key) 384 (by omega) hg (Nat.le_trans (records_rid l key) (h.pg _ l hl).le)
  have hw := h.write_ hi hlay.2
  refine ⟨hll.1, ?_, ?_⟩
  · unfold Sto.dropE
    rw [hre, hll.2]
    by_cases hs : rid l key = l
    · rw [if_pos (by rw [hs]), if_pos hs]
    · rw [if_neg (fun e => hs (rid_same e)), if_neg hs]
      have e : (layB (rid l key) 384).length = 384 := hlay.2
      rw [e]
      exact hw.1
  · unfold Sto.dropD
    rw [hre, hll.2]
    by_cases hs : rid l key = l
    · rw [if_pos (by rw [hs]), hs]
      have : ls.set (B.no key) l = ls := by
        apply List.ext_getElem?
        intro j
        by_cases hj : B.no key = j
        · subst hj; rw [List.getElem?_set_self (h.no_ key), hl]
        · rw [List.getElem?_set_ne hj]
      rw [this]
      exact h
    · rw [if_neg (fun e => hs (rid_same e))]
      have e : D.write (B.first + B.no key) (layB (rid l key) 384) = D.put (f + B.no key) (.full (layB (rid l key) ((384 : Nat) : Int))) := hw.2
      rw [e]
      exact h.put_ hi hlay.1 hlay.2 B.fs rfl
theorem Bkt.all (h : Bkt f D B ls) : (∀ i : Nat, i < B.fs.length → B.lE D i = 0) ∧ B.allL D B.fs.length = ls.flatten := by
  have hget : ∀ i, i < B.fs.length → ∃ l, ls[i]? = some l := fun i hi => ⟨_, List.getElem?_eq_getElem (by rw [h.len]; exact hi)⟩
  refine ⟨fun i hi => by obtain ⟨l, hl⟩ := hget i hi; exact (h.lE_ hl).1, ?_⟩
  unfold Sto.allL
  rw [← h.len, List.flatten_eq_flatMap, List.flatMap_def, List.flatMap_def]
  congr 1
  apply List.ext_getElem?
  intro j
  by_cases hj : j < ls.length
  · have hl := List.getElem?_eq_getElem hj
    rw [List.getElem?_map, List.getElem?_range hj, List.getElem?_map, hl]
    simp only [Option.map_some, id_eq]
    rw [(h.lE_ hl).2]
  · rw [List.getElem?_eq_none (by simp; omega), List.getElem?_eq_none (by simp; omega)]
end
end Go.Proofs.YtplpbbdakihnfaaGreat
end
