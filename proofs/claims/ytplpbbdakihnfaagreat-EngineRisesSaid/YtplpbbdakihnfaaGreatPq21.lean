/- Packed texts: EngJ, EngK, Chk. -/
import Derived.Test.YtplpbbdakihnfaaGreatPq20
import Derived.Test.YtplpbbdakihnfaaGreatPq11
import Derived.Test.YtplpbbdakihnfaaGreatPq02
import Derived.RangeFuncWrites
import Derived.RangeFuncNested
import Derived.RangeFuncBound
import Derived.RangeFuncCalls
import Derived.RangeFuncLeaves
import Derived.Shelf.Abstract
import Derived.Shelf.RegionOpen
import Derived.OwnWalkIn
import Derived.TacticsInMore
import Derived.LoopNIn
import Derived.LoopIn
set_option linter.unusedSimpArgs false
set_option linter.unusedVariables false
section
namespace Go.Proofs.YtplpbbdakihnfaaGreat
open Go.RowKit
attribute [local go_sem ↓] Go.wp_at_zero Go.wp_at_succ
def Eng.pick (E : Eng) (o : Option Item) (y : Item) (z : Int) : Option Item :=
  if z = 0 ∧ E.counts y = true then (match o with
    | some x => if x.ver < y.ver then some y else some x
    | none => some y) else o
theorem Eng.one_eq (E : Eng) (D : Dev) (k : ByteArray) : E.one D k = E.pick (E.pick none (E.B.get D k).1 (E.B.get D k).2) (E.G.get k) (E.G.getE k) := rfl
theorem Eng.pick_bad (E : Eng) (o : Option Item) (y : Item) (z : Int) (h : z ≠ 0) : E.pick o y z = o := by
  unfold Eng.pick
  rw [if_neg (fun h2 => h h2.1)]
theorem Eng.pick_no (E : Eng) (o : Option Item) (y : Item) (z : Int) (h : E.counts y = false) : E.pick o y z = o := by
  unfold Eng.pick
  rw [if_neg (fun h2 => by rw [h] at h2; cases h2.2)]
theorem Eng.pick_new (E : Eng) (y : Item) (h : E.counts y = true) : E.pick none y 0 = some y := by
  unfold Eng.pick
  rw [if_pos ⟨rfl, h⟩]
theorem Eng.pick_lt (E : Eng) (x y : Item) (h : E.counts y = true) (hl : x.ver < y.ver) : E.pick (some x) y 0 = some y := by
  unfold Eng.pick
  rw [if_pos ⟨rfl, h⟩]
  simp only [if_pos hl]
theorem Eng.pick_le (E : Eng) (x y : Item) (h : E.counts y = true) (hl : ¬ x.ver < y.ver) : E.pick (some x) y 0 = some x := by
  unfold Eng.pick
  rw [if_pos ⟨rfl, h⟩]
  simp only [if_neg hl]
theorem DevN.foot_lt {N : Nat} {w : World} {h : DevH} {D : Dev} (hd : DevN N w h D) {k : Nat} (hk : h.foot k) : k < w.heap.size := by
  obtain ⟨a, b, c, e, hb⟩ := hd.box
  obtain ⟨ps, hb2, _⟩ := hd.row
  obtain ⟨es, hb3, _⟩ := hd.map
  have h1 := hb.lt
  have h2 := hb2.lt
  have h3 := hb3.lt
  rcases hk with rfl | rfl | rfl
  · exact h1
  · exact h2
  · exact h3
def Eng.sel (X : Eng) (y0 : Item) (e0 : Int) (y1 : Item) (e1 : Int) : Nat → Option Item
  | 0 => none
  | 1 => X.pick none y0 e0
  | _ => X.pick (X.pick none y0 e0) y1 e1
abbrev tFun : TypeId := 42
def set5 (w : World) (g : Nat) (y : Item) : World := ((((w.setCell ⟨g, 0, none⟩ (.string y.key)).setCell ⟨g, 1, none⟩ (.string y.val)).setCell ⟨g, 2, none⟩ (.int .u32 y.flags.toNat)).setCell ⟨g, 3, none⟩ (.int .i64 y.exp.toInt)).setCell ⟨g, 4, none⟩ (.int .u64 y.ver.toNat)
theorem set5_chg (w : World) (g : Nat) (y : Item) : Chg (fun j => j = g) w (set5 w g y) := by
  unfold set5
  have h0 : Chg (fun k => k = g) w (w.setCell ⟨g, 0, none⟩ (.string y.key)) := chg_setCell w ⟨g, 0, none⟩ _
  have h1 := Chg.setCell h0 (p := ⟨g, 1, none⟩) (.inl rfl) (.string y.val)
  have h2 := Chg.setCell h1 (p := ⟨g, 2, none⟩) (.inl rfl) (.int .u32 y.flags.toNat)
  have h3 := Chg.setCell h2 (p := ⟨g, 3, none⟩) (.inl rfl) (.int .i64 y.exp.toInt)
  exact Chg.setCell h3 (p := ⟨g, 4, none⟩) (.inl rfl) (.int .u64 y.ver.toNat)
theorem set5_blk {w : World} {g : Nat} {x : Item} (h : Blk w g tItem (itc x).toArray) (y : Item) : Blk (set5 w g y) g tItem (itc y).toArray := by
  unfold set5
  have := ((((h.set_ 0 (.string y.key)).set_ 1 (.string y.val)).set_ 2 (.int .u32 y.flags.toNat)).set_ 3 (.int .i64 y.exp.toInt)).set_ 4 (.int .u64 y.ver.toNat)
  simpa [itc] using this
section
variable {N : Nat} {w w' : World} {h : DevH} {t : EngH} {X : Eng} {D : Dev}
set_option maxRecDepth 100000 in
set_option maxHeartbeats 4000000 in
theorem eget_calls (hd : DevN N w h D) (he : EngAt w h t X) (hoff : D.off = false) (hls : X.losses = D.losses) (key : ByteArray) (hk : key.size ≤ 140737488351232)
    (hz4 : (X.B.get D key).2 ≠ 4) (hkb : (X.B.get D key).1.key.size ≤ 140737488351232) (hkg : (X.G.get key).key.size ≤ 140737488351232) :
    Calls Tryz.prog 17 #[.pointer (some ⟨t.E, 0, none⟩), .string key] w fun e w' => e = .returned (.tuple #[itemV (X.get D key), .int .i64 (X.getE D key)]) ∧ DevN N w' h D ∧ Chg h.foot w w' := by
  have HDN := fun W => Lib.hid (fun hc : Chg No w W => edone_calls (hd.chgNo hc) (he.chgNo hc) hoff)
  rw [show decide (X.losses ≠ D.losses) = false from decide_eq_false (by simp [hls])] at HDN
  have HE := Lib.hid he
  have HD : Hid (DevN N w h D) := hd
  have HFL : Hid (∀ k, h.foot k → k < w.heap.size) := fun k hk => hd.foot_lt hk
  have HG0 := fun W => Lib.hid (fun (hd2 : DevN N W h D) (hc : Chg h.foot w W) => get_calls hd2 (he.foot hd hc).sto he.pos key hk)
  have HG1 := fun W => Lib.hid (fun (hd2 : DevN N W h D) (hc : Chg h.foot w W) => gget_calls (he.foot hd hc).lg key)
  have HCN := fun W y => Lib.hid (fun (hc : Chg h.foot w W) (hy : y.key.size ≤ 140737488351232) => ecounts_calls (he.foot hd hc) y hy)
  have HRES : Hid (X.get D key = (X.one D key).getD Item.zero ∧ X.getE D key = match X.one D key with | some _ => 0 | none => 5) := ⟨rfl, rfl⟩
  have HONE := Lib.hid (X.one_eq D key)
  obtain ⟨y0, hy0⟩ : ∃ y, y = (X.B.get D key).1 := ⟨_, rfl⟩
  obtain ⟨e0, hz0⟩ : ∃ z, z = (X.B.get D key).2 := ⟨_, rfl⟩
  obtain ⟨y1, hy1⟩ : ∃ y, y = X.G.get key := ⟨_, rfl⟩
  obtain ⟨e1, hz1⟩ : ∃ z, z = X.G.getE key := ⟨_, rfl⟩
  rw [← hy0, ← hz0] at HG0 HONE
  rw [← hy1, ← hz1] at HG1 HONE
  rw [← hy0] at hkb
  rw [← hz0] at hz4
  rw [← hy1] at hkg
  have hz14 : e1 ≠ 4 := by
    rw [hz1]
    unfold Lg.getE
    split <;> decide
  have c11 := he.box.cell 11
  have c12 := he.box.cell 12
  simp [engBox] at c11 c12
  have xlt := he.box.lt
  have hmf : ∀ (fn : Fn) (first cap : Array Value) (w : World), (Instr.makeFunc fn first cap).run Tryz.prog w = .ok (.func fn first cap) w := fun _ _ _ _ => rfl
  clear hd he hoff hls hy0 hz0 hy1 hz1
  go_enter Tryz.func17, Tryz.ntmps17
  go_wp2_with fail
  refine ((HDN _).out (by (repeat (first | (with_reducible exact Chg.refl _ _) | (with_reducible assumption) | (with_reducible refine Chg.drewN ?_ _) | (with_reducible refine Chg.drew ?_) | (with_reducible refine Chg.alloc ?_ _) | (with_reducible refine Chg.setCell ?_ (by first | (left; simp [DevH.foot]; done) | (right; simp; done) | (right; simp; omega)) _))))).mono ?_
  rintro e w1 ⟨rfl, n1, hw1⟩
  have HC1 : Hid (Chg No w w1) := by show Chg No w w1; rw [hw1]; exact ((Chg.refl No w).alloc _).drewN n1
  have HR1 : Hid (Blk w1 w.heap.size tItem #[.string ⟨#[]⟩, .string ⟨#[]⟩, .int .u32 0, .int .i64 0, .int .u64 0]) := by show Blk _ _ _ _; rw [hw1]; exact (Blk.new w tItem _).drewN n1
  have c11 := HC1.out.cellNo c11
  have c12 := HC1.out.cellNo c12
  have HZ := Lib.hid (Blk.new w1 tItem #[.string ⟨#[]⟩, .string ⟨#[]⟩, .int .u32 0, .int .i64 0, .int .u64 0])
  have z0 := HZ.out.cell 0
  have z1 := HZ.out.cell 1
  have z2 := HZ.out.cell 2
  have z3 := HZ.out.cell 3
  have z4 := HZ.out.cell 4
  have g0 := HZ.out.frozen 0
  have g1 := HZ.out.frozen 1
  have g2 := HZ.out.frozen 2
  have g3 := HZ.out.frozen 3
  have g4 := HZ.out.frozen 4
  simp only [List.getElem?_toArray, List.getElem?_cons_zero, List.getElem?_cons_succ] at z0 z1 z2 z3 z4
  have xl1 : t.E < w1.heap.size := by have := HC1.out.size; omega
  clear hw1
  go_wp2_with fail
  have z5 : (w1.alloc (.cells #[.string ⟨#[]⟩, .string ⟨#[]⟩, .int .u32 0, .int .i64 0, .int .u64 0] tItem)).cell? ⟨t.E, 11, none⟩ = some (.pointer (some ⟨t.s.s, 0, none⟩)) := by simp [go_sem, c11, xl1, Nat.ne_of_lt xl1]
  have z6 : (w1.alloc (.cells #[.string ⟨#[]⟩, .string ⟨#[]⟩, .int .u32 0, .int .i64 0, .int .u64 0] tItem)).cell? ⟨t.E, 12, none⟩ = some (.pointer (some ⟨t.g.L, 0, none⟩)) := by simp [go_sem, c12, xl1, Nat.ne_of_lt xl1]
  go_region_held3 (fun w' => w'.cell? ⟨t.E, 11, none⟩ = some (.pointer (some ⟨t.s.s, 0, none⟩)) ∧ w'.cell? ⟨t.E, 12, none⟩ = some (.pointer (some ⟨t.g.L, 0, none⟩))) (first | go_keep) (fail)
  all_goals
    have hb0 : Chg No w1 ((w1.alloc (.cells #[.string ⟨#[]⟩, .string ⟨#[]⟩, .int .u32 0, .int .i64 0, .int .u64 0] tItem)).alloc (.cells #[.func (.func 49) #[.pointer (some ⟨t.s.s, 0, none⟩)] #[], .func (.func 50) #[.pointer (some ⟨t.g.L, 0, none⟩)] #[]] tFun)).drew := by (repeat (first | (with_reducible exact Chg.refl _ _) | (with_reducible assumption) | (with_reducible refine Chg.drewN ?_ _) | (with_reducible refine Chg.drew ?_) | (with_reducible refine Chg.alloc ?_ _) | (with_reducible refine Chg.setCell ?_ (by first | (left; simp [DevH.foot]; done) | (right; simp; done) | (right; simp; omega)) _)))
    have hb1 := ((Blk.new w1 tItem #[.string ⟨#[]⟩, .string ⟨#[]⟩, .int .u32 0, .int .i64 0, .int .u64 0]).alloc (.cells #[.func (.func 49) #[.pointer (some ⟨t.s.s, 0, none⟩)] #[], .func (.func 50) #[.pointer (some ⟨t.g.L, 0, none⟩)] #[]] tFun)).drew
    have hb2 := (Blk.new (w1.alloc (.cells #[.string ⟨#[]⟩, .string ⟨#[]⟩, .int .u32 0, .int .i64 0, .int .u64 0] tItem)) tFun #[.func (.func 49) #[.pointer (some ⟨t.s.s, 0, none⟩)] #[], .func (.func 50) #[.pointer (some ⟨t.g.L, 0, none⟩)] #[]]).drew
    rw [World.size_alloc] at hb2
    obtain ⟨w4, hw4⟩ : ∃ w4, w4 = ((w1.alloc (.cells #[.string ⟨#[]⟩, .string ⟨#[]⟩, .int .u32 0, .int .i64 0, .int .u64 0] tItem)).alloc (.cells #[.func (.func 49) #[.pointer (some ⟨t.s.s, 0, none⟩)] #[], .func (.func 50) #[.pointer (some ⟨t.g.L, 0, none⟩)] #[]] tFun)).drew := ⟨_, rfl⟩
    rw [← hw4] at hb0 hb1 hb2
    have HC4 : Hid (Chg No w w4) := HC1.out.trans hb0
    have HB : Hid (Blk w4 w1.heap.size tItem (itc Item.zero).toArray) := hb1
    have HF := Lib.hid hb2
    have HR : Hid (Blk w4 w.heap.size tItem (itc Item.zero).toArray) := HR1.out.chg hb0 (fun h => h)
    have hw14 : w.heap.size < w1.heap.size := HR1.out.lt
    have HLTB : Hid (w.heap.size < w1.heap.size) := hw14
    rw [← hw4]
    have HNB : Hid (¬ h.foot w1.heap.size ∧ ¬ h.foot w.heap.size ∧ ¬ h.foot (w1.heap.size + 1)) := ⟨fun hk => by have := HFL.out _ hk; omega, fun hk => by have := HFL.out _ hk; omega, fun hk => by have := HFL.out _ hk; omega⟩
    have HDV : Hid (DevN N w4 h D) := HD.out.chgNo HC4.out
    clear hw4 hb0 hb1 hb2 c11 c12 z5 z6 HZ z0 z1 z2 z3 z4 g0 g1 g2 g3 g4 HR1 HC1 HDN hmf
    go_wp2_with fail
    go_loopg [7, 28] 2 (fun g v7 v28 wr => ∃ (k : Nat) (o : Option Item), v28 = .int .i64 k ∧ k ≤ 2 ∧ 2 - k = g ∧ v7 = .bool o.isSome ∧ Hid (o = X.sel y0 e0 y1 e1 k ∧ DevN N wr h D ∧ Chg h.foot w wr ∧ Chg (fun j => h.foot j ∨ j = w1.heap.size) w4 wr ∧ Blk wr w1.heap.size tItem (itc (o.getD Item.zero)).toArray))
    case atStart => exact ⟨0, none, rfl, by omega, rfl, rfl, rfl, HDV.out, HC4.out.mono (fun _ _ h => h.elim), Chg.refl _ _, HB.out⟩
    case round =>
      obtain ⟨k, o, rfl, hk, hg, rfl, H⟩ := hrel
      by_cases h2 : k < 2
      · obtain rfl | rfl : k = 0 ∨ k = 1 := by omega
        · have f0 := (HF.out.chg H.out.2.2.2.1 (by rintro (h9 | h9) <;> first | exact HNB.out.2.2 h9 | omega)).cell 0
          simp at f0
          have HCALL := Lib.hid ((HG0 wr).out H.out.2.1 H.out.2.2.1)
          go_wp2_with fail
          refine HCALL.out.mono ?_
          rintro e w2 ⟨rfl, hd2, hc2⟩
          have HD2 := Lib.hid hd2
          have HC2 : Hid (Chg h.foot w w2) := H.out.2.2.1.trans hc2
          have HC42 : Hid (Chg (fun j => h.foot j ∨ j = w1.heap.size) w4 w2) := H.out.2.2.2.1.trans (hc2.mono (fun _ _ h => .inl h))
          have HB2 : Hid (Blk w2 w1.heap.size tItem (itc (o.getD Item.zero)).toArray) := H.out.2.2.2.2.chg hc2 HNB.out.1
          have HS : Hid (X.sel y0 e0 y1 e1 (0 + 1) = X.pick o y0 e0) := by show _ = _; rw [H.out.1]; rfl
          have hlt2 : w1.heap.size < w2.heap.size := HB2.out.lt
          have HZ := Lib.hid (Blk.new w2 tItem #[.string ⟨#[]⟩, .string ⟨#[]⟩, .int .u32 0, .int .i64 0, .int .u64 0])
          have z0 := HZ.out.cell 0
          have z1 := HZ.out.cell 1
          have z2 := HZ.out.cell 2
          have z3 := HZ.out.cell 3
          have z4 := HZ.out.cell 4
          have g0 := HZ.out.frozen 0
          have g1 := HZ.out.frozen 1
          have g2 := HZ.out.frozen 2
          have g3 := HZ.out.frozen 3
          have g4 := HZ.out.frozen 4
          simp only [List.getElem?_toArray, List.getElem?_cons_zero, List.getElem?_cons_succ] at z0 z1 z2 z3 z4
          have q4 : (e0 == 4) = false := by simpa using hz4
          clear H HCALL hd2 hc2 f0
          unfold itemV
          by_cases he0 : e0 = 0
          · subst he0
            go_wp2_with fail
            refine ((HCN _ y0).out (HC2.out.alloc _) hkb).mono ?_
            rintro e w3 ⟨rfl, hc3⟩
            have HC3 : Hid (Chg h.foot w w3) := (HC2.out.alloc _).trans (hc3.mono (fun _ _ h => h.elim))
            have HC43 : Hid (Chg (fun j => h.foot j ∨ j = w1.heap.size) w4 w3) := (HC42.out.alloc _).trans (hc3.mono (fun _ _ h => h.elim))
            have HD3 : Hid (DevN N w3 h D) := HD2.out.chgNo (((Chg.refl No w2).alloc _).trans hc3)
            have HB3 : Hid (Blk w3 w1.heap.size tItem (itc (o.getD Item.zero)).toArray) := (HB2.out.alloc _).chg hc3 (fun h => h)
            have HY3 : Hid (Blk w3 w2.heap.size tItem (itc y0).toArray) := (Blk.new w2 tItem (itc y0).toArray).chg hc3 (fun h => h)
            have hlt3 : w2.heap.size < w3.heap.size := HY3.out.lt
            have xn : ¬ w1.heap.size = w2.heap.size := by omega
            have xn2 : ¬ w2.heap.size = w1.heap.size := by omega
            clear hc3 HC2 HC42 HD2 HB2 HZ z0 z1 z2 z3 z4 g0 g1 g2 g3 g4
            cases hcn : X.counts y0 with
            | false =>
              have HPK := Lib.hid (X.pick_no o y0 0 hcn)
              clear hcn
              go_wp2_with fail
              go_roundg (2 - (0 + 1))
              case measure => omega
              case rel => exact ⟨0 + 1, o, by go_num, by omega, rfl, rfl, by rw [HS.out, HPK.out], HD3.out, HC3.out, HC43.out, HB3.out⟩
            | true =>
              have y0_ := HY3.out.cell 0
              have y1_ := HY3.out.cell 1
              have y2_ := HY3.out.cell 2
              have y3_ := HY3.out.cell 3
              have y4_ := HY3.out.cell 4
              have b0 := HB3.out.cell 0
              have b1 := HB3.out.cell 1
              have b2 := HB3.out.cell 2
              have b3 := HB3.out.cell 3
              have b4 := HB3.out.cell 4
              have k0 := HB3.out.frozen 0
              have k1 := HB3.out.frozen 1
              have k2 := HB3.out.frozen 2
              have k3 := HB3.out.frozen 3
              have k4 := HB3.out.frozen 4
              simp only [itc, List.getElem?_toArray, List.getElem?_cons_zero, List.getElem?_cons_succ] at y0_ y1_ y2_ y3_ y4_ b0 b1 b2 b3 b4
              have xb : w1.heap.size < w3.heap.size := HB3.out.lt
              cases o with
              | none =>
                have HPK := Lib.hid (X.pick_new y0 hcn)
                clear hcn
                simp only [Option.getD_none] at b0 b1 b2 b3 b4
                go_wp2_with fail
                obtain ⟨w5, hw5⟩ : ∃ w5, w5 = set5 w3 w1.heap.size y0 := ⟨_, rfl⟩
                have HB5 : Hid (Blk w5 w1.heap.size tItem (itc y0).toArray) := by rw [hw5]; exact set5_blk HB3.out y0
                have HC5 : Hid (Chg (fun j => j = w1.heap.size) w3 w5) := by rw [hw5]; exact set5_chg w3 w1.heap.size y0
                have HD5 := Lib.hid (devN_new HD.out HD3.out HC3.out (HC5.out.mono (fun j _ hj => by have e : j = w1.heap.size := hj; have h9 : w.heap.size < w1.heap.size := HLTB.out; show w.heap.size ≤ j; omega)))
                unfold set5 at hw5
                rw [← hw5]
                clear hw5
                go_roundg (2 - (0 + 1))
                case measure => omega
                case rel => exact ⟨0 + 1, some y0, by go_num, by omega, rfl, rfl, by rw [HS.out, HPK.out], HD5.out.1, HD5.out.2, HC43.out.trans (HC5.out.mono (fun j _ hj => .inr hj)), HB5.out⟩
              | some x =>
                simp only [Option.getD_some] at b0 b1 b2 b3 b4
                by_cases hv : x.ver < y0.ver
                · have HPK := Lib.hid (X.pick_lt x y0 hcn hv)
                  have hvi : (x.ver.toNat : Int) < (y0.ver.toNat : Int) := by have := UInt64.lt_iff_toNat_lt.1 hv; omega
                  clear hcn hv
                  go_wp2_with fail
                  obtain ⟨w5, hw5⟩ : ∃ w5, w5 = set5 w3 w1.heap.size y0 := ⟨_, rfl⟩
                  have HB5 : Hid (Blk w5 w1.heap.size tItem (itc y0).toArray) := by rw [hw5]; exact set5_blk HB3.out y0
                  have HC5 : Hid (Chg (fun j => j = w1.heap.size) w3 w5) := by rw [hw5]; exact set5_chg w3 w1.heap.size y0
                  have HD5 := Lib.hid (devN_new HD.out HD3.out HC3.out (HC5.out.mono (fun j _ hj => by have e : j = w1.heap.size := hj; have h9 : w.heap.size < w1.heap.size := HLTB.out; show w.heap.size ≤ j; omega)))
                  unfold set5 at hw5
                  rw [← hw5]
                  clear hw5
                  go_roundg (2 - (0 + 1))
                  case measure => omega
                  case rel => exact ⟨0 + 1, some y0, by go_num, by omega, rfl, rfl, by rw [HS.out, HPK.out], HD5.out.1, HD5.out.2, HC43.out.trans (HC5.out.mono (fun j _ hj => .inr hj)), HB5.out⟩
                · have HPK := Lib.hid (X.pick_le x y0 hcn hv)
                  have hvi : ¬ (x.ver.toNat : Int) < (y0.ver.toNat : Int) := by have h9 : ¬ x.ver.toNat < y0.ver.toNat := (fun h => hv (UInt64.lt_iff_toNat_lt.2 h)); omega
                  clear hcn hv
                  go_wp2_with fail
                  go_roundg (2 - (0 + 1))
                  case measure => omega
                  case rel => exact ⟨0 + 1, some x, by go_num, by omega, rfl, rfl, by rw [HS.out, HPK.out], HD3.out, HC3.out, HC43.out, HB3.out⟩
          · have q0 : (e0 == 0) = false := by simpa using he0
            have HPK := Lib.hid (X.pick_bad o y0 e0 he0)
            clear he0
            go_wp2_with fail
            go_roundg (2 - (0 + 1))
            case measure => omega
            case rel => exact ⟨0 + 1, o, by go_num, by omega, rfl, rfl, by rw [HS.out, HPK.out], HD2.out.chgNo (by (repeat (first | (with_reducible exact Chg.refl _ _) | (with_reducible assumption) | (with_reducible refine Chg.drewN ?_ _) | (with_reducible refine Chg.drew ?_) | (with_reducible refine Chg.alloc ?_ _) | (with_reducible refine Chg.setCell ?_ (by first | (left; simp [DevH.foot]; done) | (right; simp; done) | (right; simp; omega)) _)))), HC2.out.alloc _, HC42.out.alloc _, HB2.out.alloc _⟩
        · have f0 := (HF.out.chg H.out.2.2.2.1 (by rintro (h9 | h9) <;> first | exact HNB.out.2.2 h9 | omega)).cell 1
          simp at f0
          have HCALL := Lib.hid ((HG1 wr).out H.out.2.1 H.out.2.2.1)
          go_wp2_with fail
          refine HCALL.out.mono ?_
          rintro e w2 ⟨rfl, hc2'⟩
          have hd2 := H.out.2.1.chgNo hc2'
          have hc2 : Chg h.foot wr w2 := hc2'.mono (fun _ _ h => h.elim)
          clear hc2'
          have HD2 := Lib.hid hd2
          have HC2 : Hid (Chg h.foot w w2) := H.out.2.2.1.trans hc2
          have HC42 : Hid (Chg (fun j => h.foot j ∨ j = w1.heap.size) w4 w2) := H.out.2.2.2.1.trans (hc2.mono (fun _ _ h => .inl h))
          have HB2 : Hid (Blk w2 w1.heap.size tItem (itc (o.getD Item.zero)).toArray) := H.out.2.2.2.2.chg hc2 HNB.out.1
          have HS : Hid (X.sel y0 e0 y1 e1 (1 + 1) = X.pick o y1 e1) := by show _ = _; rw [H.out.1]; rfl
          have hlt2 : w1.heap.size < w2.heap.size := HB2.out.lt
          have HZ := Lib.hid (Blk.new w2 tItem #[.string ⟨#[]⟩, .string ⟨#[]⟩, .int .u32 0, .int .i64 0, .int .u64 0])
          have z0 := HZ.out.cell 0
          have z1 := HZ.out.cell 1
          have z2 := HZ.out.cell 2
          have z3 := HZ.out.cell 3
          have z4 := HZ.out.cell 4
          have g0 := HZ.out.frozen 0
          have g1 := HZ.out.frozen 1
          have g2 := HZ.out.frozen 2
          have g3 := HZ.out.frozen 3
          have g4 := HZ.out.frozen 4
          simp only [List.getElem?_toArray, List.getElem?_cons_zero, List.getElem?_cons_succ] at z0 z1 z2 z3 z4
          have q4 : (e1 == 4) = false := by simpa using hz14
          clear H HCALL hd2 hc2 f0
          unfold itemV
          by_cases he0 : e1 = 0
          · subst he0
            go_wp2_with fail
            refine ((HCN _ y1).out (HC2.out.alloc _) hkg).mono ?_
            rintro e w3 ⟨rfl, hc3⟩
            have HC3 : Hid (Chg h.foot w w3) := (HC2.out.alloc _).trans (hc3.mono (fun _ _ h => h.elim))
            have HC43 : Hid (Chg (fun j => h.foot j ∨ j = w1.heap.size) w4 w3) := (HC42.out.alloc _).trans (hc3.mono (fun _ _ h => h.elim))
            have HD3 : Hid (DevN N w3 h D) := HD2.out.chgNo (((Chg.refl No w2).alloc _).trans hc3)
            have HB3 : Hid (Blk w3 w1.heap.size tItem (itc (o.getD Item.zero)).toArray) := (HB2.out.alloc _).chg hc3 (fun h => h)
            have HY3 : Hid (Blk w3 w2.heap.size tItem (itc y1).toArray) := (Blk.new w2 tItem (itc y1).toArray).chg hc3 (fun h => h)
            have hlt3 : w2.heap.size < w3.heap.size := HY3.out.lt
            have xn : ¬ w1.heap.size = w2.heap.size := by omega
            have xn2 : ¬ w2.heap.size = w1.heap.size := by omega
            clear hc3 HC2 HC42 HD2 HB2 HZ z0 z1 z2 z3 z4 g0 g1 g2 g3 g4
            cases hcn : X.counts y1 with
            | false =>
              have HPK := Lib.hid (X.pick_no o y1 0 hcn)
              clear hcn
              go_wp2_with fail
              go_roundg (2 - (1 + 1))
              case measure => omega
              case rel => exact ⟨1 + 1, o, by go_num, by omega, rfl, rfl, by rw [HS.out, HPK.out], HD3.out, HC3.out, HC43.out, HB3.out⟩
            | true =>
              have y0_ := HY3.out.cell 0
              have y1_ := HY3.out.cell 1
              have y2_ := HY3.out.cell 2
              have y3_ := HY3.out.cell 3
              have y4_ := HY3.out.cell 4
              have b0 := HB3.out.cell 0
              have b1 := HB3.out.cell 1
              have b2 := HB3.out.cell 2
              have b3 := HB3.out.cell 3
              have b4 := HB3.out.cell 4
              have k0 := HB3.out.frozen 0
              have k1 := HB3.out.frozen 1
              have k2 := HB3.out.frozen 2
              have k3 := HB3.out.frozen 3
              have k4 := HB3.out.frozen 4
              simp only [itc, List.getElem?_toArray, List.getElem?_cons_zero, List.getElem?_cons_succ] at y0_ y1_ y2_ y3_ y4_ b0 b1 b2 b3 b4
              have xb : w1.heap.size < w3.heap.size := HB3.out.lt
              cases o with
              | none =>
                have HPK := Lib.hid (X.pick_new y1 hcn)
                clear hcn
                simp only [Option.getD_none] at b0 b1 b2 b3 b4
                go_wp2_with fail
                obtain ⟨w5, hw5⟩ : ∃ w5, w5 = set5 w3 w1.heap.size y1 := ⟨_, rfl⟩
                have HB5 : Hid (Blk w5 w1.heap.size tItem (itc y1).toArray) := by rw [hw5]; exact set5_blk HB3.out y1
                have HC5 : Hid (Chg (fun j => j = w1.heap.size) w3 w5) := by rw [hw5]; exact set5_chg w3 w1.heap.size y1
                have HD5 := Lib.hid (devN_new HD.out HD3.out HC3.out (HC5.out.mono (fun j _ hj => by have e : j = w1.heap.size := hj; have h9 : w.heap.size < w1.heap.size := HLTB.out; show w.heap.size ≤ j; omega)))
                unfold set5 at hw5
                rw [← hw5]
                clear hw5
                go_roundg (2 - (1 + 1))
                case measure => omega
                case rel => exact ⟨1 + 1, some y1, by go_num, by omega, rfl, rfl, by rw [HS.out, HPK.out], HD5.out.1, HD5.out.2, HC43.out.trans (HC5.out.mono (fun j _ hj => .inr hj)), HB5.out⟩
              | some x =>
                simp only [Option.getD_some] at b0 b1 b2 b3 b4
                by_cases hv : x.ver < y1.ver
                · have HPK := Lib.hid (X.pick_lt x y1 hcn hv)
                  have hvi : (x.ver.toNat : Int) < (y1.ver.toNat : Int) := by have := UInt64.lt_iff_toNat_lt.1 hv; omega
                  clear hcn hv
                  go_wp2_with fail
                  obtain ⟨w5, hw5⟩ : ∃ w5, w5 = set5 w3 w1.heap.size y1 := ⟨_, rfl⟩
                  have HB5 : Hid (Blk w5 w1.heap.size tItem (itc y1).toArray) := by rw [hw5]; exact set5_blk HB3.out y1
                  have HC5 : Hid (Chg (fun j => j = w1.heap.size) w3 w5) := by rw [hw5]; exact set5_chg w3 w1.heap.size y1
                  have HD5 := Lib.hid (devN_new HD.out HD3.out HC3.out (HC5.out.mono (fun j _ hj => by have e : j = w1.heap.size := hj; have h9 : w.heap.size < w1.heap.size := HLTB.out; show w.heap.size ≤ j; omega)))
                  unfold set5 at hw5
                  rw [← hw5]
                  clear hw5
                  go_roundg (2 - (1 + 1))
                  case measure => omega
                  case rel => exact ⟨1 + 1, some y1, by go_num, by omega, rfl, rfl, by rw [HS.out, HPK.out], HD5.out.1, HD5.out.2, HC43.out.trans (HC5.out.mono (fun j _ hj => .inr hj)), HB5.out⟩
                · have HPK := Lib.hid (X.pick_le x y1 hcn hv)
                  have hvi : ¬ (x.ver.toNat : Int) < (y1.ver.toNat : Int) := by have h9 : ¬ x.ver.toNat < y1.ver.toNat := (fun h => hv (UInt64.lt_iff_toNat_lt.2 h)); omega
                  clear hcn hv
                  go_wp2_with fail
                  go_roundg (2 - (1 + 1))
                  case measure => omega
                  case rel => exact ⟨1 + 1, some x, by go_num, by omega, rfl, rfl, by rw [HS.out, HPK.out], HD3.out, HC3.out, HC43.out, HB3.out⟩
          · have q0 : (e1 == 0) = false := by simpa using he0
            have HPK := Lib.hid (X.pick_bad o y1 e1 he0)
            clear he0
            go_wp2_with fail
            go_roundg (2 - (1 + 1))
            case measure => omega
            case rel => exact ⟨1 + 1, o, by go_num, by omega, rfl, rfl, by rw [HS.out, HPK.out], HD2.out.chgNo (by (repeat (first | (with_reducible exact Chg.refl _ _) | (with_reducible assumption) | (with_reducible refine Chg.drewN ?_ _) | (with_reducible refine Chg.drew ?_) | (with_reducible refine Chg.alloc ?_ _) | (with_reducible refine Chg.setCell ?_ (by first | (left; simp [DevH.foot]; done) | (right; simp; done) | (right; simp; omega)) _)))), HC2.out.alloc _, HC42.out.alloc _, HB2.out.alloc _⟩
      · obtain rfl : k = 2 := by omega
        have HOO : Hid (X.one D key = o) := by show _ = _; rw [H.out.1, HONE.out]; rfl
        have HB3 := Lib.hid H.out.2.2.2.2
        have HR3 : Hid (Blk wr w.heap.size tItem (itc Item.zero).toArray) := HR.out.chg H.out.2.2.2.1 (by rintro (h9 | h9) <;> first | exact HNB.out.2.1 h9 | (have := HLTB.out; omega))
        have HDF : Hid (DevN N wr h D ∧ Chg h.foot w wr) := ⟨H.out.2.1, H.out.2.2.1⟩
        have b0 := HB3.out.cell 0
        have b1 := HB3.out.cell 1
        have b2 := HB3.out.cell 2
        have b3 := HB3.out.cell 3
        have b4 := HB3.out.cell 4
        have z0 := HR3.out.cell 0
        have z1 := HR3.out.cell 1
        have z2 := HR3.out.cell 2
        have z3 := HR3.out.cell 3
        have z4 := HR3.out.cell 4
        have k0 := HR3.out.frozen 0
        have k1 := HR3.out.frozen 1
        have k2 := HR3.out.frozen 2
        have k3 := HR3.out.frozen 3
        have k4 := HR3.out.frozen 4
        simp only [itc, List.getElem?_toArray, List.getElem?_cons_zero, List.getElem?_cons_succ] at z0 z1 z2 z3 z4 b0 b1 b2 b3 b4
        have xb : w.heap.size < wr.heap.size := HR3.out.lt
        have xn : ¬ w1.heap.size = w.heap.size := by omega
        have xn2 : ¬ w.heap.size = w1.heap.size := by omega
        clear H h2 hk
        cases o with
        | none =>
          have HA : Hid (X.get D key = Item.zero ∧ X.getE D key = 5) := by show _ ∧ _; rw [HRES.out.1, HRES.out.2, HOO.out]; exact ⟨rfl, rfl⟩
          go_wp2_with fail
          refine bodyPost_ret (v := .tuple #[itemV Item.zero, .int .i64 5]) (by simp [results, Tryz.results17, go_sem, z0, z1, z2, z3, z4]; exact ⟨rfl, rfl, rfl, rfl, rfl⟩) rfl ?_
          have h5 := devN_new HD.out HDF.out.1 HDF.out.2 ((set5_chg wr w.heap.size Item.zero).mono (fun j _ e => Nat.le_of_eq (Eq.symm e)))
          exact ⟨by rw [HA.out.1, HA.out.2], h5.1, h5.2⟩
        | some x =>
          have HA : Hid (X.get D key = x ∧ X.getE D key = 0) := by show _ ∧ _; rw [HRES.out.1, HRES.out.2, HOO.out]; exact ⟨rfl, rfl⟩
          simp only [Option.getD_some] at b0 b1 b2 b3 b4
          go_wp2_with fail
          refine bodyPost_ret (v := .tuple #[itemV x, .int .i64 0]) (by simp [results, Tryz.results17, go_sem, z0, z1, z2, z3, z4, b0, b1, b2, b3, b4, xn, xn2]) rfl ?_
          have h5 := devN_new HD.out HDF.out.1 HDF.out.2 ((set5_chg wr w.heap.size x).mono (fun j _ e => Nat.le_of_eq (Eq.symm e)))
          exact ⟨by rw [HA.out.1, HA.out.2], h5.1, h5.2⟩
end
end Go.Proofs.YtplpbbdakihnfaaGreat
end

section
namespace Go.Proofs.YtplpbbdakihnfaaGreat
open Go.RowKit
attribute [local go_sem ↓] Go.wp_at_zero Go.wp_at_succ
namespace Eng
def all (X : Eng) (D : Dev) : List Item := X.B.allL D X.B.fs.length ++ X.G.items
def tells (X : Eng) (D : Dev) (x : Item) : Bool := decide (X.one D x.key = some x) && X.counts x
def items (X : Eng) (D : Dev) : List Item := (X.all D).filter (X.tells D)
theorem items_take {X : Eng} {D : Dev} {l : List Item} {k : Nat} {x : Item} (hx : l[k]? = some x) : (l.take (k + 1)).filter (X.tells D) = (l.take k).filter (X.tells D) ++ (if X.tells D x = true then [x] else []) := by
  rw [List.take_add_one, hx, Option.toList, List.filter_append]
  cases h : X.tells D x <;> simp [h]
end Eng
section
variable {N : Nat} {w w' : World} {h : DevH} {t : EngH} {X : Eng} {D : Dev}
set_option maxRecDepth 100000 in
set_option maxHeartbeats 4000000 in
theorem eitems_calls (hd : DevAt w h D) (he : EngAt w h t X) (hoff : D.off = false) (hls : X.losses = D.losses)
    (hle : ∀ i : Nat, i < X.B.fs.length → X.B.lE D i = 0) (h20 : X.G.regs.length < 20) (hbn : ∀ i ∈ byNum X.G.regs, i < X.G.regs.length) (hbl : (byNum X.G.regs).length ≤ 20)
    (hlen : (X.all D).length ≤ 1000000)
    (hks : ∀ x ∈ X.all D, x.key.size ≤ 140737488351232 ∧ (X.B.get D x.key).2 ≠ 4 ∧ (X.B.get D x.key).1.key.size ≤ 140737488351232 ∧ (X.G.get x.key).key.size ≤ 140737488351232) :
    Calls Tryz.prog 25 #[.pointer (some ⟨t.E, 0, none⟩)] w fun e w' => ∃ v, e = .returned v ∧ w'.ownsRow w.heap.size tItem 5 v (X.items D).length (its (X.items D)) ∧ DevAt w' h D ∧ Chg h.foot w w' := by
  have HDN := fun W => Lib.hid (fun (hd2 : DevN w.heap.size W h D) (hc : Chg h.foot w W) => edone_calls hd2 (he.foot hd hc) hoff)
  rw [show decide (X.losses ≠ D.losses) = false from decide_eq_false (by simp [hls])] at HDN
  have HE := Lib.hid he
  have HD : Hid (DevN w.heap.size w h D) := hd
  have HFL : Hid (∀ k, h.foot k → k < w.heap.size) := fun k hk => hd.foot_lt hk
  have HSI := Lib.hid (sitems_calls (show DevN w.heap.size w h D from hd) he.sto hle)
  have HGI := fun W => Lib.hid (fun (hc : Chg h.foot w W) => items_calls (he.foot hd hc).lg h20 hbn hbl)
  have HGT := fun W (y : ByteArray) => Lib.hid (fun (hd2 : DevN w.heap.size W h D) (hc : Chg h.foot w W) (h1 : y.size ≤ 140737488351232) (h2 : (X.B.get D y).2 ≠ 4) (h3 : (X.B.get D y).1.key.size ≤ 140737488351232) (h4 : (X.G.get y).key.size ≤ 140737488351232) => eget_calls hd2 (he.foot hd hc) hoff hls y h1 h2 h3 h4)
  have HCN := fun W y => Lib.hid (fun (hc : Chg h.foot w W) (hy : y.key.size ≤ 140737488351232) => ecounts_calls (he.foot hd hc) y hy)
  have HC12 := fun W => Lib.hid (fun (hc : Chg h.foot w W) => (he.foot hd hc).box.cell 12)
  have HR : Hid (X.items D = (X.all D).filter (X.tells D)) := rfl
  have HT : Hid (∀ y, X.tells D y = (decide (X.one D y.key = some y) && X.counts y)) := fun y => rfl
  have HGE : Hid (∀ k, X.get D k = (X.one D k).getD Item.zero ∧ X.getE D k = match X.one D k with | some _ => 0 | none => 5) := fun k => ⟨rfl, rfl⟩
  have HKS := Lib.hid hks
  obtain ⟨la, hla⟩ : ∃ l, l = X.B.allL D X.B.fs.length := ⟨_, rfl⟩
  obtain ⟨lb, hlb⟩ : ∃ l, l = X.G.items := ⟨_, rfl⟩
  have HAL : Hid (X.all D = la ++ lb) := by show _ = _; rw [hla, hlb]; rfl
  rw [← hla] at HSI
  rw [← hlb] at HGI
  rw [HAL.out] at HR HKS hlen
  have xlt := he.box.lt
  have c11 := he.box.cell 11
  simp [engBox] at c11
  clear hd he hoff hls hle h20 hbn hbl hks hla hlb HAL
  rw [List.length_append] at hlen
  go_enter Tryz.func25, Tryz.ntmps25
  go_wp2_with fail
  refine HSI.out.mono ?_
  rintro e w1 ⟨va, rfl, hoa, hd1, hc1⟩
  have HOA := Lib.hid hoa
  have HD1 := Lib.hid hd1
  have HC1 := Lib.hid hc1
  clear hoa hd1 hc1 HSI c11
  go_wp2_with fail
  refine ((HDN _).out HD1.out HC1.out).mono ?_
  rintro e w2 ⟨rfl, n2, rfl⟩
  have c12 := (HC12 (w1.drewN n2)).out (HC1.out.drewN n2)
  simp [engBox] at c12
  go_wp2_with fail
  refine ((HGI _).out (HC1.out.drewN n2)).mono ?_
  rintro e w3 ⟨vb, rfl, hob, hc3⟩
  obtain ⟨Ab, cb, rfl, hncb, hrb⟩ := own_slice hob
  obtain ⟨Aa, ca, rfl, hnca, hra⟩ := own_slice HOA.out
  have HC13 : Hid (Chg No w1 w3) := ((Chg.refl No w1).drewN n2).trans hc3
  have HOA3 := Lib.hid (own_chg HOA.out HC13.out (fun _ _ h => h))
  have HRB := Lib.hid hrb
  have HSZ3 : Hid (w.heap.size ≤ w3.heap.size) := Nat.le_trans HC1.out.size HC13.out.size
  have h63 : la.length + lb.length ≤ maxLen := by simp only [maxLen]; omega
  have hby : (la.length + lb.length) * 56 ≤ 140737488355328 := by omega
  clear hob hc3 hrb hra hncb hnca c12 HOA
  go_wp2_with (first
    | (at_builtin; refine wpList_app _ rfl (.tmp 24) (.tmp 29) 46 rfl tItem Tryz.underlying46 ti_item rfl (by omega) w.heap.size _ _ _ rfl HOA3.out tItem _ _ _ _ rfl HRB.out its_one_cell (by simp only [maxLen]; omega) (by omega) HSZ3.out ?_; intro v4 w4 ho4 hg4 hb4; obtain ⟨A4, c4, rfl, hnc4, hr4⟩ := own_slice ho4; have HR4 := Lib.hid hr4; have HG4 := Lib.hid hg4; clear ho4 hg4 hb4 hr4))
  have HCH : Hid (Chg (fun j => w.heap.size ≤ j) w1 w4) := (HC13.out.mono (fun _ _ h => h.elim)).grown HG4.out (fun k' hk' => .inl (own_new HOA3.out k' hk'))
  have HDC := Lib.hid (devN_new HD.out HD1.out HC1.out HCH.out)
  obtain ⟨L, hL⟩ : ∃ L, L = la.length + lb.length := ⟨_, rfl⟩
  obtain ⟨al, hal⟩ : ∃ al, al = la ++ lb := ⟨_, rfl⟩
  have HLN := Lib.hid hL
  have HLL : Hid (al.length = L) := by show _ = _; rw [hal, hL, List.length_append]
  have hr4 : Rd w4 tItem A4 (L * 5) (its al) := by rw [hal, its_append, hL]; exact HR4.out
  have HRD := Lib.hid hr4
  rw [← hal] at HR HKS
  rw [← hL] at hlen hnc4 ⊢
  have HSZ : Hid (w.heap.size ≤ w4.heap.size) := HDC.out.2.size
  clear HR4 HG4 HCH HOA3 HC13 HC1 HD1 HRB HGI HC12 hal hL hr4 HSZ3 h63 hby
  try go_frame
  rw [show ((la.length : Int) + (lb.length : Int)) = (L : Int) from by have := HLN.out; omega]
  go_loopg [5, 32] L (fun g v5 v32 wr => ∃ (k : Nat), v32 = .int .i64 k ∧ k ≤ L ∧ L - k = g ∧ Hid (DevN w.heap.size wr h D ∧ Chg h.foot w4 wr ∧ wr.ownsRow w4.heap.size tItem 5 v5 ((al.take k).filter (X.tells D)).length (its ((al.take k).filter (X.tells D)))))
  case atStart => exact ⟨0, rfl, by omega, by omega, HDC.out.1, Chg.refl _ _, World.ownsRow_nil _ _ _ _⟩
  case round =>
    obtain ⟨k, rfl, hk, hg, H⟩ := hrel
    by_cases hkl : k < L
    · obtain ⟨x, hx⟩ : ∃ x, al[k]? = some x := ⟨_, List.getElem?_eq_getElem (by rw [HLL.out]; exact hkl)⟩
      have HS := Lib.hid (Eng.items_take (X := X) (D := D) hx)
      obtain ⟨h1, h2, h3, h4⟩ := HKS.out x (List.mem_of_getElem? hx)
      obtain ⟨gy, oy, eA, hcy⟩ := rd_at6 (HRD.out.chg H.out.2.1 (fun g cur fz hgg => HDC.out.1.not_foot hgg (by decide) (by decide))) hkl hx
      subst eA
      have ⟨y0, y1, y2, y3, y4⟩ := hcy wr (Chg.refl _ _)
      have HK0 := Lib.hid h1
      have HO := Lib.hid H.out.2.2
      have HCR : Hid (Chg h.foot w wr) := HDC.out.2.trans H.out.2.1
      have HGG := Lib.hid ((HGT (wr.alloc (.cells #[.string x.key, .string x.val, .int .u32 x.flags.toNat, .int .i64 x.exp.toInt, .int .u64 x.ver.toNat] tItem)) x.key).out (H.out.1.chgNo ((Chg.refl No wr).alloc _)) (HCR.out.alloc _) h1 h2 h3 h4)
      have HTE := Lib.hid (HT.out x)
      obtain ⟨hge1, hge2⟩ := HGE.out x.key
      rw [hge1, hge2] at HGG
      have HZ := Lib.hid (Blk.new wr tItem #[.string ⟨#[]⟩, .string ⟨#[]⟩, .int .u32 0, .int .i64 0, .int .u64 0])
      have z0 := HZ.out.cell 0
      have z1 := HZ.out.cell 1
      have z2 := HZ.out.cell 2
      have z3 := HZ.out.cell 3
      have z4 := HZ.out.cell 4
      have g0 := HZ.out.frozen 0
      have g1 := HZ.out.frozen 1
      have g2 := HZ.out.frozen 2
      have g3 := HZ.out.frozen 3
      have g4 := HZ.out.frozen 4
      simp only [List.getElem?_toArray, List.getElem?_cons_zero, List.getElem?_cons_succ] at z0 z1 z2 z3 z4
      clear hcy h2 h3 h4 hge1 hge2 h1 hx
      go_wp2_with fail
      refine HGG.out.mono ?_
      rintro e w6 ⟨rfl, hd6, hc6⟩
      have hct : Chg h.foot wr w6 := (((Chg.refl No wr).alloc _).mono (fun _ _ h => h.elim)).trans hc6
      have HC6 : Hid (Chg h.foot w w6) := HCR.out.trans hct
      have HC46 : Hid (Chg h.foot w4 w6) := H.out.2.1.trans hct
      have HD6 := Lib.hid hd6
      have HX6 : Hid (Blk w6 wr.heap.size tItem (itc x).toArray) := (Blk.new wr tItem (itc x).toArray).chg hc6 (fun hk => by have := HFL.out _ hk; have := HCR.out.size; omega)
      have HO6 := Lib.hid (own_chg HO.out hct (fun j hj hf => by have := own_new HO.out j hj; have := HFL.out j hf; have := HSZ.out; omega))
      have hlt6 : wr.heap.size < w6.heap.size := HX6.out.lt
      have HZ6 := Lib.hid (Blk.new w6 tItem #[.string ⟨#[]⟩, .string ⟨#[]⟩, .int .u32 0, .int .i64 0, .int .u64 0])
      clear HGG hd6 hc6 hct H z0 z1 z2 z3 z4 g0 g1 g2 g3 g4 HZ y0 y1 y2 y3 y4
      have z0 := HZ6.out.cell 0
      have z1 := HZ6.out.cell 1
      have z2 := HZ6.out.cell 2
      have z3 := HZ6.out.cell 3
      have z4 := HZ6.out.cell 4
      have g0 := HZ6.out.frozen 0
      have g1 := HZ6.out.frozen 1
      have g2 := HZ6.out.frozen 2
      have g3 := HZ6.out.frozen 3
      have g4 := HZ6.out.frozen 4
      simp only [List.getElem?_toArray, List.getElem?_cons_zero, List.getElem?_cons_succ] at z0 z1 z2 z3 z4
      have x0 := HX6.out.cell 0
      have x1 := HX6.out.cell 1
      have x2 := HX6.out.cell 2
      have x3 := HX6.out.cell 3
      have x4 := HX6.out.cell 4
      simp only [itc, List.getElem?_toArray, List.getElem?_cons_zero, List.getElem?_cons_succ] at x0 x1 x2 x3 x4
      have xn : ¬ wr.heap.size = w6.heap.size := by omega
      have xn2 : ¬ w6.heap.size = wr.heap.size := by omega
      have HTF2 := HTE
      obtain ⟨o, ho⟩ : ∃ o, o = X.one D x.key := ⟨_, rfl⟩
      rw [← ho] at HTE ⊢
      clear ho HTF2
      cases o with
      | none =>
        have HTF : Hid (X.tells D x = false) := by show _ = _; rw [HTE.out]; rfl
        simp only [Option.getD_none]
        unfold itemV
        clear HTE
        go_wp2_with fail
        go_roundg (L - (k + 1))
        case measure => omega
        case rel => exact ⟨k + 1, by go_num, by omega, rfl, HD6.out.chgNo (by (repeat (first | (with_reducible exact Chg.refl _ _) | (with_reducible assumption) | (with_reducible refine Chg.drewN ?_ _) | (with_reducible refine Chg.drew ?_) | (with_reducible refine Chg.alloc ?_ _) | (with_reducible refine Chg.setCell ?_ (by first | (left; simp [DevH.foot]; done) | (right; simp; done) | (right; simp; omega)) _)))), HC46.out.alloc _, by rw [HS.out, if_neg (by rw [HTF.out]; decide), List.append_nil]; exact HO6.out.alloc _⟩
      | some y =>
        simp only [Option.getD_some]
        unfold itemV
        by_cases hyx : y = x
        · have heq : ∀ W : World, (binOp .eql tItem (itemV y) (itemV x)).run Tryz.prog W = .ok (.bool true) W := fun W => by rw [run_eql_item, decide_eq_true hyx]
          have HTX : Hid (X.tells D x = X.counts x) := by show _ = _; rw [HTE.out, hyx]; simp
          clear hyx HTE
          unfold itemV at heq
          go_wp2_with fail
          have HGC := Lib.hid ((HCN (w6.alloc (.cells #[.string y.key, .string y.val, .int .u32 y.flags.toNat, .int .i64 y.exp.toInt, .int .u64 y.ver.toNat] tItem)) x).out (HC6.out.alloc _) HK0.out)
          unfold itemV at HGC
          refine HGC.out.mono ?_
          rintro e w7 ⟨rfl, hc7⟩
          have hc67 : Chg No w6 w7 := ((Chg.refl No w6).alloc _).trans hc7
          have HD7 : Hid (DevN w.heap.size w7 h D) := HD6.out.chgNo hc67
          have HC47 : Hid (Chg h.foot w4 w7) := HC46.out.trans (hc67.mono (fun _ _ h => h.elim))
          have HO7 := Lib.hid (own_chg HO6.out hc67 (fun _ _ h => h))
          have HX7 := Lib.hid (HX6.out.chg hc67 (fun h => h))
          have HSZ7 : Hid (w4.heap.size ≤ w7.heap.size) := HC47.out.size
          clear HGC hc67 hc7 z0 z1 z2 z3 z4 g0 g1 g2 g3 g4 x0 x1 x2 x3 x4 HX6 HO6 HD6 HC46 HZ6 xn xn2
          obtain ⟨b, hb⟩ : ∃ b, b = X.counts x := ⟨_, rfl⟩
          rw [← hb] at HTX ⊢
          clear hb
          cases b with
          | false =>
            go_wp2_with fail
            go_roundg (L - (k + 1))
            case measure => omega
            case rel => exact ⟨k + 1, by go_num, by omega, rfl, HD7.out, HC47.out, by rw [HS.out, if_neg (by rw [HTX.out]; decide), List.append_nil]; exact HO7.out⟩
          | true =>
            have x0 := HX7.out.cell 0
            have x1 := HX7.out.cell 1
            have x2 := HX7.out.cell 2
            have x3 := HX7.out.cell 3
            have x4 := HX7.out.cell 4
            simp only [itc, List.getElem?_toArray, List.getElem?_cons_zero, List.getElem?_cons_succ] at x0 x1 x2 x3 x4
            have hlf : ((al.take k).filter (X.tells D)).length ≤ k := by
              refine Nat.le_trans (List.length_filter_le _ _) ?_
              rw [List.length_take]; omega
            have h63 : ((al.take k).filter (X.tells D)).length + 1 ≤ maxLen := by simp only [maxLen]; omega
            have hby : (((al.take k).filter (X.tells D)).length + 1) * 56 ≤ 140737488355328 := by omega
            go_wp2_with (first
              | (at_builtin; go_loud (refine wpList_app _ rfl (.tmp 55) (.tmp 57) 46 rfl tItem Tryz.underlying46 ti_item rfl (by omega) w4.heap.size _ _ _ rfl (HO7.out.alloc _) tItem _ 1 1 (itc x) rfl (rd_item _ x) (itc_one_cell x) h63 (by omega) (by have := HSZ7.out; simp; omega) ?_); intro v2 w8 ho2 hg2 hb2; have HO8 := Lib.hid ho2; have HG8 := Lib.hid hg2; clear ho2 hg2 hb2))
            have hch : Chg (fun j => w4.heap.size ≤ j) w7 w8 := ((Chg.refl _ w7).alloc _).grown HG8.out (fun k' hk' => .inl (own_new HO7.out k' hk'))
            have HD8 := Lib.hid (devN_new HD.out HD7.out (HDC.out.2.trans HC47.out) (hch.mono (fun j _ hj => Nat.le_trans HSZ.out hj)))
            have HC8 : Hid (Chg h.foot w4 w8) := (HC47.out.alloc _).grown HG8.out (fun k' hk' => .inr (own_new HO7.out k' hk'))
            clear hch
            go_roundg (L - (k + 1))
            case measure => omega
            case rel =>
              refine ⟨k + 1, by go_num, by omega, rfl, HD8.out.1, HC8.out, ?_⟩
              rw [HS.out, if_pos (by rw [HTX.out]), List.length_append, its_append, its_one]
              exact HO8.out
        · have heq : ∀ W : World, (binOp .eql tItem (itemV y) (itemV x)).run Tryz.prog W = .ok (.bool false) W := fun W => by rw [run_eql_item, decide_eq_false hyx]
          have HTF : Hid (X.tells D x = false) := by show _ = _; rw [HTE.out, decide_eq_false (by simpa using hyx)]; rfl
          clear hyx HTE
          unfold itemV at heq
          go_wp2_with fail
          go_roundg (L - (k + 1))
          case measure => omega
          case rel => exact ⟨k + 1, by go_num, by omega, rfl, HD6.out.chgNo (by (repeat (first | (with_reducible exact Chg.refl _ _) | (with_reducible assumption) | (with_reducible refine Chg.drewN ?_ _) | (with_reducible refine Chg.drew ?_) | (with_reducible refine Chg.alloc ?_ _) | (with_reducible refine Chg.setCell ?_ (by first | (left; simp [DevH.foot]; done) | (right; simp; done) | (right; simp; omega)) _)))), HC46.out.alloc _, by rw [HS.out, if_neg (by rw [HTF.out]; decide), List.append_nil]; exact HO6.out.alloc _⟩
    · obtain rfl : k = L := by omega
      have HTK : Hid (al.take k = al) := List.take_of_length_le (by rw [HLL.out]; exact Nat.le_refl _)
      have HOF := Lib.hid H.out.2.2
      rw [HTK.out] at HOF
      have HDF : Hid (DevN w.heap.size wr h D ∧ Chg h.foot w wr) := ⟨H.out.1, HDC.out.2.trans H.out.2.1⟩
      clear H
      go_wp2_with fail
      go_ret
      refine ⟨_, rfl, ?_, HDF.out.1.at_, HDF.out.2⟩
      rw [HR.out]
      exact own_base HOF.out HSZ.out
end
end Go.Proofs.YtplpbbdakihnfaaGreat
end

section
namespace Go.Proofs.YtplpbbdakihnfaaGreat
open Go.RowKit
attribute [local go_sem] Oper.semAt_some
attribute [local go_sem ↓] Go.wp_at_zero Go.wp_at_succ
theorem sub_slice3m {P : Program} {T e : TypeId} {z : Value} {size bytes : Nat} (hT : P.underlying T = some (.slice e)) (hi : TI P e z size bytes) (A : Option Addr) (n c l h : Nat) (h1 : l < h) (h2 : h ≤ n) (h3 : n ≤ c) (W : World) :
    (Instr.slice T (.slice A n c) (some (.int .i64 l)) (some (.int .i64 h)) (some (.int .i64 h))).run P W = .ok (.slice (A.map (·.add (l * size))) (h - l) (h - l)) W := by
  obtain ⟨i, hi', hz, hs, hby⟩ := info_parts hi
  have hsz : (sizeOf e).run P W = .ok size W := by simp [sizeOf, typeInfo, hi', hs]
  simp only [Instr.slice, Sem.run_bind, run_underlying hT, Result.andThen, Instr.sliceBounds, Sem.run_pure]
  rw [run_sliceBound _ _ _ _ _ (by omega) (by omega)]
  simp only []
  rw [run_sliceBound _ _ _ _ _ (by omega) (by omega)]
  simp only []
  rw [run_sliceBound _ _ _ _ _ (by omega) (by omega)]
  simp only [hsz]
  simp
  omega
def mkN (len : Nat) : Nat := (len + 22) / 23
abbrev MkIx (len : Nat) := { j : Nat // j * 23 < len }
def mkV (A : Option Addr) (len j : Nat) : Value := .slice (A.map (·.add (j * 23 * 2))) (min 23 (len - j * 23)) (min 23 (len - j * 23))
def mkKp (Bs Bn : Nat) (W W' : World) : Prop := W'.heap[Bs]? = W.heap[Bs]? ∧ W'.heap[Bn]? = W.heap[Bn]?
set_option maxRecDepth 100000 in
set_option maxHeartbeats 2000000 in
theorem mchunk1_in (n : Nat) (l Bs Bn B0 : Nat) (A : Option Addr) (len cap : Nat) (hlc : len ≤ cap) (hlen : len ≤ 140737488351232) (J Jx : List (MkIx len) → World → Prop)
    (hJ : AbidesFrom B0 J)
    (hY : ∀ pre x W, J pre W → pre.length < mkN len → YieldAt Fence.wide (n - 1) Tryz.prog l #[mkV A len x.1] W fun e W' =>
      (e = .returned (.bool true) ∧ J (pre ++ [x]) W' ∧ mkKp Bs Bn W W') ∨ (e = .returned (.bool false) ∧ Jx (pre ++ [x]) W'))
    (W : World) (hBs : W.cell? ⟨Bs, 0, none⟩ = some (.slice A len cap)) (hBn : W.cell? ⟨Bn, 0, none⟩ = some (.int .i64 23)) (h0 : J [] W) :
    CallsIn Fence.wide n Tryz.prog 80 #[.func (.yield l) #[] #[], .pointer (some ⟨Bs, 0, none⟩), .pointer (some ⟨Bn, 0, none⟩)] W fun e W' => (∃ v, e = .returned v) ∧
      ((∃ xs : List (MkIx len), xs.map (·.1) = List.range (mkN len) ∧ J xs W') ∨ (∃ pre : List (MkIx len), (∃ k, k ≤ mkN len ∧ pre.map (·.1) = List.range k) ∧ Jx pre W')) := by
  refine callsIn_of_wp Tryz.func80 rfl trivial ?_ rfl
  simp only [Tryz.ntmps80, List.size_toArray, List.length_cons, List.length_nil, Nat.reduceAdd, Nat.reduceSub, Array.replicate_succ, Array.replicate_zero, List.push_toArray, List.append_toArray, List.nil_append, List.cons_append]
  gi_wp2
  gi_loopw [4] (fun i wr => ∃ (k : Nat) (pre : List (MkIx len)), i = .int .i64 ((k * 23 : Nat) : Int) ∧ k ≤ mkN len ∧ Hid (pre.map (·.1) = List.range k ∧ J pre wr ∧ mkKp Bs Bn W wr))
    (fun i _ => len + 23 - (intOf i).toNat)
  case atStart => exact ⟨0, [], rfl, Nat.zero_le _, ⟨rfl, h0, rfl, rfl⟩⟩
  case round =>
    obtain ⟨k, pre, rfl, hk, H⟩ := hrel
    have hc1 : wr.cell? ⟨Bs, 0, none⟩ = some (.slice A len cap) := (World.cell?_of_block H.out.2.2.1).trans hBs
    have hc2 : wr.cell? ⟨Bn, 0, none⟩ = some (.int .i64 23) := (World.cell?_of_block H.out.2.2.2).trans hBn
    obtain ⟨i, hi⟩ : ∃ i, i = k * 23 := ⟨_, rfl⟩
    rw [← hi]
    by_cases hlt : i < len
    · obtain ⟨m, hm⟩ : ∃ m, m = min 23 (len - i) := ⟨_, rfl⟩
      obtain ⟨A', hs1, _⟩ := sub_slice_l (P := Tryz.prog) Tryz.underlying100 ti_mark A len cap (i : Int) (by omega) (by omega) hlc
      simp only [Int.toNat_natCast] at hs1
      have hs3 := sub_slice3m (P := Tryz.prog) Tryz.underlying100 ti_mark A len cap i (i + m) (by omega) (by omega) hlc
      rw [show i + m - i = m from by omega] at hs3
      have hpl : pre.length = k := by have := congrArg List.length H.out.1; simpa using this
      obtain ⟨x, hx⟩ : ∃ x : MkIx len, x.1 = k := ⟨⟨k, by omega⟩, rfl⟩
      have hyv : mkV A len x.1 = .slice (A.map (·.add (i * 2))) m m := by unfold mkV; rw [hx, ← hi, ← hm]
      have HYX := fun N : Nat => Lib.hid (hY pre x (wr.drewN N) (hJ _ _ _ none H.out.2.1 ⟨rfl, rfl, rfl, Nat.le_refl _, fun _ _ _ => rfl⟩ (fun r e => by cases e)) (by rw [hpl]; unfold mkN; omega))
      rw [hyv] at HYX
      have HX := Lib.hid hx
      have HW := Lib.hid H.out.2.2
      have HP := Lib.hid H.out.1
      have hwb : IntKind.i64.wrap ((i : Int) + (m : Int)) = (i : Int) + (m : Int) := IntWalk.i64_in _ (by omega)
      have hmi : (23 : Int) ≤ ((len - i : Nat) : Int) ∨ ((len - i : Nat) : Int) < 23 := by omega
      have z1 : (0 : Int) ≤ (i : Int) := by omega
      have z2 : (i : Int) ≤ (len : Int) := by omega
      simp only [Int.natCast_add] at hs3
      have HI := Lib.hid hi
      have HM := Lib.hid hm
      have hm1 : m ≤ 23 := by omega
      have hm2 : i + m ≤ len := by omega
      have hm3 : 0 < m := by omega
      have hlt2 : (i : Int) < (len : Int) := by omega
      obtain ⟨q, hq⟩ : ∃ q, q = len - i := ⟨_, rfl⟩
      rw [← hq] at hs1
      have hmq : m = min 23 q := by omega
      clear H hi hm hmi hyv hx hq
      gi_wp2
      refine wpIn_wide.2 ?_
      by_cases hb : 23 ≤ q
      · obtain rfl : m = 23 := by omega
        have hb1 : decide ((23 : Int) ≤ (q : Int)) = true := by simp; omega
        have hb2 : (23 : Int) ≤ (q : Int) := by omega
        clear hmq
        go_quiet (fail)
        rename_i nq
        obtain ⟨fn, tmps, assign, body, hy, hR⟩ := (HYX nq).out
        gi_wp2
        refine ⟨fun h => (by cases h), hR.mono ?_⟩
        rintro e W3 (⟨rfl, hJ3, hk3⟩ | ⟨rfl, hJx3⟩)
        · have HJ3 := Lib.hid hJ3
          have HK3 : Hid (mkKp Bs Bn W W3) := ⟨hk3.1.trans HW.out.1, hk3.2.trans HW.out.2⟩
          have hc3 : W3.cell? ⟨Bn, 0, none⟩ = some (.int .i64 23) := (World.cell?_of_block HK3.out.2).trans hBn
          clear hJ3 hk3
          gi_wp2
          go_roundw
          case rel => exact ⟨k + 1, pre ++ [x], by rw [HI.out]; go_num, by unfold mkN; have := HI.out; omega, ⟨by rw [List.map_append, HP.out, List.range_succ, ← HX.out]; rfl, HJ3.out, HK3.out⟩⟩
          case measure => simp [intOf]; omega
        · have HJ3 := Lib.hid hJx3
          clear hJx3
          gi_wp2
          refine bodyPost_ret (results_none rfl _ _ _) rfl ?_
          exact ⟨⟨_, rfl⟩, .inr ⟨pre ++ [x], ⟨k + 1, by unfold mkN; have := HI.out; omega, by rw [List.map_append, HP.out, List.range_succ, ← HX.out]; rfl⟩, HJ3.out⟩⟩
      · obtain rfl : m = q := by omega
        have hb1 : decide ((23 : Int) ≤ (m : Int)) = false := by simp; omega
        have hb2 : (m : Int) < (23 : Int) := by omega
        clear hmq
        go_quiet (fail)
        rename_i nq
        obtain ⟨fn, tmps, assign, body, hy, hR⟩ := (HYX nq).out
        gi_wp2
        refine ⟨fun h => (by cases h), hR.mono ?_⟩
        rintro e W3 (⟨rfl, hJ3, hk3⟩ | ⟨rfl, hJx3⟩)
        · have HJ3 := Lib.hid hJ3
          have HK3 : Hid (mkKp Bs Bn W W3) := ⟨hk3.1.trans HW.out.1, hk3.2.trans HW.out.2⟩
          have hc3 : W3.cell? ⟨Bn, 0, none⟩ = some (.int .i64 23) := (World.cell?_of_block HK3.out.2).trans hBn
          clear hJ3 hk3
          gi_wp2
          go_roundw
          case rel => exact ⟨k + 1, pre ++ [x], by rw [HI.out]; go_num, by unfold mkN; have := HI.out; omega, ⟨by rw [List.map_append, HP.out, List.range_succ, ← HX.out]; rfl, HJ3.out, HK3.out⟩⟩
          case measure => simp [intOf]; omega
        · have HJ3 := Lib.hid hJx3
          clear hJx3
          gi_wp2
          refine bodyPost_ret (results_none rfl _ _ _) rfl ?_
          exact ⟨⟨_, rfl⟩, .inr ⟨pre ++ [x], ⟨k + 1, by unfold mkN; have := HI.out; omega, by rw [List.map_append, HP.out, List.range_succ, ← HX.out]; rfl⟩, HJ3.out⟩⟩
    · gi_wp2
      go_end0
      exact ⟨⟨_, rfl⟩, .inl ⟨pre, by rw [H.out.1]; congr 1; unfold mkN at hk ⊢; omega, H.out.2.1⟩⟩
theorem mchunk_calls (A : Option Addr) (len cap : Nat) (w : World) :
    Calls Tryz.prog 53 #[.slice A len cap, .int .i64 23] w fun e w' => e = .returned (.func (.func 80) #[] #[.pointer (some ⟨w.heap.size, 0, none⟩), .pointer (some ⟨w.heap.size + 1, 0, none⟩)]) ∧
      w' = (w.alloc (.cells #[.slice A len cap] 100)).alloc (.cells #[.int .i64 23] 3) := by
  go_enter Tryz.func53, Tryz.ntmps53
  go_wp2
  go_ret
  exact ⟨by simp, rfl⟩
end Go.Proofs.YtplpbbdakihnfaaGreat
end
