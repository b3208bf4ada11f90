/- Packed texts: EngA, EngB, EngC, EngD, EngE, EngG. -/
import Derived.Test.YtplpbbdakihnfaaGreatPq19
import Derived.Test.YtplpbbdakihnfaaGreatPq10
import Derived.Test.YtplpbbdakihnfaaGreatPq08
import Derived.Test.YtplpbbdakihnfaaGreatPq02
set_option linter.unusedSimpArgs false
set_option linter.unusedVariables false
section
namespace Go.Proofs.YtplpbbdakihnfaaGreat
open Go.RowKit
open Go.ChangeMaps (setBlock)
attribute [local go_sem ↓] Go.wp_at_zero Go.wp_at_succ
theorem Chg.cellNo {a b : World} (hc : Chg No a b) {g i : Nat} {v : Value} (h : a.cell? ⟨g, i, none⟩ = some v) : b.cell? ⟨g, i, none⟩ = some v := by
  by_cases hg : g < a.heap.size
  · have e := hc.block g hg (fun h => h)
    unfold World.cell? at h ⊢
    simp only at h ⊢
    rw [e]
    exact h
  · exfalso
    have e : a.heap[g]? = none := by rw [Array.getElem?_eq_none_iff]; omega
    unfold World.cell? at h
    simp only [e] at h
    cases h
structure Geo where
  j : Nat
  b : Nat
  r : Nat
  i : Nat
namespace Geo
def V (g : Geo) : Value := .agg #[.int .i64 g.j, .int .i64 g.b, .int .i64 g.r, .int .i64 g.i]
def ok (g : Geo) : Bool := decide (1 ≤ g.j) && decide (g.j ≤ 64) && decide (1 ≤ g.b) && decide (g.b ≤ 64) && decide (1 ≤ g.r) && decide (g.r ≤ 16) && decide (g.i ≤ 256)
def pages (g : Geo) : Nat := 2 + g.j + g.b + 4 * g.r + g.i
end Geo
set_option maxRecDepth 100000 in
theorem egood_calls (g : Geo) (h : g.ok = true) (w : World) :
    Calls Tryz.prog 31 #[g.V] w fun e w' => e = .returned (.bool true) ∧ Chg No w w' := by
  unfold Geo.ok at h
  simp only [Bool.and_eq_true, decide_eq_true_eq] at h
  obtain ⟨⟨⟨⟨⟨⟨h1, h2⟩, h3⟩, h4⟩, h5⟩, h6⟩, h7⟩ := h
  obtain ⟨j, b, r, i⟩ := g
  simp only at h1 h2 h3 h4 h5 h6 h7
  unfold Geo.V
  have a1 : (1 : Int) ≤ (j : Int) := by omega
  have a2 : (j : Int) ≤ 64 := by omega
  have a3 : (1 : Int) ≤ (b : Int) := by omega
  have a4 : (b : Int) ≤ 64 := by omega
  have a5 : (1 : Int) ≤ (r : Int) := by omega
  have a6 : (r : Int) ≤ 16 := by omega
  have a7 : (0 : Int) ≤ (i : Int) := by omega
  have a8 : (i : Int) ≤ 256 := by omega
  go_enter Tryz.func31, Tryz.ntmps31
  go_wp2_with fail
  go_ret
  exact ⟨rfl, by (repeat (first | (with_reducible exact Chg.refl _ _) | (with_reducible assumption) | (with_reducible refine Chg.drewN ?_ _) | (with_reducible refine Chg.drew ?_) | (with_reducible refine Chg.alloc ?_ _) | (with_reducible refine Chg.setCell ?_ (by first | (left; simp [DevH.foot]; done) | (right; simp; done) | (right; simp; omega)) _)))⟩
set_option maxRecDepth 100000 in
theorem ebad_calls (w : World) :
    Calls Tryz.prog 31 #[(Geo.mk 0 0 0 0).V] w fun e w' => e = .returned (.bool false) ∧ Chg No w w' := by
  unfold Geo.V
  go_enter Tryz.func31, Tryz.ntmps31
  go_wp2_with fail
  go_ret
  exact ⟨rfl, by (repeat (first | (with_reducible exact Chg.refl _ _) | (with_reducible assumption) | (with_reducible refine Chg.drewN ?_ _) | (with_reducible refine Chg.drew ?_) | (with_reducible refine Chg.alloc ?_ _) | (with_reducible refine Chg.setCell ?_ (by first | (left; simp [DevH.foot]; done) | (right; simp; done) | (right; simp; omega)) _)))⟩
set_option maxRecDepth 100000 in
theorem epages_calls (g : Geo) (h : g.ok = true) (w : World) :
    Calls Tryz.prog 18 #[g.V] w fun e w' => e = .returned (.int .i64 g.pages) ∧ Chg No w w' := by
  have HG := fun W => Lib.hid (egood_calls g h W)
  unfold Geo.ok at h
  simp only [Bool.and_eq_true, decide_eq_true_eq] at h
  obtain ⟨⟨⟨⟨⟨⟨h1, h2⟩, h3⟩, h4⟩, h5⟩, h6⟩, h7⟩ := h
  obtain ⟨j, b, r, i⟩ := g
  simp only at h1 h2 h3 h4 h5 h6 h7
  unfold Geo.pages
  unfold Geo.V at HG ⊢
  go_enter Tryz.func18, Tryz.ntmps18
  go_wp2_with fail
  refine (HG _).out.mono ?_
  rintro e w1 ⟨rfl, hc1⟩
  have HX := Lib.hid ((Blk.new w 34 #[.int .i64 j, .int .i64 b, .int .i64 r, .int .i64 i]).chg hc1 (fun h => h))
  have HC : Hid (Chg No w w1) := ((Chg.refl No w).alloc _).trans hc1
  have x0 := HX.out.cell 0
  have x1 := HX.out.cell 1
  have x2 := HX.out.cell 2
  have x3 := HX.out.cell 3
  simp at x0 x1 x2 x3
  have a1 : IntKind.i64.wrap (2 + (j : Int)) = 2 + (j : Int) := IntWalk.i64_in _ (by omega)
  have a2 : IntKind.i64.wrap (2 + (j : Int) + (b : Int)) = 2 + (j : Int) + (b : Int) := IntWalk.i64_in _ (by omega)
  have a3 : IntKind.i64.wrap (4 * (r : Int)) = 4 * (r : Int) := IntWalk.i64_in _ (by omega)
  have a4 : IntKind.i64.wrap (2 + (j : Int) + (b : Int) + 4 * (r : Int)) = 2 + (j : Int) + (b : Int) + 4 * (r : Int) := IntWalk.i64_in _ (by omega)
  have a5 : IntKind.i64.wrap (2 + (j : Int) + (b : Int) + 4 * (r : Int) + (i : Int)) = 2 + (j : Int) + (b : Int) + 4 * (r : Int) + (i : Int) := IntWalk.i64_in _ (by omega)
  clear hc1
  go_wp2_with fail
  go_ret
  refine ⟨?_, HC.out⟩
  congr 2
theorem epages_bad (w : World) :
    Calls Tryz.prog 18 #[(Geo.mk 0 0 0 0).V] w fun e w' => e = .returned (.int .i64 0) ∧ Chg No w w' := by
  have HG := fun W => Lib.hid (ebad_calls W)
  unfold Geo.V at HG ⊢
  go_enter Tryz.func18, Tryz.ntmps18
  go_wp2_with fail
  refine (HG _).out.mono ?_
  rintro e w1 ⟨rfl, hc1⟩
  go_wp2_with fail
  have HC : Hid (Chg No w w1) := ((Chg.refl No w).alloc _).trans hc1
  clear hc1
  go_ret
  exact ⟨rfl, HC.out⟩
section
variable {N : Nat} {S : Nat → Prop} {w w' : World} {h : DevH} {t : EngH} {X : Eng} {D : Dev}
set_option maxRecDepth 100000 in
theorem eblock_calls (he : EngAt w h t X) :
    Calls Tryz.prog 30 #[.pointer (some ⟨t.E, 0, none⟩)] w fun e w' => e = .returned (sbV X.blk) ∧ Chg No w w' := by
  have c2 := he.box.cell 2
  have c3 := he.box.cell 3
  have c4 := he.box.cell 4
  have c5 := he.box.cell 5
  have c6 := he.box.cell 6
  have c7 := he.box.cell 7
  have c8 := he.box.cell 8
  simp [engBox] at c2 c3 c4 c5 c6 c7 c8
  rw [sbV_eq]
  have xlt := he.box.lt
  go_enter Tryz.func30, Tryz.ntmps30
  go_wp2_with fail
  refine bodyPost_ret (v := .agg #[.int .u64 X.blk.seq, .int .u64 X.blk.epoch, .int .u64 X.blk.reserved, .int .u64 X.blk.horizon, .int .u64 X.blk.gen, .bool X.blk.clean, .int .i64 X.blk.image]) (by simp [results, Tryz.results30, go_sem]) rfl ⟨rfl, by (repeat (first | (with_reducible exact Chg.refl _ _) | (with_reducible assumption) | (with_reducible refine Chg.drewN ?_ _) | (with_reducible refine Chg.drew ?_) | (with_reducible refine Chg.alloc ?_ _) | (with_reducible refine Chg.setCell ?_ (by first | (left; simp [DevH.foot]; done) | (right; simp; done) | (right; simp; omega)) _)))⟩
set_option maxRecDepth 100000 in
theorem ecounts_calls (he : EngAt w h t X) (x : Item) (hk : x.key.size ≤ 140737488351232) :
    Calls Tryz.prog 51 #[.pointer (some ⟨t.E, 0, none⟩), itemV x] w fun e w' => e = .returned (.bool (X.counts x)) ∧ Chg No w w' := by
  have c5 := he.box.cell 5
  have c10 := he.box.cell 10
  simp [engBox] at c5 c10
  have HH := fun W => Lib.hid (hash_calls x.key W hk)
  have HGN := fun W => Lib.hid (fun hc : Chg No w W => gone_calls (he.jn.chgNo hc) (Eng.key x.key) x.ver.toNat)
  have xlt := he.box.lt
  have HB := Lib.hid he.box
  have HE : Hid (X.counts x = (decide (X.blk.horizon < x.ver.toNat) && !X.J.gone (Eng.key x.key) x.ver.toNat)) := rfl
  rw [HE.out]
  obtain ⟨b, hb⟩ : ∃ b, b = X.J.gone (Eng.key x.key) x.ver.toNat := ⟨_, rfl⟩
  obtain ⟨y, hy⟩ : ∃ y, y = X.blk.horizon := ⟨_, rfl⟩
  obtain ⟨v, hv⟩ : ∃ v, v = x.ver.toNat := ⟨_, rfl⟩
  unfold itemV
  rw [← hy] at c5
  rw [← hb] at HGN
  rw [← hv] at HGN
  rw [← hb, ← hy, ← hv]
  clear he HE hb hy hv HB hk
  unfold Eng.key at HGN
  obtain ⟨z, hz⟩ : ∃ z, z = khash x.key.data.toList := ⟨_, rfl⟩
  rw [← hz] at HH HGN
  clear hz
  by_cases hlt : y < v
  rotate_left
  · have hni : ¬ (y : Int) < (v : Int) := by omega
    rw [decide_eq_false hlt, Bool.false_and]
    go_enter Tryz.func51, Tryz.ntmps51
    go_wp2_with fail
    go_quiet (fail)
    go_wp2_with fail
    go_ret
    exact ⟨rfl, by (repeat (first | (with_reducible exact Chg.refl _ _) | (with_reducible assumption) | (with_reducible refine Chg.drewN ?_ _) | (with_reducible refine Chg.drew ?_) | (with_reducible refine Chg.alloc ?_ _) | (with_reducible refine Chg.setCell ?_ (by first | (left; simp [DevH.foot]; done) | (right; simp; done) | (right; simp; omega)) _)))⟩
  have hyi : (y : Int) < (v : Int) := by omega
  rw [decide_eq_true hlt, Bool.true_and]
  go_enter Tryz.func51, Tryz.ntmps51
  go_wp2_with fail
  go_region_held3 (fun w' => w'.cell? ⟨t.E, 5, none⟩ = some (.int .u64 y) ∧ w'.cell? ⟨t.E, 10, none⟩ = some (.pointer (some ⟨t.j.J, 0, none⟩)) ∧ w'.cell? ⟨w.heap.size, 0, none⟩ = some (.string x.key) ∧ w'.cell? ⟨w.heap.size, 4, none⟩ = some (.int .u64 v)) (first | go_keep)
    (first
      | (go_at_call 52
         refine (HH _).out.mono ?_
         rintro e w3 ⟨rfl, rfl⟩)
      | (go_at_call 78
         refine ((HGN _).out (by (repeat (first | (with_reducible exact Chg.refl _ _) | (with_reducible assumption) | (with_reducible refine Chg.drewN ?_ _) | (with_reducible refine Chg.drew ?_) | (with_reducible refine Chg.alloc ?_ _) | (with_reducible refine Chg.setCell ?_ (by first | (left; simp [DevH.foot]; done) | (right; simp; done) | (right; simp; omega)) _))))).mono ?_
         rintro e w3 ⟨rfl, hc3⟩
         have k0 := hc3.cellNo (g := t.E) (i := 5) (v := .int .u64 y) (by simp [go_sem, c5, c10, xlt, Nat.ne_of_lt xlt])
         have k1 := hc3.cellNo (g := t.E) (i := 10) (v := .pointer (some ⟨t.j.J, 0, none⟩)) (by simp [go_sem, c5, c10, xlt, Nat.ne_of_lt xlt])
         have k2 := hc3.cellNo (g := w.heap.size) (i := 0) (v := .string x.key) (by simp [go_sem, c5, c10, xlt, Nat.ne_of_lt xlt])
         have k3 := hc3.cellNo (g := w.heap.size) (i := 4) (v := .int .u64 v) (by simp [go_sem, c5, c10, xlt, Nat.ne_of_lt xlt])
         have HC3 := Lib.hid hc3
         clear hc3))
  have HC4 : Hid (Chg No w w3) := (((Chg.refl No w).alloc _).drew).trans HC3.out
  clear HC3 k0 k1 k2 k3
  go_wp2_with fail
  go_ret
  exact ⟨rfl, HC4.out⟩
set_option maxRecDepth 100000 in
theorem emay_calls (he : EngAt w h t X) (key : ByteArray) (hk : key.size ≤ 140737488351232) :
    Calls Tryz.prog 21 #[.pointer (some ⟨t.E, 0, none⟩), .string key] w fun e w' => e = .returned (.bool (X.may key)) ∧ Chg No w w' := by
  have c5 := he.box.cell 11
  have c6 := he.box.cell 12
  simp [engBox] at c5 c6
  have HM1 := Lib.hid (smay_calls he.sto he.pos key hk)
  have HM2 := fun W => Lib.hid (fun hc : Chg No w W => may_key (key := key) (he.lg.chgNo hc))
  have HBX := Lib.hid he.box
  have HE : Hid (X.may key = (X.B.may key || X.G.has key)) := rfl
  rw [HE.out]
  obtain ⟨a, ha⟩ : ∃ a, a = X.B.may key := ⟨_, rfl⟩
  obtain ⟨b, hb⟩ : ∃ b, b = X.G.has key := ⟨_, rfl⟩
  rw [← ha] at HM1 ⊢
  rw [← hb] at HM2 ⊢
  clear he HE ha hb hk
  go_enter Tryz.func21, Tryz.ntmps21
  go_wp2_with fail
  refine HM1.out.mono ?_
  rintro e w1 ⟨rfl, hc1⟩
  have HC1 := Lib.hid hc1
  have d12 := (HBX.out.chg hc1 (fun h => h)).cell 12
  simp [engBox] at d12
  clear hc1
  cases a with
  | true =>
    go_wp2_with fail
    go_ret
    exact ⟨rfl, HC1.out⟩
  | false =>
    go_wp2_with fail
    refine ((HM2 _).out HC1.out).mono ?_
    rintro e w2 ⟨rfl, hc2⟩
    have HC2 := Lib.hid (HC1.out.trans hc2)
    clear hc2
    go_wp2_with fail
    go_ret
    exact ⟨rfl, HC2.out⟩
end
end Go.Proofs.YtplpbbdakihnfaaGreat
end

section
namespace Go.Proofs.YtplpbbdakihnfaaGreat
open Go.RowKit
open Go.ChangeMaps (setBlock)
attribute [local go_sem ↓] Go.wp_at_zero Go.wp_at_succ
namespace Eng
def set (X : Eng) (D : Dev) (b : Sb) : Eng := if D.stE b = 0 then { X with blk := D.stR b } else X
end Eng
def set7e (w : World) (g : Nat) (b : Sb) : World := ((((((w.setCell ⟨g, 2, none⟩ (.int .u64 b.seq)).setCell ⟨g, 3, none⟩ (.int .u64 b.epoch)).setCell ⟨g, 4, none⟩ (.int .u64 b.reserved)).setCell ⟨g, 5, none⟩ (.int .u64 b.horizon)).setCell ⟨g, 6, none⟩ (.int .u64 b.gen)).setCell ⟨g, 7, none⟩ (.bool b.clean)).setCell ⟨g, 8, none⟩ (.int .i64 b.image)
section
variable {N : Nat} {S : Nat → Prop} {w w' : World} {h : DevH} {t : EngH} {X : Eng} {D : Dev}
theorem set7e_chg (w : World) (g : Nat) (b : Sb) : Chg (fun k => k = g) w (set7e w g b) := by
  unfold set7e
  have h0 : Chg (fun k => k = g) w (w.setCell ⟨g, 2, none⟩ (.int .u64 b.seq)) := chg_setCell w ⟨g, 2, none⟩ _
  have h1 := Chg.setCell h0 (p := ⟨g, 3, none⟩) (.inl rfl) (.int .u64 b.epoch)
  have h2 := Chg.setCell h1 (p := ⟨g, 4, none⟩) (.inl rfl) (.int .u64 b.reserved)
  have h3 := Chg.setCell h2 (p := ⟨g, 5, none⟩) (.inl rfl) (.int .u64 b.horizon)
  have h4 := Chg.setCell h3 (p := ⟨g, 6, none⟩) (.inl rfl) (.int .u64 b.gen)
  have h5 := Chg.setCell h4 (p := ⟨g, 7, none⟩) (.inl rfl) (.bool b.clean)
  exact Chg.setCell h5 (p := ⟨g, 8, none⟩) (.inl rfl) (.int .i64 b.image)
theorem EngAt.boxed {Y : Eng} (he : EngAt w h t X) (hc : Chg (fun k => k = t.E) w w') (hb : Blk w' t.E tEng (engBox h t Y)) (hJ : Y.J = X.J) (hB : Y.B = X.B) (hG : Y.G = X.G) (ho : Y.blk.Ok) (hl : Y.last < 18446744073709551616) : EngAt w' h t Y := by
  have hbx := he.box
  refine { box := hb, jn := ?_, sto := ?_, lg := ?_, jg := he.jg, sg := he.sg, eg := he.eg, blk := ho, last := hl, jfit := by rw [hJ]; exact he.jfit, pos := by rw [hB]; exact he.pos }
  · rw [hJ]
    refine he.jn.chg hc (fun k hk e => ?_)
    subst e
    rcases hk with e | e
    · have h1 := he.jn.box
      rw [← e] at h1
      unfold Blk at h1 hbx
      rw [hbx] at h1
      injection h1 with h1
      injection h1 with _ h1
      exact absurd h1 (by decide)
    · exact he.jn.map.ne_blk hbx e.symm
  · rw [hB]
    refine he.sto.chg hc (fun g cs T hT hb e => ?_)
    subst e
    unfold Blk at hb hbx
    rw [hbx] at hb
    injection hb with hb
    injection hb with _ hb
    rcases hT with rfl | rfl | rfl | rfl <;> exact absurd hb (by decide)
  · rw [hG]
    exact he.lg.chg hc (fun k hk e => he.eg (e ▸ hk))
theorem EngAt.setBlk (he : EngAt w h t X) (b : Sb) (hb : b.Ok) : EngAt (set7e w t.E b) h t { X with blk := b } ∧ Chg (fun k => k = t.E) w (set7e w t.E b) := by
  have hc := set7e_chg w t.E b
  refine ⟨he.boxed hc ?_ rfl rfl rfl hb he.last, hc⟩
  have h2 := ((((((he.box.set_ 2 (.int .u64 b.seq)).set_ 3 (.int .u64 b.epoch)).set_ 4 (.int .u64 b.reserved)).set_ 5 (.int .u64 b.horizon)).set_ 6 (.int .u64 b.gen)).set_ 7 (.bool b.clean)).set_ 8 (.int .i64 b.image)
  unfold set7e
  simpa [engBox] using h2
theorem EngAt.other {w2 w3 : World} {g : Nat} {T : TypeId} {cs : Array Value} (he : EngAt w2 h t X) (hb : Blk w2 g T cs) (h1 : T ≠ tEng) (h2 : T ≠ tJn) (h3 : T ≠ tStore) (h4 : T ≠ tPF) (h5 : T ≠ tFilter) (h6 : T ≠ tBool) (hown : ¬ t.g.own g) (hc : Chg (fun k => k = g) w2 w3) : EngAt w3 h t X := by
  have hne : ∀ {g' : Nat} {T' : TypeId} {cs' : Array Value}, Blk w2 g' T' cs' → T ≠ T' → ¬ g' = g := by
    intro g' T' cs' hb' hT e
    subst e
    unfold Blk at hb hb'
    rw [hb] at hb'
    injection hb' with hb'
    injection hb' with _ hb'
    exact hT hb'
  refine { he with box := he.box.chg hc (hne he.box h1), jn := he.jn.chg hc (fun k hk e => ?_), sto := he.sto.chg hc (fun g' cs' T' hT hb' => ?_), lg := he.lg.chg hc (fun k hk e => hown (e ▸ hk)) }
  · rcases hk with e2 | e2
    · exact hne he.jn.box h2 (e2.symm.trans e)
    · exact he.jn.map.ne_blk hb (e2.symm.trans e)
  · rcases hT with rfl | rfl | rfl | rfl
    · exact hne hb' h3
    · exact hne hb' h4
    · exact hne hb' h5
    · exact hne hb' h6
theorem stR_ok {b : Sb} (hb : b.Ok) (hq : D.sload.seq + 1 < 18446744073709551616) : (D.stR b).Ok := by
  unfold Dev.stR
  split
  · exact Sb.norm_ok ⟨hq, hb.epoch, hb.reserved, hb.horizon, hb.gen, hb.image⟩
  · exact Sb.zero_ok
theorem EngAt.dev_ (he : EngAt w h t X) (hd : DevN N w h D) (hc : Chg (fun k => k = t.E) w w') : DevN N w' h D :=
  dev_one hd he.box hc (by decide) (by decide) (by decide) (by decide)
set_option maxRecDepth 100000 in
set_option maxHeartbeats 4000000 in
theorem eset_calls (hd : DevAt w h D) (he : EngAt w h t X) (hoff : D.off = false) (hn : 2 ≤ D.n) (b : Sb) (hb : b.Ok) (hq : D.sload.seq + 1 < 18446744073709551616) (hls : X.losses = D.losses) :
    Calls Tryz.prog 32 #[.pointer (some ⟨t.E, 0, none⟩), sbV b] w fun e w' => e = .returned (.int .i64 (D.stE b)) ∧ EngAt w' h t (X.set D b) ∧ DevAt w' h (D.stD b) ∧ Chg (fun k => h.foot k ∨ k = t.E) w w' := by
  have HDN := fun W => Lib.hid (fun hc : Chg No w W => edone_calls (hd.chgNo hc) (he.chgNo hc) hoff)
  have HST := fun W => Lib.hid (fun hc : Chg No w W => store_calls ((show DevN w.heap.size w h D from hd).chgNo hc).at_ hoff hn b hb hq)
  rw [show decide (X.losses ≠ D.losses) = false from decide_eq_false (by simp [hls])] at HDN
  have c0 := he.box.cell 0
  simp [engBox] at c0
  have xlt := he.box.lt
  have HE := Lib.hid he
  have HD := Lib.hid hd
  have HB := Lib.hid hb
  have HQ := Lib.hid hq
  obtain ⟨b0, b1, b2, b3, b4, b5, b6⟩ := b
  simp only [sbV_eq] at HST ⊢
  obtain ⟨e0, he0⟩ : ∃ e0, e0 = D.stE ⟨b0, b1, b2, b3, b4, b5, b6⟩ := ⟨_, rfl⟩
  obtain ⟨y, hy⟩ : ∃ y, y = D.stR ⟨b0, b1, b2, b3, b4, b5, b6⟩ := ⟨_, rfl⟩
  obtain ⟨D2, hD2⟩ : ∃ D2, D2 = D.stD ⟨b0, b1, b2, b3, b4, b5, b6⟩ := ⟨_, rfl⟩
  obtain ⟨X2, hX2⟩ : ∃ X2, X2 = X.set D ⟨b0, b1, b2, b3, b4, b5, b6⟩ := ⟨_, rfl⟩
  have HZ1 : Hid (e0 = 0 → X2 = { X with blk := y }) := by
    show e0 = 0 → _
    intro hz
    rw [hX2]; unfold Eng.set; rw [← he0, ← hy, if_pos hz]
  have HZ2 : Hid (e0 ≠ 0 → X2 = X) := by
    show e0 ≠ 0 → _
    intro hz
    rw [hX2]; unfold Eng.set; rw [← he0, if_neg hz]
  rw [← hX2]
  rw [← he0, ← hy, ← hD2] at HST
  rw [← he0, ← hD2]
  clear hd he hoff hn hb hq hls hX2
  have HYO : Hid y.Ok := by show y.Ok; rw [hy]; exact stR_ok HB.out HQ.out
  clear he0 hy hD2 HB HQ
  go_enter Tryz.func32, Tryz.ntmps32
  go_wp2_with fail
  refine ((HDN _).out (by (repeat (first | (with_reducible exact Chg.refl _ _) | (with_reducible assumption) | (with_reducible refine Chg.drewN ?_ _) | (with_reducible refine Chg.drew ?_) | (with_reducible refine Chg.alloc ?_ _) | (with_reducible refine Chg.setCell ?_ (by first | (left; simp [DevH.foot]; done) | (right; simp; done) | (right; simp; omega)) _))))).mono ?_
  rintro e w1 ⟨rfl, n1, hw1⟩
  have HX := Lib.hid (show Blk w1 w.heap.size tSb #[.int .u64 b0, .int .u64 b1, .int .u64 b2, .int .u64 b3, .int .u64 b4, .bool b5, .int .i64 b6] by rw [hw1]; exact (Blk.new w _ _).drewN n1)
  have HC1 : Hid (Chg No w w1) := by show Chg No w w1; rw [hw1]; exact ((Chg.refl No w).alloc _).drewN n1
  have x0 := HX.out.cell 0
  have x1 := HX.out.cell 1
  have x2 := HX.out.cell 2
  have x3 := HX.out.cell 3
  have x4 := HX.out.cell 4
  have x5 := HX.out.cell 5
  have x6 := HX.out.cell 6
  simp at x0 x1 x2 x3 x4 x5 x6
  have c0 := HC1.out.cellNo c0
  have xl1 := HX.out.lt
  clear hw1
  have xne : ¬ w.heap.size = t.E := by omega
  have xne2 : ¬ t.E = w.heap.size := by omega
  have xne3 : (t.E == w.heap.size) = false := by simp; omega
  have xne4 : (w.heap.size == t.E) = false := by simp; omega
  go_wp2_with fail
  go_region_with
    ((go_at_call 61
      refine ((HST _).out (by first | exact HC1.out | exact HC1.out.drew)).mono ?_
      rintro e w2 ⟨rfl, hd2, hc2⟩
      have HE2 := Lib.hid ((HE.out.chgNo HC1.out.drew).foot ((show DevN w.heap.size w h D from HD.out).chgNo HC1.out.drew) hc2)
      have HX2 := Lib.hid (HX.out.drew.chg hc2 (fun hf => by have := foot_size HD.out hf; omega))
      have HD2 := Lib.hid hd2
      have HC2 := Lib.hid (HC1.out.drew.mono (fun _ _ h => h.elim) |>.trans hc2)
      have k0 := HE2.out.box.cell 0
      simp [engBox] at k0
      have y0 := HX2.out.cell 0
      have y1 := HX2.out.cell 1
      have y2 := HX2.out.cell 2
      have y3 := HX2.out.cell 3
      have y4 := HX2.out.cell 4
      have y5 := HX2.out.cell 5
      have y6 := HX2.out.cell 6
      have f0 := HX2.out.frozen 0
      have f1 := HX2.out.frozen 1
      have f2 := HX2.out.frozen 2
      have f3 := HX2.out.frozen 3
      have f4 := HX2.out.frozen 4
      have f5 := HX2.out.frozen 5
      have f6 := HX2.out.frozen 6
      simp at y0 y1 y2 y3 y4 y5 y6
      clear hd2 hc2))
  all_goals
    obtain ⟨w3, hw3⟩ : ∃ w3, w3 = set7 w2 w.heap.size (.int .u64 y.seq) (.int .u64 y.epoch) (.int .u64 y.reserved) (.int .u64 y.horizon) (.int .u64 y.gen) (.bool y.clean) (.int .i64 y.image) := ⟨_, rfl⟩
    have hst := set7_chg w2 w.heap.size (.int .u64 y.seq) (.int .u64 y.epoch) (.int .u64 y.reserved) (.int .u64 y.horizon) (.int .u64 y.gen) (.bool y.clean) (.int .i64 y.image)
    have hX3 := blk7 HX2.out (.int .u64 y.seq) (.int .u64 y.epoch) (.int .u64 y.reserved) (.int .u64 y.horizon) (.int .u64 y.gen) (.bool y.clean) (.int .i64 y.image)
    rw [← hw3] at hst
    have HX3 : Hid (Blk w3 w.heap.size tSb #[.int .u64 y.seq, .int .u64 y.epoch, .int .u64 y.reserved, .int .u64 y.horizon, .int .u64 y.gen, .bool y.clean, .int .i64 y.image]) := by show Blk _ _ _ _; rw [hw3]; exact hX3
    have HE3 := Lib.hid (HE2.out.other HX2.out (by decide) (by decide) (by decide) (by decide) (by decide) (by decide) (fun ho => by have := HE.out.lg.lt _ ho; omega) hst)
    have HD3 : Hid (DevAt w3 h D2) := (dev_one (show DevN w2.heap.size w2 h D2 from HD2.out) HX2.out hst (by decide) (by decide) (by decide) (by decide)).at_
    have HC3 : Hid (Chg (fun k => h.foot k ∨ k = t.E) w w3) := (HC2.out.then hst (fun i hi h => by omega)).mono (fun k _ hk => .inl hk)
    change Exit.then _ _ _ _ (set7 w2 w.heap.size _ _ _ _ _ _ _)
    rw [← hw3]
    clear hw3 hst hX3 y0 y1 y2 y3 y4 y5 y6 f0 f1 f2 f3 f4 f5 f6 k0 x0 x1 x2 x3 x4 x5 x6 HX HC1 HX2 HE2 HD2 HC2
    have x0 := HX3.out.cell 0
    have x1 := HX3.out.cell 1
    have x2 := HX3.out.cell 2
    have x3 := HX3.out.cell 3
    have x4 := HX3.out.cell 4
    have x5 := HX3.out.cell 5
    have x6 := HX3.out.cell 6
    simp at x0 x1 x2 x3 x4 x5 x6
    have e2 := HE3.out.box.cell 2
    have e3 := HE3.out.box.cell 3
    have e4 := HE3.out.box.cell 4
    have e5 := HE3.out.box.cell 5
    have e6 := HE3.out.box.cell 6
    have e7 := HE3.out.box.cell 7
    have e8 := HE3.out.box.cell 8
    have f2 := HE3.out.box.frozen 2
    have f3 := HE3.out.box.frozen 3
    have f4 := HE3.out.box.frozen 4
    have f5 := HE3.out.box.frozen 5
    have f6 := HE3.out.box.frozen 6
    have f7 := HE3.out.box.frozen 7
    have f8 := HE3.out.box.frozen 8
    simp [engBox] at e2 e3 e4 e5 e6 e7 e8
    by_cases hz : e0 = 0
    · have HZ := Lib.hid (HZ1.out hz)
      clear HZ1 HZ2
      subst hz
      go_wp2_with fail
      go_ret
      have hs := HE3.out.setBlk y HYO.out
      refine ⟨rfl, by rw [HZ.out]; exact hs.1, (HE3.out.dev_ (show DevN w3.heap.size w3 h D2 from HD3.out) hs.2).at_, HC3.out.then hs.2 (fun i hi h => .inr h)⟩
    · have HZ := Lib.hid (HZ2.out hz)
      clear HZ1 HZ2
      have hzb : (e0 == 0) = false := by simp [hz]
      go_wp2_with fail
      go_ret
      refine ⟨rfl, by rw [HZ.out]; exact HE3.out, HD3.out, HC3.out⟩
end
end Go.Proofs.YtplpbbdakihnfaaGreat
end

section
namespace Go.Proofs.YtplpbbdakihnfaaGreat
open Go.RowKit
open Go.ChangeMaps (setBlock)
attribute [local go_sem ↓] Go.wp_at_zero Go.wp_at_succ
namespace Eng
def vB (X : Eng) : Sb := { X.blk with reserved := X.blk.reserved + 64 }
def verE (X : Eng) (D : Dev) : Int := if X.last = X.blk.reserved then D.stE X.vB else 0
def verD (X : Eng) (D : Dev) : Dev := if X.last = X.blk.reserved then D.stD X.vB else D
def verX (X : Eng) (D : Dev) : Eng :=
  let Y := if X.last = X.blk.reserved then X.set D X.vB else X
  if X.verE D = 0 then { Y with last := X.last + 1 } else Y
def verV (X : Eng) (D : Dev) : Nat := if X.verE D = 0 then X.last + 1 else 0
end Eng
section
variable {N : Nat} {S : Nat → Prop} {w w' : World} {h : DevH} {t : EngH} {X : Eng} {D : Dev}
theorem EngAt.setLast (he : EngAt w h t X) (n : Nat) (hn : n < 18446744073709551616) : EngAt (w.setCell ⟨t.E, 9, none⟩ (.int .u64 n)) h t { X with last := n } ∧ Chg (fun k => k = t.E) w (w.setCell ⟨t.E, 9, none⟩ (.int .u64 n)) := by
  have hc : Chg (fun k => k = t.E) w (w.setCell ⟨t.E, 9, none⟩ (.int .u64 n)) := chg_setCell w ⟨t.E, 9, none⟩ _
  refine ⟨he.boxed hc ?_ rfl rfl rfl he.blk hn, hc⟩
  have := he.box.set_ 9 (.int .u64 n)
  simpa [engBox] using this
theorem set_last (X : Eng) (D : Dev) (b : Sb) : (X.set D b).last = X.last := by unfold Eng.set; split <;> rfl
set_option maxRecDepth 100000 in
set_option maxHeartbeats 4000000 in
theorem ever_calls (hd : DevAt w h D) (he : EngAt w h t X) (hoff : D.off = false) (hn : 2 ≤ D.n) (hq : D.sload.seq + 1 < 18446744073709551616) (hls : X.losses = D.losses) (hla : X.last < 18446744073709551615) (hre : X.blk.reserved + 64 < 18446744073709551616) :
    Calls Tryz.prog 20 #[.pointer (some ⟨t.E, 0, none⟩)] w fun e w' => e = .returned (.tuple #[.int .u64 (X.verV D), .int .i64 (X.verE D)]) ∧ EngAt w' h t (X.verX D) ∧ DevAt w' h (X.verD D) ∧ Chg (fun k => h.foot k ∨ k = t.E) w w' := by
  have HE := Lib.hid he
  have HD := Lib.hid hd
  have HB := Lib.hid he.box
  have hbo := he.blk
  have hvo : X.vB.Ok := ⟨hbo.seq, hbo.epoch, hre, hbo.horizon, hbo.gen, hbo.image⟩
  have HST := fun W => Lib.hid (fun (hd : DevAt W h D) (he : EngAt W h t X) => eset_calls hd he hoff hn X.vB hvo hq hls)
  have mx : ((X.last : Int) == 18446744073709551615) = false := by simp; omega
  have lw : IntKind.u64.wrap ((X.last : Int) + 1) = (X.last : Int) + 1 := IntWalk.u64_in _ (by omega)
  clear hd he hoff hn hq hls hbo
  by_cases hr : X.last = X.blk.reserved
  rotate_left
  · have hE : X.verE D = 0 := by unfold Eng.verE; rw [if_neg hr]
    have hV : X.verV D = X.last + 1 := by unfold Eng.verV; rw [if_pos hE]
    have hX : X.verX D = { X with last := X.last + 1 } := by unfold Eng.verX; simp only; rw [if_pos hE, if_neg hr]
    have hD : X.verD D = D := by unfold Eng.verD; rw [if_neg hr]
    rw [hE, hV, hX, hD]
    clear hE hV hX hD HST
    have ne : ((X.last : Int) == (X.blk.reserved : Int)) = false := by simp; omega
    have e2 := HB.out.cell 2
    have e3 := HB.out.cell 3
    have e4 := HB.out.cell 4
    have e5 := HB.out.cell 5
    have e6 := HB.out.cell 6
    have e7 := HB.out.cell 7
    have e8 := HB.out.cell 8
    have e9 := HB.out.cell 9
    have e10 := HB.out.cell 10
    have f9 := HB.out.frozen 9
    simp [engBox] at e2 e3 e4 e5 e6 e7 e8 e9 e10
    have xlt := HB.out.lt
    go_enter Tryz.func20, Tryz.ntmps20
    go_wp2_with fail
    go_quiet (fail)
    go_wp2_with fail
    refine bodyPost_ret (v := .tuple #[.int .u64 ((X.last : Int) + 1), .int .i64 0]) (by simp [results, Tryz.results20, go_sem]) rfl ?_
    have hc : Chg No w (w.drewN nq) := (Chg.refl No w).drewN nq
    have hs := (HE.out.chgNo hc).setLast (X.last + 1) (by omega)
    have el : (((X.last + 1 : Nat)) : Int) = (X.last : Int) + 1 := by omega
    rw [el] at hs
    refine ⟨by rw [el], hs.1, ((HE.out.chgNo hc).dev_ ((show DevN w.heap.size w h D from HD.out).chgNo hc) hs.2).at_, (hc.mono (fun _ _ h => h.elim)).then hs.2 (fun k _ hk => .inr hk)⟩
  have hE : X.verE D = D.stE X.vB := by unfold Eng.verE; rw [if_pos hr]
  have hD : X.verD D = D.stD X.vB := by unfold Eng.verD; rw [if_pos hr]
  have HX1 : Hid (D.stE X.vB = 0 → X.verX D = { X.set D X.vB with last := X.last + 1 } ∧ X.verV D = X.last + 1) := fun hz => by
    unfold Eng.verX Eng.verV
    simp only
    rw [hE, if_pos hz, if_pos hz, if_pos hr]
    exact ⟨rfl, rfl⟩
  have HX2 : Hid (D.stE X.vB ≠ 0 → X.verX D = X.set D X.vB ∧ X.verV D = 0) := fun hz => by
    unfold Eng.verX Eng.verV
    simp only
    rw [hE, if_neg hz, if_neg hz, if_pos hr]
    exact ⟨rfl, rfl⟩
  rw [hE, hD]
  clear hE hD
  obtain ⟨XV, hXV⟩ : ∃ XV, XV = X.verX D := ⟨_, rfl⟩
  obtain ⟨vv, hvv⟩ : ∃ vv, vv = X.verV D := ⟨_, rfl⟩
  obtain ⟨e0, he0⟩ : ∃ e0, e0 = D.stE X.vB := ⟨_, rfl⟩
  obtain ⟨D2, hD2⟩ : ∃ D2, D2 = D.stD X.vB := ⟨_, rfl⟩
  obtain ⟨X2, hX2⟩ : ∃ X2, X2 = X.set D X.vB := ⟨_, rfl⟩
  have HL2 : Hid (X2.last = X.last) := by show X2.last = _; rw [hX2]; exact set_last _ _ _
  rw [← hXV, ← hvv, ← he0, ← hX2] at HX1
  rw [← hXV, ← hvv, ← he0] at HX2
  rw [← hX2] at HX2
  rw [← hXV, ← hvv, ← he0, ← hD2]
  rw [← he0, ← hX2, ← hD2] at HST
  have hvb : sbV X.vB = .agg #[.int .u64 X.blk.seq, .int .u64 X.blk.epoch, .int .u64 ((X.blk.reserved : Int) + 64), .int .u64 X.blk.horizon, .int .u64 X.blk.gen, .bool X.blk.clean, .int .i64 X.blk.image] := by
    rw [sbV_eq, show ((X.vB.reserved : Nat) : Int) = (X.blk.reserved : Int) + 64 from by show (((X.blk.reserved + 64 : Nat)) : Int) = _; omega]
    rfl
  simp only [hvb] at HST
  have hvlo : ((0 : Int) == 0) = true := rfl
  clear hXV hvv he0 hD2 hX2 hvb
  have eq1 : ((X.last : Int) == (X.blk.reserved : Int)) = true := by simp; omega
  have rl : X.blk.reserved < 18446744073709551616 := by omega
  have rs : IntKind.u64.wrap (18446744073709551615 - (X.blk.reserved : Int)) = 18446744073709551615 - (X.blk.reserved : Int) := IntWalk.u64_in _ (by omega)
  have ra : IntKind.u64.wrap ((X.blk.reserved : Int) + 64) = (X.blk.reserved : Int) + 64 := IntWalk.u64_in _ (by omega)
  have rm : (64 : Int) ≤ 18446744073709551615 - (X.blk.reserved : Int) := by omega
  have rm2 : ¬ 18446744073709551615 - (X.blk.reserved : Int) < 64 := by omega
  have e2 := HB.out.cell 2
  have e3 := HB.out.cell 3
  have e4 := HB.out.cell 4
  have e5 := HB.out.cell 5
  have e6 := HB.out.cell 6
  have e7 := HB.out.cell 7
  have e8 := HB.out.cell 8
  have e9 := HB.out.cell 9
  have e10 := HB.out.cell 10
  have f9 := HB.out.frozen 9
  simp [engBox] at e2 e3 e4 e5 e6 e7 e8 e9 e10
  have xlt := HB.out.lt
  go_enter Tryz.func20, Tryz.ntmps20
  go_wp2_with fail
  go_quiet (fail)
  have hcy : Chg No w (w.drewN nq) := (Chg.refl No w).drewN nq
  obtain ⟨wy, hwy⟩ : ∃ wy, wy = w.drewN nq := ⟨_, rfl⟩
  rw [← hwy] at hcy ⊢
  have HCY := Lib.hid hcy
  have HEY := Lib.hid (HE.out.chgNo hcy)
  have HDY : Hid (DevAt wy h D) := ((show DevN w.heap.size w h D from HD.out).chgNo hcy).at_
  have HBY := Lib.hid HEY.out.box
  clear hwy hcy HB HE HD e2 e3 e4 e5 e6 e7 e8 e9 e10 f9 xlt
  have e2 := HBY.out.cell 2
  have e3 := HBY.out.cell 3
  have e4 := HBY.out.cell 4
  have e5 := HBY.out.cell 5
  have e6 := HBY.out.cell 6
  have e7 := HBY.out.cell 7
  have e8 := HBY.out.cell 8
  have e9 := HBY.out.cell 9
  have e10 := HBY.out.cell 10
  have f9 := HBY.out.frozen 9
  simp [engBox] at e2 e3 e4 e5 e6 e7 e8 e9 e10
  have xlt := HBY.out.lt
  have HZ := Lib.hid (Blk.new wy tSb #[.int .u64 0, .int .u64 0, .int .u64 0, .int .u64 0, .int .u64 0, .bool false, .int .i64 0])
  have z0 := HZ.out.cell 0
  have z1 := HZ.out.cell 1
  have z2 := HZ.out.cell 2
  have z3 := HZ.out.cell 3
  have z4 := HZ.out.cell 4
  have z5 := HZ.out.cell 5
  have z6 := HZ.out.cell 6
  have g0 := HZ.out.frozen 0
  have g1 := HZ.out.frozen 1
  have g2 := HZ.out.frozen 2
  have g3 := HZ.out.frozen 3
  have g4 := HZ.out.frozen 4
  have g5 := HZ.out.frozen 5
  have g6 := HZ.out.frozen 6
  simp only [List.getElem?_toArray, List.getElem?_cons_zero, List.getElem?_cons_succ] at z0 z1 z2 z3 z4 z5 z6
  go_wp2_with fail
  have ha : Chg No wy (wy.alloc (.cells #[.int .u64 X.blk.seq, .int .u64 X.blk.epoch, .int .u64 ((X.blk.reserved : Int) + 64), .int .u64 X.blk.horizon, .int .u64 X.blk.gen, .bool X.blk.clean, .int .i64 X.blk.image] tSb)) := (Chg.refl No wy).alloc _
  refine ((HST _).out ((show DevN wy.heap.size wy h D from HDY.out).chgNo ha).at_ (HEY.out.chgNo ha)).mono ?_
  rintro e w2 ⟨rfl, he2, hd2, hc2⟩
  have HE2 := Lib.hid he2
  have HD2 := Lib.hid hd2
  have HC2 : Hid (Chg (fun k => h.foot k ∨ k = t.E) w w2) := ((HCY.out.trans ha).mono (fun _ _ h => h.elim)).trans hc2
  have d9 := he2.box.cell 9
  have d9f := he2.box.frozen 9
  simp [engBox] at d9
  rw [HL2.out] at d9
  clear he2 hd2 hc2 ha e2 e3 e4 e5 e6 e7 e8 e9 e10 f9 HZ z0 z1 z2 z3 z4 z5 z6 g0 g1 g2 g3 g4 g5 g6
  by_cases hz : e0 = 0
  · have HZ := Lib.hid (HX1.out hz)
    clear HX1 HX2
    subst hz
    go_wp2_with fail
    refine bodyPost_ret (v := .tuple #[.int .u64 ((X.blk.reserved : Int) + 1), .int .i64 0]) (by simp [results, Tryz.results20, go_sem]) rfl ?_
    have hs := HE2.out.setLast (X.last + 1) (by omega)
    have el : (((X.last + 1 : Nat)) : Int) = (X.blk.reserved : Int) + 1 := by omega
    rw [el] at hs
    rw [HZ.out.1, HZ.out.2]
    refine ⟨by rw [el], hs.1, (HE2.out.dev_ (show DevN w2.heap.size w2 h D2 from HD2.out) hs.2).at_, HC2.out.then hs.2 (fun k _ hk => .inr hk)⟩
  · have HZ := Lib.hid (HX2.out hz)
    clear HX1 HX2
    have hzb : (e0 == 0) = false := by simp [hz]
    have hzn : (e0 != 0) = true := by simp [hz]
    go_wp2_with fail
    refine bodyPost_ret (v := .tuple #[.int .u64 0, .int .i64 e0]) (by simp [results, Tryz.results20, go_sem]) rfl ?_
    rw [HZ.out.1, HZ.out.2]
    exact ⟨rfl, HE2.out, HD2.out, HC2.out⟩
end
end Go.Proofs.YtplpbbdakihnfaaGreat
end

section
namespace Go.Proofs.YtplpbbdakihnfaaGreat
open Go.RowKit
open Go.ChangeMaps (setBlock)
attribute [local go_sem ↓] Go.wp_at_zero Go.wp_at_succ
namespace Eng
def stlE (X : Eng) (D : Dev) : Int := if (X.G.sl D).e = 0 then (X.G.sl D).D.changeE else (X.G.sl D).e
def stlD (X : Eng) (D : Dev) : Dev := if (X.G.sl D).e = 0 then (X.G.sl D).D.flush else (X.G.sl D).D
def stlX (X : Eng) (D : Dev) : Eng := { X with G := (X.G.sl D).G }
end Eng
section
variable {N : Nat} {S : Nat → Prop} {w w' : World} {h : DevH} {t : EngH} {X : Eng} {D : Dev}
theorem JnAt.not_foot {tj : JnH} {J : Jn} (hj : JnAt w h tj J) (hd : DevN N w h D) (k : Nat) (hk : tj.own k) : ¬ h.foot k := by
  rcases hk with rfl | rfl
  · exact hd.not_foot hj.box (by decide) (by decide)
  · rintro (hk | hk | hk)
    · obtain ⟨a, b, c, e, hb⟩ := hd.box
      exact hj.map.ne_blk hb hk
    · obtain ⟨ps, hb, _⟩ := hd.row
      exact hj.map.ne_blk hb hk
    · exact hj.far hk
theorem EngAt.log {R : LgR} {v : Value} {g' : LgH} (he : EngAt w h t X) (hd : DevN N w h D) (hp : LgPost w h t.g R v g' w') : EngAt w' h { t with g := g' } { X with G := R.G } := by
  have hnf : ∀ k, t.g.spot k → t.g.own k := fun k hk => he.lg.spot_own hk
  refine { box := ?_, jn := ?_, sto := ?_, lg := hp.log, jg := ?_, sg := ?_, eg := ?_, blk := he.blk, last := he.last, jfit := he.jfit, pos := he.pos }
  · have h1 := he.box.chg hp.chg (by
      rintro (hk | hk)
      · exact hd.not_foot he.box (by decide) (by decide) hk
      · exact he.eg (hnf _ hk))
    have e : engBox h { t with g := g' } { X with G := R.G } = engBox h t X := by unfold engBox; simp only; rw [hp.L]
    rw [e]
    exact h1
  · refine he.jn.chg hp.chg (fun k hk => ?_)
    rintro (h1 | h1)
    · exact he.jn.not_foot hd k hk h1
    · exact he.jg k hk (hnf _ h1)
  · refine he.sto.chg hp.chg (fun g cs T hT hb => ?_)
    rintro (h1 | h1)
    · exact hd.not_foot hb (by rcases hT with rfl | rfl | rfl | rfl <;> decide) (by rcases hT with rfl | rfl | rfl | rfl <;> decide) h1
    · have h2 := he.lg.spot_ty g h1 cs T hb
      rcases hT with rfl | rfl | rfl | rfl <;> rcases h2 with h2 | h2 | h2 <;> exact absurd h2 (by decide)
  · intro k hk h1
    rcases hp.own k h1 with h2 | h2
    · exact he.jg k hk h2
    · have := he.jn.lt hk; omega
  · intro p hpp h1
    obtain ⟨cs, hb⟩ := he.sto.bits_ty hpp
    have hlt := hb.lt
    rcases hp.own _ h1 with h2 | h2
    · exact he.sg p hpp h2
    · omega
  · intro h1
    have hlt := he.box.lt
    rcases hp.own _ h1 with h2 | h2
    · exact he.eg h2
    · have h3 : w.heap.size ≤ t.E := h2
      omega
set_option maxRecDepth 100000 in
set_option maxHeartbeats 4000000 in
theorem esettle_calls (hd : DevAt w h D) (he : EngAt w h t X) (hoff : D.off = false) (hls : X.losses = D.losses) :
    Calls Tryz.prog 28 #[.pointer (some ⟨t.E, 0, none⟩)] w fun e w' => ∃ g', e = .returned (.int .i64 (X.stlE D)) ∧ (EngAt w' h { t with g := g' } (X.stlX D) ∧ ∀ k, g'.own k → t.g.own k ∨ w.heap.size ≤ k) ∧ DevAt w' h (X.stlD D) ∧ Chg (fun k => h.foot k ∨ t.g.spot k) w w' := by
  have HDN := fun W => Lib.hid (fun hc : Chg No w W => edone_calls (hd.chgNo hc) (he.chgNo hc) hoff)
  rw [show decide (X.losses ≠ D.losses) = false from decide_eq_false (by simp [hls])] at HDN
  have HSL := fun W => Lib.hid (fun hc : Chg No w W => seal_calls ((show DevN w.heap.size w h D from hd).chgNo hc) (he.chgNo hc).lg)
  have HE := Lib.hid he
  have HD := Lib.hid hd
  have c12 := he.box.cell 12
  have c0 := he.box.cell 0
  simp [engBox] at c12 c0
  obtain ⟨R, hR⟩ : ∃ R, R = X.G.sl D := ⟨_, rfl⟩
  obtain ⟨e0, he0⟩ : ∃ e0, e0 = R.e := ⟨_, rfl⟩
  have HRE := Lib.hid he0
  have hE : X.stlE D = if e0 = 0 then R.D.changeE else e0 := by unfold Eng.stlE; rw [← hR, ← he0]
  have hDD : X.stlD D = if e0 = 0 then R.D.flush else R.D := by unfold Eng.stlD; rw [← hR, ← he0]
  have hX : X.stlX D = { X with G := R.G } := by unfold Eng.stlX; rw [← hR]
  obtain ⟨eE, heE⟩ : ∃ eE, eE = X.stlE D := ⟨_, rfl⟩
  obtain ⟨eD, heD⟩ : ∃ eD, eD = X.stlD D := ⟨_, rfl⟩
  rw [← heE] at hE
  rw [← heD] at hDD
  have HE1 := Lib.hid hE
  have HE2 := Lib.hid hDD
  rw [hX, ← heE, ← heD]
  rw [← hR, ← he0] at HSL
  clear hd he hoff hls hR he0 hE hDD hX heE heD
  go_enter Tryz.func28, Tryz.ntmps28
  go_wp2_with fail
  refine ((HDN _).out (by (repeat (first | (with_reducible exact Chg.refl _ _) | (with_reducible assumption) | (with_reducible refine Chg.drewN ?_ _) | (with_reducible refine Chg.drew ?_) | (with_reducible refine Chg.alloc ?_ _) | (with_reducible refine Chg.setCell ?_ (by first | (left; simp [DevH.foot]; done) | (right; simp; done) | (right; simp; omega)) _))))).mono ?_
  rintro e w1 ⟨rfl, n1, hw1⟩
  have HC1 : Hid (Chg No w w1) := by show Chg No w w1; rw [hw1]; exact (Chg.refl No w).drewN n1
  have c12 := HC1.out.cellNo c12
  have c0 := HC1.out.cellNo c0
  clear hw1
  go_wp2_with fail
  refine ((HSL _).out HC1.out).mono ?_
  rintro e w2 ⟨v, g', rfl, hp⟩
  have HE3 := Lib.hid ((HE.out.chgNo HC1.out).log ((show DevN w.heap.size w h D from HD.out).chgNo HC1.out) hp)
  have HD3 := Lib.hid hp.dev
  have HOW : Hid (∀ k, g'.own k → t.g.own k ∨ w.heap.size ≤ k) := fun k hk => (hp.own k hk).imp id (Nat.le_trans HC1.out.size)
  have HC3 : Hid (Chg (fun k => h.foot k ∨ t.g.spot k) w w2) := (HC1.out.mono (fun _ _ h => h.elim)).trans hp.chg
  have d0 := HE3.out.box.cell 0
  simp [engBox] at d0
  clear hp
  by_cases hz : e0 = 0
  · have HEE : Hid (eE = R.D.changeE) := by show _ = _; rw [HE1.out, if_pos hz]
    have HED : Hid (eD = R.D.flush) := by show _ = _; rw [HE2.out, if_pos hz]
    clear HE1 HE2
    subst hz
    have HFL := Lib.hid (flush_calls (show DevN w2.heap.size w2 h R.D from HD3.out))
    go_wp2_with fail
    refine HFL.out.mono ?_
    rintro e w3 ⟨rfl, hd4, hc4⟩
    have HE4 := Lib.hid (HE3.out.foot (show DevN w2.heap.size w2 h R.D from HD3.out) hc4)
    have HD4 := Lib.hid hd4
    have HC4 : Hid (Chg (fun k => h.foot k ∨ t.g.spot k) w w3) := HC3.out.then hc4 (fun k _ hk => .inl hk)
    clear hd4 hc4
    go_wp2_with fail
    go_ret
    exact ⟨g', by rw [HEE.out]; rfl, ⟨HE4.out, HOW.out⟩, by rw [HED.out]; exact HD4.out, HC4.out⟩
  · have HEE : Hid (eE = e0) := by show _ = _; rw [HE1.out, if_neg hz]
    have HED : Hid (eD = R.D) := by show _ = _; rw [HE2.out, if_neg hz]
    clear HE1 HE2
    have hzn : (e0 != 0) = true := by simp [hz]
    go_wp2_with fail
    go_ret
    exact ⟨g', by rw [HEE.out]; rfl, ⟨HE3.out, HOW.out⟩, by rw [HED.out]; exact HD3.out, HC3.out⟩
end
end Go.Proofs.YtplpbbdakihnfaaGreat
end

section
namespace Go.Proofs.YtplpbbdakihnfaaGreat
open Go.RowKit
open Go.ChangeMaps (setBlock)
attribute [local go_sem ↓] Go.wp_at_zero Go.wp_at_succ
def Jn.begun (J : Jn) (gen : Nat) : Jn := { J with gen := gen, used := 0, marks := [] }
namespace Eng
def wB (X : Eng) : Sb := { X.blk with horizon := X.last, gen := X.blk.gen + 1 }
def wipeE (X : Eng) (D : Dev) : Int := D.stE X.wB
def wipeX (X : Eng) (D : Dev) : Eng := if D.stE X.wB = 0 then { X.set D X.wB with J := X.J.begun (X.blk.gen + 1) } else X
end Eng
section
variable {N : Nat} {S : Nat → Prop} {w w' : World} {h : DevH} {t : EngH} {X : Eng} {D : Dev}
theorem set_J (X : Eng) (D : Dev) (b : Sb) : (X.set D b).J = X.J := by unfold Eng.set; split <;> rfl
theorem EngAt.begun {gen M' : Nat} (he : EngAt w h t X) (hd : DevN N w h D) (hg : gen < 18446744073709551616)
    (hb : Blk w' t.j.J tJn #[.pointer (some ⟨h.d, 0, none⟩), .int .i64 X.J.losses, .int .i64 X.J.first, .int .i64 X.J.pages, .int .u64 gen, .int .i64 0, .map (some M')]) (hm : MapIs ukey w' M' (jes [])) (hM : w.heap.size ≤ M')
    (hc : Chg (fun k => k = t.j.J) w w') : EngAt w' h { t with j := ⟨t.j.J, M'⟩ } { X with J := X.J.begun gen } ∧ DevN N w' h D := by
  have hjb := he.jn.box
  have hne : ∀ {g' : Nat} {T' : TypeId} {cs' : Array Value}, Blk w g' T' cs' → tJn ≠ T' → ¬ g' = t.j.J := by
    intro g' T' cs' hb' hT e
    subst e
    unfold Blk at hjb hb'
    rw [hjb] at hb'
    injection hb' with hb'
    injection hb' with _ hb'
    exact hT hb'
  refine ⟨{ box := ?_, jn := ⟨hb, hm, he.jn.fit, Nat.zero_le _, hg, ?_⟩, sto := ?_, lg := ?_, jg := ?_, sg := he.sg, eg := he.eg, blk := he.blk, last := he.last, jfit := he.jfit, pos := he.pos }, dev_one hd hjb hc (by decide) (by decide) (by decide) (by decide)⟩
  · exact he.box.chg hc (hne he.box (by decide))
  · intro e
    have h1 : h.foot M' := .inr (.inr e)
    have := foot_size hd h1
    omega
  · refine he.sto.chg hc (fun g' cs' T' hT hb' => ?_)
    rcases hT with rfl | rfl | rfl | rfl <;> exact hne hb' (by decide)
  · exact he.lg.chg hc (fun k hk e => he.jg k (.inl e) hk)
  · intro k hk h1
    rcases hk with e | e
    · exact he.jg k (.inl e) h1
    · have := he.lg.lt k h1
      have e2 : k = M' := e
      omega
set_option maxRecDepth 100000 in
set_option maxHeartbeats 4000000 in
theorem ewipe_calls (hd : DevAt w h D) (he : EngAt w h t X) (hoff : D.off = false) (hn : 2 ≤ D.n) (hq : D.sload.seq + 1 < 18446744073709551616) (hls : X.losses = D.losses) (hge : X.blk.gen + 1 < 18446744073709551616) :
    Calls Tryz.prog 26 #[.pointer (some ⟨t.E, 0, none⟩)] w fun e w' => ∃ M', e = .returned (.int .i64 (X.wipeE D)) ∧ EngAt w' h { t with j := ⟨t.j.J, M'⟩ } (X.wipeX D) ∧ DevAt w' h (D.stD X.wB) ∧ Chg (fun k => h.foot k ∨ k = t.E ∨ t.j.own k) w w' ∧ (M' = t.j.M ∨ w.heap.size ≤ M') := by
  have HE := Lib.hid he
  have HD := Lib.hid hd
  have HB := Lib.hid he.box
  have hbo := he.blk
  have hla := he.last
  have hvo : X.wB.Ok := ⟨hbo.seq, hbo.epoch, hbo.reserved, hla, hge, hbo.image⟩
  have HST := fun W => Lib.hid (fun (hd : DevAt W h D) (he : EngAt W h t X) => eset_calls hd he hoff hn X.wB hvo hq hls)
  have gw : IntKind.u64.wrap ((X.blk.gen : Int) + 1) = (X.blk.gen : Int) + 1 := IntWalk.u64_in _ (by omega)
  have hgl : X.blk.gen < 18446744073709551616 := by omega
  clear hd he hoff hn hq hls hbo hvo
  obtain ⟨XV, hXV⟩ : ∃ XV, XV = X.wipeX D := ⟨_, rfl⟩
  obtain ⟨e0, he0⟩ : ∃ e0, e0 = D.stE X.wB := ⟨_, rfl⟩
  obtain ⟨D2, hD2⟩ : ∃ D2, D2 = D.stD X.wB := ⟨_, rfl⟩
  obtain ⟨X2, hX2⟩ : ∃ X2, X2 = X.set D X.wB := ⟨_, rfl⟩
  have HJ2 : Hid (X2.J = X.J) := by show X2.J = _; rw [hX2]; exact set_J _ _ _
  have HX1 : Hid (e0 = 0 → XV = { X2 with J := X.J.begun (X.blk.gen + 1) }) := fun hz => by
    rw [hXV, hX2]; unfold Eng.wipeX; rw [← he0, if_pos hz]
  have HX2 : Hid (e0 ≠ 0 → XV = X ∧ X2 = X) := fun hz => by
    rw [hXV, hX2]; unfold Eng.wipeX Eng.set; rw [← he0, if_neg hz, if_neg hz]; exact ⟨rfl, rfl⟩
  rw [← hXV, ← hD2, show X.wipeE D = e0 from he0.symm]
  rw [← he0, ← hX2, ← hD2] at HST
  have hvb : sbV X.wB = .agg #[.int .u64 X.blk.seq, .int .u64 X.blk.epoch, .int .u64 X.blk.reserved, .int .u64 X.last, .int .u64 ((X.blk.gen : Int) + 1), .bool X.blk.clean, .int .i64 X.blk.image] := by
    rw [sbV_eq, show ((X.wB.gen : Nat) : Int) = (X.blk.gen : Int) + 1 from by show (((X.blk.gen + 1 : Nat)) : Int) = _; omega]
    rfl
  simp only [hvb] at HST
  clear hXV he0 hD2 hX2 hvb
  have e2 := HB.out.cell 2
  have e3 := HB.out.cell 3
  have e4 := HB.out.cell 4
  have e5 := HB.out.cell 5
  have e6 := HB.out.cell 6
  have e7 := HB.out.cell 7
  have e8 := HB.out.cell 8
  have e9 := HB.out.cell 9
  have e10 := HB.out.cell 10
  simp [engBox] at e2 e3 e4 e5 e6 e7 e8 e9 e10
  have xlt := HB.out.lt
  have HZ := Lib.hid (Blk.new w tSb #[.int .u64 0, .int .u64 0, .int .u64 0, .int .u64 0, .int .u64 0, .bool false, .int .i64 0])
  have z0 := HZ.out.cell 0
  have z1 := HZ.out.cell 1
  have z2 := HZ.out.cell 2
  have z3 := HZ.out.cell 3
  have z4 := HZ.out.cell 4
  have z5 := HZ.out.cell 5
  have z6 := HZ.out.cell 6
  have g0 := HZ.out.frozen 0
  have g1 := HZ.out.frozen 1
  have g2 := HZ.out.frozen 2
  have g3 := HZ.out.frozen 3
  have g4 := HZ.out.frozen 4
  have g5 := HZ.out.frozen 5
  have g6 := HZ.out.frozen 6
  simp only [List.getElem?_toArray, List.getElem?_cons_zero, List.getElem?_cons_succ] at z0 z1 z2 z3 z4 z5 z6
  go_enter Tryz.func26, Tryz.ntmps26
  go_wp2_with fail
  obtain ⟨w1, hw1⟩ : ∃ w1, w1 = w.alloc (.cells #[.int .u64 X.blk.seq, .int .u64 X.blk.epoch, .int .u64 X.blk.reserved, .int .u64 X.blk.horizon, .int .u64 X.blk.gen, .bool X.blk.clean, .int .i64 X.blk.image] tSb) := ⟨_, rfl⟩
  change Code.wp _ _ _ _ (w.alloc (.cells #[.int .u64 X.blk.seq, .int .u64 X.blk.epoch, .int .u64 X.blk.reserved, .int .u64 X.blk.horizon, .int .u64 X.blk.gen, .bool X.blk.clean, .int .i64 X.blk.image] tSb))
  rw [← hw1]
  have HC1 : Hid (Chg No w w1) := by show Chg No w w1; rw [hw1]; exact (Chg.refl No w).alloc _
  have HX1b : Hid (Blk w1 w.heap.size tSb #[.int .u64 X.blk.seq, .int .u64 X.blk.epoch, .int .u64 X.blk.reserved, .int .u64 X.blk.horizon, .int .u64 X.blk.gen, .bool X.blk.clean, .int .i64 X.blk.image]) := by show Blk _ _ _ _; rw [hw1]; exact Blk.new w tSb _
  clear hw1 HZ z0 z1 z2 z3 z4 z5 z6 g0 g1 g2 g3 g4 g5 g6 e2 e3 e4 e5 e6 e7 e8
  have e9 := HC1.out.cellNo e9
  have e10 := HC1.out.cellNo e10
  have z3 := HX1b.out.cell 3
  have z4 := HX1b.out.cell 4
  have g3 := HX1b.out.frozen 3
  have g4 := HX1b.out.frozen 4
  simp at z3 z4
  have xne : ¬ w.heap.size = t.E := by omega
  have xne2 : ¬ t.E = w.heap.size := by omega
  go_region_with (fail)
  all_goals
    obtain ⟨w2, hw2⟩ : ∃ w2, w2 = (((w1.setCell ⟨w.heap.size, 3, none⟩ (.int .u64 X.last)).setCell ⟨w.heap.size, 4, none⟩ (.int .u64 ((X.blk.gen : Int) + 1)))).drew := ⟨_, rfl⟩
    change Exit.then _ _ _ _ (World.drew ((w1.setCell ⟨w.heap.size, 3, none⟩ (.int .u64 X.last)).setCell ⟨w.heap.size, 4, none⟩ (.int .u64 ((X.blk.gen : Int) + 1))))
    rw [← hw2]
    have HX2b : Hid (Blk w2 w.heap.size tSb #[.int .u64 X.blk.seq, .int .u64 X.blk.epoch, .int .u64 X.blk.reserved, .int .u64 X.last, .int .u64 ((X.blk.gen : Int) + 1), .bool X.blk.clean, .int .i64 X.blk.image]) := by
      show Blk _ _ _ _
      rw [hw2]
      have := (HX1b.out.set_ 3 (.int .u64 X.last)).set_ 4 (.int .u64 ((X.blk.gen : Int) + 1))
      refine Blk.drew ?_
      simpa using this
    have hcs : Chg (fun k => k = w.heap.size) w1 w2 := by
      rw [hw2]
      exact (Chg.setCell (chg_setCell w1 ⟨w.heap.size, 3, none⟩ _) (p := ⟨w.heap.size, 4, none⟩) (.inl rfl) _).drew
    have HE2 := Lib.hid ((HE.out.chgNo HC1.out).other HX1b.out (by decide) (by decide) (by decide) (by decide) (by decide) (by decide) (fun ho => by have := HE.out.lg.lt _ ho; omega) hcs)
    have HD2 : Hid (DevAt w2 h D) := (dev_one ((show DevN w.heap.size w h D from HD.out).chgNo HC1.out) HX1b.out hcs (by decide) (by decide) (by decide) (by decide)).at_
    have HC2 : Hid (Chg No w w2) := HC1.out.then hcs (fun i hi e => by omega)
    clear hw2 hcs HX1b HC1 z3 z4 g3 g4 e9 e10
    have z0 := HX2b.out.cell 0
    have z1 := HX2b.out.cell 1
    have z2 := HX2b.out.cell 2
    have z3 := HX2b.out.cell 3
    have z4 := HX2b.out.cell 4
    have z5 := HX2b.out.cell 5
    have z6 := HX2b.out.cell 6
    simp at z0 z1 z2 z3 z4 z5 z6
    go_wp2_with fail
    refine ((HST _).out HD2.out HE2.out).mono ?_
    rintro e w3 ⟨rfl, he3, hd3, hc3⟩
    have HE3 := Lib.hid he3
    have HD3 := Lib.hid hd3
    have HC3 : Hid (Chg (fun k => h.foot k ∨ k = t.E) w w3) := (HC2.out.mono (fun _ _ h => h.elim)).trans hc3
    have HX3 := Lib.hid (HX2b.out.chg hc3 (by
      rintro (hf | hf)
      · have := foot_size HD.out hf; omega
      · omega))
    clear he3 hd3 hc3 z0 z1 z2 z3 z4 z5 z6
    have z4 := HX3.out.cell 4
    simp at z4
    have e10 := HE3.out.box.cell 10
    simp [engBox] at e10
    by_cases hz : e0 = 0
    · have HZ1 := Lib.hid (HX1.out hz)
      clear HX1 HX2
      subst hz
      have HBJ : Hid (Blk w3 t.j.J tJn #[.pointer (some ⟨h.d, 0, none⟩), .int .i64 X2.J.losses, .int .i64 X2.J.first, .int .i64 X2.J.pages, .int .u64 X2.J.gen, .int .i64 X2.J.used, .map (some t.j.M)]) := HE3.out.jn.box
      have hg1 : X.blk.gen + 1 < 18446744073709551616 := hge
      have el : (((X.blk.gen + 1 : Nat)) : Int) = (X.blk.gen : Int) + 1 := by omega
      have HBG : Hid (∀ W, Chg No w3 W → Calls Tryz.prog 59 #[.pointer (some ⟨t.j.J, 0, none⟩), .int .u64 ((X.blk.gen : Int) + 1)] W fun e w' => e = .returned (.tuple #[]) ∧ ∃ M', w.heap.size ≤ M' ∧ EngAt w' h { t with j := ⟨t.j.J, M'⟩ } { X2 with J := X2.J.begun (X.blk.gen + 1) } ∧ DevAt w' h D2 ∧ Chg (fun k => k = t.j.J) W w') := by
        show ∀ W, _
        intro W hcW
        have hb := begin_calls (t := t.j) (HBJ.out.chg hcW (fun h => h)) (X.blk.gen + 1)
        rw [el] at hb
        refine hb.mono ?_
        rintro e w4 ⟨rfl, hb4, hm4, hc4⟩
        have hsz := hcW.size
        have hsz3 := HC3.out.size
        have hd3 := (show DevN w3.heap.size w3 h D2 from HD3.out).chgNo hcW
        have hb4' : Blk w4 t.j.J tJn #[.pointer (some ⟨h.d, 0, none⟩), .int .i64 X2.J.losses, .int .i64 X2.J.first, .int .i64 X2.J.pages, .int .u64 (X.blk.gen + 1 : Nat), .int .i64 0, .map (some W.heap.size)] := by rw [el]; exact hb4
        have hh := (HE3.out.chgNo hcW).begun hd3 hg1 hb4' hm4 (Nat.le_refl _) hc4
        exact ⟨rfl, W.heap.size, by omega, hh.1, hh.2.at_, hc4⟩
      go_wp2_with fail
      go_still_tail 6, (by kernel_rfl)
      change wpList _ _ _ _ _ w3.drew
      have HB5 := Lib.hid (HBG.out w3.drew (Chg.refl No w3).drew)
      have HC5 : Hid (Chg (fun k => h.foot k ∨ k = t.E) w w3.drew) := HC3.out.drew
      clear HBG HX3 HE3 HD3 HBJ HC3
      go_wp2_with fail
      refine HB5.out.mono ?_
      rintro e w4 ⟨rfl, M', hM, he4, hd4, hc4⟩
      have HE4 := Lib.hid he4
      have HD4 := Lib.hid hd4
      have HM := Lib.hid hM
      have HC4 : Hid (Chg (fun k => h.foot k ∨ k = t.E ∨ t.j.own k) w w4) := (HC5.out.mono (fun k _ hk => by
        rcases hk with h1 | h1
        · exact .inl h1
        · exact .inr (.inl h1))).then hc4 (fun k _ hk => .inr (.inr (.inl hk)))
      clear he4 hd4 hc4 hM
      go_wp2_with fail
      go_ret
      refine ⟨M', rfl, ?_, HD4.out, HC4.out, .inr HM.out⟩
      rw [HZ1.out]
      have := HE4.out
      rw [HJ2.out] at this
      exact this
    · have HZ1 := Lib.hid (HX2.out hz)
      clear HX1 HX2
      have hzb : (e0 == 0) = false := by simp [hz]
      have hzn : (e0 != 0) = true := by simp [hz]
      go_wp2_with fail
      go_ret
      refine ⟨t.j.M, rfl, ?_, HD3.out, HC3.out.mono (fun k _ hk => ?_), .inl rfl⟩
      · rw [HZ1.out.1]
        have := HE3.out
        rw [HZ1.out.2] at this
        exact this
      · rcases hk with h1 | h1
        · exact .inl h1
        · exact .inr (.inl h1)
end
end Go.Proofs.YtplpbbdakihnfaaGreat
end

section
namespace Go.Proofs.YtplpbbdakihnfaaGreat
open Go.RowKit
open Go.ChangeMaps (setBlock)
attribute [local go_sem ↓] Go.wp_at_zero Go.wp_at_succ
namespace Eng
def psD (X : Eng) (D : Dev) (x : Item) : Dev := if (X.B.out D x).length = 0 then X.B.putD D x else (X.B.putD D x).flush
def psE (X : Eng) (D : Dev) (x : Item) : Int := if (X.B.out D x).length = 0 then 0 else (X.B.putD D x).changeE
def psX (X : Eng) (D : Dev) (x : Item) : Eng := if X.psE D x = 0 then { X with B := X.B.add x, G := X.G.drop x.key } else { X with B := X.B.add x }
end Eng
section
variable {N : Nat} {S : Nat → Prop} {w w' : World} {h : DevH} {t : EngH} {X : Eng} {D : Dev}
theorem LgAt.mixed {g : LgH} {G : Lg} {T : Nat → Prop} (hl : LgAt w h g G) (hd : DevN N w h D) (hc : Chg (fun k => h.foot k ∨ T k) w w') (hT : ∀ k, g.own k → T k → False) : LgAt w' h g G := by
  have hs : ∀ k, g.spot k → ¬ (h.foot k ∨ T k) := by
    intro k hk
    rintro (h1 | h1)
    · exact hl.not_foot hd k hk h1
    · exact hT k (hl.spot_own hk) h1
  have hrow : ∀ v l, SlAt w g v l → SlAt w' g v l := by
    rintro v l ⟨A, c, e, h1, h2, h3⟩
    refine ⟨A, c, e, h1, h2.notS hc (fun g' off hk hA => ?_), h3⟩
    rintro (h4 | h4)
    · obtain ⟨g2, off2, cur, fz, e2, hg2, _⟩ := h2.2 hk
      rw [hA] at e2
      injection e2 with e2
      injection e2 with e2
      subst e2
      exact hd.not_foot hg2 (by decide) (by decide) h4
    · exact hT g' (h3 g' off (by omega) hA).1 h4
  exact { hl with
    box := hl.box.chg hc (hs _ (.inl rfl))
    regs := by
      obtain ⟨ses, h1, h2, h3⟩ := hl.regs
      refine ⟨ses, h1, own_chg h2 hc (fun k hk => hs k (.inr (.inr (.inl hk)))), fun i S hS => ?_⟩
      obtain ⟨v, e, hv⟩ := h3 i S hS
      exact ⟨v, e, hrow _ _ hv⟩
    opn := own_chg hl.opn hc (fun k hk => hs k (.inr (.inr (.inr hk))))
    map := hl.map.chg hc (hs _ (.inr (.inl rfl)))
    lt := fun k hk => Nat.lt_of_lt_of_le (hl.lt k hk) hc.size }
theorem EngAt.bits {B' : Sto} (he : EngAt w h t X) (hd : DevN N w h D) (hc : Chg (fun k => h.foot k ∨ ∃ p ∈ t.s.ps, k = p.2) w w') (hs : StoAt w' h t.s B') (hp : 0 < B'.fs.length) : EngAt w' h t { X with B := B' } := by
  have hne : ∀ {g : Nat} {T : TypeId} {cs : Array Value}, Blk w g T cs → T ≠ tDev → T ≠ tPP → T ≠ tBool → ¬ (h.foot g ∨ ∃ p ∈ t.s.ps, g = p.2) := by
    intro g T cs hb h1 h2 h3
    rintro (h4 | ⟨p, hp, rfl⟩)
    · exact hd.not_foot hb h1 h2 h4
    · obtain ⟨cs2, hb2⟩ := he.sto.bits_ty hp
      unfold Blk at hb hb2
      rw [hb] at hb2
      injection hb2 with hb2
      injection hb2 with _ hb2
      exact h3 hb2
  refine { box := he.box.chg hc (hne he.box (by decide) (by decide) (by decide)), jn := he.jn.chg hc (fun k hk => ?_), sto := hs, lg := ?_, jg := he.jg, sg := he.sg, eg := he.eg, blk := he.blk, last := he.last, jfit := he.jfit, pos := hp }
  · rcases hk with e | e
    · rw [e]; exact hne he.jn.box (by decide) (by decide) (by decide)
    · rw [e]
      rintro (h4 | ⟨p, hp, h5⟩)
      · exact he.jn.not_foot hd _ (.inr rfl) h4
      · obtain ⟨cs2, hb2⟩ := he.sto.bits_ty hp
        exact he.jn.map.ne_blk hb2 h5
  · -- in two steps: first the bits (none of them the log's), then the device's
    have h1 : ∀ k, t.g.own k → (∃ p ∈ t.s.ps, k = p.2) → False := fun k hk ⟨p, hp, e⟩ => he.sg p hp (e ▸ hk)
    exact he.lg.mixed hd hc h1
set_option maxRecDepth 100000 in
set_option maxHeartbeats 4000000 in
theorem eput_bad (he : EngAt w h t X) (x : Item) (hk : x.key.size ≤ 140737488351232) (hv : x.val.size ≤ 140737488351232) (hb : x.good = false ∨ 1472 < x.size) :
    Calls Tryz.prog 16 #[.pointer (some ⟨t.E, 0, none⟩), itemV x] w fun e w' => e = .returned (.int .i64 (if x.good = false then 1 else 2)) ∧ Chg No w w' := by
  have HGD := fun W => Lib.hid (good_calls x W)
  have HSZ := fun W => Lib.hid (size_calls x W hk hv)
  unfold itemV
  clear he hk hv
  obtain ⟨sz, hsz⟩ : ∃ sz, sz = x.size := ⟨_, rfl⟩
  obtain ⟨gd, hgd⟩ : ∃ gd, gd = x.good := ⟨_, rfl⟩
  rw [← hsz] at HSZ hb
  rw [← hgd] at HGD hb
  rw [← hgd]
  clear hsz hgd
  go_enter Tryz.func16, Tryz.ntmps16
  go_wp2_with fail
  refine (HGD _).out.mono ?_
  rintro e w1 ⟨rfl, hc1⟩
  have HC1 : Hid (Chg No w w1) := ((Chg.refl No w).alloc _).trans hc1
  have HX := Lib.hid ((Blk.new w tItem #[.string x.key, .string x.val, .int .u32 x.flags.toNat, .int .i64 x.exp.toInt, .int .u64 x.ver.toNat]).chg hc1 (fun h => h))
  have x0 := HX.out.cell 0
  have x1 := HX.out.cell 1
  have x2 := HX.out.cell 2
  have x3 := HX.out.cell 3
  have x4 := HX.out.cell 4
  simp at x0 x1 x2 x3 x4
  clear hc1
  cases gd with
  | false =>
    go_wp2_with fail
    go_ret
    exact ⟨rfl, HC1.out⟩
  | true =>
    have hs : 1472 < sz := by rcases hb with h1 | h1; cases h1; exact h1
    have hsi : (1472 : Int) < (sz : Int) := by omega
    clear hb
    go_wp2_with fail
    refine (HSZ _).out.mono ?_
    rintro e w2 ⟨rfl, hc2⟩
    have HC2 := Lib.hid (HC1.out.trans hc2)
    clear hc2
    go_wp2_with fail
    go_ret
    exact ⟨rfl, HC2.out⟩
end
end Go.Proofs.YtplpbbdakihnfaaGreat
end
