/- The model's set and one, walked. -/
import Derived.Test.YtedkoplgfidjlaaDoorMdlA
namespace Go.Proofs.YtedkoplgfidjlaaDoor
open Go.RowKit
open Go.ChangeMaps (setBlock)
attribute [local go_sem ↓] Go.wp_at_zero Go.wp_at_succ
set_option linter.unusedSimpArgs false
set_option linter.unusedVariables false

section
variable {w w' : World} {m M : Nat} {es : Its}
theorem Mp.put (h : Mp w m M es) (hmM : m ≠ M) {o : Obj} {k : ByteArray} {x : Item} (hm : MapIs skey (setBlock w M o) M (imap (aset es k x))) (hx : ItOk (k, x)) : Mp (setBlock w M o) m M (aset es k x) ∧ Chg (fun j => j = M) w (setBlock w M o) :=
  ⟨⟨h.box.chg (chg_setBlock _ _ _) hmM, hm, h.ok.set hx⟩, chg_setBlock _ _ _⟩
set_option maxRecDepth 100000 in
theorem mset_calls (h : Mp w m M es) (hmM : m ≠ M) (x : Item) (v : UInt64) (text : ByteArray) (hx : x.key.size ≤ 250 ∧ x.val.size ≤ 1024) :
    Calls Tryd.prog 26 #[.pointer (some ⟨m, 0, none⟩), itemV x, .int .u64 v.toNat, .string text] w fun e w' => (∃ g, e = .returned (.slice (some ⟨g, 0, none⟩) 1 1) ∧ Blk w' g tAns (ansc text) ∧ w.heap.size ≤ g) ∧ Mp w' m M (aset es x.key { x with ver := v }) ∧ Chg (fun k => k = M) w w' := by
  have c0 := h.box.cell 0
  simp at c0
  have hlt := h.box.lt
  have hMlt := h.map.lt
  obtain ⟨y, hy⟩ : ∃ y : Item, y = { x with ver := v } := ⟨_, rfl⟩
  rw [← hy]
  have hyk : y.key = x.key := by rw [hy]
  have hch : Chg No w ((w.alloc (.cells #[.string y.key, .string y.val, .int .u32 y.flags.toNat, .int .i64 y.exp.toInt, .int .u64 y.ver.toNat] tItem)).drew) := ((Chg.refl No w).alloc _).drew
  obtain ⟨o, hrun, hmap⟩ := (h.chgNo hch).map.update (P := Tryd.prog) (keyLaw_string (Tryd.underlying9)) Tryd.underlying52 x.key (.agg #[.string y.key, .string y.val, .int .u32 y.flags.toNat, .int .i64 y.exp.toInt, .int .u64 y.ver.toNat])
  rw [aset_imap es _ y] at hmap
  have HF := Lib.hid ((h.chgNo hch).put hmM hmap (show ItOk (x.key, y) from ⟨hyk, by rw [hy] at *; exact hx.1, by rw [hy]; exact hx.2⟩))
  have HCH := Lib.hid hch
  have HL := fun W => Lib.hid (mline_calls text W)
  rw [hy] at hrun
  clear h hmap hch hx
  go_enter Tryd.func26, Tryd.ntmps26
  go_wp2_with fail
  go_region
  all_goals
    go_wp2_with fail
    refine (HL _).out.mono ?_
    rintro e w2 ⟨g, rfl, hb2, hg2, hc2⟩
    subst hy
    have HF2 := Lib.hid (And.intro (HF.out.1.chgNo hc2) (HF.out.2.trans (hc2.mono (fun _ _ h => h.elim))))
    have HB2 := Lib.hid hb2
    have HG2 : Hid (w.heap.size ≤ g) := Nat.le_trans (Nat.le_trans HCH.out.size HF.out.2.size) hg2
    clear hb2 hg2 hc2 HF
    go_wp2_with fail
    go_ret
    exact ⟨⟨g, rfl, HB2.out, HG2.out⟩, HF2.out.1, (HCH.out.mono (fun _ _ h => h.elim)).trans HF2.out.2⟩
theorem blk_second (w : World) (a : Obj) (t : TypeId) (cs : Array Value) : Blk ((w.alloc a).alloc (.cells cs t)) (w.heap.size + 1) t cs := by
  have := Blk.new (w.alloc a) t cs
  rwa [World.size_alloc] at this
theorem blk_third (w : World) (a b : Obj) (t : TypeId) (cs : Array Value) : Blk (((w.alloc a).alloc b).alloc (.cells cs t)) (w.heap.size + 1 + 1) t cs := by
  have := Blk.new ((w.alloc a).alloc b) t cs
  rwa [World.size_alloc, World.size_alloc] at this
theorem Chg.cellNoM {a b : World} (h : Chg No a b) {g i : Nat} {v : Value} (hv : a.cell? ⟨g, i, none⟩ = some v) (hg : g < a.heap.size) : b.cell? ⟨g, i, none⟩ = some v := by
  rw [h.toBelow.cell (p := ⟨g, i, none⟩) hg]; exact hv
/-- a value that Get of one key tells -/
def ansv (key val : ByteArray) (flags : UInt32) (cas : UInt64) (wc : Bool) : Array Value := #[.bool true, .string key, .string val, .string ⟨#[]⟩, .int .u32 flags.toNat, .int .u64 cas.toNat, .bool wc]
/-- what one tells and leaves -/
def OneR (w w' : World) (m M : Nat) (es : Its) (key : ByteArray) (now : Int) (wt : Bool) (v : Value) : Prop :=
  (mget es key now = none ∧ v = .slice none 0 0 ∧ Mp w' m M es) ∨ (∃ x es', mget es key now = some x ∧ (∃ g c, v = .slice (some ⟨g, 0, none⟩) 1 1 ∧ Blk w' g tAns c ∧ c.size = 7 ∧ (∀ u ∈ c.toList, u.oneCell' = true) ∧ w.heap.size ≤ g) ∧ Mp w' m M es' ∧ (wt = false → es' = es) ∧ es'.length ≤ es.length + 1)
theorem mget_ok (h : Mp w m M es) {key : ByteArray} {now : Int} {x : Item} (hx : mget es key now = some x) : ItOk (key, x) ∧ x.key = key := by
  unfold mget at hx
  cases ha : aget es key with
  | none => rw [ha] at hx; cases hx
  | some y =>
    rw [ha] at hx
    have : y = x := by
      simp only [Option.filter] at hx
      split at hx
      · injection hx
      · cases hx
    subst this
    have := h.ok _ (aget_mem ha)
    exact ⟨this, this.1⟩
set_option maxRecDepth 100000 in
set_option maxHeartbeats 1000000 in
theorem mone_calls (h : Mp w m M es) (hmM : m ≠ M) (A : Option Addr) (n cp : Nat) (wc wt : Bool) (exp : Int) (he : tmOk exp) (key : ByteArray) (now : Int) (hn : tmOk now) (v : UInt64) :
    Calls Tryd.prog 21 #[.pointer (some ⟨m, 0, none⟩), .agg #[.slice A n cp, .bool wc, .bool wt, .int .i64 exp], .string key, .int .i64 now, .int .u64 v.toNat] w fun e w' => (∃ u, e = .returned u ∧ OneR w w' m M es key now wt u) ∧ Chg (fun k => k = M) w w' := by
  have c0 := h.box.cell 0
  simp at c0
  have hlt := h.box.lt
  have hMlt := h.map.lt
  have HG := fun W => Lib.hid (fun hc : Chg No w W => mget_calls (h.chgNo hc) key now)
  have HT := fun W => Lib.hid (time_calls exp now he hn W)
  have HM := Lib.hid h
  have HOK := fun x => Lib.hid (mget_ok h (key := key) (now := now) (x := x))
  obtain ⟨a, ha⟩ : ∃ a, a = mget es key now := ⟨_, rfl⟩
  simp only [← ha] at HG HOK
  have HA := Lib.hid ha
  clear h ha
  cases a with
  | none =>
    go_enter Tryd.func21, Tryd.ntmps21
    go_wp2_with fail
    refine ((HG _).out ((Chg.refl No w).alloc _)).mono ?_
    rintro e w1 ⟨rfl, hc1⟩
    have HC1 : Hid (Chg No w w1) := ((Chg.refl No w).alloc _).trans hc1
    have HB1 := (Blk.new w 62 #[.slice A n cp, .bool wc, .bool wt, .int .i64 exp]).chg hc1 (fun h => h)
    have b1 := HB1.cell 1
    have b2 := HB1.cell 2
    have b3 := HB1.cell 3
    simp only [List.getElem?_toArray, List.getElem?_cons_zero, List.getElem?_cons_succ] at b1 b2 b3
    have hbl := HB1.lt
    have HBG := Lib.hid HB1
    clear HG hc1 HB1
    have HF : Hid (∀ W, Chg No w1 W → (∃ u, (.returned (.slice none 0 0) : Ending) = .returned u ∧ OneR w W m M es key now wt u) ∧ Chg (fun k => k = M) w W) := fun W hW => ⟨⟨_, rfl, .inl ⟨HA.out.symm, rfl, HM.out.chgNo (HC1.out.trans hW)⟩⟩, (HC1.out.trans hW).mono (fun _ _ h => h.elim)⟩
    clear HM HC1 HA HOK
    rw [show itemV ((none : Option Item).getD Item.zero) = .agg #[.string Item.zero.key, .string Item.zero.val, .int .u32 Item.zero.flags.toNat, .int .i64 Item.zero.exp.toInt, .int .u64 Item.zero.ver.toNat] from rfl]
    go_wp2_with fail
    go_ret
    exact HF.out _ (by (repeat (first | (with_reducible exact Chg.refl _ _) | (with_reducible assumption) | (with_reducible refine Chg.drewN ?_ _) | (with_reducible refine Chg.drew ?_) | (with_reducible refine Chg.alloc ?_ _) | (with_reducible refine Chg.setCell ?_ (by first | (left; simp [DevH.foot]; done) | (right; simp; done) | (right; simp; omega)) _))))
  | some x =>
    cases wt with
    | false =>
      cases wc with
      | false =>
        go_enter Tryd.func21, Tryd.ntmps21
        go_wp2_with fail
        refine ((HG _).out ((Chg.refl No w).alloc _)).mono ?_
        rintro e w1 ⟨rfl, hc1⟩
        have HC1 : Hid (Chg No w w1) := ((Chg.refl No w).alloc _).trans hc1
        have HB1 := (Blk.new w 62 #[.slice A n cp, .bool false, .bool false, .int .i64 exp]).chg hc1 (fun h => h)
        have b1 := HB1.cell 1
        have b2 := HB1.cell 2
        have b3 := HB1.cell 3
        simp only [List.getElem?_toArray, List.getElem?_cons_zero, List.getElem?_cons_succ] at b1 b2 b3
        have hbl := HB1.lt
        have HBG := Lib.hid HB1
        clear HG hc1 HB1
        have HX := Lib.hid ((HM.out.chgNo HC1.out))
        clear HM HOK
        go_wp2_with fail
        go_ret
        exact ⟨⟨_, rfl, .inr ⟨x, es, HA.out.symm, ⟨_, _, rfl, blk_third _ _ _ _ _, rfl, by simp [Value.oneCell'], by omega⟩, HX.out.chgNo (by (repeat (first | (with_reducible exact Chg.refl _ _) | (with_reducible assumption) | (with_reducible refine Chg.drewN ?_ _) | (with_reducible refine Chg.drew ?_) | (with_reducible refine Chg.alloc ?_ _) | (with_reducible refine Chg.setCell ?_ (by first | (left; simp [DevH.foot]; done) | (right; simp; done) | (right; simp; omega)) _)))), (fun _ => rfl), Nat.le_succ _⟩⟩, (HC1.out.trans (by (repeat (first | (with_reducible exact Chg.refl _ _) | (with_reducible assumption) | (with_reducible refine Chg.drewN ?_ _) | (with_reducible refine Chg.drew ?_) | (with_reducible refine Chg.alloc ?_ _) | (with_reducible refine Chg.setCell ?_ (by first | (left; simp [DevH.foot]; done) | (right; simp; done) | (right; simp; omega)) _))))).mono (fun _ _ h => h.elim)⟩
      | true =>
        go_enter Tryd.func21, Tryd.ntmps21
        go_wp2_with fail
        refine ((HG _).out ((Chg.refl No w).alloc _)).mono ?_
        rintro e w1 ⟨rfl, hc1⟩
        have HC1 : Hid (Chg No w w1) := ((Chg.refl No w).alloc _).trans hc1
        have HB1 := (Blk.new w 62 #[.slice A n cp, .bool true, .bool false, .int .i64 exp]).chg hc1 (fun h => h)
        have b1 := HB1.cell 1
        have b2 := HB1.cell 2
        have b3 := HB1.cell 3
        simp only [List.getElem?_toArray, List.getElem?_cons_zero, List.getElem?_cons_succ] at b1 b2 b3
        have hbl := HB1.lt
        have HBG := Lib.hid HB1
        clear HG hc1 HB1
        have HX := Lib.hid ((HM.out.chgNo HC1.out))
        clear HM HOK
        go_wp2_with fail
        go_ret
        exact ⟨⟨_, rfl, .inr ⟨x, es, HA.out.symm, ⟨_, _, rfl, blk_third _ _ _ _ _, rfl, by simp [Value.oneCell'], by omega⟩, HX.out.chgNo (by (repeat (first | (with_reducible exact Chg.refl _ _) | (with_reducible assumption) | (with_reducible refine Chg.drewN ?_ _) | (with_reducible refine Chg.drew ?_) | (with_reducible refine Chg.alloc ?_ _) | (with_reducible refine Chg.setCell ?_ (by first | (left; simp [DevH.foot]; done) | (right; simp; done) | (right; simp; omega)) _)))), (fun _ => rfl), Nat.le_succ _⟩⟩, (HC1.out.trans (by (repeat (first | (with_reducible exact Chg.refl _ _) | (with_reducible assumption) | (with_reducible refine Chg.drewN ?_ _) | (with_reducible refine Chg.drew ?_) | (with_reducible refine Chg.alloc ?_ _) | (with_reducible refine Chg.setCell ?_ (by first | (left; simp [DevH.foot]; done) | (right; simp; done) | (right; simp; omega)) _))))).mono (fun _ _ h => h.elim)⟩
    | true =>
      cases wc with
      | false =>
        go_enter Tryd.func21, Tryd.ntmps21
        go_wp2_with fail
        refine ((HG _).out ((Chg.refl No w).alloc _)).mono ?_
        rintro e w1 ⟨rfl, hc1⟩
        have HC1 : Hid (Chg No w w1) := ((Chg.refl No w).alloc _).trans hc1
        have HB1 := (Blk.new w 62 #[.slice A n cp, .bool false, .bool true, .int .i64 exp]).chg hc1 (fun h => h)
        have b1 := HB1.cell 1
        have b2 := HB1.cell 2
        have b3 := HB1.cell 3
        simp only [List.getElem?_toArray, List.getElem?_cons_zero, List.getElem?_cons_succ] at b1 b2 b3
        have hbl := HB1.lt
        have HBG := Lib.hid HB1
        clear HG hc1 HB1
        go_wp2_with fail
        refine (HT _).out.mono ?_
        rintro e w2 ⟨⟨t, ht, _, rfl⟩, hw2⟩
        have hc2 : Chg No (w1.alloc (.cells #[.string x.key, .string x.val, .int .u32 x.flags.toNat, .int .i64 x.exp.toInt, .int .u64 x.ver.toNat] tItem)) w2 := by rw [hw2]; exact Chg.refl _ _
        clear hw2
        have hbx := (Blk.new w1 tItem #[.string x.key, .string x.val, .int .u32 x.flags.toNat, .int .i64 x.exp.toInt, .int .u64 x.ver.toNat]).chg hc2 (fun h => h)
        have hb3 := (hbx.set_ 3 (.int .i64 t)).set_ 4 (.int .u64 v.toNat)
        obtain ⟨w3, hw3⟩ : ∃ w3, w3 = (w2.setCell ⟨w1.heap.size, 3, none⟩ (.int .i64 t)).setCell ⟨w1.heap.size, 4, none⟩ (.int .u64 v.toNat) := ⟨_, rfl⟩
        have hcW : Chg No w w3 := by
          rw [hw3]
          exact ((HC1.out.trans (((Chg.refl No w1).alloc _).trans hc2)).setCell (.inr HC1.out.size) _).setCell (.inr HC1.out.size) _
        have e0 := hbx.cell 0
        have e1 := hbx.cell 1
        have e2 := hbx.cell 2
        have e3 := hbx.cell 3
        have e4 := hbx.cell 4
        simp only [List.getElem?_toArray, List.getElem?_cons_zero, List.getElem?_cons_succ] at e0 e1 e2 e3 e4
        have f3 := hbx.frozen 3
        have f4 := hbx.frozen 4
        rw [← hw3] at hb3
        simp only [List.setIfInBounds_toArray, List.set_cons_zero, List.set_cons_succ] at hb3
        have bb1 := (HC1.out.size)
        have hc2s := hc2.size
        simp only [World.size_alloc] at hc2s
        obtain ⟨y, hy⟩ : ∃ y : Item, y = { x with exp := Int64.ofInt t, ver := v } := ⟨_, rfl⟩
        have hyt : y.exp.toInt = t := by rw [hy]; exact Int64.toInt_ofInt_of_le ht.1 (by have := ht.2; omega)
        have hok := (HOK x).out rfl
        have h := HM.out
        have HCW := Lib.hid hcW
        have hch : Chg No w w3.drew := hcW.drew
        obtain ⟨o, hrun, hmap⟩ := (h.chgNo hch).map.update (P := Tryd.prog) (keyLaw_string (Tryd.underlying9)) Tryd.underlying52 key (.agg #[.string y.key, .string y.val, .int .u32 y.flags.toNat, .int .i64 y.exp.toInt, .int .u64 y.ver.toNat])
        rw [aset_imap es _ y] at hmap
        have HF : Hid (Mp (setBlock w3.drew M o) m M (aset es key y) ∧ Chg (fun j => j = M) w (setBlock w3.drew M o) ∧ w.heap.size ≤ (setBlock w3.drew M o).heap.size) := by
          have h9 := (h.chgNo hch).put hmM hmap (show ItOk (key, y) from ⟨by rw [hy]; exact hok.2, hok.1.2.1, by rw [hy]; exact hok.1.2.2⟩)
          exact ⟨h9.1, (hch.mono (fun _ _ h => h.elim)).trans h9.2, Nat.le_trans hch.size h9.2.size⟩
        have hyk : y.key = x.key := by rw [hy]
        have hyv : y.val = x.val := by rw [hy]
        have hyf : y.flags = x.flags := by rw [hy]
        have hyr : y.ver = v := by rw [hy]
        rw [hyt, hyk, hyv, hyf, hyr] at hrun
        have c0' := (hcW).cellNoM c0 hlt
        clear h hmap hch hok HM HOK hy hyk hyv hyf hyr hyt
        go_wp2_with fail
        rw [← hw3]
        have hne : ¬ (w1.heap.size = M) := by omega
        have hb4 := (hb3.drew).chg (chg_setBlock w3.drew M o) hne
        have b4' : (setBlock w3.drew M o).cell? ⟨w.heap.size, 1, none⟩ = some (.bool false) := by
          have hs1 : ∀ p : Addr, (w2.setCell ⟨w1.heap.size, 3, none⟩ (.int .i64 t)).setCell ⟨w1.heap.size, 4, none⟩ (.int .u64 v.toNat) = w3 := fun _ => hw3.symm
          have hb : Blk w2 w.heap.size 62 #[.slice A n cp, .bool false, .bool true, .int .i64 exp] := (HBG.out.chg (((Chg.refl No w1).alloc _).trans hc2) (fun h => h))
          have hb5 : Blk w3 w.heap.size 62 #[.slice A n cp, .bool false, .bool true, .int .i64 exp] := by
            rw [hw3]
            exact (hb.far (by show w.heap.size ≠ w1.heap.size; omega) _).far (by show w.heap.size ≠ w1.heap.size; omega) _
          have := ((hb5.drew).chg (chg_setBlock w3.drew M o) (by omega : ¬ w.heap.size = M)).cell 1
          simpa using this
        have k0 := hb3.drew.cell 0
        have k1 := hb3.drew.cell 1
        have k2 := hb3.drew.cell 2
        have k3 := hb3.drew.cell 3
        have k4 := hb3.drew.cell 4
        have j0 := hb4.cell 0
        have j1 := hb4.cell 1
        have j2 := hb4.cell 2
        have j3 := hb4.cell 3
        have j4 := hb4.cell 4
        simp only [List.getElem?_toArray, List.getElem?_cons_zero, List.getElem?_cons_succ] at k0 k1 k2 k3 k4 j0 j1 j2 j3 j4
        have hz4 : w.heap.size < (setBlock w3.drew M o).heap.size := by have := hb4.lt; omega
        have hz5 : w1.heap.size < (setBlock w3.drew M o).heap.size := hb4.lt
        clear hb3 hb4 hbx e0 e1 e2 e3 e4 f3 f4 hw3 b1 b2 b3 hc2 hc2s
        go_region
        all_goals
          go_wp2_with fail
          go_ret
          exact ⟨⟨_, rfl, .inr ⟨x, _, HA.out.symm, ⟨_, _, rfl, blk_second _ _ _ _, rfl, by simp [Value.oneCell'], by have := HF.out.2.2; omega⟩, HF.out.1.chgNo (by (repeat (first | (with_reducible exact Chg.refl _ _) | (with_reducible assumption) | (with_reducible refine Chg.drewN ?_ _) | (with_reducible refine Chg.drew ?_) | (with_reducible refine Chg.alloc ?_ _) | (with_reducible refine Chg.setCell ?_ (by first | (left; simp [DevH.foot]; done) | (right; simp; done) | (right; simp; omega)) _)))), (fun h => by cases h), aset_len _ _ _⟩⟩, HF.out.2.1.trans ((by (repeat (first | (with_reducible exact Chg.refl _ _) | (with_reducible assumption) | (with_reducible refine Chg.drewN ?_ _) | (with_reducible refine Chg.drew ?_) | (with_reducible refine Chg.alloc ?_ _) | (with_reducible refine Chg.setCell ?_ (by first | (left; simp [DevH.foot]; done) | (right; simp; done) | (right; simp; omega)) _))) : Chg No _ _).mono (fun _ _ h => h.elim))⟩
      | true =>
        go_enter Tryd.func21, Tryd.ntmps21
        go_wp2_with fail
        refine ((HG _).out ((Chg.refl No w).alloc _)).mono ?_
        rintro e w1 ⟨rfl, hc1⟩
        have HC1 : Hid (Chg No w w1) := ((Chg.refl No w).alloc _).trans hc1
        have HB1 := (Blk.new w 62 #[.slice A n cp, .bool true, .bool true, .int .i64 exp]).chg hc1 (fun h => h)
        have b1 := HB1.cell 1
        have b2 := HB1.cell 2
        have b3 := HB1.cell 3
        simp only [List.getElem?_toArray, List.getElem?_cons_zero, List.getElem?_cons_succ] at b1 b2 b3
        have hbl := HB1.lt
        have HBG := Lib.hid HB1
        clear HG hc1 HB1
        go_wp2_with fail
        refine (HT _).out.mono ?_
        rintro e w2 ⟨⟨t, ht, _, rfl⟩, hw2⟩
        have hc2 : Chg No (w1.alloc (.cells #[.string x.key, .string x.val, .int .u32 x.flags.toNat, .int .i64 x.exp.toInt, .int .u64 x.ver.toNat] tItem)) w2 := by rw [hw2]; exact Chg.refl _ _
        clear hw2
        have hbx := (Blk.new w1 tItem #[.string x.key, .string x.val, .int .u32 x.flags.toNat, .int .i64 x.exp.toInt, .int .u64 x.ver.toNat]).chg hc2 (fun h => h)
        have hb3 := (hbx.set_ 3 (.int .i64 t)).set_ 4 (.int .u64 v.toNat)
        obtain ⟨w3, hw3⟩ : ∃ w3, w3 = (w2.setCell ⟨w1.heap.size, 3, none⟩ (.int .i64 t)).setCell ⟨w1.heap.size, 4, none⟩ (.int .u64 v.toNat) := ⟨_, rfl⟩
        have hcW : Chg No w w3 := by
          rw [hw3]
          exact ((HC1.out.trans (((Chg.refl No w1).alloc _).trans hc2)).setCell (.inr HC1.out.size) _).setCell (.inr HC1.out.size) _
        have e0 := hbx.cell 0
        have e1 := hbx.cell 1
        have e2 := hbx.cell 2
        have e3 := hbx.cell 3
        have e4 := hbx.cell 4
        simp only [List.getElem?_toArray, List.getElem?_cons_zero, List.getElem?_cons_succ] at e0 e1 e2 e3 e4
        have f3 := hbx.frozen 3
        have f4 := hbx.frozen 4
        rw [← hw3] at hb3
        simp only [List.setIfInBounds_toArray, List.set_cons_zero, List.set_cons_succ] at hb3
        have bb1 := (HC1.out.size)
        have hc2s := hc2.size
        simp only [World.size_alloc] at hc2s
        obtain ⟨y, hy⟩ : ∃ y : Item, y = { x with exp := Int64.ofInt t, ver := v } := ⟨_, rfl⟩
        have hyt : y.exp.toInt = t := by rw [hy]; exact Int64.toInt_ofInt_of_le ht.1 (by have := ht.2; omega)
        have hok := (HOK x).out rfl
        have h := HM.out
        have HCW := Lib.hid hcW
        have hch : Chg No w w3.drew := hcW.drew
        obtain ⟨o, hrun, hmap⟩ := (h.chgNo hch).map.update (P := Tryd.prog) (keyLaw_string (Tryd.underlying9)) Tryd.underlying52 key (.agg #[.string y.key, .string y.val, .int .u32 y.flags.toNat, .int .i64 y.exp.toInt, .int .u64 y.ver.toNat])
        rw [aset_imap es _ y] at hmap
        have HF : Hid (Mp (setBlock w3.drew M o) m M (aset es key y) ∧ Chg (fun j => j = M) w (setBlock w3.drew M o) ∧ w.heap.size ≤ (setBlock w3.drew M o).heap.size) := by
          have h9 := (h.chgNo hch).put hmM hmap (show ItOk (key, y) from ⟨by rw [hy]; exact hok.2, hok.1.2.1, by rw [hy]; exact hok.1.2.2⟩)
          exact ⟨h9.1, (hch.mono (fun _ _ h => h.elim)).trans h9.2, Nat.le_trans hch.size h9.2.size⟩
        have hyk : y.key = x.key := by rw [hy]
        have hyv : y.val = x.val := by rw [hy]
        have hyf : y.flags = x.flags := by rw [hy]
        have hyr : y.ver = v := by rw [hy]
        rw [hyt, hyk, hyv, hyf, hyr] at hrun
        have c0' := (hcW).cellNoM c0 hlt
        clear h hmap hch hok HM HOK hy hyk hyv hyf hyr hyt
        go_wp2_with fail
        rw [← hw3]
        have hne : ¬ (w1.heap.size = M) := by omega
        have hb4 := (hb3.drew).chg (chg_setBlock w3.drew M o) hne
        have b4' : (setBlock w3.drew M o).cell? ⟨w.heap.size, 1, none⟩ = some (.bool true) := by
          have hs1 : ∀ p : Addr, (w2.setCell ⟨w1.heap.size, 3, none⟩ (.int .i64 t)).setCell ⟨w1.heap.size, 4, none⟩ (.int .u64 v.toNat) = w3 := fun _ => hw3.symm
          have hb : Blk w2 w.heap.size 62 #[.slice A n cp, .bool true, .bool true, .int .i64 exp] := (HBG.out.chg (((Chg.refl No w1).alloc _).trans hc2) (fun h => h))
          have hb5 : Blk w3 w.heap.size 62 #[.slice A n cp, .bool true, .bool true, .int .i64 exp] := by
            rw [hw3]
            exact (hb.far (by show w.heap.size ≠ w1.heap.size; omega) _).far (by show w.heap.size ≠ w1.heap.size; omega) _
          have := ((hb5.drew).chg (chg_setBlock w3.drew M o) (by omega : ¬ w.heap.size = M)).cell 1
          simpa using this
        have k0 := hb3.drew.cell 0
        have k1 := hb3.drew.cell 1
        have k2 := hb3.drew.cell 2
        have k3 := hb3.drew.cell 3
        have k4 := hb3.drew.cell 4
        have j0 := hb4.cell 0
        have j1 := hb4.cell 1
        have j2 := hb4.cell 2
        have j3 := hb4.cell 3
        have j4 := hb4.cell 4
        simp only [List.getElem?_toArray, List.getElem?_cons_zero, List.getElem?_cons_succ] at k0 k1 k2 k3 k4 j0 j1 j2 j3 j4
        have hz4 : w.heap.size < (setBlock w3.drew M o).heap.size := by have := hb4.lt; omega
        have hz5 : w1.heap.size < (setBlock w3.drew M o).heap.size := hb4.lt
        clear hb3 hb4 hbx e0 e1 e2 e3 e4 f3 f4 hw3 b1 b2 b3 hc2 hc2s
        go_region
        all_goals
          go_wp2_with fail
          go_ret
          exact ⟨⟨_, rfl, .inr ⟨x, _, HA.out.symm, ⟨_, _, rfl, blk_second _ _ _ _, rfl, by simp [Value.oneCell'], by have := HF.out.2.2; omega⟩, HF.out.1.chgNo (by (repeat (first | (with_reducible exact Chg.refl _ _) | (with_reducible assumption) | (with_reducible refine Chg.drewN ?_ _) | (with_reducible refine Chg.drew ?_) | (with_reducible refine Chg.alloc ?_ _) | (with_reducible refine Chg.setCell ?_ (by first | (left; simp [DevH.foot]; done) | (right; simp; done) | (right; simp; omega)) _)))), (fun h => by cases h), aset_len _ _ _⟩⟩, HF.out.2.1.trans ((by (repeat (first | (with_reducible exact Chg.refl _ _) | (with_reducible assumption) | (with_reducible refine Chg.drewN ?_ _) | (with_reducible refine Chg.drew ?_) | (with_reducible refine Chg.alloc ?_ _) | (with_reducible refine Chg.setCell ?_ (by first | (left; simp [DevH.foot]; done) | (right; simp; done) | (right; simp; omega)) _))) : Chg No _ _).mono (fun _ _ h => h.elim))⟩
end
end Go.Proofs.YtedkoplgfidjlaaDoor
