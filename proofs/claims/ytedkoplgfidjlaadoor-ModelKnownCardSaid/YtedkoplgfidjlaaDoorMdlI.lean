/- Commands: event.Good, walked. -/
import Derived.Test.YtedkoplgfidjlaaDoorMdlH
import Derived.Deep.RegionHeld3
import Derived.Deep.RegionWith
namespace Go.Proofs.YtedkoplgfidjlaaDoor
open Go.RowKit
attribute [local go_sem ↓] Go.wp_at_zero Go.wp_at_succ
set_option linter.unusedSimpArgs false
set_option linter.unusedVariables false

theorem ex_forget {K : Exit → Act → World → Prop} {x : Exit} {a : Act} {w : World} (F : World → Prop) (h : F w) (hh : ∀ W, F W → K x a W) : K x a w := hh w h
def verbs6 : List ByteArray := [⟨#[115, 101, 116]⟩, ⟨#[97, 100, 100]⟩, ⟨#[114, 101, 112, 108, 97, 99, 101]⟩, ⟨#[97, 112, 112, 101, 110, 100]⟩, ⟨#[112, 114, 101, 112, 101, 110, 100]⟩, ⟨#[99, 97, 115]⟩]
def verbs6V : Array Value := #[.string ⟨#[115, 101, 116]⟩, .string ⟨#[97, 100, 100]⟩, .string ⟨#[114, 101, 112, 108, 97, 99, 101]⟩, .string ⟨#[97, 112, 112, 101, 110, 100]⟩, .string ⟨#[112, 114, 101, 112, 101, 110, 100]⟩, .string ⟨#[99, 97, 115]⟩]
def isVerb (x : ByteArray) : Bool := Lib.containsS (verbs6.take 6) x
theorem isVerb_set : isVerb sSet = true := by decide +kernel
theorem verbs_calls (w : World) :
    Calls Tryd.prog 34 #[] w fun e w' => (∃ g, e = .returned (.slice (some ⟨g, 0, none⟩) 6 6) ∧ Blk w' g tStr verbs6V ∧ g < w'.heap.size) ∧ Chg No w w' := by
  go_enter Tryd.func34, Tryd.ntmps34
  go_wp2_with fail
  go_ret
  exact ⟨⟨w.heap.size, rfl, Blk.new _ _ _, by simp⟩, by (repeat (first | (with_reducible exact Chg.refl _ _) | (with_reducible assumption) | (with_reducible refine Chg.drewN ?_ _) | (with_reducible refine Chg.drew ?_) | (with_reducible refine Chg.alloc ?_ _) | (with_reducible refine Chg.setCell ?_ (by first | (left; simp [DevH.foot]; done) | (right; simp; done) | (right; simp; omega)) _)))⟩
theorem con_calls {w : World} {g : Nat} (h : Blk w g tStr verbs6V) (x : ByteArray) :
    Calls Tryd.prog 33 #[.slice (some ⟨g, 0, none⟩) 6 6, .string x] w fun e w' => e = .returned (.bool (isVerb x)) ∧ w' = w :=
  Tryd.slices_Contains_string g 0 6 6 verbs6 x w (by decide) (by decide) (fun j hj => by
    have hj6 : j < 6 := hj
    rw [Nat.zero_add, h.cell j]
    match j, hj6 with
    | 0, _ => rfl
    | 1, _ => rfl
    | 2, _ => rfl
    | 3, _ => rfl
    | 4, _ => rfl
    | 5, _ => rfl)
def sQuit : ByteArray := ⟨#[113, 117, 105, 116]⟩
def sVersion : ByteArray := ⟨#[118, 101, 114, 115, 105, 111, 110]⟩
/-- what Good tells -/
def GoodR : Ev → Bool → Prop
  | .get ks _ _ _, b => (b = true → ks.length ≤ 64) ∧ (ks = [kA] → b = true)
  | .store c, b => (b = true → c.key.size ≤ 250 ∧ c.data.size ≤ 1024) ∧ (c.verb = sSet ∧ c.key = kA ∧ c.data.size ≤ 1024 → b = true)
  | .word t, b => t = sQuit → b = true
  | .none, b => b = false
  | _, _ => True
def GodR (ev : Ev) (e : Ending) : Prop := ∃ b, GoodR ev b ∧ e = .returned (.bool b)
def BR (ks : List ByteArray) (b : Bool) : Prop := (b = true → (∀ k ∈ ks, k.size ≤ 250) ∧ ks.length ≤ 64) ∧ (ks = [kA] → b = true) ∧ (ks = [] → b = false)
def DatOk : Ev → Prop
  | .store c => c.data.size ≤ 1024
  | .word _ => False
  | _ => True
theorem GoodR.of {ev : Ev} {b : Bool} (h : BR (keysOf ev) b) (hd : DatOk ev) : GoodR ev b := by
  cases ev with
  | get ks _ _ _ => exact ⟨fun hb => (h.1 hb).2, h.2.1⟩
  | store c => exact ⟨fun hb => ⟨(h.1 hb).1 _ List.mem_cons_self, hd⟩, fun hh => h.2.1 (by show [c.key] = _; rw [hh.2.1])⟩
  | word t => exact hd.elim
  | none => exact h.2.2 rfl
  | arith _ => exact trivial
  | touch _ _ _ => exact trivial
  | del _ _ => exact trivial
  | flush _ => exact trivial
  | bad _ => exact trivial
set_option maxRecDepth 100000 in
set_option maxHeartbeats 8000000 in
theorem good_calls {w : World} (hg : Glob w) (c : CmdP) {A : Option Addr} {n : Nat} (h : KeysAt w A n c.ks) (cp : Nat) :
    Calls Tryd.prog 20 #[.agg (cmdc c A n cp)] w fun e w' => GodR (evOf c) e ∧ Chg No w w' := by
  have HO := fun W => Lib.hid (fun hc : Chg No w W => of_calls c (h.chgNo hc) cp)
  have HY := fun W => Lib.hid (fun hc : Chg No w W => keys_calls c (h.chgNo hc) cp)
  have HV := fun W => Lib.hid (verbs_calls W)
  have HGL := Lib.hid hg
  obtain ⟨ev, hev⟩ : ∃ ev, ev = evOf c := ⟨_, rfl⟩
  simp only [← hev] at HO HY ⊢
  obtain ⟨ko, hko⟩ : ∃ ko, ko = keysOf ev := ⟨_, rfl⟩
  simp only [← hko] at HY
  have HKO := Lib.hid hko
  clear hev h hg hko
  obtain ⟨what, verb, ks, data, flags, exp, cas, by_, wc, wt, dn, qt⟩ := c
  simp only [cmdc] at HO HY ⊢
  go_enter Tryd.func20, Tryd.ntmps20
  cases ev with
  | get ks2 wc2 wt2 exp2 =>
    go_wp2_with fail
    refine ((HO _).out (by (repeat (first | (with_reducible exact Chg.refl _ _) | (with_reducible assumption) | (with_reducible refine Chg.drewN ?_ _) | (with_reducible refine Chg.drew ?_) | (with_reducible refine Chg.alloc ?_ _) | (with_reducible refine Chg.setCell ?_ (by first | (left; simp [DevH.foot]; done) | (right; simp; done) | (right; simp; omega)) _))))).mono ?_
    rintro e w1 ⟨⟨v, rfl, hv⟩, hc1⟩
    have HC1 : Hid (Chg No w w1) := Chg.trans (by (repeat (first | (with_reducible exact Chg.refl _ _) | (with_reducible assumption) | (with_reducible refine Chg.drewN ?_ _) | (with_reducible refine Chg.drew ?_) | (with_reducible refine Chg.alloc ?_ _) | (with_reducible refine Chg.setCell ?_ (by first | (left; simp [DevH.foot]; done) | (right; simp; done) | (right; simp; omega)) _)))) hc1
    simp only [EvAt] at hv
    have HBX : Hid (Blk w1 w.heap.size tCmd #[.string what, .string verb, .slice A n cp, .string data, .int .u32 flags.toNat, .int .i64 exp, .int .u64 cas.toNat, .int .u64 by_.toNat, .bool wc, .bool wt, .bool dn, .bool qt]) := ((Blk.new w tCmd _).chg hc1 (fun h => h) : Blk w1 w.heap.size tCmd _)
    have b0 := HBX.out.cell 0
    have b1 := HBX.out.cell 1
    have b2 := HBX.out.cell 2
    have b3 := HBX.out.cell 3
    have b4 := HBX.out.cell 4
    have b5 := HBX.out.cell 5
    have b6 := HBX.out.cell 6
    have b7 := HBX.out.cell 7
    have b8 := HBX.out.cell 8
    have b9 := HBX.out.cell 9
    have b10 := HBX.out.cell 10
    have b11 := HBX.out.cell 11
    simp only [List.getElem?_toArray, List.getElem?_cons_zero, List.getElem?_cons_succ] at b0 b1 b2 b3 b4 b5 b6 b7 b8 b9 b10 b11
    have hbl := HBX.out.lt
    clear hc1 HO
    obtain ⟨A2, n2, cp2, rfl, hk2⟩ := hv
    clear hk2 HV
    go_wp2_with fail
    go_quiet (fail)
    refine ex_forget (fun W => Chg No w1 W) (by (repeat (first | (with_reducible exact Chg.refl _ _) | (with_reducible assumption) | (with_reducible refine Chg.drewN ?_ _) | (with_reducible refine Chg.drew ?_) | (with_reducible refine Chg.alloc ?_ _) | (with_reducible refine Chg.setCell ?_ (by first | (left; simp [DevH.foot]; done) | (right; simp; done) | (right; simp; omega)) _)))) (fun W hW => ?_)
    have HBX := Lib.hid (HBX.out.chg hW (fun h => h))
    have HC1 : Hid (Chg No w W) := HC1.out.trans hW
    clear b0 b1 b2 b3 b4 b5 b6 b7 b8 b9 b10 b11 hbl hW
    have b0 := HBX.out.cell 0
    have b1 := HBX.out.cell 1
    have b2 := HBX.out.cell 2
    have b3 := HBX.out.cell 3
    have b4 := HBX.out.cell 4
    have b5 := HBX.out.cell 5
    have b6 := HBX.out.cell 6
    have b7 := HBX.out.cell 7
    have b8 := HBX.out.cell 8
    have b9 := HBX.out.cell 9
    have b10 := HBX.out.cell 10
    have b11 := HBX.out.cell 11
    simp only [List.getElem?_toArray, List.getElem?_cons_zero, List.getElem?_cons_succ] at b0 b1 b2 b3 b4 b5 b6 b7 b8 b9 b10 b11
    have hbl := HBX.out.lt
    go_wp2_with fail
    refine ((HY _).out HC1.out).mono ?_
    rintro e w2 ⟨⟨A3, n3, c3, rfl, hk3⟩, hc2⟩
    have HC2 : Hid (Chg No w w2) := HC1.out.trans hc2
    clear b0 b1 b2 b3 b4 b5 b6 b7 b8 b9 b10 b11 hbl HBX
    have HN3 := Lib.hid (And.intro hk3.2.1 hk3.2.2)
    have HF3 := fun W => Lib.hid (fun hc : Chg No w2 W => conf_calls (HGL.out.chgNo (HC2.out.trans hc)) (hk3.chgNo hc) c3)
    have HGO := fun b => Lib.hid (fun hb : BR ko b => GoodR.of (by rw [← HKO.out]; exact hb) (show DatOk (.get ks2 wc2 wt2 exp2) from trivial))
    have hn3 : n3 ≤ 140737488355328 := by have := HN3.out.2; omega
    clear hk3 hc2 HY HKO
    by_cases m1 : n3 = 0
    · subst m1
      have HNIL : Hid (ko = []) := List.length_eq_zero_iff.1 HN3.out.1.symm
      go_wp2_with fail
      go_ret
      exact ⟨⟨false, (HGO _).out ⟨(fun h => by cases h), (fun h => by rw [HNIL.out] at h; cases h), (fun _ => rfl)⟩, rfl⟩, HC2.out.trans (by (repeat (first | (with_reducible exact Chg.refl _ _) | (with_reducible assumption) | (with_reducible refine Chg.drewN ?_ _) | (with_reducible refine Chg.drew ?_) | (with_reducible refine Chg.alloc ?_ _) | (with_reducible refine Chg.setCell ?_ (by first | (left; simp [DevH.foot]; done) | (right; simp; done) | (right; simp; omega)) _))))⟩
    have m1i : (1 : Int) ≤ (n3 : Int) := by omega
    by_cases m2 : 64 < n3
    · have m2i : ¬ ((n3 : Int) ≤ 64) := by omega
      go_wp2_with fail
      go_ret
      refine ⟨⟨false, (HGO _).out ⟨(fun h => by cases h), (fun h => ?_), (fun _ => rfl)⟩, rfl⟩, HC2.out.trans (by (repeat (first | (with_reducible exact Chg.refl _ _) | (with_reducible assumption) | (with_reducible refine Chg.drewN ?_ _) | (with_reducible refine Chg.drew ?_) | (with_reducible refine Chg.alloc ?_ _) | (with_reducible refine Chg.setCell ?_ (by first | (left; simp [DevH.foot]; done) | (right; simp; done) | (right; simp; omega)) _))))⟩
      have := HN3.out.1
      rw [h] at this
      simp at this
      omega
    have m2i : (n3 : Int) ≤ 64 := by omega
    go_wp2_with fail
    refine ((HF3 _).out (by (repeat (first | (with_reducible exact Chg.refl _ _) | (with_reducible assumption) | (with_reducible refine Chg.drewN ?_ _) | (with_reducible refine Chg.drew ?_) | (with_reducible refine Chg.alloc ?_ _) | (with_reducible refine Chg.setCell ?_ (by first | (left; simp [DevH.foot]; done) | (right; simp; done) | (right; simp; omega)) _))))).mono ?_
    rintro e w5 ⟨⟨b, hb1, hb2, rfl⟩, hc5⟩
    have HB5 := Lib.hid (And.intro hb1 hb2)
    have HC5 : Hid (Chg No w w5) := HC2.out.trans (Chg.trans (by (repeat (first | (with_reducible exact Chg.refl _ _) | (with_reducible assumption) | (with_reducible refine Chg.drewN ?_ _) | (with_reducible refine Chg.drew ?_) | (with_reducible refine Chg.alloc ?_ _) | (with_reducible refine Chg.setCell ?_ (by first | (left; simp [DevH.foot]; done) | (right; simp; done) | (right; simp; omega)) _)))) hc5)
    clear hb1 hb2 hc5 HF3
    go_wp2_with fail
    go_ret
    refine ⟨⟨!b, (HGO _).out ⟨(fun h => ⟨HB5.out.1 (by simpa using h), by rw [← HN3.out.1]; omega⟩), (fun h => ?_), (fun h => ?_)⟩, rfl⟩, HC5.out.trans (by (repeat (first | (with_reducible exact Chg.refl _ _) | (with_reducible assumption) | (with_reducible refine Chg.drewN ?_ _) | (with_reducible refine Chg.drew ?_) | (with_reducible refine Chg.alloc ?_ _) | (with_reducible refine Chg.setCell ?_ (by first | (left; simp [DevH.foot]; done) | (right; simp; done) | (right; simp; omega)) _))))⟩
    · rw [HB5.out.2 (fun k hk => by rw [h] at hk; simpa using hk)]; rfl
    · have := HN3.out.1
      rw [h] at this
      exact absurd this m1
  | store c2 =>
    go_wp2_with fail
    refine ((HO _).out (by (repeat (first | (with_reducible exact Chg.refl _ _) | (with_reducible assumption) | (with_reducible refine Chg.drewN ?_ _) | (with_reducible refine Chg.drew ?_) | (with_reducible refine Chg.alloc ?_ _) | (with_reducible refine Chg.setCell ?_ (by first | (left; simp [DevH.foot]; done) | (right; simp; done) | (right; simp; omega)) _))))).mono ?_
    rintro e w1 ⟨⟨v, rfl, hv⟩, hc1⟩
    have HC1 : Hid (Chg No w w1) := Chg.trans (by (repeat (first | (with_reducible exact Chg.refl _ _) | (with_reducible assumption) | (with_reducible refine Chg.drewN ?_ _) | (with_reducible refine Chg.drew ?_) | (with_reducible refine Chg.alloc ?_ _) | (with_reducible refine Chg.setCell ?_ (by first | (left; simp [DevH.foot]; done) | (right; simp; done) | (right; simp; omega)) _)))) hc1
    simp only [EvAt] at hv
    have HBX : Hid (Blk w1 w.heap.size tCmd #[.string what, .string verb, .slice A n cp, .string data, .int .u32 flags.toNat, .int .i64 exp, .int .u64 cas.toNat, .int .u64 by_.toNat, .bool wc, .bool wt, .bool dn, .bool qt]) := ((Blk.new w tCmd _).chg hc1 (fun h => h) : Blk w1 w.heap.size tCmd _)
    have b0 := HBX.out.cell 0
    have b1 := HBX.out.cell 1
    have b2 := HBX.out.cell 2
    have b3 := HBX.out.cell 3
    have b4 := HBX.out.cell 4
    have b5 := HBX.out.cell 5
    have b6 := HBX.out.cell 6
    have b7 := HBX.out.cell 7
    have b8 := HBX.out.cell 8
    have b9 := HBX.out.cell 9
    have b10 := HBX.out.cell 10
    have b11 := HBX.out.cell 11
    simp only [List.getElem?_toArray, List.getElem?_cons_zero, List.getElem?_cons_succ] at b0 b1 b2 b3 b4 b5 b6 b7 b8 b9 b10 b11
    have hbl := HBX.out.lt
    clear hc1 HO
    obtain ⟨verb2, key2, data2, flags2, exp2, cas2, quiet2⟩ := c2
    simp only [stc] at hv
    subst hv
    go_wp2_with fail
    refine wp_forget (fun W => Chg No w1 W ∧ Blk W (w1.heap.size + 1 + 1) 66 #[.string verb2, .string key2, .string data2, .int .u32 flags2.toNat, .int .i64 exp2, .int .u64 cas2.toNat, .bool quiet2]) ⟨by (repeat (first | (with_reducible exact Chg.refl _ _) | (with_reducible assumption) | (with_reducible refine Chg.drewN ?_ _) | (with_reducible refine Chg.drew ?_) | (with_reducible refine Chg.alloc ?_ _) | (with_reducible refine Chg.setCell ?_ (by first | (left; simp [DevH.foot]; done) | (right; simp; done) | (right; simp; omega)) _))), blkAt (by simp)⟩ (fun W hW => ?_)
    obtain ⟨hcW, hbW⟩ := hW
    have HBX := Lib.hid (HBX.out.chg hcW (fun h => h))
    have HC1 : Hid (Chg No w W) := HC1.out.trans hcW
    have HBW := Lib.hid hbW
    have s0 := HBW.out.cell 0
    have s2 := HBW.out.cell 2
    simp only [List.getElem?_toArray, List.getElem?_cons_zero, List.getElem?_cons_succ] at s0 s2
    have hbwl := HBW.out.lt
    clear b0 b1 b2 b3 b4 b5 b6 b7 b8 b9 b10 b11 hbl hcW hbW
    cases hcv : isVerb verb2 with
    | false =>
      have HCV : Hid (GoodR (.store ⟨verb2, key2, data2, flags2, exp2, cas2, quiet2⟩) false) := ⟨(fun h => by cases h), (fun h => by obtain rfl : verb2 = sSet := h.1; rw [isVerb_set] at hcv; cases hcv)⟩
      have HCO := fun W g => Lib.hid (fun hb : Blk W g tStr verbs6V => hcv ▸ con_calls hb verb2)
      clear hcv HY HGL HKO HBX
      first
      | (go_region_with ((first
          | (go_at_call 34
             refine (HV _).out.mono ?_
             rintro e w5 ⟨⟨g, rfl, hvb, hgl⟩, hc5⟩
             have HC5 : Hid (Chg No w w5) := Chg.trans (Chg.trans HC1.out (by (repeat (first | (with_reducible exact Chg.refl _ _) | (with_reducible assumption) | (with_reducible refine Chg.drewN ?_ _) | (with_reducible refine Chg.drew ?_) | (with_reducible refine Chg.alloc ?_ _) | (with_reducible refine Chg.setCell ?_ (by first | (left; simp [DevH.foot]; done) | (right; simp; done) | (right; simp; omega)) _))))) hc5
             have HVB := Lib.hid hvb
             have HB5 := Lib.hid (HBW.out.chg (Chg.trans (by (repeat (first | (with_reducible exact Chg.refl _ _) | (with_reducible assumption) | (with_reducible refine Chg.drewN ?_ _) | (with_reducible refine Chg.drew ?_) | (with_reducible refine Chg.alloc ?_ _) | (with_reducible refine Chg.setCell ?_ (by first | (left; simp [DevH.foot]; done) | (right; simp; done) | (right; simp; omega)) _))) : Chg No W _) hc5) (fun h => h))
             have p0 := HB5.out.cell 0
             have p2 := HB5.out.cell 2
             simp only [List.getElem?_toArray, List.getElem?_cons_zero, List.getElem?_cons_succ] at p0 p2
             have hb5l := HB5.out.lt
             have hc5 := Lib.hid hc5
             clear hvb
             )
          | (go_at_call 33
             refine ((HCO _ _).out (by first | exact HVB.out | exact HVB.out.drew)).mono ?_
             rintro e w6 ⟨rfl, rfl⟩))))
      | fail
      all_goals
        go_wp2_with fail
        go_ret
        exact ⟨⟨false, HCV.out, rfl⟩, HC5.out.trans (by (repeat (first | (with_reducible exact Chg.refl _ _) | (with_reducible assumption) | (with_reducible refine Chg.drewN ?_ _) | (with_reducible refine Chg.drew ?_) | (with_reducible refine Chg.alloc ?_ _) | (with_reducible refine Chg.setCell ?_ (by first | (left; simp [DevH.foot]; done) | (right; simp; done) | (right; simp; omega)) _))))⟩
    | true =>
      by_cases hd : data2.size ≤ 1024
      · have hdi : ¬ ((1024 : Int) < (data2.size : Int)) := by omega
        have HCO := fun W g => Lib.hid (fun hb : Blk W g tStr verbs6V => hcv ▸ con_calls hb verb2)
        have HDD : Hid (DatOk (.store ⟨verb2, key2, data2, flags2, exp2, cas2, quiet2⟩)) := hd
        clear hcv hd
        go_region_held3 (fun W' => W'.cell? ⟨w1.heap.size + 1 + 1, 0, none⟩ = some (.string verb2) ∧ W'.cell? ⟨w1.heap.size + 1 + 1, 2, none⟩ = some (.string data2)) (first | go_keep)
          (first
          | (go_at_call 34
             refine (HV _).out.mono ?_
             rintro e w5 ⟨⟨g, rfl, hvb, hgl⟩, hc5⟩
             have HC5 : Hid (Chg No w w5) := Chg.trans (Chg.trans HC1.out (by (repeat (first | (with_reducible exact Chg.refl _ _) | (with_reducible assumption) | (with_reducible refine Chg.drewN ?_ _) | (with_reducible refine Chg.drew ?_) | (with_reducible refine Chg.alloc ?_ _) | (with_reducible refine Chg.setCell ?_ (by first | (left; simp [DevH.foot]; done) | (right; simp; done) | (right; simp; omega)) _))))) hc5
             have HVB := Lib.hid hvb
             have HB5 := Lib.hid (HBW.out.chg (Chg.trans (by (repeat (first | (with_reducible exact Chg.refl _ _) | (with_reducible assumption) | (with_reducible refine Chg.drewN ?_ _) | (with_reducible refine Chg.drew ?_) | (with_reducible refine Chg.alloc ?_ _) | (with_reducible refine Chg.setCell ?_ (by first | (left; simp [DevH.foot]; done) | (right; simp; done) | (right; simp; omega)) _))) : Chg No W _) hc5) (fun h => h))
             have p0 := HB5.out.cell 0
             have p2 := HB5.out.cell 2
             simp only [List.getElem?_toArray, List.getElem?_cons_zero, List.getElem?_cons_succ] at p0 p2
             have hb5l := HB5.out.lt
             have hc5 := Lib.hid hc5
             clear hvb
             )
          | (go_at_call 33
             refine ((HCO _ _).out (by first | exact HVB.out | exact HVB.out.drew)).mono ?_
             rintro e w6 ⟨rfl, rfl⟩))
        all_goals
          have HBX := Lib.hid (HBX.out.chg (Chg.trans (by (repeat (first | (with_reducible exact Chg.refl _ _) | (with_reducible assumption) | (with_reducible refine Chg.drewN ?_ _) | (with_reducible refine Chg.drew ?_) | (with_reducible refine Chg.alloc ?_ _) | (with_reducible refine Chg.setCell ?_ (by first | (left; simp [DevH.foot]; done) | (right; simp; done) | (right; simp; omega)) _))) : Chg No W _) hc5.out) (fun h => h))
          have HC1 := Lib.hid HC5.out
          clear p0 p2 s0 s2 hc5 HBW HB5 HVB HC5 HV HCO
          have b0 := HBX.out.cell 0
          have b1 := HBX.out.cell 1
          have b2 := HBX.out.cell 2
          have b3 := HBX.out.cell 3
          have b4 := HBX.out.cell 4
          have b5 := HBX.out.cell 5
          have b6 := HBX.out.cell 6
          have b7 := HBX.out.cell 7
          have b8 := HBX.out.cell 8
          have b9 := HBX.out.cell 9
          have b10 := HBX.out.cell 10
          have b11 := HBX.out.cell 11
          simp only [List.getElem?_toArray, List.getElem?_cons_zero, List.getElem?_cons_succ] at b0 b1 b2 b3 b4 b5 b6 b7 b8 b9 b10 b11
          have hbl := HBX.out.lt
          go_wp2_with fail
          refine ((HY _).out HC1.out).mono ?_
          rintro e w2 ⟨⟨A3, n3, c3, rfl, hk3⟩, hc2⟩
          have HC2 : Hid (Chg No w w2) := HC1.out.trans hc2
          clear b0 b1 b2 b3 b4 b5 b6 b7 b8 b9 b10 b11 hbl HBX
          have HN3 := Lib.hid (And.intro hk3.2.1 hk3.2.2)
          have HF3 := fun W => Lib.hid (fun hc : Chg No w2 W => conf_calls (HGL.out.chgNo (HC2.out.trans hc)) (hk3.chgNo hc) c3)
          have HGO := fun b => Lib.hid (fun hb : BR ko b => GoodR.of (by rw [← HKO.out]; exact hb) HDD.out)
          have hn3 : n3 ≤ 140737488355328 := by have := HN3.out.2; omega
          clear hk3 hc2 HY HKO
          by_cases m1 : n3 = 0
          · subst m1
            have HNIL : Hid (ko = []) := List.length_eq_zero_iff.1 HN3.out.1.symm
            go_wp2_with fail
            go_ret
            exact ⟨⟨false, (HGO _).out ⟨(fun h => by cases h), (fun h => by rw [HNIL.out] at h; cases h), (fun _ => rfl)⟩, rfl⟩, HC2.out.trans (by (repeat (first | (with_reducible exact Chg.refl _ _) | (with_reducible assumption) | (with_reducible refine Chg.drewN ?_ _) | (with_reducible refine Chg.drew ?_) | (with_reducible refine Chg.alloc ?_ _) | (with_reducible refine Chg.setCell ?_ (by first | (left; simp [DevH.foot]; done) | (right; simp; done) | (right; simp; omega)) _))))⟩
          have m1i : (1 : Int) ≤ (n3 : Int) := by omega
          by_cases m2 : 64 < n3
          · have m2i : ¬ ((n3 : Int) ≤ 64) := by omega
            go_wp2_with fail
            go_ret
            refine ⟨⟨false, (HGO _).out ⟨(fun h => by cases h), (fun h => ?_), (fun _ => rfl)⟩, rfl⟩, HC2.out.trans (by (repeat (first | (with_reducible exact Chg.refl _ _) | (with_reducible assumption) | (with_reducible refine Chg.drewN ?_ _) | (with_reducible refine Chg.drew ?_) | (with_reducible refine Chg.alloc ?_ _) | (with_reducible refine Chg.setCell ?_ (by first | (left; simp [DevH.foot]; done) | (right; simp; done) | (right; simp; omega)) _))))⟩
            have := HN3.out.1
            rw [h] at this
            simp at this
            omega
          have m2i : (n3 : Int) ≤ 64 := by omega
          go_wp2_with fail
          refine ((HF3 _).out (by (repeat (first | (with_reducible exact Chg.refl _ _) | (with_reducible assumption) | (with_reducible refine Chg.drewN ?_ _) | (with_reducible refine Chg.drew ?_) | (with_reducible refine Chg.alloc ?_ _) | (with_reducible refine Chg.setCell ?_ (by first | (left; simp [DevH.foot]; done) | (right; simp; done) | (right; simp; omega)) _))))).mono ?_
          rintro e w5 ⟨⟨b, hb1, hb2, rfl⟩, hc5⟩
          have HB5 := Lib.hid (And.intro hb1 hb2)
          have HC5 : Hid (Chg No w w5) := HC2.out.trans (Chg.trans (by (repeat (first | (with_reducible exact Chg.refl _ _) | (with_reducible assumption) | (with_reducible refine Chg.drewN ?_ _) | (with_reducible refine Chg.drew ?_) | (with_reducible refine Chg.alloc ?_ _) | (with_reducible refine Chg.setCell ?_ (by first | (left; simp [DevH.foot]; done) | (right; simp; done) | (right; simp; omega)) _)))) hc5)
          clear hb1 hb2 hc5 HF3
          go_wp2_with fail
          go_ret
          refine ⟨⟨!b, (HGO _).out ⟨(fun h => ⟨HB5.out.1 (by simpa using h), by rw [← HN3.out.1]; omega⟩), (fun h => ?_), (fun h => ?_)⟩, rfl⟩, HC5.out.trans (by (repeat (first | (with_reducible exact Chg.refl _ _) | (with_reducible assumption) | (with_reducible refine Chg.drewN ?_ _) | (with_reducible refine Chg.drew ?_) | (with_reducible refine Chg.alloc ?_ _) | (with_reducible refine Chg.setCell ?_ (by first | (left; simp [DevH.foot]; done) | (right; simp; done) | (right; simp; omega)) _))))⟩
          · rw [HB5.out.2 (fun k hk => by rw [h] at hk; simpa using hk)]; rfl
          · have := HN3.out.1
            rw [h] at this
            exact absurd this m1
      · have hdi : ((1024 : Int) < (data2.size : Int)) := by omega
        have HCO := fun W g => Lib.hid (fun hb : Blk W g tStr verbs6V => hcv ▸ con_calls hb verb2)
        have HCV : Hid (GoodR (.store ⟨verb2, key2, data2, flags2, exp2, cas2, quiet2⟩) false) := ⟨fun h => (by cases h), fun h => absurd h.2.2 hd⟩
        clear hcv hd HY HGL HKO HBX
        go_region_held3 (fun W' => W'.cell? ⟨w1.heap.size + 1 + 1, 0, none⟩ = some (.string verb2) ∧ W'.cell? ⟨w1.heap.size + 1 + 1, 2, none⟩ = some (.string data2)) (first | go_keep)
          (first
          | (go_at_call 34
             refine (HV _).out.mono ?_
             rintro e w5 ⟨⟨g, rfl, hvb, hgl⟩, hc5⟩
             have HC5 : Hid (Chg No w w5) := Chg.trans (Chg.trans HC1.out (by (repeat (first | (with_reducible exact Chg.refl _ _) | (with_reducible assumption) | (with_reducible refine Chg.drewN ?_ _) | (with_reducible refine Chg.drew ?_) | (with_reducible refine Chg.alloc ?_ _) | (with_reducible refine Chg.setCell ?_ (by first | (left; simp [DevH.foot]; done) | (right; simp; done) | (right; simp; omega)) _))))) hc5
             have HVB := Lib.hid hvb
             have HB5 := Lib.hid (HBW.out.chg (Chg.trans (by (repeat (first | (with_reducible exact Chg.refl _ _) | (with_reducible assumption) | (with_reducible refine Chg.drewN ?_ _) | (with_reducible refine Chg.drew ?_) | (with_reducible refine Chg.alloc ?_ _) | (with_reducible refine Chg.setCell ?_ (by first | (left; simp [DevH.foot]; done) | (right; simp; done) | (right; simp; omega)) _))) : Chg No W _) hc5) (fun h => h))
             have p0 := HB5.out.cell 0
             have p2 := HB5.out.cell 2
             simp only [List.getElem?_toArray, List.getElem?_cons_zero, List.getElem?_cons_succ] at p0 p2
             have hb5l := HB5.out.lt
             have hc5 := Lib.hid hc5
             clear hvb
             )
          | (go_at_call 33
             refine ((HCO _ _).out (by first | exact HVB.out | exact HVB.out.drew)).mono ?_
             rintro e w6 ⟨rfl, rfl⟩))
        all_goals
          go_wp2_with fail
          go_ret
          exact ⟨⟨false, HCV.out, rfl⟩, HC5.out.trans (by (repeat (first | (with_reducible exact Chg.refl _ _) | (with_reducible assumption) | (with_reducible refine Chg.drewN ?_ _) | (with_reducible refine Chg.drew ?_) | (with_reducible refine Chg.alloc ?_ _) | (with_reducible refine Chg.setCell ?_ (by first | (left; simp [DevH.foot]; done) | (right; simp; done) | (right; simp; omega)) _))))⟩
  | arith c2 =>
    go_wp2_with fail
    refine ((HO _).out (by (repeat (first | (with_reducible exact Chg.refl _ _) | (with_reducible assumption) | (with_reducible refine Chg.drewN ?_ _) | (with_reducible refine Chg.drew ?_) | (with_reducible refine Chg.alloc ?_ _) | (with_reducible refine Chg.setCell ?_ (by first | (left; simp [DevH.foot]; done) | (right; simp; done) | (right; simp; omega)) _))))).mono ?_
    rintro e w1 ⟨⟨v, rfl, hv⟩, hc1⟩
    have HC1 : Hid (Chg No w w1) := Chg.trans (by (repeat (first | (with_reducible exact Chg.refl _ _) | (with_reducible assumption) | (with_reducible refine Chg.drewN ?_ _) | (with_reducible refine Chg.drew ?_) | (with_reducible refine Chg.alloc ?_ _) | (with_reducible refine Chg.setCell ?_ (by first | (left; simp [DevH.foot]; done) | (right; simp; done) | (right; simp; omega)) _)))) hc1
    simp only [EvAt] at hv
    have HBX : Hid (Blk w1 w.heap.size tCmd #[.string what, .string verb, .slice A n cp, .string data, .int .u32 flags.toNat, .int .i64 exp, .int .u64 cas.toNat, .int .u64 by_.toNat, .bool wc, .bool wt, .bool dn, .bool qt]) := ((Blk.new w tCmd _).chg hc1 (fun h => h) : Blk w1 w.heap.size tCmd _)
    have b0 := HBX.out.cell 0
    have b1 := HBX.out.cell 1
    have b2 := HBX.out.cell 2
    have b3 := HBX.out.cell 3
    have b4 := HBX.out.cell 4
    have b5 := HBX.out.cell 5
    have b6 := HBX.out.cell 6
    have b7 := HBX.out.cell 7
    have b8 := HBX.out.cell 8
    have b9 := HBX.out.cell 9
    have b10 := HBX.out.cell 10
    have b11 := HBX.out.cell 11
    simp only [List.getElem?_toArray, List.getElem?_cons_zero, List.getElem?_cons_succ] at b0 b1 b2 b3 b4 b5 b6 b7 b8 b9 b10 b11
    have hbl := HBX.out.lt
    clear hc1 HO
    obtain ⟨key2, by2, down2, quiet2⟩ := c2
    simp only [arc] at hv
    subst hv
    go_wp2_with fail
    go_quiet (fail)
    refine ex_forget (fun W => Chg No w1 W) (by (repeat (first | (with_reducible exact Chg.refl _ _) | (with_reducible assumption) | (with_reducible refine Chg.drewN ?_ _) | (with_reducible refine Chg.drew ?_) | (with_reducible refine Chg.alloc ?_ _) | (with_reducible refine Chg.setCell ?_ (by first | (left; simp [DevH.foot]; done) | (right; simp; done) | (right; simp; omega)) _)))) (fun W hW => ?_)
    have HBX := Lib.hid (HBX.out.chg hW (fun h => h))
    have HC1 : Hid (Chg No w W) := HC1.out.trans hW
    clear b0 b1 b2 b3 b4 b5 b6 b7 b8 b9 b10 b11 hbl hW
    have b0 := HBX.out.cell 0
    have b1 := HBX.out.cell 1
    have b2 := HBX.out.cell 2
    have b3 := HBX.out.cell 3
    have b4 := HBX.out.cell 4
    have b5 := HBX.out.cell 5
    have b6 := HBX.out.cell 6
    have b7 := HBX.out.cell 7
    have b8 := HBX.out.cell 8
    have b9 := HBX.out.cell 9
    have b10 := HBX.out.cell 10
    have b11 := HBX.out.cell 11
    simp only [List.getElem?_toArray, List.getElem?_cons_zero, List.getElem?_cons_succ] at b0 b1 b2 b3 b4 b5 b6 b7 b8 b9 b10 b11
    have hbl := HBX.out.lt
    go_wp2_with fail
    refine ((HY _).out HC1.out).mono ?_
    rintro e w2 ⟨⟨A3, n3, c3, rfl, hk3⟩, hc2⟩
    have HC2 : Hid (Chg No w w2) := HC1.out.trans hc2
    clear b0 b1 b2 b3 b4 b5 b6 b7 b8 b9 b10 b11 hbl HBX
    have HN3 := Lib.hid (And.intro hk3.2.1 hk3.2.2)
    have HF3 := fun W => Lib.hid (fun hc : Chg No w2 W => conf_calls (HGL.out.chgNo (HC2.out.trans hc)) (hk3.chgNo hc) c3)
    have HGO := fun b => Lib.hid (fun hb : BR ko b => GoodR.of (by rw [← HKO.out]; exact hb) (show DatOk (.arith ⟨key2, by2, down2, quiet2⟩) from trivial))
    have hn3 : n3 ≤ 140737488355328 := by have := HN3.out.2; omega
    clear hk3 hc2 HY HKO
    by_cases m1 : n3 = 0
    · subst m1
      have HNIL : Hid (ko = []) := List.length_eq_zero_iff.1 HN3.out.1.symm
      go_wp2_with fail
      go_ret
      exact ⟨⟨false, (HGO _).out ⟨(fun h => by cases h), (fun h => by rw [HNIL.out] at h; cases h), (fun _ => rfl)⟩, rfl⟩, HC2.out.trans (by (repeat (first | (with_reducible exact Chg.refl _ _) | (with_reducible assumption) | (with_reducible refine Chg.drewN ?_ _) | (with_reducible refine Chg.drew ?_) | (with_reducible refine Chg.alloc ?_ _) | (with_reducible refine Chg.setCell ?_ (by first | (left; simp [DevH.foot]; done) | (right; simp; done) | (right; simp; omega)) _))))⟩
    have m1i : (1 : Int) ≤ (n3 : Int) := by omega
    by_cases m2 : 64 < n3
    · have m2i : ¬ ((n3 : Int) ≤ 64) := by omega
      go_wp2_with fail
      go_ret
      refine ⟨⟨false, (HGO _).out ⟨(fun h => by cases h), (fun h => ?_), (fun _ => rfl)⟩, rfl⟩, HC2.out.trans (by (repeat (first | (with_reducible exact Chg.refl _ _) | (with_reducible assumption) | (with_reducible refine Chg.drewN ?_ _) | (with_reducible refine Chg.drew ?_) | (with_reducible refine Chg.alloc ?_ _) | (with_reducible refine Chg.setCell ?_ (by first | (left; simp [DevH.foot]; done) | (right; simp; done) | (right; simp; omega)) _))))⟩
      have := HN3.out.1
      rw [h] at this
      simp at this
      omega
    have m2i : (n3 : Int) ≤ 64 := by omega
    go_wp2_with fail
    refine ((HF3 _).out (by (repeat (first | (with_reducible exact Chg.refl _ _) | (with_reducible assumption) | (with_reducible refine Chg.drewN ?_ _) | (with_reducible refine Chg.drew ?_) | (with_reducible refine Chg.alloc ?_ _) | (with_reducible refine Chg.setCell ?_ (by first | (left; simp [DevH.foot]; done) | (right; simp; done) | (right; simp; omega)) _))))).mono ?_
    rintro e w5 ⟨⟨b, hb1, hb2, rfl⟩, hc5⟩
    have HB5 := Lib.hid (And.intro hb1 hb2)
    have HC5 : Hid (Chg No w w5) := HC2.out.trans (Chg.trans (by (repeat (first | (with_reducible exact Chg.refl _ _) | (with_reducible assumption) | (with_reducible refine Chg.drewN ?_ _) | (with_reducible refine Chg.drew ?_) | (with_reducible refine Chg.alloc ?_ _) | (with_reducible refine Chg.setCell ?_ (by first | (left; simp [DevH.foot]; done) | (right; simp; done) | (right; simp; omega)) _)))) hc5)
    clear hb1 hb2 hc5 HF3
    go_wp2_with fail
    go_ret
    refine ⟨⟨!b, (HGO _).out ⟨(fun h => ⟨HB5.out.1 (by simpa using h), by rw [← HN3.out.1]; omega⟩), (fun h => ?_), (fun h => ?_)⟩, rfl⟩, HC5.out.trans (by (repeat (first | (with_reducible exact Chg.refl _ _) | (with_reducible assumption) | (with_reducible refine Chg.drewN ?_ _) | (with_reducible refine Chg.drew ?_) | (with_reducible refine Chg.alloc ?_ _) | (with_reducible refine Chg.setCell ?_ (by first | (left; simp [DevH.foot]; done) | (right; simp; done) | (right; simp; omega)) _))))⟩
    · rw [HB5.out.2 (fun k hk => by rw [h] at hk; simpa using hk)]; rfl
    · have := HN3.out.1
      rw [h] at this
      exact absurd this m1
  | touch key exp2 q =>
    go_wp2_with fail
    refine ((HO _).out (by (repeat (first | (with_reducible exact Chg.refl _ _) | (with_reducible assumption) | (with_reducible refine Chg.drewN ?_ _) | (with_reducible refine Chg.drew ?_) | (with_reducible refine Chg.alloc ?_ _) | (with_reducible refine Chg.setCell ?_ (by first | (left; simp [DevH.foot]; done) | (right; simp; done) | (right; simp; omega)) _))))).mono ?_
    rintro e w1 ⟨⟨v, rfl, hv⟩, hc1⟩
    have HC1 : Hid (Chg No w w1) := Chg.trans (by (repeat (first | (with_reducible exact Chg.refl _ _) | (with_reducible assumption) | (with_reducible refine Chg.drewN ?_ _) | (with_reducible refine Chg.drew ?_) | (with_reducible refine Chg.alloc ?_ _) | (with_reducible refine Chg.setCell ?_ (by first | (left; simp [DevH.foot]; done) | (right; simp; done) | (right; simp; omega)) _)))) hc1
    simp only [EvAt] at hv
    have HBX : Hid (Blk w1 w.heap.size tCmd #[.string what, .string verb, .slice A n cp, .string data, .int .u32 flags.toNat, .int .i64 exp, .int .u64 cas.toNat, .int .u64 by_.toNat, .bool wc, .bool wt, .bool dn, .bool qt]) := ((Blk.new w tCmd _).chg hc1 (fun h => h) : Blk w1 w.heap.size tCmd _)
    have b0 := HBX.out.cell 0
    have b1 := HBX.out.cell 1
    have b2 := HBX.out.cell 2
    have b3 := HBX.out.cell 3
    have b4 := HBX.out.cell 4
    have b5 := HBX.out.cell 5
    have b6 := HBX.out.cell 6
    have b7 := HBX.out.cell 7
    have b8 := HBX.out.cell 8
    have b9 := HBX.out.cell 9
    have b10 := HBX.out.cell 10
    have b11 := HBX.out.cell 11
    simp only [List.getElem?_toArray, List.getElem?_cons_zero, List.getElem?_cons_succ] at b0 b1 b2 b3 b4 b5 b6 b7 b8 b9 b10 b11
    have hbl := HBX.out.lt
    clear hc1 HO
    subst hv
    go_wp2_with fail
    go_quiet (fail)
    refine ex_forget (fun W => Chg No w1 W) (by (repeat (first | (with_reducible exact Chg.refl _ _) | (with_reducible assumption) | (with_reducible refine Chg.drewN ?_ _) | (with_reducible refine Chg.drew ?_) | (with_reducible refine Chg.alloc ?_ _) | (with_reducible refine Chg.setCell ?_ (by first | (left; simp [DevH.foot]; done) | (right; simp; done) | (right; simp; omega)) _)))) (fun W hW => ?_)
    have HBX := Lib.hid (HBX.out.chg hW (fun h => h))
    have HC1 : Hid (Chg No w W) := HC1.out.trans hW
    clear b0 b1 b2 b3 b4 b5 b6 b7 b8 b9 b10 b11 hbl hW
    have b0 := HBX.out.cell 0
    have b1 := HBX.out.cell 1
    have b2 := HBX.out.cell 2
    have b3 := HBX.out.cell 3
    have b4 := HBX.out.cell 4
    have b5 := HBX.out.cell 5
    have b6 := HBX.out.cell 6
    have b7 := HBX.out.cell 7
    have b8 := HBX.out.cell 8
    have b9 := HBX.out.cell 9
    have b10 := HBX.out.cell 10
    have b11 := HBX.out.cell 11
    simp only [List.getElem?_toArray, List.getElem?_cons_zero, List.getElem?_cons_succ] at b0 b1 b2 b3 b4 b5 b6 b7 b8 b9 b10 b11
    have hbl := HBX.out.lt
    go_wp2_with fail
    refine ((HY _).out HC1.out).mono ?_
    rintro e w2 ⟨⟨A3, n3, c3, rfl, hk3⟩, hc2⟩
    have HC2 : Hid (Chg No w w2) := HC1.out.trans hc2
    clear b0 b1 b2 b3 b4 b5 b6 b7 b8 b9 b10 b11 hbl HBX
    have HN3 := Lib.hid (And.intro hk3.2.1 hk3.2.2)
    have HF3 := fun W => Lib.hid (fun hc : Chg No w2 W => conf_calls (HGL.out.chgNo (HC2.out.trans hc)) (hk3.chgNo hc) c3)
    have HGO := fun b => Lib.hid (fun hb : BR ko b => GoodR.of (by rw [← HKO.out]; exact hb) (show DatOk (.touch key exp2 q) from trivial))
    have hn3 : n3 ≤ 140737488355328 := by have := HN3.out.2; omega
    clear hk3 hc2 HY HKO
    by_cases m1 : n3 = 0
    · subst m1
      have HNIL : Hid (ko = []) := List.length_eq_zero_iff.1 HN3.out.1.symm
      go_wp2_with fail
      go_ret
      exact ⟨⟨false, (HGO _).out ⟨(fun h => by cases h), (fun h => by rw [HNIL.out] at h; cases h), (fun _ => rfl)⟩, rfl⟩, HC2.out.trans (by (repeat (first | (with_reducible exact Chg.refl _ _) | (with_reducible assumption) | (with_reducible refine Chg.drewN ?_ _) | (with_reducible refine Chg.drew ?_) | (with_reducible refine Chg.alloc ?_ _) | (with_reducible refine Chg.setCell ?_ (by first | (left; simp [DevH.foot]; done) | (right; simp; done) | (right; simp; omega)) _))))⟩
    have m1i : (1 : Int) ≤ (n3 : Int) := by omega
    by_cases m2 : 64 < n3
    · have m2i : ¬ ((n3 : Int) ≤ 64) := by omega
      go_wp2_with fail
      go_ret
      refine ⟨⟨false, (HGO _).out ⟨(fun h => by cases h), (fun h => ?_), (fun _ => rfl)⟩, rfl⟩, HC2.out.trans (by (repeat (first | (with_reducible exact Chg.refl _ _) | (with_reducible assumption) | (with_reducible refine Chg.drewN ?_ _) | (with_reducible refine Chg.drew ?_) | (with_reducible refine Chg.alloc ?_ _) | (with_reducible refine Chg.setCell ?_ (by first | (left; simp [DevH.foot]; done) | (right; simp; done) | (right; simp; omega)) _))))⟩
      have := HN3.out.1
      rw [h] at this
      simp at this
      omega
    have m2i : (n3 : Int) ≤ 64 := by omega
    go_wp2_with fail
    refine ((HF3 _).out (by (repeat (first | (with_reducible exact Chg.refl _ _) | (with_reducible assumption) | (with_reducible refine Chg.drewN ?_ _) | (with_reducible refine Chg.drew ?_) | (with_reducible refine Chg.alloc ?_ _) | (with_reducible refine Chg.setCell ?_ (by first | (left; simp [DevH.foot]; done) | (right; simp; done) | (right; simp; omega)) _))))).mono ?_
    rintro e w5 ⟨⟨b, hb1, hb2, rfl⟩, hc5⟩
    have HB5 := Lib.hid (And.intro hb1 hb2)
    have HC5 : Hid (Chg No w w5) := HC2.out.trans (Chg.trans (by (repeat (first | (with_reducible exact Chg.refl _ _) | (with_reducible assumption) | (with_reducible refine Chg.drewN ?_ _) | (with_reducible refine Chg.drew ?_) | (with_reducible refine Chg.alloc ?_ _) | (with_reducible refine Chg.setCell ?_ (by first | (left; simp [DevH.foot]; done) | (right; simp; done) | (right; simp; omega)) _)))) hc5)
    clear hb1 hb2 hc5 HF3
    go_wp2_with fail
    go_ret
    refine ⟨⟨!b, (HGO _).out ⟨(fun h => ⟨HB5.out.1 (by simpa using h), by rw [← HN3.out.1]; omega⟩), (fun h => ?_), (fun h => ?_)⟩, rfl⟩, HC5.out.trans (by (repeat (first | (with_reducible exact Chg.refl _ _) | (with_reducible assumption) | (with_reducible refine Chg.drewN ?_ _) | (with_reducible refine Chg.drew ?_) | (with_reducible refine Chg.alloc ?_ _) | (with_reducible refine Chg.setCell ?_ (by first | (left; simp [DevH.foot]; done) | (right; simp; done) | (right; simp; omega)) _))))⟩
    · rw [HB5.out.2 (fun k hk => by rw [h] at hk; simpa using hk)]; rfl
    · have := HN3.out.1
      rw [h] at this
      exact absurd this m1
  | del key q =>
    go_wp2_with fail
    refine ((HO _).out (by (repeat (first | (with_reducible exact Chg.refl _ _) | (with_reducible assumption) | (with_reducible refine Chg.drewN ?_ _) | (with_reducible refine Chg.drew ?_) | (with_reducible refine Chg.alloc ?_ _) | (with_reducible refine Chg.setCell ?_ (by first | (left; simp [DevH.foot]; done) | (right; simp; done) | (right; simp; omega)) _))))).mono ?_
    rintro e w1 ⟨⟨v, rfl, hv⟩, hc1⟩
    have HC1 : Hid (Chg No w w1) := Chg.trans (by (repeat (first | (with_reducible exact Chg.refl _ _) | (with_reducible assumption) | (with_reducible refine Chg.drewN ?_ _) | (with_reducible refine Chg.drew ?_) | (with_reducible refine Chg.alloc ?_ _) | (with_reducible refine Chg.setCell ?_ (by first | (left; simp [DevH.foot]; done) | (right; simp; done) | (right; simp; omega)) _)))) hc1
    simp only [EvAt] at hv
    have HBX : Hid (Blk w1 w.heap.size tCmd #[.string what, .string verb, .slice A n cp, .string data, .int .u32 flags.toNat, .int .i64 exp, .int .u64 cas.toNat, .int .u64 by_.toNat, .bool wc, .bool wt, .bool dn, .bool qt]) := ((Blk.new w tCmd _).chg hc1 (fun h => h) : Blk w1 w.heap.size tCmd _)
    have b0 := HBX.out.cell 0
    have b1 := HBX.out.cell 1
    have b2 := HBX.out.cell 2
    have b3 := HBX.out.cell 3
    have b4 := HBX.out.cell 4
    have b5 := HBX.out.cell 5
    have b6 := HBX.out.cell 6
    have b7 := HBX.out.cell 7
    have b8 := HBX.out.cell 8
    have b9 := HBX.out.cell 9
    have b10 := HBX.out.cell 10
    have b11 := HBX.out.cell 11
    simp only [List.getElem?_toArray, List.getElem?_cons_zero, List.getElem?_cons_succ] at b0 b1 b2 b3 b4 b5 b6 b7 b8 b9 b10 b11
    have hbl := HBX.out.lt
    clear hc1 HO
    subst hv
    go_wp2_with fail
    go_quiet (fail)
    refine ex_forget (fun W => Chg No w1 W) (by (repeat (first | (with_reducible exact Chg.refl _ _) | (with_reducible assumption) | (with_reducible refine Chg.drewN ?_ _) | (with_reducible refine Chg.drew ?_) | (with_reducible refine Chg.alloc ?_ _) | (with_reducible refine Chg.setCell ?_ (by first | (left; simp [DevH.foot]; done) | (right; simp; done) | (right; simp; omega)) _)))) (fun W hW => ?_)
    have HBX := Lib.hid (HBX.out.chg hW (fun h => h))
    have HC1 : Hid (Chg No w W) := HC1.out.trans hW
    clear b0 b1 b2 b3 b4 b5 b6 b7 b8 b9 b10 b11 hbl hW
    have b0 := HBX.out.cell 0
    have b1 := HBX.out.cell 1
    have b2 := HBX.out.cell 2
    have b3 := HBX.out.cell 3
    have b4 := HBX.out.cell 4
    have b5 := HBX.out.cell 5
    have b6 := HBX.out.cell 6
    have b7 := HBX.out.cell 7
    have b8 := HBX.out.cell 8
    have b9 := HBX.out.cell 9
    have b10 := HBX.out.cell 10
    have b11 := HBX.out.cell 11
    simp only [List.getElem?_toArray, List.getElem?_cons_zero, List.getElem?_cons_succ] at b0 b1 b2 b3 b4 b5 b6 b7 b8 b9 b10 b11
    have hbl := HBX.out.lt
    go_wp2_with fail
    refine ((HY _).out HC1.out).mono ?_
    rintro e w2 ⟨⟨A3, n3, c3, rfl, hk3⟩, hc2⟩
    have HC2 : Hid (Chg No w w2) := HC1.out.trans hc2
    clear b0 b1 b2 b3 b4 b5 b6 b7 b8 b9 b10 b11 hbl HBX
    have HN3 := Lib.hid (And.intro hk3.2.1 hk3.2.2)
    have HF3 := fun W => Lib.hid (fun hc : Chg No w2 W => conf_calls (HGL.out.chgNo (HC2.out.trans hc)) (hk3.chgNo hc) c3)
    have HGO := fun b => Lib.hid (fun hb : BR ko b => GoodR.of (by rw [← HKO.out]; exact hb) (show DatOk (.del key q) from trivial))
    have hn3 : n3 ≤ 140737488355328 := by have := HN3.out.2; omega
    clear hk3 hc2 HY HKO
    by_cases m1 : n3 = 0
    · subst m1
      have HNIL : Hid (ko = []) := List.length_eq_zero_iff.1 HN3.out.1.symm
      go_wp2_with fail
      go_ret
      exact ⟨⟨false, (HGO _).out ⟨(fun h => by cases h), (fun h => by rw [HNIL.out] at h; cases h), (fun _ => rfl)⟩, rfl⟩, HC2.out.trans (by (repeat (first | (with_reducible exact Chg.refl _ _) | (with_reducible assumption) | (with_reducible refine Chg.drewN ?_ _) | (with_reducible refine Chg.drew ?_) | (with_reducible refine Chg.alloc ?_ _) | (with_reducible refine Chg.setCell ?_ (by first | (left; simp [DevH.foot]; done) | (right; simp; done) | (right; simp; omega)) _))))⟩
    have m1i : (1 : Int) ≤ (n3 : Int) := by omega
    by_cases m2 : 64 < n3
    · have m2i : ¬ ((n3 : Int) ≤ 64) := by omega
      go_wp2_with fail
      go_ret
      refine ⟨⟨false, (HGO _).out ⟨(fun h => by cases h), (fun h => ?_), (fun _ => rfl)⟩, rfl⟩, HC2.out.trans (by (repeat (first | (with_reducible exact Chg.refl _ _) | (with_reducible assumption) | (with_reducible refine Chg.drewN ?_ _) | (with_reducible refine Chg.drew ?_) | (with_reducible refine Chg.alloc ?_ _) | (with_reducible refine Chg.setCell ?_ (by first | (left; simp [DevH.foot]; done) | (right; simp; done) | (right; simp; omega)) _))))⟩
      have := HN3.out.1
      rw [h] at this
      simp at this
      omega
    have m2i : (n3 : Int) ≤ 64 := by omega
    go_wp2_with fail
    refine ((HF3 _).out (by (repeat (first | (with_reducible exact Chg.refl _ _) | (with_reducible assumption) | (with_reducible refine Chg.drewN ?_ _) | (with_reducible refine Chg.drew ?_) | (with_reducible refine Chg.alloc ?_ _) | (with_reducible refine Chg.setCell ?_ (by first | (left; simp [DevH.foot]; done) | (right; simp; done) | (right; simp; omega)) _))))).mono ?_
    rintro e w5 ⟨⟨b, hb1, hb2, rfl⟩, hc5⟩
    have HB5 := Lib.hid (And.intro hb1 hb2)
    have HC5 : Hid (Chg No w w5) := HC2.out.trans (Chg.trans (by (repeat (first | (with_reducible exact Chg.refl _ _) | (with_reducible assumption) | (with_reducible refine Chg.drewN ?_ _) | (with_reducible refine Chg.drew ?_) | (with_reducible refine Chg.alloc ?_ _) | (with_reducible refine Chg.setCell ?_ (by first | (left; simp [DevH.foot]; done) | (right; simp; done) | (right; simp; omega)) _)))) hc5)
    clear hb1 hb2 hc5 HF3
    go_wp2_with fail
    go_ret
    refine ⟨⟨!b, (HGO _).out ⟨(fun h => ⟨HB5.out.1 (by simpa using h), by rw [← HN3.out.1]; omega⟩), (fun h => ?_), (fun h => ?_)⟩, rfl⟩, HC5.out.trans (by (repeat (first | (with_reducible exact Chg.refl _ _) | (with_reducible assumption) | (with_reducible refine Chg.drewN ?_ _) | (with_reducible refine Chg.drew ?_) | (with_reducible refine Chg.alloc ?_ _) | (with_reducible refine Chg.setCell ?_ (by first | (left; simp [DevH.foot]; done) | (right; simp; done) | (right; simp; omega)) _))))⟩
    · rw [HB5.out.2 (fun k hk => by rw [h] at hk; simpa using hk)]; rfl
    · have := HN3.out.1
      rw [h] at this
      exact absurd this m1
  | flush q =>
    go_wp2_with fail
    refine ((HO _).out (by (repeat (first | (with_reducible exact Chg.refl _ _) | (with_reducible assumption) | (with_reducible refine Chg.drewN ?_ _) | (with_reducible refine Chg.drew ?_) | (with_reducible refine Chg.alloc ?_ _) | (with_reducible refine Chg.setCell ?_ (by first | (left; simp [DevH.foot]; done) | (right; simp; done) | (right; simp; omega)) _))))).mono ?_
    rintro e w1 ⟨⟨v, rfl, hv⟩, hc1⟩
    have HC1 : Hid (Chg No w w1) := Chg.trans (by (repeat (first | (with_reducible exact Chg.refl _ _) | (with_reducible assumption) | (with_reducible refine Chg.drewN ?_ _) | (with_reducible refine Chg.drew ?_) | (with_reducible refine Chg.alloc ?_ _) | (with_reducible refine Chg.setCell ?_ (by first | (left; simp [DevH.foot]; done) | (right; simp; done) | (right; simp; omega)) _)))) hc1
    simp only [EvAt] at hv
    have HBX : Hid (Blk w1 w.heap.size tCmd #[.string what, .string verb, .slice A n cp, .string data, .int .u32 flags.toNat, .int .i64 exp, .int .u64 cas.toNat, .int .u64 by_.toNat, .bool wc, .bool wt, .bool dn, .bool qt]) := ((Blk.new w tCmd _).chg hc1 (fun h => h) : Blk w1 w.heap.size tCmd _)
    have b0 := HBX.out.cell 0
    have b1 := HBX.out.cell 1
    have b2 := HBX.out.cell 2
    have b3 := HBX.out.cell 3
    have b4 := HBX.out.cell 4
    have b5 := HBX.out.cell 5
    have b6 := HBX.out.cell 6
    have b7 := HBX.out.cell 7
    have b8 := HBX.out.cell 8
    have b9 := HBX.out.cell 9
    have b10 := HBX.out.cell 10
    have b11 := HBX.out.cell 11
    simp only [List.getElem?_toArray, List.getElem?_cons_zero, List.getElem?_cons_succ] at b0 b1 b2 b3 b4 b5 b6 b7 b8 b9 b10 b11
    have hbl := HBX.out.lt
    clear hc1 HO
    subst hv
    go_wp2_with fail
    go_ret
    exact ⟨⟨true, trivial, rfl⟩, HC1.out.trans (by (repeat (first | (with_reducible exact Chg.refl _ _) | (with_reducible assumption) | (with_reducible refine Chg.drewN ?_ _) | (with_reducible refine Chg.drew ?_) | (with_reducible refine Chg.alloc ?_ _) | (with_reducible refine Chg.setCell ?_ (by first | (left; simp [DevH.foot]; done) | (right; simp; done) | (right; simp; omega)) _))))⟩
  | bad t =>
    go_wp2_with fail
    refine ((HO _).out (by (repeat (first | (with_reducible exact Chg.refl _ _) | (with_reducible assumption) | (with_reducible refine Chg.drewN ?_ _) | (with_reducible refine Chg.drew ?_) | (with_reducible refine Chg.alloc ?_ _) | (with_reducible refine Chg.setCell ?_ (by first | (left; simp [DevH.foot]; done) | (right; simp; done) | (right; simp; omega)) _))))).mono ?_
    rintro e w1 ⟨⟨v, rfl, hv⟩, hc1⟩
    have HC1 : Hid (Chg No w w1) := Chg.trans (by (repeat (first | (with_reducible exact Chg.refl _ _) | (with_reducible assumption) | (with_reducible refine Chg.drewN ?_ _) | (with_reducible refine Chg.drew ?_) | (with_reducible refine Chg.alloc ?_ _) | (with_reducible refine Chg.setCell ?_ (by first | (left; simp [DevH.foot]; done) | (right; simp; done) | (right; simp; omega)) _)))) hc1
    simp only [EvAt] at hv
    have HBX : Hid (Blk w1 w.heap.size tCmd #[.string what, .string verb, .slice A n cp, .string data, .int .u32 flags.toNat, .int .i64 exp, .int .u64 cas.toNat, .int .u64 by_.toNat, .bool wc, .bool wt, .bool dn, .bool qt]) := ((Blk.new w tCmd _).chg hc1 (fun h => h) : Blk w1 w.heap.size tCmd _)
    have b0 := HBX.out.cell 0
    have b1 := HBX.out.cell 1
    have b2 := HBX.out.cell 2
    have b3 := HBX.out.cell 3
    have b4 := HBX.out.cell 4
    have b5 := HBX.out.cell 5
    have b6 := HBX.out.cell 6
    have b7 := HBX.out.cell 7
    have b8 := HBX.out.cell 8
    have b9 := HBX.out.cell 9
    have b10 := HBX.out.cell 10
    have b11 := HBX.out.cell 11
    simp only [List.getElem?_toArray, List.getElem?_cons_zero, List.getElem?_cons_succ] at b0 b1 b2 b3 b4 b5 b6 b7 b8 b9 b10 b11
    have hbl := HBX.out.lt
    clear hc1 HO
    subst hv
    go_wp2_with fail
    go_quiet (fail)
    refine ex_forget (fun W => Chg No w1 W) (by (repeat (first | (with_reducible exact Chg.refl _ _) | (with_reducible assumption) | (with_reducible refine Chg.drewN ?_ _) | (with_reducible refine Chg.drew ?_) | (with_reducible refine Chg.alloc ?_ _) | (with_reducible refine Chg.setCell ?_ (by first | (left; simp [DevH.foot]; done) | (right; simp; done) | (right; simp; omega)) _)))) (fun W hW => ?_)
    have HBX := Lib.hid (HBX.out.chg hW (fun h => h))
    have HC1 : Hid (Chg No w W) := HC1.out.trans hW
    clear b0 b1 b2 b3 b4 b5 b6 b7 b8 b9 b10 b11 hbl hW
    have b0 := HBX.out.cell 0
    have b1 := HBX.out.cell 1
    have b2 := HBX.out.cell 2
    have b3 := HBX.out.cell 3
    have b4 := HBX.out.cell 4
    have b5 := HBX.out.cell 5
    have b6 := HBX.out.cell 6
    have b7 := HBX.out.cell 7
    have b8 := HBX.out.cell 8
    have b9 := HBX.out.cell 9
    have b10 := HBX.out.cell 10
    have b11 := HBX.out.cell 11
    simp only [List.getElem?_toArray, List.getElem?_cons_zero, List.getElem?_cons_succ] at b0 b1 b2 b3 b4 b5 b6 b7 b8 b9 b10 b11
    have hbl := HBX.out.lt
    go_wp2_with fail
    refine ((HY _).out HC1.out).mono ?_
    rintro e w2 ⟨⟨A3, n3, c3, rfl, hk3⟩, hc2⟩
    have HC2 : Hid (Chg No w w2) := HC1.out.trans hc2
    clear b0 b1 b2 b3 b4 b5 b6 b7 b8 b9 b10 b11 hbl HBX
    have HN3 := Lib.hid (And.intro hk3.2.1 hk3.2.2)
    have HF3 := fun W => Lib.hid (fun hc : Chg No w2 W => conf_calls (HGL.out.chgNo (HC2.out.trans hc)) (hk3.chgNo hc) c3)
    have HGO := fun b => Lib.hid (fun hb : BR ko b => GoodR.of (by rw [← HKO.out]; exact hb) (show DatOk (.bad t) from trivial))
    have hn3 : n3 ≤ 140737488355328 := by have := HN3.out.2; omega
    clear hk3 hc2 HY HKO
    by_cases m1 : n3 = 0
    · subst m1
      have HNIL : Hid (ko = []) := List.length_eq_zero_iff.1 HN3.out.1.symm
      go_wp2_with fail
      go_ret
      exact ⟨⟨false, (HGO _).out ⟨(fun h => by cases h), (fun h => by rw [HNIL.out] at h; cases h), (fun _ => rfl)⟩, rfl⟩, HC2.out.trans (by (repeat (first | (with_reducible exact Chg.refl _ _) | (with_reducible assumption) | (with_reducible refine Chg.drewN ?_ _) | (with_reducible refine Chg.drew ?_) | (with_reducible refine Chg.alloc ?_ _) | (with_reducible refine Chg.setCell ?_ (by first | (left; simp [DevH.foot]; done) | (right; simp; done) | (right; simp; omega)) _))))⟩
    have m1i : (1 : Int) ≤ (n3 : Int) := by omega
    by_cases m2 : 64 < n3
    · have m2i : ¬ ((n3 : Int) ≤ 64) := by omega
      go_wp2_with fail
      go_ret
      refine ⟨⟨false, (HGO _).out ⟨(fun h => by cases h), (fun h => ?_), (fun _ => rfl)⟩, rfl⟩, HC2.out.trans (by (repeat (first | (with_reducible exact Chg.refl _ _) | (with_reducible assumption) | (with_reducible refine Chg.drewN ?_ _) | (with_reducible refine Chg.drew ?_) | (with_reducible refine Chg.alloc ?_ _) | (with_reducible refine Chg.setCell ?_ (by first | (left; simp [DevH.foot]; done) | (right; simp; done) | (right; simp; omega)) _))))⟩
      have := HN3.out.1
      rw [h] at this
      simp at this
      omega
    have m2i : (n3 : Int) ≤ 64 := by omega
    go_wp2_with fail
    refine ((HF3 _).out (by (repeat (first | (with_reducible exact Chg.refl _ _) | (with_reducible assumption) | (with_reducible refine Chg.drewN ?_ _) | (with_reducible refine Chg.drew ?_) | (with_reducible refine Chg.alloc ?_ _) | (with_reducible refine Chg.setCell ?_ (by first | (left; simp [DevH.foot]; done) | (right; simp; done) | (right; simp; omega)) _))))).mono ?_
    rintro e w5 ⟨⟨b, hb1, hb2, rfl⟩, hc5⟩
    have HB5 := Lib.hid (And.intro hb1 hb2)
    have HC5 : Hid (Chg No w w5) := HC2.out.trans (Chg.trans (by (repeat (first | (with_reducible exact Chg.refl _ _) | (with_reducible assumption) | (with_reducible refine Chg.drewN ?_ _) | (with_reducible refine Chg.drew ?_) | (with_reducible refine Chg.alloc ?_ _) | (with_reducible refine Chg.setCell ?_ (by first | (left; simp [DevH.foot]; done) | (right; simp; done) | (right; simp; omega)) _)))) hc5)
    clear hb1 hb2 hc5 HF3
    go_wp2_with fail
    go_ret
    refine ⟨⟨!b, (HGO _).out ⟨(fun h => ⟨HB5.out.1 (by simpa using h), by rw [← HN3.out.1]; omega⟩), (fun h => ?_), (fun h => ?_)⟩, rfl⟩, HC5.out.trans (by (repeat (first | (with_reducible exact Chg.refl _ _) | (with_reducible assumption) | (with_reducible refine Chg.drewN ?_ _) | (with_reducible refine Chg.drew ?_) | (with_reducible refine Chg.alloc ?_ _) | (with_reducible refine Chg.setCell ?_ (by first | (left; simp [DevH.foot]; done) | (right; simp; done) | (right; simp; omega)) _))))⟩
    · rw [HB5.out.2 (fun k hk => by rw [h] at hk; simpa using hk)]; rfl
    · have := HN3.out.1
      rw [h] at this
      exact absurd this m1
  | word t =>
    by_cases t1 : t = sVersion
    · obtain rfl : t = ⟨#[118, 101, 114, 115, 105, 111, 110]⟩ := t1
      go_wp2_with fail
      refine ((HO _).out (by (repeat (first | (with_reducible exact Chg.refl _ _) | (with_reducible assumption) | (with_reducible refine Chg.drewN ?_ _) | (with_reducible refine Chg.drew ?_) | (with_reducible refine Chg.alloc ?_ _) | (with_reducible refine Chg.setCell ?_ (by first | (left; simp [DevH.foot]; done) | (right; simp; done) | (right; simp; omega)) _))))).mono ?_
      rintro e w1 ⟨⟨v, rfl, hv⟩, hc1⟩
      have HC1 : Hid (Chg No w w1) := Chg.trans (by (repeat (first | (with_reducible exact Chg.refl _ _) | (with_reducible assumption) | (with_reducible refine Chg.drewN ?_ _) | (with_reducible refine Chg.drew ?_) | (with_reducible refine Chg.alloc ?_ _) | (with_reducible refine Chg.setCell ?_ (by first | (left; simp [DevH.foot]; done) | (right; simp; done) | (right; simp; omega)) _)))) hc1
      simp only [EvAt] at hv
      have HBX : Hid (Blk w1 w.heap.size tCmd #[.string what, .string verb, .slice A n cp, .string data, .int .u32 flags.toNat, .int .i64 exp, .int .u64 cas.toNat, .int .u64 by_.toNat, .bool wc, .bool wt, .bool dn, .bool qt]) := ((Blk.new w tCmd _).chg hc1 (fun h => h) : Blk w1 w.heap.size tCmd _)
      have b0 := HBX.out.cell 0
      have b1 := HBX.out.cell 1
      have b2 := HBX.out.cell 2
      have b3 := HBX.out.cell 3
      have b4 := HBX.out.cell 4
      have b5 := HBX.out.cell 5
      have b6 := HBX.out.cell 6
      have b7 := HBX.out.cell 7
      have b8 := HBX.out.cell 8
      have b9 := HBX.out.cell 9
      have b10 := HBX.out.cell 10
      have b11 := HBX.out.cell 11
      simp only [List.getElem?_toArray, List.getElem?_cons_zero, List.getElem?_cons_succ] at b0 b1 b2 b3 b4 b5 b6 b7 b8 b9 b10 b11
      have hbl := HBX.out.lt
      clear hc1 HO
      subst hv
      go_wp2_with fail
      go_ret
      exact ⟨⟨true, (fun _ => rfl), rfl⟩, HC1.out.trans (by (repeat (first | (with_reducible exact Chg.refl _ _) | (with_reducible assumption) | (with_reducible refine Chg.drewN ?_ _) | (with_reducible refine Chg.drew ?_) | (with_reducible refine Chg.alloc ?_ _) | (with_reducible refine Chg.setCell ?_ (by first | (left; simp [DevH.foot]; done) | (right; simp; done) | (right; simp; omega)) _))))⟩
    by_cases t2 : t = sQuit
    · obtain rfl : t = ⟨#[113, 117, 105, 116]⟩ := t2
      clear t1
      go_wp2_with fail
      refine ((HO _).out (by (repeat (first | (with_reducible exact Chg.refl _ _) | (with_reducible assumption) | (with_reducible refine Chg.drewN ?_ _) | (with_reducible refine Chg.drew ?_) | (with_reducible refine Chg.alloc ?_ _) | (with_reducible refine Chg.setCell ?_ (by first | (left; simp [DevH.foot]; done) | (right; simp; done) | (right; simp; omega)) _))))).mono ?_
      rintro e w1 ⟨⟨v, rfl, hv⟩, hc1⟩
      have HC1 : Hid (Chg No w w1) := Chg.trans (by (repeat (first | (with_reducible exact Chg.refl _ _) | (with_reducible assumption) | (with_reducible refine Chg.drewN ?_ _) | (with_reducible refine Chg.drew ?_) | (with_reducible refine Chg.alloc ?_ _) | (with_reducible refine Chg.setCell ?_ (by first | (left; simp [DevH.foot]; done) | (right; simp; done) | (right; simp; omega)) _)))) hc1
      simp only [EvAt] at hv
      have HBX : Hid (Blk w1 w.heap.size tCmd #[.string what, .string verb, .slice A n cp, .string data, .int .u32 flags.toNat, .int .i64 exp, .int .u64 cas.toNat, .int .u64 by_.toNat, .bool wc, .bool wt, .bool dn, .bool qt]) := ((Blk.new w tCmd _).chg hc1 (fun h => h) : Blk w1 w.heap.size tCmd _)
      have b0 := HBX.out.cell 0
      have b1 := HBX.out.cell 1
      have b2 := HBX.out.cell 2
      have b3 := HBX.out.cell 3
      have b4 := HBX.out.cell 4
      have b5 := HBX.out.cell 5
      have b6 := HBX.out.cell 6
      have b7 := HBX.out.cell 7
      have b8 := HBX.out.cell 8
      have b9 := HBX.out.cell 9
      have b10 := HBX.out.cell 10
      have b11 := HBX.out.cell 11
      simp only [List.getElem?_toArray, List.getElem?_cons_zero, List.getElem?_cons_succ] at b0 b1 b2 b3 b4 b5 b6 b7 b8 b9 b10 b11
      have hbl := HBX.out.lt
      clear hc1 HO
      subst hv
      go_wp2_with fail
      go_ret
      exact ⟨⟨true, (fun _ => rfl), rfl⟩, HC1.out.trans (by (repeat (first | (with_reducible exact Chg.refl _ _) | (with_reducible assumption) | (with_reducible refine Chg.drewN ?_ _) | (with_reducible refine Chg.drew ?_) | (with_reducible refine Chg.alloc ?_ _) | (with_reducible refine Chg.setCell ?_ (by first | (left; simp [DevH.foot]; done) | (right; simp; done) | (right; simp; omega)) _))))⟩
    · have s1 := str_ne t _ t1
      have s2 := str_ne t _ t2
      have HT2 := Lib.hid t2
      clear t1 t2
      go_wp2_with fail
      refine ((HO _).out (by (repeat (first | (with_reducible exact Chg.refl _ _) | (with_reducible assumption) | (with_reducible refine Chg.drewN ?_ _) | (with_reducible refine Chg.drew ?_) | (with_reducible refine Chg.alloc ?_ _) | (with_reducible refine Chg.setCell ?_ (by first | (left; simp [DevH.foot]; done) | (right; simp; done) | (right; simp; omega)) _))))).mono ?_
      rintro e w1 ⟨⟨v, rfl, hv⟩, hc1⟩
      have HC1 : Hid (Chg No w w1) := Chg.trans (by (repeat (first | (with_reducible exact Chg.refl _ _) | (with_reducible assumption) | (with_reducible refine Chg.drewN ?_ _) | (with_reducible refine Chg.drew ?_) | (with_reducible refine Chg.alloc ?_ _) | (with_reducible refine Chg.setCell ?_ (by first | (left; simp [DevH.foot]; done) | (right; simp; done) | (right; simp; omega)) _)))) hc1
      simp only [EvAt] at hv
      have HBX : Hid (Blk w1 w.heap.size tCmd #[.string what, .string verb, .slice A n cp, .string data, .int .u32 flags.toNat, .int .i64 exp, .int .u64 cas.toNat, .int .u64 by_.toNat, .bool wc, .bool wt, .bool dn, .bool qt]) := ((Blk.new w tCmd _).chg hc1 (fun h => h) : Blk w1 w.heap.size tCmd _)
      have b0 := HBX.out.cell 0
      have b1 := HBX.out.cell 1
      have b2 := HBX.out.cell 2
      have b3 := HBX.out.cell 3
      have b4 := HBX.out.cell 4
      have b5 := HBX.out.cell 5
      have b6 := HBX.out.cell 6
      have b7 := HBX.out.cell 7
      have b8 := HBX.out.cell 8
      have b9 := HBX.out.cell 9
      have b10 := HBX.out.cell 10
      have b11 := HBX.out.cell 11
      simp only [List.getElem?_toArray, List.getElem?_cons_zero, List.getElem?_cons_succ] at b0 b1 b2 b3 b4 b5 b6 b7 b8 b9 b10 b11
      have hbl := HBX.out.lt
      clear hc1 HO
      subst hv
      go_wp2_with fail
      go_ret
      exact ⟨⟨false, (fun h => absurd h HT2.out), rfl⟩, HC1.out.trans (by (repeat (first | (with_reducible exact Chg.refl _ _) | (with_reducible assumption) | (with_reducible refine Chg.drewN ?_ _) | (with_reducible refine Chg.drew ?_) | (with_reducible refine Chg.alloc ?_ _) | (with_reducible refine Chg.setCell ?_ (by first | (left; simp [DevH.foot]; done) | (right; simp; done) | (right; simp; omega)) _))))⟩
  | none =>
    go_wp2_with fail
    refine ((HO _).out (by (repeat (first | (with_reducible exact Chg.refl _ _) | (with_reducible assumption) | (with_reducible refine Chg.drewN ?_ _) | (with_reducible refine Chg.drew ?_) | (with_reducible refine Chg.alloc ?_ _) | (with_reducible refine Chg.setCell ?_ (by first | (left; simp [DevH.foot]; done) | (right; simp; done) | (right; simp; omega)) _))))).mono ?_
    rintro e w1 ⟨⟨v, rfl, hv⟩, hc1⟩
    have HC1 : Hid (Chg No w w1) := Chg.trans (by (repeat (first | (with_reducible exact Chg.refl _ _) | (with_reducible assumption) | (with_reducible refine Chg.drewN ?_ _) | (with_reducible refine Chg.drew ?_) | (with_reducible refine Chg.alloc ?_ _) | (with_reducible refine Chg.setCell ?_ (by first | (left; simp [DevH.foot]; done) | (right; simp; done) | (right; simp; omega)) _)))) hc1
    simp only [EvAt] at hv
    have HBX : Hid (Blk w1 w.heap.size tCmd #[.string what, .string verb, .slice A n cp, .string data, .int .u32 flags.toNat, .int .i64 exp, .int .u64 cas.toNat, .int .u64 by_.toNat, .bool wc, .bool wt, .bool dn, .bool qt]) := ((Blk.new w tCmd _).chg hc1 (fun h => h) : Blk w1 w.heap.size tCmd _)
    have b0 := HBX.out.cell 0
    have b1 := HBX.out.cell 1
    have b2 := HBX.out.cell 2
    have b3 := HBX.out.cell 3
    have b4 := HBX.out.cell 4
    have b5 := HBX.out.cell 5
    have b6 := HBX.out.cell 6
    have b7 := HBX.out.cell 7
    have b8 := HBX.out.cell 8
    have b9 := HBX.out.cell 9
    have b10 := HBX.out.cell 10
    have b11 := HBX.out.cell 11
    simp only [List.getElem?_toArray, List.getElem?_cons_zero, List.getElem?_cons_succ] at b0 b1 b2 b3 b4 b5 b6 b7 b8 b9 b10 b11
    have hbl := HBX.out.lt
    clear hc1 HO
    subst hv
    go_wp2_with fail
    go_quiet (fail)
    refine ex_forget (fun W => Chg No w1 W) (by (repeat (first | (with_reducible exact Chg.refl _ _) | (with_reducible assumption) | (with_reducible refine Chg.drewN ?_ _) | (with_reducible refine Chg.drew ?_) | (with_reducible refine Chg.alloc ?_ _) | (with_reducible refine Chg.setCell ?_ (by first | (left; simp [DevH.foot]; done) | (right; simp; done) | (right; simp; omega)) _)))) (fun W hW => ?_)
    have HBX := Lib.hid (HBX.out.chg hW (fun h => h))
    have HC1 : Hid (Chg No w W) := HC1.out.trans hW
    clear b0 b1 b2 b3 b4 b5 b6 b7 b8 b9 b10 b11 hbl hW
    have b0 := HBX.out.cell 0
    have b1 := HBX.out.cell 1
    have b2 := HBX.out.cell 2
    have b3 := HBX.out.cell 3
    have b4 := HBX.out.cell 4
    have b5 := HBX.out.cell 5
    have b6 := HBX.out.cell 6
    have b7 := HBX.out.cell 7
    have b8 := HBX.out.cell 8
    have b9 := HBX.out.cell 9
    have b10 := HBX.out.cell 10
    have b11 := HBX.out.cell 11
    simp only [List.getElem?_toArray, List.getElem?_cons_zero, List.getElem?_cons_succ] at b0 b1 b2 b3 b4 b5 b6 b7 b8 b9 b10 b11
    have hbl := HBX.out.lt
    go_wp2_with fail
    refine ((HY _).out HC1.out).mono ?_
    rintro e w2 ⟨⟨A3, n3, c3, rfl, hk3⟩, hc2⟩
    have HC2 : Hid (Chg No w w2) := HC1.out.trans hc2
    clear b0 b1 b2 b3 b4 b5 b6 b7 b8 b9 b10 b11 hbl HBX
    have HN3 := Lib.hid (And.intro hk3.2.1 hk3.2.2)
    have HF3 := fun W => Lib.hid (fun hc : Chg No w2 W => conf_calls (HGL.out.chgNo (HC2.out.trans hc)) (hk3.chgNo hc) c3)
    have HGO := fun b => Lib.hid (fun hb : BR ko b => GoodR.of (by rw [← HKO.out]; exact hb) (show DatOk .none from trivial))
    have hn3 : n3 ≤ 140737488355328 := by have := HN3.out.2; omega
    clear hk3 hc2 HY HKO
    by_cases m1 : n3 = 0
    · subst m1
      have HNIL : Hid (ko = []) := List.length_eq_zero_iff.1 HN3.out.1.symm
      go_wp2_with fail
      go_ret
      exact ⟨⟨false, (HGO _).out ⟨(fun h => by cases h), (fun h => by rw [HNIL.out] at h; cases h), (fun _ => rfl)⟩, rfl⟩, HC2.out.trans (by (repeat (first | (with_reducible exact Chg.refl _ _) | (with_reducible assumption) | (with_reducible refine Chg.drewN ?_ _) | (with_reducible refine Chg.drew ?_) | (with_reducible refine Chg.alloc ?_ _) | (with_reducible refine Chg.setCell ?_ (by first | (left; simp [DevH.foot]; done) | (right; simp; done) | (right; simp; omega)) _))))⟩
    have m1i : (1 : Int) ≤ (n3 : Int) := by omega
    by_cases m2 : 64 < n3
    · have m2i : ¬ ((n3 : Int) ≤ 64) := by omega
      go_wp2_with fail
      go_ret
      refine ⟨⟨false, (HGO _).out ⟨(fun h => by cases h), (fun h => ?_), (fun _ => rfl)⟩, rfl⟩, HC2.out.trans (by (repeat (first | (with_reducible exact Chg.refl _ _) | (with_reducible assumption) | (with_reducible refine Chg.drewN ?_ _) | (with_reducible refine Chg.drew ?_) | (with_reducible refine Chg.alloc ?_ _) | (with_reducible refine Chg.setCell ?_ (by first | (left; simp [DevH.foot]; done) | (right; simp; done) | (right; simp; omega)) _))))⟩
      have := HN3.out.1
      rw [h] at this
      simp at this
      omega
    have m2i : (n3 : Int) ≤ 64 := by omega
    go_wp2_with fail
    refine ((HF3 _).out (by (repeat (first | (with_reducible exact Chg.refl _ _) | (with_reducible assumption) | (with_reducible refine Chg.drewN ?_ _) | (with_reducible refine Chg.drew ?_) | (with_reducible refine Chg.alloc ?_ _) | (with_reducible refine Chg.setCell ?_ (by first | (left; simp [DevH.foot]; done) | (right; simp; done) | (right; simp; omega)) _))))).mono ?_
    rintro e w5 ⟨⟨b, hb1, hb2, rfl⟩, hc5⟩
    have HB5 := Lib.hid (And.intro hb1 hb2)
    have HC5 : Hid (Chg No w w5) := HC2.out.trans (Chg.trans (by (repeat (first | (with_reducible exact Chg.refl _ _) | (with_reducible assumption) | (with_reducible refine Chg.drewN ?_ _) | (with_reducible refine Chg.drew ?_) | (with_reducible refine Chg.alloc ?_ _) | (with_reducible refine Chg.setCell ?_ (by first | (left; simp [DevH.foot]; done) | (right; simp; done) | (right; simp; omega)) _)))) hc5)
    clear hb1 hb2 hc5 HF3
    go_wp2_with fail
    go_ret
    refine ⟨⟨!b, (HGO _).out ⟨(fun h => ⟨HB5.out.1 (by simpa using h), by rw [← HN3.out.1]; omega⟩), (fun h => ?_), (fun h => ?_)⟩, rfl⟩, HC5.out.trans (by (repeat (first | (with_reducible exact Chg.refl _ _) | (with_reducible assumption) | (with_reducible refine Chg.drewN ?_ _) | (with_reducible refine Chg.drew ?_) | (with_reducible refine Chg.alloc ?_ _) | (with_reducible refine Chg.setCell ?_ (by first | (left; simp [DevH.foot]; done) | (right; simp; done) | (right; simp; omega)) _))))⟩
    · rw [HB5.out.2 (fun k hk => by rw [h] at hk; simpa using hk)]; rfl
    · have := HN3.out.1
      rw [h] at this
      exact absurd this m1
end Go.Proofs.YtedkoplgfidjlaaDoor
