/- Packed texts: RegB, Zeros, Lay, Range. -/
import Derived.Test.YtplpbbdakihnfaaGreatPk07
import Derived.Test.YtplpbbdakihnfaaGreatPk04
import Derived.Test.YtplpbbdakihnfaaGreatPk03
import Derived.Deep.RegionHeld3
import Derived.Shelf.RegionOpen
import Derived.Test.YtplpbbdakihnfaaGreatPk02
import Derived.Test.YtplpbbdakihnfaaGreatPk01
import Derived.Maps.RangeWalk

/- region.read and region.stands, walked. -/
section
namespace Go.Proofs.YtplpbbdakihnfaaGreat
open Go.RowKit
attribute [local go_sem ↓] Go.wp_at_zero Go.wp_at_succ
set_option linter.unusedSimpArgs false
set_option linter.unusedVariables false

theorem num_cut_lt2 (b : List UInt8) (i j : Nat) : num (cut b i j) < 256 ^ (j - i) := by
  have h := num_lt (cut b i j)
  have hl : (cut b i j).length ≤ j - i := by unfold cut; rw [List.length_take]; omega
  exact Nat.lt_of_lt_of_le h (Nat.pow_le_pow_right (by decide) hl)

theorem rd_cell {w W : World} {t : TypeId} {g off n j : Nat} {xs : List Value} {u : Value} (h : Rd w t (some ⟨g, off, none⟩) n xs) (hc : Chg No w W) (hx : xs[j]? = some u) : W.cell? ⟨g, off + j, none⟩ = some u := by
  have hj : j < n := by rw [← h.1]; exact (List.getElem?_eq_some_iff.1 hx).1
  obtain ⟨g', off', e, _, hh⟩ := (h.chg hc (fun _ _ _ _ h => h)).at_ hj
  simp only [Option.some.injEq, Addr.mk.injEq, and_true] at e
  obtain ⟨rfl, rfl⟩ := e
  exact hh j u hx

/-- what read gives back of a page's bytes -/
def CutOf (A : Option Addr) (b : List UInt8) (v : Value) (r : List UInt8) : Prop :=
  ∃ A' c', v = .slice A' r.length c' ∧ r.length ≤ c' ∧ ∀ W, Rd W tU8 A 384 (bys b) → Rd W tU8 A' r.length (bys r)
theorem CutOf.none (A : Option Addr) (b : List UInt8) : CutOf A b (.slice none 0 0) [] := ⟨Option.none, 0, rfl, Nat.le_refl _, fun W _ => Rd.nil _ _ _⟩

set_option maxRecDepth 100000 in
set_option maxHeartbeats 4000000 in
theorem read_page (A : Option Addr) (c : Nat) (b : List UInt8) (k : Nat) (w : World) (hr : Rd w tU8 A 384 (bys b)) (hc : 384 ≤ c) (hk : k ≤ 255) :
    Calls Tryz.prog 98 #[.slice A 384 c, .int .i64 k] w fun e w' => ∃ v, e = .returned (.tuple #[v, .int .u64 (rgN b k)]) ∧ CutOf A b v (rgB b k) ∧ Chg No w w' := by
  have hbl : b.length = 384 := by rw [← bys_length]; exact hr.1
  obtain ⟨g, off, rfl, hg, hx⟩ := hr.at_ (j := 0) (by omega)
  obtain ⟨x2, hx2⟩ : ∃ x, b[2]? = some x := ⟨_, List.getElem?_eq_getElem (by omega)⟩
  obtain ⟨x3, hx3⟩ : ∃ x, b[3]? = some x := ⟨_, List.getElem?_eq_getElem (by omega)⟩
  have HX2 : Hid ((bys b)[2]? = some (.int .u8 x2.toNat)) := by show _ = _; simp only [bys, List.getElem?_map, hx2]; rfl
  have HX3 : Hid ((bys b)[3]? = some (.int .u8 x3.toNat)) := by show _ = _; simp only [bys, List.getElem?_map, hx3]; rfl
  obtain ⟨A1, hs1, hd1⟩ := sub_slice_h (P := Tryz.prog) Tryz.underlying40 ti_u8 (some ⟨g, off, none⟩) 384 c 2 (by omega)
  have hs1' : ∀ W : World, (Instr.sliceAt tBytes (.slice (some ⟨g, off, none⟩) 384 c) none (some (.int .i64 2)) none).run Tryz.prog W = _ := fun W => (run_sliceAt_slice W tBytes _ _ _ _ Tryz.underlying40).trans (hs1 W)
  obtain ⟨A2, hs2, hd2⟩ := sub_slice (P := Tryz.prog) Tryz.underlying40 ti_u8 (some ⟨g, off, none⟩) 384 c 4 8 (by omega) (by omega) (by omega)
  have hs2' : ∀ W : World, (Instr.sliceAt tBytes (.slice (some ⟨g, off, none⟩) 384 c) (some (.int .i64 4)) (some (.int .i64 8)) none).run Tryz.prog W = _ := fun W => (run_sliceAt_slice W tBytes _ _ _ _ Tryz.underlying40).trans (hs2 W)
  obtain ⟨A3, hs3, hd3⟩ := sub_slice (P := Tryz.prog) Tryz.underlying40 ti_u8 (some ⟨g, off, none⟩) 384 c 8 16 (by omega) (by omega) (by omega)
  have hs3' : ∀ W : World, (Instr.sliceAt tBytes (.slice (some ⟨g, off, none⟩) 384 c) (some (.int .i64 8)) (some (.int .i64 16)) none).run Tryz.prog W = _ := fun W => (run_sliceAt_slice W tBytes _ _ _ _ Tryz.underlying40).trans (hs3 W)
  have HR := Lib.hid hr
  have HD1 : Hid (∀ W, Chg No w W → Rd W tU8 A1 2 (bys (b.take 2))) := fun W hc => by rw [bys_take]; exact hd1 W tU8 (bys b) (HR.out.chg hc (fun _ _ _ _ h => h)) (by omega)
  have HD2 : Hid (∀ W, Chg No w W → Rd W tU8 A2 4 (bys (cut b 4 8))) := fun W hc => by unfold cut; rw [bys_take, bys_drop]; exact hd2 W tU8 (bys b) (HR.out.chg hc (fun _ _ _ _ h => h)) (by omega)
  have HD3 : Hid (∀ W, Chg No w W → Rd W tU8 A3 8 (bys (cut b 8 16))) := fun W hc => by unfold cut; rw [bys_take, bys_drop]; exact hd3 W tU8 (bys b) (HR.out.chg hc (fun _ _ _ _ h => h)) (by omega)
  simp only [Int.reduceToNat, Nat.reduceSub] at hs2 hs2' hs3 hs3'
  obtain ⟨q1, hq1⟩ : ∃ q1, q1 = decide (b.take 2 = [82, 71]) := ⟨_, rfl⟩
  obtain ⟨q4, hq4⟩ : ∃ q4, q4 = num (cut b 4 8) := ⟨_, rfl⟩
  obtain ⟨q5, hq5⟩ : ∃ q5, q5 = num (cut b 8 16) := ⟨_, rfl⟩
  have hq4l : q4 < 4294967296 := by rw [hq4]; exact num_cut_lt2 b 4 8
  have hq5l : q5 < 18446744073709551616 := by rw [hq5]; exact num_cut_lt2 b 8 16
  have hx2l : x2.toNat < 256 := x2.toNat_lt
  have hx3l : x3.toNat < 256 := x3.toNat_lt
  have HEQ : ∀ (W : World) (B : Option Addr), Hid (Chg No w W → Rd W tU8 B 2 (bys [82, 71]) → Calls Tryz.prog 93 #[.slice A1 2 c, .slice B 2 2] W fun e w' => e = .returned (.bool q1) ∧ Chg No W w') := fun W B => fun hc hr => by
    rw [hq1]; exact eqb_calls A1 B 2 2 c 2 _ _ W (HD1.out W hc) hr (by omega) (by omega)
  have HNU : ∀ (W : World), Hid (Chg No w W → Calls Tryz.prog 118 #[.slice A2 4 (c - 4)] W fun e w' => e = .returned (.int .u64 q4) ∧ W = w') := fun W => fun hc => by
    rw [hq4]; exact gnumber_calls A2 4 _ _ W (HD2.out W hc) (by omega)
  have HN3 : ∀ (W : World), Hid (Chg No w W → Calls Tryz.prog 118 #[.slice A3 8 (c - 8)] W fun e w' => e = .returned (.int .u64 q5) ∧ W = w') := fun W => fun hc => by
    rw [hq5]; exact gnumber_calls A3 8 _ _ W (HD3.out W hc) (by omega)
  have HF : Hid (rgForm b k = (q1 && (decide (x2.toNat = k) && ((x3 == 0) && decide (q4 ≤ 368))))) := by
    show _ = _
    unfold rgForm
    rw [hq1, hq4, List.getD_eq_getElem?_getD, List.getD_eq_getElem?_getD, hx2, hx3]; rfl
  have HN : Hid (rgN b k = if rgForm b k then q5 else 0) := by show _ = _; rw [hq5]; rfl
  have HB : Hid (rgB b k = if rgForm b k then cut b 16 (16 + q4) else []) := by show _ = _; rw [hq4]; rfl
  obtain ⟨rf, hrf⟩ : ∃ rf, rf = rgForm b k := ⟨_, rfl⟩
  rw [← hrf] at HF HN HB
  obtain ⟨rn, hrn⟩ : ∃ rn, rn = rgN b k := ⟨_, rfl⟩
  obtain ⟨rb, hrb⟩ : ∃ rb, rb = rgB b k := ⟨_, rfl⟩
  rw [← hrn] at HN ⊢
  rw [← hrb] at HB ⊢
  have HBL := Lib.hid hbl
  have hki : (k : Int) ≤ 255 := by omega
  have hx2i : (x2.toNat : Int) < 256 := by omega
  clear hq1 hq4 hq5 hrf hrn hrb hx hx2 hx3 hbl hr hd1 hd2 hd3 HD1 HD2 HD3
  cases q1 with
  | false =>
    have hrn : rn = 0 := by rw [HN.out, HF.out]; rfl
    have hrb : rb = [] := by rw [HB.out, HF.out]; rfl
    subst hrn; subst hrb
    clear HF HN HB
    go_enter Tryz.func98, Tryz.ntmps98
    go_wp2_with fail
    refine ((HNU _).out (by (repeat (first | (with_reducible exact Chg.refl _ _) | (with_reducible assumption) | (with_reducible refine Chg.drewN ?_ _) | (with_reducible refine Chg.drew ?_) | (with_reducible refine Chg.alloc ?_ _) | (with_reducible refine Chg.setCell ?_ (by first | (left; simp [DevH.foot]; done) | (right; simp; done) | (right; simp; omega)) _))))).mono ?_
    rintro e w1 ⟨rfl, hw1⟩
    have HC1 : Hid (Chg No w w1) := by show Chg No w w1; rw [← hw1]; (repeat (first | (with_reducible exact Chg.refl _ _) | (with_reducible assumption) | (with_reducible refine Chg.drewN ?_ _) | (with_reducible refine Chg.drew ?_) | (with_reducible refine Chg.alloc ?_ _) | (with_reducible refine Chg.setCell ?_ (by first | (left; simp [DevH.foot]; done) | (right; simp; done) | (right; simp; omega)) _)))
    clear hw1 hs2 hs2' hs3 hs3' HNU HN3
    go_wp2_with fail
    first
      | (go_region_with
          ((first
            | (go_at_call 112; refine (gmagic_calls _).mono ?_; rintro e w' ⟨rfl, rfl⟩)
            | (go_at_call 93; refine ((HEQ _ _).out (by have := HC1.out; (repeat (first | (with_reducible exact Chg.refl _ _) | (with_reducible assumption) | (with_reducible refine Chg.drewN ?_ _) | (with_reducible refine Chg.drew ?_) | (with_reducible refine Chg.alloc ?_ _) | (with_reducible refine Chg.setCell ?_ (by first | (left; simp [DevH.foot]; done) | (right; simp; done) | (right; simp; omega)) _)))) (by first | exact rd_gmagic _ | exact (rd_gmagic _).drewN _)).mono ?_; rintro e w' ⟨rfl, hc'⟩; have hc9 : Chg No w w' := (by have := HC1.out; (repeat (first | (with_reducible exact Chg.refl _ _) | (with_reducible assumption) | (with_reducible refine Chg.drewN ?_ _) | (with_reducible refine Chg.drew ?_) | (with_reducible refine Chg.alloc ?_ _) | (with_reducible refine Chg.setCell ?_ (by first | (left; simp [DevH.foot]; done) | (right; simp; done) | (right; simp; omega)) _))) : Chg No w _).trans hc'; clear hc'))))
      | fail "region"
    all_goals
      go_wp2
      go_ret2
      exact ⟨_, rfl, CutOf.none _ _, by (repeat (first | (with_reducible exact Chg.refl _ _) | (with_reducible assumption) | (with_reducible refine Chg.drewN ?_ _) | (with_reducible refine Chg.drew ?_) | (with_reducible refine Chg.alloc ?_ _) | (with_reducible refine Chg.setCell ?_ (by first | (left; simp [DevH.foot]; done) | (right; simp; done) | (right; simp; omega)) _)))⟩
  | true =>
    by_cases z : x2.toNat = k
    rotate_left
    · have b2 : ((x2.toNat : Int) != (k : Int)) = true := by simp; omega
      have b2' : ¬ (x2.toNat : Int) = (k : Int) := by omega
      have hrn : rn = 0 := by rw [HN.out, HF.out]; simp [z]
      have hrb : rb = [] := by rw [HB.out, HF.out]; simp [z]
      subst hrn; subst hrb
      clear HF HN HB z HN3 hs3 hs3'
      go_enter Tryz.func98, Tryz.ntmps98
      go_wp2_with fail
      refine ((HNU _).out (by (repeat (first | (with_reducible exact Chg.refl _ _) | (with_reducible assumption) | (with_reducible refine Chg.drewN ?_ _) | (with_reducible refine Chg.drew ?_) | (with_reducible refine Chg.alloc ?_ _) | (with_reducible refine Chg.setCell ?_ (by first | (left; simp [DevH.foot]; done) | (right; simp; done) | (right; simp; omega)) _))))).mono ?_
      rintro e w1 ⟨rfl, hw1⟩
      have HC1 : Hid (Chg No w w1) := by show Chg No w w1; rw [← hw1]; (repeat (first | (with_reducible exact Chg.refl _ _) | (with_reducible assumption) | (with_reducible refine Chg.drewN ?_ _) | (with_reducible refine Chg.drew ?_) | (with_reducible refine Chg.alloc ?_ _) | (with_reducible refine Chg.setCell ?_ (by first | (left; simp [DevH.foot]; done) | (right; simp; done) | (right; simp; omega)) _)))
      have HR1 := Lib.hid (HR.out.chg HC1.out (fun _ _ _ _ h => h))
      have d2 := rd_cell HR1.out (Chg.refl No w1) HX2.out
      have d3 := rd_cell HR1.out (Chg.refl No w1) HX3.out
      clear hw1 hs2 hs2' HNU
      have hwr : IntKind.i64.wrap (x2.toNat : Int) = x2.toNat := IntWalk.i64_in _ (by omega)
      go_wp2_with fail
      first
        | (go_region_with
            ((first
              | (go_at_call 112; refine (gmagic_calls _).mono ?_; rintro e w' ⟨rfl, rfl⟩)
              | (go_at_call 93; refine ((HEQ _ _).out (by have := HC1.out; (repeat (first | (with_reducible exact Chg.refl _ _) | (with_reducible assumption) | (with_reducible refine Chg.drewN ?_ _) | (with_reducible refine Chg.drew ?_) | (with_reducible refine Chg.alloc ?_ _) | (with_reducible refine Chg.setCell ?_ (by first | (left; simp [DevH.foot]; done) | (right; simp; done) | (right; simp; omega)) _)))) (by first | exact rd_gmagic _ | exact (rd_gmagic _).drewN _)).mono ?_; rintro e w' ⟨rfl, hc'⟩; have hc9 : Chg No w1 w' := (by (repeat (first | (with_reducible exact Chg.refl _ _) | (with_reducible assumption) | (with_reducible refine Chg.drewN ?_ _) | (with_reducible refine Chg.drew ?_) | (with_reducible refine Chg.alloc ?_ _) | (with_reducible refine Chg.setCell ?_ (by first | (left; simp [DevH.foot]; done) | (right; simp; done) | (right; simp; omega)) _))) : Chg No w1 _).trans hc'; have d2' := rd_cell HR1.out hc9 HX2.out; have d3' := rd_cell HR1.out hc9 HX3.out; clear hc'))))
        | fail "region"
      all_goals
        go_wp2
        go_ret2
        exact ⟨_, rfl, CutOf.none _ _, HC1.out.trans (by (repeat (first | (with_reducible exact Chg.refl _ _) | (with_reducible assumption) | (with_reducible refine Chg.drewN ?_ _) | (with_reducible refine Chg.drew ?_) | (with_reducible refine Chg.alloc ?_ _) | (with_reducible refine Chg.setCell ?_ (by first | (left; simp [DevH.foot]; done) | (right; simp; done) | (right; simp; omega)) _))))⟩
    obtain rfl := z
    by_cases z : x3 = 0
    rotate_left
    · have b3 : ((x3.toNat : Int) != 0) = true := by simp; intro h; exact z (UInt8.toNat_inj.1 (by rw [h]; rfl))
      have b3' : ¬ (x3.toNat : Int) = 0 := by simpa using b3
      have hrn : rn = 0 := by rw [HN.out, HF.out]; simp [z]
      have hrb : rb = [] := by rw [HB.out, HF.out]; simp [z]
      subst hrn; subst hrb
      clear HF HN HB z HN3 hs3 hs3'
      go_enter Tryz.func98, Tryz.ntmps98
      go_wp2_with fail
      refine ((HNU _).out (by (repeat (first | (with_reducible exact Chg.refl _ _) | (with_reducible assumption) | (with_reducible refine Chg.drewN ?_ _) | (with_reducible refine Chg.drew ?_) | (with_reducible refine Chg.alloc ?_ _) | (with_reducible refine Chg.setCell ?_ (by first | (left; simp [DevH.foot]; done) | (right; simp; done) | (right; simp; omega)) _))))).mono ?_
      rintro e w1 ⟨rfl, hw1⟩
      have HC1 : Hid (Chg No w w1) := by show Chg No w w1; rw [← hw1]; (repeat (first | (with_reducible exact Chg.refl _ _) | (with_reducible assumption) | (with_reducible refine Chg.drewN ?_ _) | (with_reducible refine Chg.drew ?_) | (with_reducible refine Chg.alloc ?_ _) | (with_reducible refine Chg.setCell ?_ (by first | (left; simp [DevH.foot]; done) | (right; simp; done) | (right; simp; omega)) _)))
      have HR1 := Lib.hid (HR.out.chg HC1.out (fun _ _ _ _ h => h))
      have d2 := rd_cell HR1.out (Chg.refl No w1) HX2.out
      have d3 := rd_cell HR1.out (Chg.refl No w1) HX3.out
      clear hw1 hs2 hs2' HNU
      have hwr : IntKind.i64.wrap (x2.toNat : Int) = x2.toNat := IntWalk.i64_in _ (by omega)
      go_wp2_with fail
      first
        | (go_region_with
          ((first
            | (go_at_call 112; refine (gmagic_calls _).mono ?_; rintro e w' ⟨rfl, rfl⟩)
            | (go_at_call 93; refine ((HEQ _ _).out (by have := HC1.out; (repeat (first | (with_reducible exact Chg.refl _ _) | (with_reducible assumption) | (with_reducible refine Chg.drewN ?_ _) | (with_reducible refine Chg.drew ?_) | (with_reducible refine Chg.alloc ?_ _) | (with_reducible refine Chg.setCell ?_ (by first | (left; simp [DevH.foot]; done) | (right; simp; done) | (right; simp; omega)) _)))) (by first | exact rd_gmagic _ | exact (rd_gmagic _).drewN _)).mono ?_; rintro e w' ⟨rfl, hc'⟩; have hc9 : Chg No w1 w' := (by (repeat (first | (with_reducible exact Chg.refl _ _) | (with_reducible assumption) | (with_reducible refine Chg.drewN ?_ _) | (with_reducible refine Chg.drew ?_) | (with_reducible refine Chg.alloc ?_ _) | (with_reducible refine Chg.setCell ?_ (by first | (left; simp [DevH.foot]; done) | (right; simp; done) | (right; simp; omega)) _))) : Chg No w1 _).trans hc'; have d2' := rd_cell HR1.out hc9 HX2.out; have d3' := rd_cell HR1.out hc9 HX3.out; clear hc'))))
        | fail "region"
      all_goals
        go_wp2
        go_ret2
        exact ⟨_, rfl, CutOf.none _ _, HC1.out.trans (by (repeat (first | (with_reducible exact Chg.refl _ _) | (with_reducible assumption) | (with_reducible refine Chg.drewN ?_ _) | (with_reducible refine Chg.drew ?_) | (with_reducible refine Chg.alloc ?_ _) | (with_reducible refine Chg.setCell ?_ (by first | (left; simp [DevH.foot]; done) | (right; simp; done) | (right; simp; omega)) _))))⟩
    replace HX3 : Hid ((bys b)[3]? = some (.int .u8 0)) := by show _ = _; rw [HX3.out, z]; rfl
    subst z
    by_cases z : q4 ≤ 368
    rotate_left
    · have b4 : decide ((368 : Int) < (q4 : Int)) = true := by simp; omega
      have hrn : rn = 0 := by rw [HN.out, HF.out]; simp [z]
      have hrb : rb = [] := by rw [HB.out, HF.out]; simp [z]
      subst hrn; subst hrb
      clear HF HN HB z HN3 hs3 hs3'
      go_enter Tryz.func98, Tryz.ntmps98
      go_wp2_with fail
      refine ((HNU _).out (by (repeat (first | (with_reducible exact Chg.refl _ _) | (with_reducible assumption) | (with_reducible refine Chg.drewN ?_ _) | (with_reducible refine Chg.drew ?_) | (with_reducible refine Chg.alloc ?_ _) | (with_reducible refine Chg.setCell ?_ (by first | (left; simp [DevH.foot]; done) | (right; simp; done) | (right; simp; omega)) _))))).mono ?_
      rintro e w1 ⟨rfl, hw1⟩
      have HC1 : Hid (Chg No w w1) := by show Chg No w w1; rw [← hw1]; (repeat (first | (with_reducible exact Chg.refl _ _) | (with_reducible assumption) | (with_reducible refine Chg.drewN ?_ _) | (with_reducible refine Chg.drew ?_) | (with_reducible refine Chg.alloc ?_ _) | (with_reducible refine Chg.setCell ?_ (by first | (left; simp [DevH.foot]; done) | (right; simp; done) | (right; simp; omega)) _)))
      have HR1 := Lib.hid (HR.out.chg HC1.out (fun _ _ _ _ h => h))
      have d2 := rd_cell HR1.out (Chg.refl No w1) HX2.out
      have d3 := rd_cell HR1.out (Chg.refl No w1) HX3.out
      clear hw1 hs2 hs2' HNU
      have hwr : IntKind.i64.wrap (x2.toNat : Int) = x2.toNat := IntWalk.i64_in _ (by omega)
      go_wp2_with fail
      go_region_held3 (fun w' => w'.cell? ⟨g, off + 2, none⟩ = some (.int .u8 x2.toNat) ∧ w'.cell? ⟨g, off + 3, none⟩ = some (.int .u8 0)) (first | go_keep)
          ((first
            | (go_at_call 112; refine (gmagic_calls _).mono ?_; rintro e w' ⟨rfl, rfl⟩)
            | (go_at_call 93; refine ((HEQ _ _).out (by have := HC1.out; (repeat (first | (with_reducible exact Chg.refl _ _) | (with_reducible assumption) | (with_reducible refine Chg.drewN ?_ _) | (with_reducible refine Chg.drew ?_) | (with_reducible refine Chg.alloc ?_ _) | (with_reducible refine Chg.setCell ?_ (by first | (left; simp [DevH.foot]; done) | (right; simp; done) | (right; simp; omega)) _)))) (by first | exact rd_gmagic _ | exact (rd_gmagic _).drewN _)).mono ?_; rintro e w' ⟨rfl, hc'⟩; have hc9 : Chg No w1 w' := (by (repeat (first | (with_reducible exact Chg.refl _ _) | (with_reducible assumption) | (with_reducible refine Chg.drewN ?_ _) | (with_reducible refine Chg.drew ?_) | (with_reducible refine Chg.alloc ?_ _) | (with_reducible refine Chg.setCell ?_ (by first | (left; simp [DevH.foot]; done) | (right; simp; done) | (right; simp; omega)) _))) : Chg No w1 _).trans hc'; have d2' := rd_cell HR1.out hc9 HX2.out; have d3' := rd_cell HR1.out hc9 HX3.out; clear hc')))
      all_goals
        go_wp2
        go_ret2
        exact ⟨_, rfl, CutOf.none _ _, HC1.out.trans (by (repeat (first | (with_reducible exact Chg.refl _ _) | (with_reducible assumption) | (with_reducible refine Chg.drewN ?_ _) | (with_reducible refine Chg.drew ?_) | (with_reducible refine Chg.alloc ?_ _) | (with_reducible refine Chg.setCell ?_ (by first | (left; simp [DevH.foot]; done) | (right; simp; done) | (right; simp; omega)) _))))⟩
    have hrn : rn = q5 := by rw [HN.out, HF.out]; simp [z]
    have hrb : Hid (rb = cut b 16 (16 + q4)) := by show _ = _; rw [HB.out, HF.out]; simp [z]
    subst hrn
    have b4 : decide ((368 : Int) < (q4 : Int)) = false := by simp; omega
    clear HF HN HB
    obtain ⟨A4, hs4, hd4⟩ := sub_slice (P := Tryz.prog) Tryz.underlying40 ti_u8 (some ⟨g, off, none⟩) 384 c 16 (16 + (q4 : Int)) (by omega) (by omega) (by omega)
    have hs4' : ∀ W : World, (Instr.sliceAt tBytes (.slice (some ⟨g, off, none⟩) 384 c) (some (.int .i64 16)) (some (.int .i64 (16 + (q4 : Int)))) none).run Tryz.prog W = _ := fun W => (run_sliceAt_slice W tBytes _ _ _ _ Tryz.underlying40).trans (hs4 W)
    have et : (16 + (q4 : Int)).toNat = 16 + q4 := by omega
    have HLR : Hid (rb.length = q4) := by show _ = _; rw [hrb.out]; unfold cut; simp [HBL.out]; omega
    have HD4 : Hid (CutOf (some ⟨g, off, none⟩) b (.slice A4 q4 (c - 16)) rb) := by
      refine ⟨A4, c - 16, by rw [HLR.out], by rw [HLR.out]; omega, fun W hW => ?_⟩
      have h4 := hd4 W tU8 (bys b) hW (by omega)
      rw [et] at h4
      rw [HLR.out, hrb.out]
      unfold cut
      rw [bys_take, bys_drop]
      simpa using h4
    simp only [Int.reduceToNat, et, Nat.add_sub_cancel_left] at hs4 hs4'
    have e16 : IntKind.i64.wrap (16 + (q4 : Int)) = 16 + (q4 : Int) := IntWalk.i64_in _ (by omega)
    clear hd4 et
    go_enter Tryz.func98, Tryz.ntmps98
    go_wp2_with fail
    refine ((HNU _).out (by (repeat (first | (with_reducible exact Chg.refl _ _) | (with_reducible assumption) | (with_reducible refine Chg.drewN ?_ _) | (with_reducible refine Chg.drew ?_) | (with_reducible refine Chg.alloc ?_ _) | (with_reducible refine Chg.setCell ?_ (by first | (left; simp [DevH.foot]; done) | (right; simp; done) | (right; simp; omega)) _))))).mono ?_
    rintro e w1 ⟨rfl, hw1⟩
    have HC1 : Hid (Chg No w w1) := by show Chg No w w1; rw [← hw1]; (repeat (first | (with_reducible exact Chg.refl _ _) | (with_reducible assumption) | (with_reducible refine Chg.drewN ?_ _) | (with_reducible refine Chg.drew ?_) | (with_reducible refine Chg.alloc ?_ _) | (with_reducible refine Chg.setCell ?_ (by first | (left; simp [DevH.foot]; done) | (right; simp; done) | (right; simp; omega)) _)))
    have HR1 := Lib.hid (HR.out.chg HC1.out (fun _ _ _ _ h => h))
    have d2 := rd_cell HR1.out (Chg.refl No w1) HX2.out
    have d3 := rd_cell HR1.out (Chg.refl No w1) HX3.out
    clear hw1 hs2 hs2' HNU
    have hwr : IntKind.i64.wrap (x2.toNat : Int) = x2.toNat := IntWalk.i64_in _ (by omega)
    go_wp2_with fail
    go_region_held3 (fun w' => w'.cell? ⟨g, off + 2, none⟩ = some (.int .u8 x2.toNat) ∧ w'.cell? ⟨g, off + 3, none⟩ = some (.int .u8 0)) (first | go_keep)
        ((first
          | (go_at_call 112; refine (gmagic_calls _).mono ?_; rintro e w' ⟨rfl, rfl⟩)
          | (go_at_call 93; refine ((HEQ _ _).out (by have := HC1.out; (repeat (first | (with_reducible exact Chg.refl _ _) | (with_reducible assumption) | (with_reducible refine Chg.drewN ?_ _) | (with_reducible refine Chg.drew ?_) | (with_reducible refine Chg.alloc ?_ _) | (with_reducible refine Chg.setCell ?_ (by first | (left; simp [DevH.foot]; done) | (right; simp; done) | (right; simp; omega)) _)))) (by first | exact rd_gmagic _ | exact (rd_gmagic _).drewN _)).mono ?_; rintro e w' ⟨rfl, hc'⟩; have hc9 : Chg No w1 w' := (by (repeat (first | (with_reducible exact Chg.refl _ _) | (with_reducible assumption) | (with_reducible refine Chg.drewN ?_ _) | (with_reducible refine Chg.drew ?_) | (with_reducible refine Chg.alloc ?_ _) | (with_reducible refine Chg.setCell ?_ (by first | (left; simp [DevH.foot]; done) | (right; simp; done) | (right; simp; omega)) _))) : Chg No w1 _).trans hc'; have d2' := rd_cell HR1.out hc9 HX2.out; have d3' := rd_cell HR1.out hc9 HX3.out; clear hc')))
    have hq4r : ¬ (368 : Int) < (q4 : Int) := by omega
    have w4 : IntKind.i64.wrap (q4 : Int) = q4 := IntWalk.i64_in _ (by omega)
    have i0 : (0 : Int) ≤ 16 + (q4 : Int) := by omega
    have i1 : (16 : Int) ≤ 16 + (q4 : Int) := by omega
    have i2 : 16 + (q4 : Int) ≤ 384 := by omega
    go_wp2_with fail
    go_quiet ((go_at_call 118; exact quiet_left ((HN3 _).out (HC1.out.trans (by (repeat (first | (with_reducible exact Chg.refl _ _) | (with_reducible assumption) | (with_reducible refine Chg.drewN ?_ _) | (with_reducible refine Chg.drew ?_) | (with_reducible refine Chg.alloc ?_ _) | (with_reducible refine Chg.setCell ?_ (by first | (left; simp [DevH.foot]; done) | (right; simp; done) | (right; simp; omega)) _))))))))
    go_wp2
    go_ret2
    exact ⟨_, rfl, HD4.out, HC1.out.trans (by (repeat (first | (with_reducible exact Chg.refl _ _) | (with_reducible assumption) | (with_reducible refine Chg.drewN ?_ _) | (with_reducible refine Chg.drew ?_) | (with_reducible refine Chg.alloc ?_ _) | (with_reducible refine Chg.setCell ?_ (by first | (left; simp [DevH.foot]; done) | (right; simp; done) | (right; simp; omega)) _))))⟩

/-- stands: the number that stands on a page -/
theorem stands_page (A : Option Addr) (c : Nat) (b : List UInt8) (w : World) (hr : Rd w tU8 A 384 (bys b)) (hc : 384 ≤ c) :
    Calls Tryz.prog 97 #[.slice A 384 c] w fun e w' => e = .returned (.int .u64 (Pg.full b).rs) ∧ Chg No w w' := by
  have hbl : b.length = 384 := by rw [← bys_length]; exact hr.1
  obtain ⟨g, off, rfl, hg, hx⟩ := hr.at_ (j := 0) (by omega)
  obtain ⟨x2, hx2⟩ : ∃ x, b[2]? = some x := ⟨_, List.getElem?_eq_getElem (by omega)⟩
  have c2 := hx 2 _ (by simp only [bys, List.getElem?_map, hx2]; rfl)
  have hE : Hid ((Pg.full b).rs = rgN b x2.toNat) := by show rgN b _ = _; rw [List.getD_eq_getElem?_getD, hx2]; rfl
  have hx2l : x2.toNat < 256 := x2.toNat_lt
  have HRD := fun W => Lib.hid (fun hc' : Chg No w W => read_page (some ⟨g, off, none⟩) c b x2.toNat W (hr.chg hc' (fun _ _ _ _ h => h)) hc (by omega))
  obtain ⟨rn, hrn⟩ : ∃ rn, rn = rgN b x2.toNat := ⟨_, rfl⟩
  rw [← hrn] at hE HRD
  clear hr hx hx2 hbl hrn
  go_enter Tryz.func97, Tryz.ntmps97
  go_wp2_with fail
  have hwr : IntKind.i64.wrap (x2.toNat : Int) = x2.toNat := IntWalk.i64_in _ (by omega)
  first
    | (go_region_with ((go_at_call 98; refine ((HRD _).out (by (repeat (first | (with_reducible exact Chg.refl _ _) | (with_reducible assumption) | (with_reducible refine Chg.drewN ?_ _) | (with_reducible refine Chg.drew ?_) | (with_reducible refine Chg.alloc ?_ _) | (with_reducible refine Chg.setCell ?_ (by first | (left; simp [DevH.foot]; done) | (right; simp; done) | (right; simp; omega)) _))))).mono ?_; rintro e w1 ⟨v, rfl, _, hc1⟩; have HC1 := Lib.hid hc1; clear hc1)))
    | (refine ((HRD _).out (by (repeat (first | (with_reducible exact Chg.refl _ _) | (with_reducible assumption) | (with_reducible refine Chg.drewN ?_ _) | (with_reducible refine Chg.drew ?_) | (with_reducible refine Chg.alloc ?_ _) | (with_reducible refine Chg.setCell ?_ (by first | (left; simp [DevH.foot]; done) | (right; simp; done) | (right; simp; omega)) _))))).mono ?_; rintro e w1 ⟨v, rfl, _, hc1⟩; have HC1 := Lib.hid hc1; clear hc1)
  all_goals
    go_wp2
    go_ret
    exact ⟨by rw [hE.out]; rfl, (by (repeat (first | (with_reducible exact Chg.refl _ _) | (with_reducible assumption) | (with_reducible refine Chg.drewN ?_ _) | (with_reducible refine Chg.drew ?_) | (with_reducible refine Chg.alloc ?_ _) | (with_reducible refine Chg.setCell ?_ (by first | (left; simp [DevH.foot]; done) | (right; simp; done) | (right; simp; omega)) _))) : Chg No w _).trans HC1.out⟩
end Go.Proofs.YtplpbbdakihnfaaGreat
end

/- append(v, make([]T, n)...); the law's proof began as the text that the kit's printer wrote for this seat. -/
section
namespace Go.Proofs.YtplpbbdakihnfaaGreat
open Go.RowKit
set_option linter.unusedSimpArgs false
set_option linter.unusedVariables false

namespace Zs
theorem add_plain (g j : Nat) : (⟨g, 0, none⟩ : Addr).add j = ⟨g, j, none⟩ := by unfold Addr.add; split <;> simp_all
theorem blk_frozen {w : World} {g : Nat} {t : TypeId} {cs : Array Value} (h : w.heap[g]? = some (.cells cs t (0, 0))) (i : Nat) : w.frozen? ⟨g, i, none⟩ = false := by simp [World.frozen?, h]
theorem setCells_far {g : Nat} : ∀ (vs : List Value) (o : Nat) {w : World} (k : Nat), k ≠ g → (w.setCells g o vs).heap[k]? = w.heap[k]?
  | [], _, _, _, _ => rfl
  | v :: r, o, w, k, hk => by
    rw [World.setCells, setCells_far r (o + 1) k hk]
    exact Below.heap_setCell w ⟨g, o, none⟩ v k hk
theorem setCells_same (g : Nat) : ∀ (vs : List Value) (o : Nat) (w : World), (w.setCells g o vs).os = w.os ∧ (w.setCells g o vs).tape = w.tape ∧ (w.setCells g o vs).output = w.output ∧ (w.setCells g o vs).heap.size = w.heap.size
  | [], _, _ => ⟨rfl, rfl, rfl, rfl⟩
  | v :: r, o, w => by
    obtain ⟨h1, h2, h3, h4⟩ := setCells_same g r (o + 1) (w.setCell ⟨g, o, none⟩ v)
    rw [World.setCells]
    exact ⟨h1, h2, h3, by rw [h4]; simp [World.setCell]⟩
theorem setCells_row {g : Nat} {e : TypeId} : ∀ (vs : List Value) (o : Nat) (w : World) (cur : Array Value), w.heap[g]? = some (.cells cur e (0, 0)) → o + vs.length ≤ cur.size →
    ∃ cur', (w.setCells g o vs).heap[g]? = some (.cells cur' e (0, 0)) ∧ cur'.size = cur.size ∧ cur'.toList = cur.toList.take o ++ vs ++ cur.toList.drop (o + vs.length)
  | [], o, w, cur, h, _ => ⟨cur, h, rfl, by simp⟩
  | v :: r, o, w, cur, h, hl => by
    have h2 := Blk.set_ h o v
    simp only [List.length_cons] at hl
    obtain ⟨cur', h3, h4, h5⟩ := setCells_row r (o + 1) (w.setCell ⟨g, o, none⟩ v) _ h2 (by simp; omega)
    refine ⟨cur', h3, by rw [h4]; simp, ?_⟩
    rw [h5, Array.toList_setIfInBounds]
    have ho : o < cur.toList.length := by rw [Array.length_toList]; omega
    rw [List.take_set, List.drop_set_of_lt (by omega)]
    simp only [List.length_cons]
    rw [show o + 1 + r.length = o + (r.length + 1) by omega]
    congr 1
    rw [List.take_succ_eq_append_getElem ho, List.set_append_right _ _ (by rw [List.length_take]; omega)]
    have ho' : o < cur.size := by omega
    simp [Nat.min_eq_left (Nat.le_of_lt ho')]
end Zs
open Zs

section
variable {P : Program}
theorem run_append_zeros (w : World) (base : Nat) (t ti ty e : TypeId) (i : TypeInfo) (z : Value) (size bytes : Nat) (ht : P.underlying t = some (.slice e)) {k : IntKind} (hti : P.underlying ti = some (.int k)) (hi : P.info? e = some i) (hz : i.zero = some z)
    (hsize : i.size = size) (hby : i.bytes = bytes) (hzs : z.cells.size = size) (hsz : 0 < size) (hb0 : 0 < bytes)
    (v : Value) (n : Nat) (xs : List Value) (hown : w.ownsRow base e size v n xs) (kx : IntKind) (m : Nat) (h1 : ∀ u ∈ (Builtin.zeroCells z.cells m).toList, u.oneCell' = true)
    (hbytes : (n + m) * bytes ≤ 140737488355328) (hbase : base ≤ w.heap.size) :
    ∃ v' w', (Builtin.append_ #[t, ti] ty #[v, .int kx m]).run P w = .ok v' w' ∧ w'.ownsRow base e size v' (n + m) (xs ++ (Builtin.zeroCells z.cells m).toList) ∧ w.grownBy w' v.ownBlock ∧
      (v'.ownBlock = v.ownBlock ∨ v'.ownBlock = some w.heap.size) := by
  subst hsize
  subst hby
  have hle : n + m ≤ 140737488355328 := Nat.le_trans (Nat.le_mul_of_pos_right _ hb0) hbytes
  have h63 : n + m ≤ maxLen := by simp only [maxLen]; omega
  have hw : IntKind.i64.wrap (m : Int) = m := by rw [IntKind.wrap_i64]; omega
  have hw0 : IntKind.i64.wrap 0 = 0 := by rw [IntKind.wrap_i64]; rfl
  have hneg : ¬ ((m : Int) < 0) := by omega
  have hmb : m * i.bytes ≤ 140737488355328 := Nat.le_trans (Nat.mul_le_mul_right _ (Nat.le_add_left m n)) hbytes
  have hbig : ¬ (281474976710656 < (m : Int) * (i.bytes : Int)) := by
    rw [← Int.natCast_mul]
    omega
  have hsn : i.size ≠ 0 := by omega
  obtain ⟨news, hnews⟩ : ∃ news, news = (Builtin.zeroCells z.cells m).toList := ⟨_, rfl⟩
  rw [← hnews] at h1 ⊢
  have hl : news.length = m * i.size := by rw [hnews, Array.length_toList, size_zeroCells, hzs]
  have hna : Builtin.zeroCells z.cells m = news.toArray := by rw [hnews]
  have hlen : (xs ++ news).length = (n + m) * i.size := by rw [List.length_append, hown.1, hl, Nat.add_mul]
  have hnil : m = 0 → news = [] := fun h => List.eq_nil_of_length_eq_zero (by rw [hl, h, Nat.zero_mul])
  have grown : ∀ (old : Nat), old < n + m → ∀ (row : Option Nat),
      (w.drew.alloc (.cells (xs.toArray ++ news.toArray ++ Builtin.zeroCells z.cells (grownCap w (n + m) old e - (n + m))) e)).ownsRow base e i.size
        (.slice (some ⟨w.heap.size, 0, none⟩) (n + m) (grownCap w (n + m) old e)) (n + m) (xs ++ news) ∧
      w.grownBy (w.drew.alloc (.cells (xs.toArray ++ news.toArray ++ Builtin.zeroCells z.cells (grownCap w (n + m) old e - (n + m))) e)) row := by
    intro old ho row
    have hge := grownCap_ge w (n + m) old e
    have hcm : grownCap w (n + m) old e ≤ maxLen := grownCap_le_maxLen w (n + m) old e h63
    refine ⟨⟨hlen, .inr ⟨w.heap.size, _, _, rfl, hbase, heap_alloc_new w.drew _, hge, hcm, ?_, ?_⟩⟩, ⟨rfl, rfl, rfl, by simp, fun k hk _ => heap_alloc_old w.drew _ hk⟩⟩
    · simp only [Array.size_append, List.size_toArray, size_zeroCells, hzs, hown.1, hl, ← Nat.add_mul]
      congr 1
      omega
    · simp only [Array.toList_append, List.append_assoc]
      rw [← List.append_assoc, ← hlen]
      exact List.take_left
  have runs : ∀ (A : Option Addr) (cap : Nat), cap < n + m → (Builtin.firstCells i.size n (.slice A n cap)).run P w.drew = .ok xs.toArray w.drew → (Builtin.append_ #[t, ti] ty #[.slice A n cap, .int kx m]).run P w =
      .ok (.slice (some ⟨w.heap.size, 0, none⟩) (n + m) (grownCap w (n + m) cap e)) (w.drew.alloc (.cells (xs.toArray ++ news.toArray ++ Builtin.zeroCells z.cells (grownCap w (n + m) cap e - (n + m))) e)) := by
    intro A cap hcap hfo
    have hn : ¬ (n + m ≤ cap) := by omega
    have h63' : ¬ (9223372036854775807 < ((n : Int) + (m : Int))) := by omega
    have hfit := growslice_fits hcap hbytes
    have h48' : ¬ (281474976710656 < Builtin.nextslicecap (n + m) cap * i.bytes) := by omega
    by_cases hm : m = 0
    · have hnl := hnil hm
      subst hm
      rw [hnl]
      simp only [Nat.add_zero] at hn h63' h48' ⊢
      have h63'' : ¬ (9223372036854775807 < (n : Int)) := by omega
      simp [Builtin.append_, run_underlying ht, run_underlying hti, sizeOf, typeInfo, zeroValue, hi, hz, asInt, asIntOf, hw0, hn, h63'', h48', Question.forced, hfo, newRow, grownCap]
    · have hmz : ¬ (m * i.size = 0) := Nat.mul_ne_zero hm hsn
      simp [Builtin.append_, run_underlying ht, run_underlying hti, sizeOf, typeInfo, zeroValue, hi, hz, asInt, asIntOf, hw, hneg, hbig, hn, h63', h48', Question.forced, hfo, newRow, grownCap, hmz, hna]
      congr 2
      apply Array.ext'
      simp [List.append_assoc]
  rcases hown.2 with ⟨rfl, rfl⟩ | ⟨g, cap, cur, rfl, hbg, hg, hnc, hcm, hcs, htake⟩
  · have hx : xs = [] := List.eq_nil_of_length_eq_zero (by simpa using hown.1)
    subst hx
    by_cases hm : m = 0
    · have hnl := hnil hm
      subst hm
      rw [hnl]
      refine ⟨.slice none 0 0, w, ?_, World.ownsRow_nil w base e i.size, ⟨rfl, rfl, rfl, Nat.le_refl _, fun _ _ _ => rfl⟩, Or.inl rfl⟩
      simp [Builtin.append_, run_underlying ht, run_underlying hti, sizeOf, typeInfo, hi, asInt, asIntOf, hw0]
    · have hgr := grown 0 (by omega) (Value.ownBlock (.slice none 0 0))
      exact ⟨_, _, runs none 0 (by omega) (by simp [Builtin.firstCells]), hgr.1, hgr.2, Or.inr rfl⟩
  · by_cases hroom : n + m ≤ cap
    · have hfit : n * i.size + news.length ≤ cur.size := by rw [hl, hcs, ← Nat.add_mul]; exact Nat.mul_le_mul_right _ hroom
      obtain ⟨cur', h3, h4, h5⟩ := setCells_row news (n * i.size) w cur hg hfit
      obtain ⟨s1, s2, s3, s4⟩ := setCells_same g news (n * i.size) w
      have hst := run_storeCells_cells (P := P) g (n * i.size) news 0 w (fun j hj => by rw [cell_of_row w g _ cur e (0, 0) hg]; simp; omega) (fun j _ => blk_frozen hg _) h1
      simp only [Nat.add_zero] at hst
      refine ⟨.slice (some ⟨g, 0, none⟩) (n + m) cap, w.setCells g (n * i.size) news, ?_, ⟨hlen, .inr ⟨g, cap, cur', rfl, hbg, h3, hroom, hcm, by rw [h4, hcs], ?_⟩⟩, ⟨s1, s2, s3, by rw [s4]; exact Nat.le_refl _, fun k _ hk => setCells_far news _ k (fun e => hk (by simp [Value.ownBlock, e]))⟩, Or.inl rfl⟩
      · by_cases hm : m = 0
        · have hnl := hnil hm
          subst hm
          rw [hnl] at hst ⊢
          simp [Builtin.append_, run_underlying ht, run_underlying hti, sizeOf, typeInfo, hi, asInt, asIntOf, hw0, hnc, add_plain, hst]
        · have hmz : ¬ (m * i.size = 0) := Nat.mul_ne_zero hm hsn
          simp [Builtin.append_, run_underlying ht, run_underlying hti, sizeOf, typeInfo, zeroValue, hi, hz, asInt, asIntOf, hw, hneg, hbig, hroom, hmz, hna, add_plain, hst]
      · rw [h5]
        have h6 : cur.toList.take (n * i.size) = xs := htake
        rw [h6, ← hlen]
        exact List.take_left
    · have holds : ∀ j u, xs[j]? = some u → w.cell? ((⟨g, 0, none⟩ : Addr).add j) = some u := hown.cells (g := g) rfl
      have hgr := grown cap (by omega) (Value.ownBlock (.slice (some ⟨g, 0, none⟩) n cap))
      exact ⟨_, _, runs (some ⟨g, 0, none⟩) cap (by omega) (run_firstCells_some (P := P) w.drew i.size n _ n cap xs hown.1 (by simpa using holds)), hgr.1, hgr.2, Or.inr rfl⟩

theorem wpList_zeros {ops : Array Oper} {rest : List Oper} {o : Oper} {a : Act} {Q : Exit → Act → World → Prop} {w : World} (hgd : o.guard = none) (s x : Operand) (t ti : TypeId)
    (ho : o.op = .call { callee := .builtin .append, args := #[s, x], argTypes := #[t, ti] })
    (e : TypeId) {z : Value} {bytes : Nat} {k : IntKind} (ht : P.underlying t = some (.slice e)) (hti : P.underlying ti = some (.int k)) (hi : TI P e z 1 bytes) (hz1 : z.cells = #[z]) (hone : z.oneCell' = true) (hb0 : 0 < bytes)
    (base : Nat) (v : Value) (n : Nat) (xs : List Value) (hs : a.eval s = v) (hown : w.ownsRow base e 1 v n xs)
    (m : Nat) (kx : IntKind) (hx : a.eval x = .int kx m)
    (hbytes : (n + m) * bytes ≤ 140737488355328) (hbase : base ≤ w.heap.size)
    (h : ∀ v' w', w'.ownsRow base e 1 v' (n + m) (xs ++ List.replicate m z) → w.grownBy w' v.ownBlock → (v'.ownBlock = v.ownBlock ∨ v'.ownBlock = some w.heap.size) → wpList P ops Q rest (a.put o.dst v') w') :
    wpList P ops Q (o :: rest) a w := by
  refine wpList_plain hgd fun K hK => ?_
  obtain ⟨i, hi', hz, hs1, hby⟩ := info_parts hi
  have hzc : (Builtin.zeroCells z.cells m).toList = List.replicate m z := by
    rw [hz1]
    apply List.ext_getElem
    · simp [Builtin.zeroCells]
    · intro j h1 h2
      simp [Builtin.zeroCells, Nat.mod_one]
  obtain ⟨v', w', hrun, h2, h3, h4⟩ := run_append_zeros (P := P) w base t ti o.type e i z 1 bytes ht hti hi' hz hs1 hby (by rw [hz1]; rfl) (by omega) hb0 v n xs hown kx m (by rw [hzc]; intro u hu; rw [(List.mem_replicate.1 hu).2]; exact hone) hbytes hbase
  rw [hzc] at h2
  unfold Oper.wp execOp
  simp only [ho, resolve, invoke, builtin, Sem.run_bind, Sem.run_pure, Result.andThen_ok, List.map_toArray, List.map_cons, List.map_nil, hs, hx, hrun]
  exact hK _ _ (h v' w' h2 h3 h4)
end
end Go.Proofs.YtplpbbdakihnfaaGreat
end

/- rec.Lay. -/
section
namespace Go.Proofs.YtplpbbdakihnfaaGreat
open Go.RowKit
set_option linter.unusedSimpArgs false
set_option linter.unusedVariables false

theorem records_snoc (l : List Item) (x : Item) : records (l ++ [x]) = records l ++ record x := by simp [records]
theorem goods_append (a b : List Item) : goods (a ++ b) = (goods a && goods b) := by simp [goods]
theorem record_le (x : Item) (h : x.good = true) : (record x).length ≤ 1306 := by
  have hg := h
  simp only [Item.good, Bool.and_eq_true, decide_eq_true_eq] at hg
  have e : (record x).length = x.size := record_length x
  rw [e]; unfold Item.size; omega
theorem records_le (l : List Item) (h : goods l = true) : (records l).length ≤ 1306 * l.length := by
  induction l with
  | nil => simp [records]
  | cons x r ih =>
    simp only [goods, List.all_cons, Bool.and_eq_true] at h
    have h1 := record_le x h.1
    have h2 := ih h.2
    simp only [records, List.flatMap_cons, List.length_append, List.length_cons] at h2 ⊢
    omega

set_option maxRecDepth 100000 in
theorem lay_calls (A : Option Addr) (c : Nat) (l : List Item) (room : Nat) (w : World) (hr : Rd w tItem A (l.length * 5) (its l)) (hn : l.length ≤ 10000000) (hroom : room ≤ 65536) :
    Calls Tryz.prog 73 #[.slice A l.length c, .int .i64 room] w fun e w' => ∃ v, e = .returned (.tuple #[v, .int .i64 (layE l room)]) ∧ w'.ownsRow w.heap.size tU8 1 v (layB l room).length (bys (layB l room)) ∧ Chg No w w' := by
  have HR := Lib.hid hr
  clear hr
  go_enter Tryz.func73, Tryz.ntmps73
  go_wp2
  go_loopg [6, 13] (l.length) (fun g v6 v13 wr => ∃ (k : Nat) , v13 = .int .i64 k ∧ k ≤ l.length ∧ g = l.length - k ∧ Hid (goods (l.take k) = true ∧ wr.ownsRow w.heap.size tU8 1 v6 (records (l.take k)).length (bys (records (l.take k))) ∧ Chg No w wr))
  case atStart => exact ⟨0, rfl, Nat.zero_le _, rfl, ⟨rfl, World.ownsRow_nil _ _ _ _, Chg.refl _ _⟩⟩
  case round =>
    obtain ⟨k, rfl, hk, rfl, H⟩ := hrel
    by_cases h0 : k < l.length
    · obtain ⟨x, hx⟩ : ∃ x, l[k]? = some x := ⟨_, List.getElem?_eq_getElem h0⟩
      have hr1 : Rd wr tItem A (l.length * 5) (its l) := HR.out.chg H.out.2.2 (fun _ _ _ _ h => h)
      obtain ⟨g, off, rfl, hg, hc⟩ := hr1.at_ (j := k * 5) (by omega)
      have c0 := hc (k * 5 + 0) _ (its_get l k 0 x hx (by omega))
      have c1 := hc (k * 5 + 1) _ (its_get l k 1 x hx (by omega))
      have c2 := hc (k * 5 + 2) _ (its_get l k 2 x hx (by omega))
      have c3 := hc (k * 5 + 3) _ (its_get l k 3 x hx (by omega))
      have c4 := hc (k * 5 + 4) _ (its_get l k 4 x hx (by omega))
      simp only [itc, List.getElem_cons_zero, List.getElem_cons_succ, ← Nat.add_assoc, Nat.add_zero] at c0 c1 c2 c3 c4
      have HX := Lib.hid hx
      have HO := Lib.hid H.out.2.1
      have HC := Lib.hid H.out.2.2
      have HG := Lib.hid H.out.1
      have hlen : (records (l.take k)).length ≤ 1306 * k := by
        have := records_le (l.take k) H.out.1
        rw [List.length_take] at this
        omega
      have HL := Lib.hid hlen
      have hbase : w.heap.size ≤ wr.heap.size := H.out.2.2.size
      clear H hlen hr1 hx
      have ht : Hid (l.take (k + 1) = l.take k ++ [x]) := by
        show _ = _
        rw [List.take_add_one, HX.out]; rfl
      by_cases hgx : x.good = true
      · have HP := fun W => Lib.hid (put_good x W hgx)
        have HGX := Lib.hid hgx
        have hrl := record_le x hgx
        clear hgx
        go_wp2_with fail
        refine (HP _).out.mono ?_
        rintro e w1 ⟨v, rfl, ho1, hc1⟩
        obtain ⟨A1, c1, rfl, hc1n, hrd1⟩ := own_slice ho1
        have HO1 := Lib.hid (own_chg HO.out ((Chg.refl No wr).alloc _ |>.trans hc1) (fun _ _ h => h))
        have HC1 := Lib.hid hc1
        have HRD := Lib.hid hrd1
        have hs1 : wr.heap.size + 1 ≤ w1.heap.size := by have := hc1.size; simpa using this
        clear hc1 ho1 hrd1
        go_wp2_with (first
          | (at_builtin; refine wpList_app _ rfl (.tmp 25) (.tmp 26) 40 rfl tU8 Tryz.underlying40 ti_u8 rfl (by omega) w.heap.size _ _ _ rfl HO1.out tU8 _ _ _ _ rfl HRD.out (bys_one) (by have := HL.out; simp only [maxLen]; omega) (by have := HL.out; omega) (by omega) ?_; intro v2 w2 ho2 hg2 hb2; have HO2 := Lib.hid ho2; have HG2 := Lib.hid hg2; clear ho2 hg2 hb2))
        go_roundg (l.length - (k + 1))
        case measure => omega
        case rel =>
          refine ⟨k + 1, rfl, by omega, rfl, ?_, ?_, ?_⟩
          · rw [ht.out, goods_append, HG.out]; simp [goods, HGX.out]
          · rw [ht.out, records_snoc, bys_append, List.length_append]
            exact HO2.out
          · exact ((HC.out.alloc _).trans HC1.out).grown HG2.out (fun k' hk' => .inr (own_new HO1.out k' hk'))
      · have HP := fun W => Lib.hid (put_bad x W (by simpa using hgx))
        have HE : Hid (layE l room = 1) := by
          have : goods l = false := by
            simp only [goods]
            rw [Bool.eq_false_iff]
            intro hall
            exact hgx (List.all_eq_true.1 hall x (List.mem_of_getElem? HX.out))
          show _ = _
          unfold layE
          rw [this]; rfl
        clear hgx
        go_wp2_with fail
        refine (HP _).out.mono ?_
        rintro e w1 ⟨rfl, hc1⟩
        have HC1 := Lib.hid hc1
        clear hc1
        go_wp2
        go_ret2
        refine ⟨_, by rw [HE.out]; rfl, ?_, ?_⟩
        · rw [layB, HE.out]; exact World.ownsRow_nil _ _ _ _
        · exact (HC.out.alloc _).trans HC1.out
    · have hkl : l.take k = l := List.take_of_length_le (by omega)
      rw [hkl] at H
      have hlen := records_le l H.out.1
      have hgl := H.out.1
      obtain ⟨R, hR⟩ : ∃ R, R = (records l).length := ⟨_, rfl⟩
      have HO := Lib.hid H.out.2.1
      have HC := Lib.hid H.out.2.2
      have HRr := Lib.hid hR
      obtain ⟨A1, c1, rfl, hc1n, hrd1⟩ := own_slice HO.out
      have hbase : w.heap.size ≤ wr.heap.size := H.out.2.2.size
      rw [← hR] at hlen
      have e0 : ¬ (65536 : Int) < room := by omega
      have hE : layE l room = if room < R then 7 else 0 := by
        unfold layE
        rw [hgl, if_pos rfl, if_neg e0, ← hR]
        by_cases h : room < R
        · rw [if_pos h, if_pos (by omega)]
        · rw [if_neg h, if_neg (by omega)]
      have HE := Lib.hid hE
      clear H hE hgl hrd1 hkl
      rw [← hR] at HO
      rw [← hR]
      clear hR
      by_cases hfull : room < R
      · have e1 : (room : Int) < (R : Int) := by omega
        rw [if_pos hfull] at HE
        clear hfull
        go_wp2
        go_ret2
        refine ⟨_, by rw [HE.out]; rfl, ?_, ?_⟩
        · rw [layB, HE.out]; exact World.ownsRow_nil _ _ _ _
        · exact HC.out
      · have e1 : ¬ (room : Int) < (R : Int) := by omega
        rw [if_neg hfull] at HE
        obtain ⟨m, hm⟩ : ∃ m, room = R + m := ⟨room - R, by omega⟩
        have e2 : (room : Int) - (R : Int) = (m : Int) := by omega
        have e3 : IntKind.i64.wrap ((room : Int) - (R : Int)) = (m : Int) := by rw [e2]; exact IntWalk.i64_in _ (by omega)
        have HM := Lib.hid hm
        have hmr : R + m ≤ 65536 := by omega
        clear hfull hm
        go_wp2_with (first
          | (at_builtin; refine wpList_zeros rfl (.tmp 37) (.tmp 41) 40 3 rfl tU8 Tryz.underlying40 Tryz.underlying3 ti_u8 rfl rfl (by omega) w.heap.size _ _ _ rfl HO.out m .i64 rfl (by omega) (by omega) ?_; intro v2 w2 ho2 hg2 hb2; have HO2 := Lib.hid ho2; have HG2 := Lib.hid hg2; clear ho2 hg2 hb2))
        go_ret2
        have hb : layB l room = records l ++ List.replicate m 0 := by
          rw [layB, HE.out, if_pos rfl, ← HRr.out, HM.out]
          simp
          omega
        refine ⟨_, by rw [HE.out]; rfl, ?_, ?_⟩
        · rw [hb, List.length_append, List.length_replicate, bys_append]
          have := HO2.out
          rw [HRr.out] at this
          simpa [bys] using this
        · exact HC.out.grown HG2.out (fun k' hk' => .inr (own_new HO.out k' hk'))
end Go.Proofs.YtplpbbdakihnfaaGreat
end

/- Ranging over a map that is not changed meanwhile. -/
section
namespace Go.Proofs.YtplpbbdakihnfaaGreat
open Go.RowKit
open Go.ChangeMaps (setBlock)
set_option linter.unusedSimpArgs false
set_option linter.unusedVariables false
set_option linter.unusedSectionVars false

/-- the iterator in block r goes over the map in block b; 'left' is still to come -/
def Ranging {κ : Type} (K : κ → Value) (w : World) (b r : Nat) (left : List (κ × Value)) : Prop :=
  ∃ arr clock seen, w.heap[b]? = some (.map arr clock) ∧ w.heap[r]? = some (.mapIter (some b) clock seen clock) ∧ (arr.toList.map (·.born)).Nodup ∧ (∀ e ∈ arr.toList, e.born < clock) ∧
    (leftOf arr seen).toList.map (fun e => (e.key, e.val)) = left.map (fun p => (K p.1, p.2)) ∧ (akeys left).Nodup

section
variable {κ : Type} [DecidableEq κ] {K : κ → Value} {P : Program} {w w' : World} {b r : Nat} {es left : List (κ × Value)} {S : Nat → Prop}
theorem Ranging.chg (h : Ranging K w b r left) (hc : Chg S w w') (h1 : ¬ S b) (h2 : ¬ S r) : Ranging K w' b r left := by
  obtain ⟨arr, clock, seen, hb, hr, rest⟩ := h
  exact ⟨arr, clock, seen, hc.at_ hb h1, hc.at_ hr h2, rest⟩
theorem Ranging.ne_ (h : Ranging K w b r left) : r ≠ b := by
  obtain ⟨arr, clock, seen, hb, hr, rest⟩ := h
  rintro rfl
  rw [hb] at hr
  cases hr
theorem Ranging.not_blk (h : Ranging K w b r left) {g t cs fz} (hg : w.heap[g]? = some (.cells cs t fz)) : r ≠ g := by
  obtain ⟨arr, clock, seen, hb, hr, rest⟩ := h
  rintro rfl
  rw [hr] at hg
  cases hg
theorem leftOf_empty (arr : Array MapEntry) : leftOf arr #[] = arr := by
  unfold leftOf
  exact Array.filter_eq_self.2 (fun x _ => by simp)

theorem MapIs.range (h : MapIs K w b es) {T kt e : TypeId} (hT : P.underlying T = some (.map kt e)) :
    ∃ w', (Instr.range T (.map (some b))).run P w = .ok (.pointer (some ⟨w.heap.size, 0, none⟩)) w' ∧ Ranging K w' b w.heap.size es ∧ Chg No w w' ∧ w'.heap.size = w.heap.size + 1 := by
  obtain ⟨arr, clock, hb, hm, hn, hs1, hs2⟩ := h
  have hlt : b < w.heap.size := (Array.getElem?_eq_some_iff.1 hb).1
  refine ⟨w.alloc (.mapIter (some b) clock #[] clock), ?_, ⟨arr, clock, #[], (Below.heap_alloc w _ b hlt).trans hb, heap_alloc_new w _, hs1, hs2, by rw [leftOf_empty]; exact hm, hn⟩, (Chg.refl _ _).alloc _, by simp⟩
  simp only [Instr.range, Sem.run_bind, run_underlying hT, Result.andThen, Go.MapKept.run_getObj_map hb, Sem.run_pure]
  rfl

theorem adel_at : ∀ (l1 : List (κ × Value)) (p : κ × Value) (l2 : List (κ × Value)), (akeys (l1 ++ p :: l2)).Nodup → adel (l1 ++ p :: l2) p.1 = l1 ++ l2 ∧ aget (l1 ++ p :: l2) p.1 = some p.2
  | [], p, l2, _ => by simp [adel, aget]
  | q :: l1, p, l2, h => by
    simp only [akeys, List.cons_append, List.map_cons, List.nodup_cons] at h
    have hne : q.1 ≠ p.1 := fun e => h.1 (by rw [e]; simp)
    obtain ⟨h1, h2⟩ := adel_at l1 p l2 h.2
    exact ⟨by simp [adel, hne, h1], by simp [aget, hne, h2]⟩

/-- a round's beginning: nothing is left, or some pair that is left -/
theorem Ranging.next (h : Ranging K w b r left) (ty : TypeId) :
    (left = [] ∧ (Instr.next (.pointer (some ⟨r, 0, none⟩)) false ty).run P w = .ok (.tuple #[.bool false]) w) ∨
    ∃ k v w', aget left k = some v ∧ (Instr.next (.pointer (some ⟨r, 0, none⟩)) false ty).run P w = .ok (.tuple #[.bool true, K k, v]) w' ∧ Ranging K w' b r (adel left k) ∧ Chg (fun i => i = r) w w' ∧ w'.heap.size = w.heap.size ∧
      (Instr.entry (.pointer (some ⟨r, 0, none⟩))).run P w' = .ok (.tuple #[K k, v]) w' := by
  obtain ⟨arr, clock, seen, hb, hr, hs1, hs2, hm, hn⟩ := h
  have hne : b ≠ r := by
    rintro rfl
    rw [hb] at hr
    cases hr
  have hlt : r < w.heap.size := (Array.getElem?_eq_some_iff.1 hr).1
  rcases run_next_at (P := P) w ty r b clock clock seen arr clock hr hb hs2 (Nat.le_refl _) with ⟨h0, hrun⟩ | ⟨e, he, w1, hw1, hrun⟩
  · left
    refine ⟨?_, hrun⟩
    have : (leftOf arr seen).toList = [] := List.eq_nil_of_length_eq_zero (by simpa using h0)
    rw [this] at hm
    simpa using hm.symm
  · right
    obtain ⟨l1, l2, hl⟩ := List.append_of_mem he
    rw [hl] at hm
    simp only [List.map_append, List.map_cons] at hm
    have hsplit : ∃ m1 p m2, left = m1 ++ p :: m2 ∧ l1.map (fun e => (e.key, e.val)) = m1.map (fun p => (K p.1, p.2)) ∧ (e.key, e.val) = (K p.1, p.2) ∧ l2.map (fun e => (e.key, e.val)) = m2.map (fun p => (K p.1, p.2)) := by
      have h1 := List.map_eq_append_iff.1 hm.symm
      obtain ⟨m1, m', e1, e2, e3⟩ := h1
      obtain ⟨p, m2, e4, e5, e6⟩ := List.map_eq_cons_iff.1 e3
      exact ⟨m1, p, m2, by rw [e1, e4], e2.symm, e5.symm, e6.symm⟩
    obtain ⟨m1, p, m2, rfl, hm1, hp, hm2⟩ := hsplit
    obtain ⟨hd, hg⟩ := adel_at m1 p m2 hn
    simp only [Prod.mk.injEq] at hp
    have hr1 : w1.heap = w.heap := by rcases hw1 with rfl | rfl <;> rfl
    have hc1 : Chg (fun i => i = r) w w1 := by rcases hw1 with rfl | rfl
                                               · exact Chg.refl _ _
                                               · exact (Chg.refl _ _).drew
    have heArr : e ∈ arr.toList := by
      simp only [leftOf, Array.toList_filter, List.mem_filter] at he
      exact he.1
    have hself : (setBlock w1 r (.mapIter (some b) clock (seen.push e.born) clock)).heap[r]? = some (.mapIter (some b) clock (seen.push e.born) clock) := setBlock_self (by rw [hr1]; exact hlt) _
    have hother : (setBlock w1 r (.mapIter (some b) clock (seen.push e.born) clock)).heap[b]? = some (.map arr clock) := by
      have : r ≠ b := fun e => hne e.symm
      simp only [Go.ChangeMaps.setBlock, hr1]
      rw [Array.getElem?_setIfInBounds_ne this]
      exact hb
    refine ⟨p.1, p.2, _, hg, by rw [hrun, hp.1, hp.2], ⟨arr, clock, seen.push e.born, hother, hself, hs1, hs2, ?_, ?_⟩, hc1.trans (chg_setBlock _ _ _), by simp [Go.ChangeMaps.setBlock, hr1], ?_⟩
    · rw [hd]
      have : (leftOf arr (seen.push e.born)).toList = l1 ++ l2 := by
        have hf : leftOf arr (seen.push e.born) = (leftOf arr seen).filter (fun x => x.born != e.born) := by
          unfold leftOf
          apply Array.ext'
          simp only [Array.toList_filter, List.filter_filter]
          apply List.filter_congr
          intro x hx
          simp only [Array.contains_eq_any_beq, ← Array.any_toList, Array.toList_push, List.any_append, List.any_cons, List.any_nil, Bool.or_false]
          cases seen.toList.any fun y => x.born == y <;> cases hb : x.born == e.born <;> simp_all [bne]
        rw [hf]
        simp only [Array.toList_filter, hl]
        have hnd : ((l1 ++ e :: l2).map (·.born)).Nodup := by
          rw [← hl]
          refine List.Sublist.nodup (List.Sublist.map _ ?_) hs1
          simp only [leftOf, Array.toList_filter]
          exact List.filter_sublist
        simp only [List.map_append, List.map_cons, List.nodup_append, List.nodup_cons, List.mem_cons, List.mem_map] at hnd
        obtain ⟨h1, ⟨h2, h3⟩, h4⟩ := hnd
        rw [List.filter_append, List.filter_cons_of_neg (by simp)]
        rw [List.filter_eq_self.2, List.filter_eq_self.2]
        · intro x hx
          simp only [bne_iff_ne]
          exact fun e' => h2 ⟨x, hx, e'⟩
        · intro x hx
          simp only [bne_iff_ne]
          exact h4 _ ⟨x, hx, rfl⟩ _ (.inl rfl)
      rw [this, List.map_append, List.map_append, hm1, hm2]
    · rw [hd]
      have : (akeys (m1 ++ m2)).Sublist (akeys (m1 ++ p :: m2)) := by
        simp only [akeys]
        exact List.Sublist.map _ (List.Sublist.append_left (List.sublist_cons_self _ _) _)
      exact this.nodup hn
    · have := run_entry_at (P := P) _ r b clock seen arr clock e hself hother heArr hs1
      rw [this, hp.1, hp.2]

theorem wpList_rng (w : World) {ops : Array Oper} {rest : List Oper} {o : Oper} {a : Act} {Q : Exit → Act → World → Prop} (hg : o.guard = none) (m : Operand) (T : TypeId) (hop : o.op = Op.range T m) {kt e : TypeId} (hT : P.underlying T = some (.map kt e)) (b : Nat) (es : List (κ × Value))
    (hm : a.eval m = .map (some b)) (h : MapIs K w b es)
    (hK : ∀ w', Ranging K w' b w.heap.size es → Chg No w w' → w'.heap.size = w.heap.size + 1 → wpList P ops Q rest (a.put o.dst (.pointer (some ⟨w.heap.size, 0, none⟩))) w') : wpList P ops Q (o :: rest) a w := by
  refine wpList_plain hg fun K' hK' => ?_
  obtain ⟨w', hrun, r1, r2, r3⟩ := h.range (P := P) hT
  unfold Oper.wp
  simp [execOp, hop, hm, hrun, Result.andThen]
  exact hK' _ _ (hK w' r1 r2 r3)

theorem wpList_nxt (w : World) {ops : Array Oper} {rest : List Oper} {o : Oper} {a : Act} {Q : Exit → Act → World → Prop} (hg : o.guard = none) (it : Operand) (hop : o.op = Op.next it false) (b r : Nat) (left : List (κ × Value))
    (hit : a.eval it = .pointer (some ⟨r, 0, none⟩)) (h : Ranging K w b r left)
    (hDone : left = [] → wpList P ops Q rest (a.put o.dst (.tuple #[.bool false])) w)
    (hMore : ∀ k v w', aget left k = some v → Ranging K w' b r (adel left k) → Chg (fun i => i = r) w w' → w'.heap.size = w.heap.size → (Instr.entry (.pointer (some ⟨r, 0, none⟩))).run P w' = .ok (.tuple #[K k, v]) w' → wpList P ops Q rest (a.put o.dst (.tuple #[.bool true, K k, v])) w') :
    wpList P ops Q (o :: rest) a w := by
  refine wpList_plain hg fun K' hK' => ?_
  unfold Oper.wp
  rcases h.next (P := P) o.type with ⟨h0, hrun⟩ | ⟨k, v, w', hat, hrun, hrg, hc, hsz, hen⟩
  · simp [execOp, hop, hit, hrun, Result.andThen]
    exact hK' _ _ (hDone h0)
  · simp [execOp, hop, hit, hrun, Result.andThen]
    exact hK' _ _ (hMore k v w' hat hrg hc hsz hen)
end
end Go.Proofs.YtplpbbdakihnfaaGreat
end
