/- region.read and region.stands, walked. -/
import Derived.Test.YtcmobcbecbajiaaRegA
import Derived.Test.YtcmobcbecbajiaaComm
import Derived.Test.YtcmobcbecbajiaaRecD
import Derived.Deep.RegionHeld3
import Derived.Shelf.RegionOpen
namespace Go.Proofs.Ytcmobcbecbajiaa
open Go.RowKit
attribute [local go_sem ↓] Go.wp_at_zero Go.wp_at_succ
set_option linter.unusedSimpArgs false
set_option linter.unusedVariables false

theorem num_cut_lt2 (b : List UInt8) (i j : Nat) : num (cut b i j) < 256 ^ (j - i) := by
  have h := num_lt (cut b i j)
  have hl : (cut b i j).length ≤ j - i := by unfold cut; rw [List.length_take]; omega
  exact Nat.lt_of_lt_of_le h (Nat.pow_le_pow_right (by decide) hl)

theorem rd_cell {w W : World} {t : TypeId} {g off n j : Nat} {xs : List Value} {u : Value} (h : Rd w t (some ⟨g, off, none⟩) n xs) (hc : Chg No w W) (hx : xs[j]? = some u) : W.cell? ⟨g, off + j, none⟩ = some u := by
  have hj : j < n := by rw [← h.1]; exact (List.getElem?_eq_some_iff.1 hx).1
  obtain ⟨g', off', e, _, hh⟩ := (h.chg hc (fun _ _ _ _ h => h)).at_ hj
  simp only [Option.some.injEq, Addr.mk.injEq, and_true] at e
  obtain ⟨rfl, rfl⟩ := e
  exact hh j u hx

/-- what read gives back of a page's bytes -/
def CutOf (A : Option Addr) (b : List UInt8) (v : Value) (r : List UInt8) : Prop :=
  ∃ A' c', v = .slice A' r.length c' ∧ r.length ≤ c' ∧ ∀ W, Rd W tU8 A 384 (bys b) → Rd W tU8 A' r.length (bys r)
theorem CutOf.none (A : Option Addr) (b : List UInt8) : CutOf A b (.slice none 0 0) [] := ⟨Option.none, 0, rfl, Nat.le_refl _, fun W _ => Rd.nil _ _ _⟩

set_option maxRecDepth 100000 in
set_option maxHeartbeats 4000000 in
theorem read_page (A : Option Addr) (c : Nat) (b : List UInt8) (k : Nat) (w : World) (hr : Rd w tU8 A 384 (bys b)) (hc : 384 ≤ c) (hk : k ≤ 255) :
    Calls Try.prog 89 #[.slice A 384 c, .int .i64 k] w fun e w' => ∃ v, e = .returned (.tuple #[v, .int .u64 (rgN b k)]) ∧ CutOf A b v (rgB b k) ∧ Chg No w w' := by
  have hbl : b.length = 384 := by rw [← bys_length]; exact hr.1
  obtain ⟨g, off, rfl, hg, hx⟩ := hr.at_ (j := 0) (by omega)
  obtain ⟨x2, hx2⟩ : ∃ x, b[2]? = some x := ⟨_, List.getElem?_eq_getElem (by omega)⟩
  obtain ⟨x3, hx3⟩ : ∃ x, b[3]? = some x := ⟨_, List.getElem?_eq_getElem (by omega)⟩
  have HX2 : Hid ((bys b)[2]? = some (.int .u8 x2.toNat)) := by show _ = _; simp only [bys, List.getElem?_map, hx2]; rfl
  have HX3 : Hid ((bys b)[3]? = some (.int .u8 x3.toNat)) := by show _ = _; simp only [bys, List.getElem?_map, hx3]; rfl
  obtain ⟨A1, hs1, hd1⟩ := sub_slice_h (P := Try.prog) Try.underlying31 ti_u8 (some ⟨g, off, none⟩) 384 c 2 (by omega)
  have hs1' : ∀ W : World, (Instr.sliceAt tBytes (.slice (some ⟨g, off, none⟩) 384 c) none (some (.int .i64 2)) none).run Try.prog W = _ := fun W => (run_sliceAt_slice W tBytes _ _ _ _ Try.underlying31).trans (hs1 W)
  obtain ⟨A2, hs2, hd2⟩ := sub_slice (P := Try.prog) Try.underlying31 ti_u8 (some ⟨g, off, none⟩) 384 c 4 8 (by omega) (by omega) (by omega)
  have hs2' : ∀ W : World, (Instr.sliceAt tBytes (.slice (some ⟨g, off, none⟩) 384 c) (some (.int .i64 4)) (some (.int .i64 8)) none).run Try.prog W = _ := fun W => (run_sliceAt_slice W tBytes _ _ _ _ Try.underlying31).trans (hs2 W)
  obtain ⟨A3, hs3, hd3⟩ := sub_slice (P := Try.prog) Try.underlying31 ti_u8 (some ⟨g, off, none⟩) 384 c 8 16 (by omega) (by omega) (by omega)
  have hs3' : ∀ W : World, (Instr.sliceAt tBytes (.slice (some ⟨g, off, none⟩) 384 c) (some (.int .i64 8)) (some (.int .i64 16)) none).run Try.prog W = _ := fun W => (run_sliceAt_slice W tBytes _ _ _ _ Try.underlying31).trans (hs3 W)
  have HR := Lib.hid hr
  have HD1 : Hid (∀ W, Chg No w W → Rd W tU8 A1 2 (bys (b.take 2))) := fun W hc => by rw [bys_take]; exact hd1 W tU8 (bys b) (HR.out.chg hc (fun _ _ _ _ h => h)) (by omega)
  have HD2 : Hid (∀ W, Chg No w W → Rd W tU8 A2 4 (bys (cut b 4 8))) := fun W hc => by unfold cut; rw [bys_take, bys_drop]; exact hd2 W tU8 (bys b) (HR.out.chg hc (fun _ _ _ _ h => h)) (by omega)
  have HD3 : Hid (∀ W, Chg No w W → Rd W tU8 A3 8 (bys (cut b 8 16))) := fun W hc => by unfold cut; rw [bys_take, bys_drop]; exact hd3 W tU8 (bys b) (HR.out.chg hc (fun _ _ _ _ h => h)) (by omega)
  simp only [Int.reduceToNat, Nat.reduceSub] at hs2 hs2' hs3 hs3'
  obtain ⟨q1, hq1⟩ : ∃ q1, q1 = decide (b.take 2 = [82, 71]) := ⟨_, rfl⟩
  obtain ⟨q4, hq4⟩ : ∃ q4, q4 = num (cut b 4 8) := ⟨_, rfl⟩
  obtain ⟨q5, hq5⟩ : ∃ q5, q5 = num (cut b 8 16) := ⟨_, rfl⟩
  have hq4l : q4 < 4294967296 := by rw [hq4]; exact num_cut_lt2 b 4 8
  have hq5l : q5 < 18446744073709551616 := by rw [hq5]; exact num_cut_lt2 b 8 16
  have hx2l : x2.toNat < 256 := x2.toNat_lt
  have hx3l : x3.toNat < 256 := x3.toNat_lt
  have HEQ : ∀ (W : World) (B : Option Addr), Hid (Chg No w W → Rd W tU8 B 2 (bys [82, 71]) → Calls Try.prog 61 #[.slice A1 2 c, .slice B 2 2] W fun e w' => e = .returned (.bool q1) ∧ Chg No W w') := fun W B => fun hc hr => by
    rw [hq1]; exact eqb_calls A1 B 2 2 c 2 _ _ W (HD1.out W hc) hr (by omega) (by omega)
  have HNU : ∀ (W : World), Hid (Chg No w W → Calls Try.prog 102 #[.slice A2 4 (c - 4)] W fun e w' => e = .returned (.int .u64 q4) ∧ W = w') := fun W => fun hc => by
    rw [hq4]; exact gnumber_calls A2 4 _ _ W (HD2.out W hc) (by omega)
  have HN3 : ∀ (W : World), Hid (Chg No w W → Calls Try.prog 102 #[.slice A3 8 (c - 8)] W fun e w' => e = .returned (.int .u64 q5) ∧ W = w') := fun W => fun hc => by
    rw [hq5]; exact gnumber_calls A3 8 _ _ W (HD3.out W hc) (by omega)
  have HF : Hid (rgForm b k = (q1 && (decide (x2.toNat = k) && ((x3 == 0) && decide (q4 ≤ 368))))) := by
    show _ = _
    unfold rgForm
    rw [hq1, hq4, List.getD_eq_getElem?_getD, List.getD_eq_getElem?_getD, hx2, hx3]; rfl
  have HN : Hid (rgN b k = if rgForm b k then q5 else 0) := by show _ = _; rw [hq5]; rfl
  have HB : Hid (rgB b k = if rgForm b k then cut b 16 (16 + q4) else []) := by show _ = _; rw [hq4]; rfl
  obtain ⟨rf, hrf⟩ : ∃ rf, rf = rgForm b k := ⟨_, rfl⟩
  rw [← hrf] at HF HN HB
  obtain ⟨rn, hrn⟩ : ∃ rn, rn = rgN b k := ⟨_, rfl⟩
  obtain ⟨rb, hrb⟩ : ∃ rb, rb = rgB b k := ⟨_, rfl⟩
  rw [← hrn] at HN ⊢
  rw [← hrb] at HB ⊢
  have HBL := Lib.hid hbl
  have hki : (k : Int) ≤ 255 := by omega
  have hx2i : (x2.toNat : Int) < 256 := by omega
  clear hq1 hq4 hq5 hrf hrn hrb hx hx2 hx3 hbl hr hd1 hd2 hd3 HD1 HD2 HD3
  cases q1 with
  | false =>
    have hrn : rn = 0 := by rw [HN.out, HF.out]; rfl
    have hrb : rb = [] := by rw [HB.out, HF.out]; rfl
    subst hrn; subst hrb
    clear HF HN HB
    go_enter Try.func89, Try.ntmps89
    go_wp2_with fail
    refine ((HNU _).out (by (repeat (first | (with_reducible exact Chg.refl _ _) | (with_reducible assumption) | (with_reducible refine Chg.drewN ?_ _) | (with_reducible refine Chg.drew ?_) | (with_reducible refine Chg.alloc ?_ _) | (with_reducible refine Chg.setCell ?_ (by first | (left; simp [DevH.foot]; done) | (right; simp; done) | (right; simp; omega)) _))))).mono ?_
    rintro e w1 ⟨rfl, hw1⟩
    have HC1 : Hid (Chg No w w1) := by show Chg No w w1; rw [← hw1]; (repeat (first | (with_reducible exact Chg.refl _ _) | (with_reducible assumption) | (with_reducible refine Chg.drewN ?_ _) | (with_reducible refine Chg.drew ?_) | (with_reducible refine Chg.alloc ?_ _) | (with_reducible refine Chg.setCell ?_ (by first | (left; simp [DevH.foot]; done) | (right; simp; done) | (right; simp; omega)) _)))
    clear hw1 hs2 hs2' hs3 hs3' HNU HN3
    go_wp2_with fail
    first
      | (go_region_with
          ((first
            | (go_at_call 98; refine (gmagic_calls _).mono ?_; rintro e w' ⟨rfl, rfl⟩)
            | (go_at_call 61; refine ((HEQ _ _).out (by have := HC1.out; (repeat (first | (with_reducible exact Chg.refl _ _) | (with_reducible assumption) | (with_reducible refine Chg.drewN ?_ _) | (with_reducible refine Chg.drew ?_) | (with_reducible refine Chg.alloc ?_ _) | (with_reducible refine Chg.setCell ?_ (by first | (left; simp [DevH.foot]; done) | (right; simp; done) | (right; simp; omega)) _)))) (by first | exact rd_gmagic _ | exact (rd_gmagic _).drewN _)).mono ?_; rintro e w' ⟨rfl, hc'⟩; have hc9 : Chg No w w' := (by have := HC1.out; (repeat (first | (with_reducible exact Chg.refl _ _) | (with_reducible assumption) | (with_reducible refine Chg.drewN ?_ _) | (with_reducible refine Chg.drew ?_) | (with_reducible refine Chg.alloc ?_ _) | (with_reducible refine Chg.setCell ?_ (by first | (left; simp [DevH.foot]; done) | (right; simp; done) | (right; simp; omega)) _))) : Chg No w _).trans hc'; clear hc'))))
      | fail "region"
    all_goals
      go_wp2
      go_ret2
      exact ⟨_, rfl, CutOf.none _ _, by (repeat (first | (with_reducible exact Chg.refl _ _) | (with_reducible assumption) | (with_reducible refine Chg.drewN ?_ _) | (with_reducible refine Chg.drew ?_) | (with_reducible refine Chg.alloc ?_ _) | (with_reducible refine Chg.setCell ?_ (by first | (left; simp [DevH.foot]; done) | (right; simp; done) | (right; simp; omega)) _)))⟩
  | true =>
    by_cases z : x2.toNat = k
    rotate_left
    · have b2 : ((x2.toNat : Int) != (k : Int)) = true := by simp; omega
      have b2' : ¬ (x2.toNat : Int) = (k : Int) := by omega
      have hrn : rn = 0 := by rw [HN.out, HF.out]; simp [z]
      have hrb : rb = [] := by rw [HB.out, HF.out]; simp [z]
      subst hrn; subst hrb
      clear HF HN HB z HN3 hs3 hs3'
      go_enter Try.func89, Try.ntmps89
      go_wp2_with fail
      refine ((HNU _).out (by (repeat (first | (with_reducible exact Chg.refl _ _) | (with_reducible assumption) | (with_reducible refine Chg.drewN ?_ _) | (with_reducible refine Chg.drew ?_) | (with_reducible refine Chg.alloc ?_ _) | (with_reducible refine Chg.setCell ?_ (by first | (left; simp [DevH.foot]; done) | (right; simp; done) | (right; simp; omega)) _))))).mono ?_
      rintro e w1 ⟨rfl, hw1⟩
      have HC1 : Hid (Chg No w w1) := by show Chg No w w1; rw [← hw1]; (repeat (first | (with_reducible exact Chg.refl _ _) | (with_reducible assumption) | (with_reducible refine Chg.drewN ?_ _) | (with_reducible refine Chg.drew ?_) | (with_reducible refine Chg.alloc ?_ _) | (with_reducible refine Chg.setCell ?_ (by first | (left; simp [DevH.foot]; done) | (right; simp; done) | (right; simp; omega)) _)))
      have HR1 := Lib.hid (HR.out.chg HC1.out (fun _ _ _ _ h => h))
      have d2 := rd_cell HR1.out (Chg.refl No w1) HX2.out
      have d3 := rd_cell HR1.out (Chg.refl No w1) HX3.out
      clear hw1 hs2 hs2' HNU
      have hwr : IntKind.i64.wrap (x2.toNat : Int) = x2.toNat := IntWalk.i64_in _ (by omega)
      go_wp2_with fail
      first
        | (go_region_with
            ((first
              | (go_at_call 98; refine (gmagic_calls _).mono ?_; rintro e w' ⟨rfl, rfl⟩)
              | (go_at_call 61; refine ((HEQ _ _).out (by have := HC1.out; (repeat (first | (with_reducible exact Chg.refl _ _) | (with_reducible assumption) | (with_reducible refine Chg.drewN ?_ _) | (with_reducible refine Chg.drew ?_) | (with_reducible refine Chg.alloc ?_ _) | (with_reducible refine Chg.setCell ?_ (by first | (left; simp [DevH.foot]; done) | (right; simp; done) | (right; simp; omega)) _)))) (by first | exact rd_gmagic _ | exact (rd_gmagic _).drewN _)).mono ?_; rintro e w' ⟨rfl, hc'⟩; have hc9 : Chg No w1 w' := (by (repeat (first | (with_reducible exact Chg.refl _ _) | (with_reducible assumption) | (with_reducible refine Chg.drewN ?_ _) | (with_reducible refine Chg.drew ?_) | (with_reducible refine Chg.alloc ?_ _) | (with_reducible refine Chg.setCell ?_ (by first | (left; simp [DevH.foot]; done) | (right; simp; done) | (right; simp; omega)) _))) : Chg No w1 _).trans hc'; have d2' := rd_cell HR1.out hc9 HX2.out; have d3' := rd_cell HR1.out hc9 HX3.out; clear hc'))))
        | fail "region"
      all_goals
        go_wp2
        go_ret2
        exact ⟨_, rfl, CutOf.none _ _, HC1.out.trans (by (repeat (first | (with_reducible exact Chg.refl _ _) | (with_reducible assumption) | (with_reducible refine Chg.drewN ?_ _) | (with_reducible refine Chg.drew ?_) | (with_reducible refine Chg.alloc ?_ _) | (with_reducible refine Chg.setCell ?_ (by first | (left; simp [DevH.foot]; done) | (right; simp; done) | (right; simp; omega)) _))))⟩
    obtain rfl := z
    by_cases z : x3 = 0
    rotate_left
    · have b3 : ((x3.toNat : Int) != 0) = true := by simp; intro h; exact z (UInt8.toNat_inj.1 (by rw [h]; rfl))
      have b3' : ¬ (x3.toNat : Int) = 0 := by simpa using b3
      have hrn : rn = 0 := by rw [HN.out, HF.out]; simp [z]
      have hrb : rb = [] := by rw [HB.out, HF.out]; simp [z]
      subst hrn; subst hrb
      clear HF HN HB z HN3 hs3 hs3'
      go_enter Try.func89, Try.ntmps89
      go_wp2_with fail
      refine ((HNU _).out (by (repeat (first | (with_reducible exact Chg.refl _ _) | (with_reducible assumption) | (with_reducible refine Chg.drewN ?_ _) | (with_reducible refine Chg.drew ?_) | (with_reducible refine Chg.alloc ?_ _) | (with_reducible refine Chg.setCell ?_ (by first | (left; simp [DevH.foot]; done) | (right; simp; done) | (right; simp; omega)) _))))).mono ?_
      rintro e w1 ⟨rfl, hw1⟩
      have HC1 : Hid (Chg No w w1) := by show Chg No w w1; rw [← hw1]; (repeat (first | (with_reducible exact Chg.refl _ _) | (with_reducible assumption) | (with_reducible refine Chg.drewN ?_ _) | (with_reducible refine Chg.drew ?_) | (with_reducible refine Chg.alloc ?_ _) | (with_reducible refine Chg.setCell ?_ (by first | (left; simp [DevH.foot]; done) | (right; simp; done) | (right; simp; omega)) _)))
      have HR1 := Lib.hid (HR.out.chg HC1.out (fun _ _ _ _ h => h))
      have d2 := rd_cell HR1.out (Chg.refl No w1) HX2.out
      have d3 := rd_cell HR1.out (Chg.refl No w1) HX3.out
      clear hw1 hs2 hs2' HNU
      have hwr : IntKind.i64.wrap (x2.toNat : Int) = x2.toNat := IntWalk.i64_in _ (by omega)
      go_wp2_with fail
      first
        | (go_region_with
          ((first
            | (go_at_call 98; refine (gmagic_calls _).mono ?_; rintro e w' ⟨rfl, rfl⟩)
            | (go_at_call 61; refine ((HEQ _ _).out (by have := HC1.out; (repeat (first | (with_reducible exact Chg.refl _ _) | (with_reducible assumption) | (with_reducible refine Chg.drewN ?_ _) | (with_reducible refine Chg.drew ?_) | (with_reducible refine Chg.alloc ?_ _) | (with_reducible refine Chg.setCell ?_ (by first | (left; simp [DevH.foot]; done) | (right; simp; done) | (right; simp; omega)) _)))) (by first | exact rd_gmagic _ | exact (rd_gmagic _).drewN _)).mono ?_; rintro e w' ⟨rfl, hc'⟩; have hc9 : Chg No w1 w' := (by (repeat (first | (with_reducible exact Chg.refl _ _) | (with_reducible assumption) | (with_reducible refine Chg.drewN ?_ _) | (with_reducible refine Chg.drew ?_) | (with_reducible refine Chg.alloc ?_ _) | (with_reducible refine Chg.setCell ?_ (by first | (left; simp [DevH.foot]; done) | (right; simp; done) | (right; simp; omega)) _))) : Chg No w1 _).trans hc'; have d2' := rd_cell HR1.out hc9 HX2.out; have d3' := rd_cell HR1.out hc9 HX3.out; clear hc'))))
        | fail "region"
      all_goals
        go_wp2
        go_ret2
        exact ⟨_, rfl, CutOf.none _ _, HC1.out.trans (by (repeat (first | (with_reducible exact Chg.refl _ _) | (with_reducible assumption) | (with_reducible refine Chg.drewN ?_ _) | (with_reducible refine Chg.drew ?_) | (with_reducible refine Chg.alloc ?_ _) | (with_reducible refine Chg.setCell ?_ (by first | (left; simp [DevH.foot]; done) | (right; simp; done) | (right; simp; omega)) _))))⟩
    replace HX3 : Hid ((bys b)[3]? = some (.int .u8 0)) := by show _ = _; rw [HX3.out, z]; rfl
    subst z
    by_cases z : q4 ≤ 368
    rotate_left
    · have b4 : decide ((368 : Int) < (q4 : Int)) = true := by simp; omega
      have hrn : rn = 0 := by rw [HN.out, HF.out]; simp [z]
      have hrb : rb = [] := by rw [HB.out, HF.out]; simp [z]
      subst hrn; subst hrb
      clear HF HN HB z HN3 hs3 hs3'
      go_enter Try.func89, Try.ntmps89
      go_wp2_with fail
      refine ((HNU _).out (by (repeat (first | (with_reducible exact Chg.refl _ _) | (with_reducible assumption) | (with_reducible refine Chg.drewN ?_ _) | (with_reducible refine Chg.drew ?_) | (with_reducible refine Chg.alloc ?_ _) | (with_reducible refine Chg.setCell ?_ (by first | (left; simp [DevH.foot]; done) | (right; simp; done) | (right; simp; omega)) _))))).mono ?_
      rintro e w1 ⟨rfl, hw1⟩
      have HC1 : Hid (Chg No w w1) := by show Chg No w w1; rw [← hw1]; (repeat (first | (with_reducible exact Chg.refl _ _) | (with_reducible assumption) | (with_reducible refine Chg.drewN ?_ _) | (with_reducible refine Chg.drew ?_) | (with_reducible refine Chg.alloc ?_ _) | (with_reducible refine Chg.setCell ?_ (by first | (left; simp [DevH.foot]; done) | (right; simp; done) | (right; simp; omega)) _)))
      have HR1 := Lib.hid (HR.out.chg HC1.out (fun _ _ _ _ h => h))
      have d2 := rd_cell HR1.out (Chg.refl No w1) HX2.out
      have d3 := rd_cell HR1.out (Chg.refl No w1) HX3.out
      clear hw1 hs2 hs2' HNU
      have hwr : IntKind.i64.wrap (x2.toNat : Int) = x2.toNat := IntWalk.i64_in _ (by omega)
      go_wp2_with fail
      go_region_held3 (fun w' => w'.cell? ⟨g, off + 2, none⟩ = some (.int .u8 x2.toNat) ∧ w'.cell? ⟨g, off + 3, none⟩ = some (.int .u8 0)) (first | go_keep)
          ((first
            | (go_at_call 98; refine (gmagic_calls _).mono ?_; rintro e w' ⟨rfl, rfl⟩)
            | (go_at_call 61; refine ((HEQ _ _).out (by have := HC1.out; (repeat (first | (with_reducible exact Chg.refl _ _) | (with_reducible assumption) | (with_reducible refine Chg.drewN ?_ _) | (with_reducible refine Chg.drew ?_) | (with_reducible refine Chg.alloc ?_ _) | (with_reducible refine Chg.setCell ?_ (by first | (left; simp [DevH.foot]; done) | (right; simp; done) | (right; simp; omega)) _)))) (by first | exact rd_gmagic _ | exact (rd_gmagic _).drewN _)).mono ?_; rintro e w' ⟨rfl, hc'⟩; have hc9 : Chg No w1 w' := (by (repeat (first | (with_reducible exact Chg.refl _ _) | (with_reducible assumption) | (with_reducible refine Chg.drewN ?_ _) | (with_reducible refine Chg.drew ?_) | (with_reducible refine Chg.alloc ?_ _) | (with_reducible refine Chg.setCell ?_ (by first | (left; simp [DevH.foot]; done) | (right; simp; done) | (right; simp; omega)) _))) : Chg No w1 _).trans hc'; have d2' := rd_cell HR1.out hc9 HX2.out; have d3' := rd_cell HR1.out hc9 HX3.out; clear hc')))
      all_goals
        go_wp2
        go_ret2
        exact ⟨_, rfl, CutOf.none _ _, HC1.out.trans (by (repeat (first | (with_reducible exact Chg.refl _ _) | (with_reducible assumption) | (with_reducible refine Chg.drewN ?_ _) | (with_reducible refine Chg.drew ?_) | (with_reducible refine Chg.alloc ?_ _) | (with_reducible refine Chg.setCell ?_ (by first | (left; simp [DevH.foot]; done) | (right; simp; done) | (right; simp; omega)) _))))⟩
    have hrn : rn = q5 := by rw [HN.out, HF.out]; simp [z]
    have hrb : Hid (rb = cut b 16 (16 + q4)) := by show _ = _; rw [HB.out, HF.out]; simp [z]
    subst hrn
    have b4 : decide ((368 : Int) < (q4 : Int)) = false := by simp; omega
    clear HF HN HB
    obtain ⟨A4, hs4, hd4⟩ := sub_slice (P := Try.prog) Try.underlying31 ti_u8 (some ⟨g, off, none⟩) 384 c 16 (16 + (q4 : Int)) (by omega) (by omega) (by omega)
    have hs4' : ∀ W : World, (Instr.sliceAt tBytes (.slice (some ⟨g, off, none⟩) 384 c) (some (.int .i64 16)) (some (.int .i64 (16 + (q4 : Int)))) none).run Try.prog W = _ := fun W => (run_sliceAt_slice W tBytes _ _ _ _ Try.underlying31).trans (hs4 W)
    have et : (16 + (q4 : Int)).toNat = 16 + q4 := by omega
    have HLR : Hid (rb.length = q4) := by show _ = _; rw [hrb.out]; unfold cut; simp [HBL.out]; omega
    have HD4 : Hid (CutOf (some ⟨g, off, none⟩) b (.slice A4 q4 (c - 16)) rb) := by
      refine ⟨A4, c - 16, by rw [HLR.out], by rw [HLR.out]; omega, fun W hW => ?_⟩
      have h4 := hd4 W tU8 (bys b) hW (by omega)
      rw [et] at h4
      rw [HLR.out, hrb.out]
      unfold cut
      rw [bys_take, bys_drop]
      simpa using h4
    simp only [Int.reduceToNat, et, Nat.add_sub_cancel_left] at hs4 hs4'
    have e16 : IntKind.i64.wrap (16 + (q4 : Int)) = 16 + (q4 : Int) := IntWalk.i64_in _ (by omega)
    clear hd4 et
    go_enter Try.func89, Try.ntmps89
    go_wp2_with fail
    refine ((HNU _).out (by (repeat (first | (with_reducible exact Chg.refl _ _) | (with_reducible assumption) | (with_reducible refine Chg.drewN ?_ _) | (with_reducible refine Chg.drew ?_) | (with_reducible refine Chg.alloc ?_ _) | (with_reducible refine Chg.setCell ?_ (by first | (left; simp [DevH.foot]; done) | (right; simp; done) | (right; simp; omega)) _))))).mono ?_
    rintro e w1 ⟨rfl, hw1⟩
    have HC1 : Hid (Chg No w w1) := by show Chg No w w1; rw [← hw1]; (repeat (first | (with_reducible exact Chg.refl _ _) | (with_reducible assumption) | (with_reducible refine Chg.drewN ?_ _) | (with_reducible refine Chg.drew ?_) | (with_reducible refine Chg.alloc ?_ _) | (with_reducible refine Chg.setCell ?_ (by first | (left; simp [DevH.foot]; done) | (right; simp; done) | (right; simp; omega)) _)))
    have HR1 := Lib.hid (HR.out.chg HC1.out (fun _ _ _ _ h => h))
    have d2 := rd_cell HR1.out (Chg.refl No w1) HX2.out
    have d3 := rd_cell HR1.out (Chg.refl No w1) HX3.out
    clear hw1 hs2 hs2' HNU
    have hwr : IntKind.i64.wrap (x2.toNat : Int) = x2.toNat := IntWalk.i64_in _ (by omega)
    go_wp2_with fail
    go_region_held3 (fun w' => w'.cell? ⟨g, off + 2, none⟩ = some (.int .u8 x2.toNat) ∧ w'.cell? ⟨g, off + 3, none⟩ = some (.int .u8 0)) (first | go_keep)
        ((first
          | (go_at_call 98; refine (gmagic_calls _).mono ?_; rintro e w' ⟨rfl, rfl⟩)
          | (go_at_call 61; refine ((HEQ _ _).out (by have := HC1.out; (repeat (first | (with_reducible exact Chg.refl _ _) | (with_reducible assumption) | (with_reducible refine Chg.drewN ?_ _) | (with_reducible refine Chg.drew ?_) | (with_reducible refine Chg.alloc ?_ _) | (with_reducible refine Chg.setCell ?_ (by first | (left; simp [DevH.foot]; done) | (right; simp; done) | (right; simp; omega)) _)))) (by first | exact rd_gmagic _ | exact (rd_gmagic _).drewN _)).mono ?_; rintro e w' ⟨rfl, hc'⟩; have hc9 : Chg No w1 w' := (by (repeat (first | (with_reducible exact Chg.refl _ _) | (with_reducible assumption) | (with_reducible refine Chg.drewN ?_ _) | (with_reducible refine Chg.drew ?_) | (with_reducible refine Chg.alloc ?_ _) | (with_reducible refine Chg.setCell ?_ (by first | (left; simp [DevH.foot]; done) | (right; simp; done) | (right; simp; omega)) _))) : Chg No w1 _).trans hc'; have d2' := rd_cell HR1.out hc9 HX2.out; have d3' := rd_cell HR1.out hc9 HX3.out; clear hc')))
    have hq4r : ¬ (368 : Int) < (q4 : Int) := by omega
    have w4 : IntKind.i64.wrap (q4 : Int) = q4 := IntWalk.i64_in _ (by omega)
    have i0 : (0 : Int) ≤ 16 + (q4 : Int) := by omega
    have i1 : (16 : Int) ≤ 16 + (q4 : Int) := by omega
    have i2 : 16 + (q4 : Int) ≤ 384 := by omega
    go_wp2_with fail
    go_quiet ((go_at_call 102; exact quiet_left ((HN3 _).out (HC1.out.trans (by (repeat (first | (with_reducible exact Chg.refl _ _) | (with_reducible assumption) | (with_reducible refine Chg.drewN ?_ _) | (with_reducible refine Chg.drew ?_) | (with_reducible refine Chg.alloc ?_ _) | (with_reducible refine Chg.setCell ?_ (by first | (left; simp [DevH.foot]; done) | (right; simp; done) | (right; simp; omega)) _))))))))
    go_wp2
    go_ret2
    exact ⟨_, rfl, HD4.out, HC1.out.trans (by (repeat (first | (with_reducible exact Chg.refl _ _) | (with_reducible assumption) | (with_reducible refine Chg.drewN ?_ _) | (with_reducible refine Chg.drew ?_) | (with_reducible refine Chg.alloc ?_ _) | (with_reducible refine Chg.setCell ?_ (by first | (left; simp [DevH.foot]; done) | (right; simp; done) | (right; simp; omega)) _))))⟩

/-- stands: the number that stands on a page -/
theorem stands_page (A : Option Addr) (c : Nat) (b : List UInt8) (w : World) (hr : Rd w tU8 A 384 (bys b)) (hc : 384 ≤ c) :
    Calls Try.prog 88 #[.slice A 384 c] w fun e w' => e = .returned (.int .u64 (Pg.full b).rs) ∧ Chg No w w' := by
  have hbl : b.length = 384 := by rw [← bys_length]; exact hr.1
  obtain ⟨g, off, rfl, hg, hx⟩ := hr.at_ (j := 0) (by omega)
  obtain ⟨x2, hx2⟩ : ∃ x, b[2]? = some x := ⟨_, List.getElem?_eq_getElem (by omega)⟩
  have c2 := hx 2 _ (by simp only [bys, List.getElem?_map, hx2]; rfl)
  have hE : Hid ((Pg.full b).rs = rgN b x2.toNat) := by show rgN b _ = _; rw [List.getD_eq_getElem?_getD, hx2]; rfl
  have hx2l : x2.toNat < 256 := x2.toNat_lt
  have HRD := fun W => Lib.hid (fun hc' : Chg No w W => read_page (some ⟨g, off, none⟩) c b x2.toNat W (hr.chg hc' (fun _ _ _ _ h => h)) hc (by omega))
  obtain ⟨rn, hrn⟩ : ∃ rn, rn = rgN b x2.toNat := ⟨_, rfl⟩
  rw [← hrn] at hE HRD
  clear hr hx hx2 hbl hrn
  go_enter Try.func88, Try.ntmps88
  go_wp2_with fail
  have hwr : IntKind.i64.wrap (x2.toNat : Int) = x2.toNat := IntWalk.i64_in _ (by omega)
  first
    | (go_region_with ((go_at_call 89; refine ((HRD _).out (by (repeat (first | (with_reducible exact Chg.refl _ _) | (with_reducible assumption) | (with_reducible refine Chg.drewN ?_ _) | (with_reducible refine Chg.drew ?_) | (with_reducible refine Chg.alloc ?_ _) | (with_reducible refine Chg.setCell ?_ (by first | (left; simp [DevH.foot]; done) | (right; simp; done) | (right; simp; omega)) _))))).mono ?_; rintro e w1 ⟨v, rfl, _, hc1⟩; have HC1 := Lib.hid hc1; clear hc1)))
    | (refine ((HRD _).out (by (repeat (first | (with_reducible exact Chg.refl _ _) | (with_reducible assumption) | (with_reducible refine Chg.drewN ?_ _) | (with_reducible refine Chg.drew ?_) | (with_reducible refine Chg.alloc ?_ _) | (with_reducible refine Chg.setCell ?_ (by first | (left; simp [DevH.foot]; done) | (right; simp; done) | (right; simp; omega)) _))))).mono ?_; rintro e w1 ⟨v, rfl, _, hc1⟩; have HC1 := Lib.hid hc1; clear hc1)
  all_goals
    go_wp2
    go_ret
    exact ⟨by rw [hE.out]; rfl, (by (repeat (first | (with_reducible exact Chg.refl _ _) | (with_reducible assumption) | (with_reducible refine Chg.drewN ?_ _) | (with_reducible refine Chg.drew ?_) | (with_reducible refine Chg.alloc ?_ _) | (with_reducible refine Chg.setCell ?_ (by first | (left; simp [DevH.foot]; done) | (right; simp; done) | (right; simp; omega)) _))) : Chg No w _).trans HC1.out⟩
end Go.Proofs.Ytcmobcbecbajiaa
