/- Packed texts: RegA, RegB, Zeros, Lay. -/
import Derived.Test.YtplpbbdakihnfaaGreatPq02
import Derived.Test.YtplpbbdakihnfaaGreatPq05
import Derived.Test.YtplpbbdakihnfaaGreatPq03
import Derived.Test.YtplpbbdakihnfaaGreatPq04
import Derived.Deep.RegionHeld3
import Derived.Shelf.RegionOpen
import Derived.Test.YtplpbbdakihnfaaGreatPq01
set_option linter.unusedSimpArgs false
set_option linter.unusedVariables false
section
namespace Go.Proofs.YtplpbbdakihnfaaGreat
open Go.RowKit
theorem gnumber_calls (A : Option Addr) (n c : Nat) (b : List UInt8) (w : World) (hr : Rd w tU8 A n (bys b)) (hn : n ≤ 8) :
    Calls Tryz.prog 118 #[.slice A n c] w fun e w' => e = .returned (.int .u64 (num b)) ∧ w = w' := by
  have hbl : b.length = n := by rw [← bys_length]; exact hr.1
  rcases Nat.eq_zero_or_pos n with rfl | hpos
  · have hb : b = [] := List.eq_nil_of_length_eq_zero hbl
    subst hb
    clear hr hbl
    go_enter Tryz.func118, Tryz.ntmps118
    go_wp2
    go_loopg [3, 4] 0 (fun k v i wr => w = wr ∧ i = .int .i64 (-1) ∧ v = .int .u64 0)
    case atStart => exact ⟨rfl, rfl, rfl⟩
    case round =>
      obtain ⟨rfl, rfl, rfl⟩ := hrel
      go_wp2
      go_ret
      exact ⟨rfl, rfl⟩
  · obtain ⟨g, off, rfl, hg, hx⟩ := hr.at_ hpos
    have HX := Lib.hid hx
    have HBL := Lib.hid hbl
    clear hr hx hbl hg
    go_enter Tryz.func118, Tryz.ntmps118
    go_wp2
    go_loopg [3, 4] n (fun k v i wr => ∃ j : Nat, k = j ∧ j ≤ n ∧ w = wr ∧ i = .int .i64 ((j : Int) - 1) ∧ v = .int .u64 ((num (b.drop j) : Nat) : Int))
    case atStart => exact ⟨n, rfl, Nat.le_refl _, rfl, by go_num, by rw [List.drop_of_length_le (by rw [HBL.out]; exact Nat.le_refl _)]; rfl⟩
    case round =>
      obtain ⟨j, rfl, hj, rfl, rfl, rfl⟩ := hrel
      rcases Nat.eq_zero_or_pos gk with rfl | h0
      · rw [show (((0 : Nat) : Int) - 1) = -1 from rfl]
        go_wp2
        go_ret
        exact ⟨by simp, rfl⟩
      · obtain ⟨m, rfl⟩ : ∃ m, gk = m + 1 := ⟨gk - 1, by omega⟩
        have e1 : ((m + 1 : Nat) : Int) - 1 = (m : Int) := by omega
        rw [e1]
        have hlt : (m : Int) < (n : Int) := by omega
        have hml : m < b.length := by rw [HBL.out]; omega
        obtain ⟨x, hxe⟩ : ∃ x, x = b[m] := ⟨_, rfl⟩
        have hc : w.cell? ⟨g, off + m, none⟩ = some (.int .u8 x.toNat) := HX.out m _ (by simp [bys, hxe, List.getElem?_eq_getElem hml])
        obtain ⟨q, hq⟩ : ∃ q, q = num (b.drop (m + 1)) := ⟨_, rfl⟩
        rw [← hq]
        have hqs : q < 72057594037927936 := by rw [hq]; exact num_small b m (by rw [HBL.out]; exact hn) hml
        have HV : Hid (num (b.drop m) = x.toNat + 256 * q) := by rw [hq, hxe]; exact num_drop b m hml
        have HO := Lib.hid (bits_or_byte q x hqs)
        clear hq hxe hml
        go_wp2
        go_roundg m
        case measure => omega
        case rel => exact ⟨m, rfl, by omega, rfl, rfl, by rw [HO.out, HV.out]⟩
theorem gadd_calls (v : Value) (base m : Nat) (xs : List Value) (k n : Nat) (w : World) (hown : w.ownsRow base tU8 1 v m xs) (hb : base ≤ w.heap.size) (hk : k < 18446744073709551616) (hn : n ≤ 8) (hm : m ≤ 140737488351232) :
    Calls Tryz.prog 111 #[v, .int .u64 k, .int .i64 n] w fun e w' => ∃ v', e = .returned v' ∧ w'.ownsRow base tU8 1 v' (m + n) (xs ++ bys (le n k)) ∧ Chg (rowOf v) w w' ∧ (v'.ownBlock = v.ownBlock ∨ ∀ j, v'.ownBlock = some j → w.heap.size ≤ j) := by
  have HO := Lib.hid hown
  clear hown
  go_enter Tryz.func111, Tryz.ntmps111
  go_wp2
  go_loopg [0, 9] n (fun g v0 i wr => ∃ q : Nat, g = n - q ∧ q ≤ n ∧ i = .int .i64 q ∧ Hid (wr.ownsRow base tU8 1 v0 (m + q) (xs ++ bys (le q k)) ∧ Chg (rowOf v) w wr ∧ (v0.ownBlock = v.ownBlock ∨ ∀ j, v0.ownBlock = some j → w.heap.size ≤ j)))
  case atStart => exact ⟨0, rfl, Nat.zero_le _, rfl, ⟨by simpa [le, bys] using HO.out, Chg.refl _ _, .inl rfl⟩⟩
  case round =>
    obtain ⟨q, rfl, hq, rfl, HQ⟩ := hrel
    by_cases h0 : q < n
    · have HW : Hid (base ≤ wr.heap.size) := Nat.le_trans hb HQ.out.2.1.size
      rename_i v0
      go_wp2_with (first
        | (at_builtin; refine wpList_app _ rfl (.tmp 12) (.tmp 18) tBytes rfl tU8 Tryz.underlying40 ti_u8 rfl (by omega) base _ (m + q) (xs ++ bys (le q k)) rfl (HQ.out.1.alloc _) tU8 _ 1 1 _ rfl (rd_one _ _ _) (by simp [Value.oneCell']) (by simp only [maxLen]; omega) (by omega) (by have := HW.out; simp; omega) ?_; intro v1 w1 ho1 hg1 hb1; have HO1 := Lib.hid ho1; have HG1 := Lib.hid hg1; have HB1 := Lib.hid hb1; clear ho1 hg1 hb1))
      go_roundg (n - (q + 1))
      case measure => omega
      case rel =>
        refine ⟨q + 1, rfl, by omega, by go_num, ?_, ?_, ?_⟩
        · have h := HO1.out
          rw [List.append_assoc] at h
          have e : bys (le (q + 1) k) = bys (le q k) ++ [.int .u8 ((k : Int) / 2 ^ (8 * q) % 256)] := by
            rw [le_snoc, bys_append]
            simp only [bys, List.map_cons, List.map_nil, le_byte]
          rw [e]
          exact h
        · refine ((HQ.out.2.1.alloc _).grown HG1.out ?_)
          intro j hj
          rcases HQ.out.2.2 with h | h
          · left; unfold rowOf; rw [← h]; exact hj
          · right; exact h j hj
        · rcases HB1.out with h | h
          · rw [h]; exact HQ.out.2.2
          · right
            intro j hj
            rw [h] at hj
            have := HQ.out.2.1.size
            simp at hj
            omega
    · have e : q = n := by omega
      subst e
      go_wp2
      go_ret
      exact ⟨_, rfl, HQ.out⟩
theorem gadd_callsI (v : Value) (base m : Nat) (xs : List Value) (k n : Int) (w : World) (hown : w.ownsRow base tU8 1 v m xs) (hb : base ≤ w.heap.size) (hk0 : 0 ≤ k) (hk : k < 18446744073709551616) (hn0 : 0 ≤ n) (hn : n ≤ 8) (hm : m ≤ 140737488351232) :
    Calls Tryz.prog 111 #[v, .int .u64 k, .int .i64 n] w fun e w' => ∃ v', e = .returned v' ∧ w'.ownsRow base tU8 1 v' (m + n.toNat) (xs ++ bys (le n.toNat k.toNat)) ∧ Chg (fun i => base ≤ i) w w' := by
  obtain ⟨k, rfl⟩ := Int.eq_ofNat_of_zero_le hk0
  obtain ⟨n, rfl⟩ := Int.eq_ofNat_of_zero_le hn0
  refine (gadd_calls v base m xs k n w hown hb (by omega) (by omega) hm).mono ?_
  rintro e w' ⟨v', rfl, h1, h2, _⟩
  exact ⟨v', rfl, by simpa using h1, h2.mono (fun i _ hi => own_new hown i hi)⟩
theorem gmagic_calls (w : World) : Calls Tryz.prog 112 #[] w fun e w' => e = .returned (.slice (some ⟨w.heap.size, 0, none⟩) 2 2) ∧ w' = w.alloc (.cells #[.int .u8 82, .int .u8 71] tU8) := by
  go_enter Tryz.func112, Tryz.ntmps112
  go_wp2
  go_ret
  exact ⟨rfl, rfl⟩
theorem rd_gmagic (W : World) : Rd (W.alloc (.cells #[.int .u8 82, .int .u8 71] tU8)) tU8 (some ⟨W.heap.size, 0, none⟩) 2 (bys [82, 71]) := by
  have := Rd.ofBlk (k := 2) (Blk.new W tU8 #[.int .u8 82, .int .u8 71]) (by simp)
  simpa [bys] using this
end Go.Proofs.YtplpbbdakihnfaaGreat
end

section
namespace Go.Proofs.YtplpbbdakihnfaaGreat
open Go.RowKit
attribute [local go_sem ↓] Go.wp_at_zero Go.wp_at_succ
theorem num_cut_lt2 (b : List UInt8) (i j : Nat) : num (cut b i j) < 256 ^ (j - i) := by
  have h := num_lt (cut b i j)
  have hl : (cut b i j).length ≤ j - i := by unfold cut; rw [List.length_take]; omega
  exact Nat.lt_of_lt_of_le h (Nat.pow_le_pow_right (by decide) hl)
theorem rd_cell {w W : World} {t : TypeId} {g off n j : Nat} {xs : List Value} {u : Value} (h : Rd w t (some ⟨g, off, none⟩) n xs) (hc : Chg No w W) (hx : xs[j]? = some u) : W.cell? ⟨g, off + j, none⟩ = some u := by
  have hj : j < n := by rw [← h.1]; exact (List.getElem?_eq_some_iff.1 hx).1
  obtain ⟨g', off', e, _, hh⟩ := (h.chg hc (fun _ _ _ _ h => h)).at_ hj
  simp only [Option.some.injEq, Addr.mk.injEq, and_true] at e
  obtain ⟨rfl, rfl⟩ := e
  exact hh j u hx
def CutOf (A : Option Addr) (b : List UInt8) (v : Value) (r : List UInt8) : Prop :=
  ∃ A' c', v = .slice A' r.length c' ∧ r.length ≤ c' ∧ ∀ W, Rd W tU8 A 384 (bys b) → Rd W tU8 A' r.length (bys r)
theorem CutOf.none (A : Option Addr) (b : List UInt8) : CutOf A b (.slice none 0 0) [] := ⟨Option.none, 0, rfl, Nat.le_refl _, fun W _ => Rd.nil _ _ _⟩
set_option maxRecDepth 100000 in
set_option maxHeartbeats 4000000 in
theorem read_page (A : Option Addr) (c : Nat) (b : List UInt8) (k : Nat) (w : World) (hr : Rd w tU8 A 384 (bys b)) (hc : 384 ≤ c) (hk : k ≤ 255) :
    Calls Tryz.prog 98 #[.slice A 384 c, .int .i64 k] w fun e w' => ∃ v, e = .returned (.tuple #[v, .int .u64 (rgN b k)]) ∧ CutOf A b v (rgB b k) ∧ Chg No w w' := by
  have hbl : b.length = 384 := by rw [← bys_length]; exact hr.1
  obtain ⟨g, off, rfl, hg, hx⟩ := hr.at_ (j := 0) (by omega)
  obtain ⟨x2, hx2⟩ : ∃ x, b[2]? = some x := ⟨_, List.getElem?_eq_getElem (by omega)⟩
  obtain ⟨x3, hx3⟩ : ∃ x, b[3]? = some x := ⟨_, List.getElem?_eq_getElem (by omega)⟩
  have HX2 : Hid ((bys b)[2]? = some (.int .u8 x2.toNat)) := by show _ = _; simp only [bys, List.getElem?_map, hx2]; rfl
  have HX3 : Hid ((bys b)[3]? = some (.int .u8 x3.toNat)) := by show _ = _; simp only [bys, List.getElem?_map, hx3]; rfl
  obtain ⟨A1, hs1, hd1⟩ := sub_slice_h (P := Tryz.prog) Tryz.underlying40 ti_u8 (some ⟨g, off, none⟩) 384 c 2 (by omega)
  have hs1' : ∀ W : World, (Instr.sliceAt tBytes (.slice (some ⟨g, off, none⟩) 384 c) none (some (.int .i64 2)) none).run Tryz.prog W = _ := fun W => (run_sliceAt_slice W tBytes _ _ _ _ Tryz.underlying40).trans (hs1 W)
  obtain ⟨A2, hs2, hd2⟩ := sub_slice (P := Tryz.prog) Tryz.underlying40 ti_u8 (some ⟨g, off, none⟩) 384 c 4 8 (by omega) (by omega) (by omega)
  have hs2' : ∀ W : World, (Instr.sliceAt tBytes (.slice (some ⟨g, off, none⟩) 384 c) (some (.int .i64 4)) (some (.int .i64 8)) none).run Tryz.prog W = _ := fun W => (run_sliceAt_slice W tBytes _ _ _ _ Tryz.underlying40).trans (hs2 W)
  obtain ⟨A3, hs3, hd3⟩ := sub_slice (P := Tryz.prog) Tryz.underlying40 ti_u8 (some ⟨g, off, none⟩) 384 c 8 16 (by omega) (by omega) (by omega)
  have hs3' : ∀ W : World, (Instr.sliceAt tBytes (.slice (some ⟨g, off, none⟩) 384 c) (some (.int .i64 8)) (some (.int .i64 16)) none).run Tryz.prog W = _ := fun W => (run_sliceAt_slice W tBytes _ _ _ _ Tryz.underlying40).trans (hs3 W)
  have HR := Lib.hid hr
  have HD1 : Hid (∀ W, Chg No w W → Rd W tU8 A1 2 (bys (b.take 2))) := fun W hc => by rw [bys_take]; exact hd1 W tU8 (bys b) (HR.out.chg hc (fun _ _ _ _ h => h)) (by omega)
  have HD2 : Hid (∀ W, Chg No w W → Rd W tU8 A2 4 (bys (cut b 4 8))) := fun W hc => by unfold cut; rw [bys_take, bys_drop]; exact hd2 W tU8 (bys b) (HR.out.chg hc (fun _ _ _ _ h => h)) (by omega)
  have HD3 : Hid (∀ W, Chg No w W → Rd W tU8 A3 8 (bys (cut b 8 16))) := fun W hc => by unfold cut; rw [bys_take, bys_drop]; exact hd3 W tU8 (bys b) (HR.out.chg hc (fun _ _ _ _ h => h)) (by omega)
  simp only [Int.reduceToNat, Nat.reduceSub] at hs2 hs2' hs3 hs3'
  obtain ⟨q1, hq1⟩ : ∃ q1, q1 = decide (b.take 2 = [82, 71]) := ⟨_, rfl⟩
  obtain ⟨q4, hq4⟩ : ∃ q4, q4 = num (cut b 4 8) := ⟨_, rfl⟩
  obtain ⟨q5, hq5⟩ : ∃ q5, q5 = num (cut b 8 16) := ⟨_, rfl⟩
  have hq4l : q4 < 4294967296 := by rw [hq4]; exact num_cut_lt2 b 4 8
  have hq5l : q5 < 18446744073709551616 := by rw [hq5]; exact num_cut_lt2 b 8 16
  have hx2l : x2.toNat < 256 := x2.toNat_lt
  have hx3l : x3.toNat < 256 := x3.toNat_lt
  have HEQ : ∀ (W : World) (B : Option Addr), Hid (Chg No w W → Rd W tU8 B 2 (bys [82, 71]) → Calls Tryz.prog 93 #[.slice A1 2 c, .slice B 2 2] W fun e w' => e = .returned (.bool q1) ∧ Chg No W w') := fun W B => fun hc hr => by
    rw [hq1]; exact eqb_calls A1 B 2 2 c 2 _ _ W (HD1.out W hc) hr (by omega) (by omega)
  have HNU : ∀ (W : World), Hid (Chg No w W → Calls Tryz.prog 118 #[.slice A2 4 (c - 4)] W fun e w' => e = .returned (.int .u64 q4) ∧ W = w') := fun W => fun hc => by
    rw [hq4]; exact gnumber_calls A2 4 _ _ W (HD2.out W hc) (by omega)
  have HN3 : ∀ (W : World), Hid (Chg No w W → Calls Tryz.prog 118 #[.slice A3 8 (c - 8)] W fun e w' => e = .returned (.int .u64 q5) ∧ W = w') := fun W => fun hc => by
    rw [hq5]; exact gnumber_calls A3 8 _ _ W (HD3.out W hc) (by omega)
  have HF : Hid (rgForm b k = (q1 && (decide (x2.toNat = k) && ((x3 == 0) && decide (q4 ≤ 368))))) := by
    show _ = _
    unfold rgForm
    rw [hq1, hq4, List.getD_eq_getElem?_getD, List.getD_eq_getElem?_getD, hx2, hx3]; rfl
  have HN : Hid (rgN b k = if rgForm b k then q5 else 0) := by show _ = _; rw [hq5]; rfl
  have HB : Hid (rgB b k = if rgForm b k then cut b 16 (16 + q4) else []) := by show _ = _; rw [hq4]; rfl
  obtain ⟨rf, hrf⟩ : ∃ rf, rf = rgForm b k := ⟨_, rfl⟩
  rw [← hrf] at HF HN HB
  obtain ⟨rn, hrn⟩ : ∃ rn, rn = rgN b k := ⟨_, rfl⟩
  obtain ⟨rb, hrb⟩ : ∃ rb, rb = rgB b k := ⟨_, rfl⟩
  rw [← hrn] at HN ⊢
  rw [← hrb] at HB ⊢
  have HBL := Lib.hid hbl
  have hki : (k : Int) ≤ 255 := by omega
  have hx2i : (x2.toNat : Int) < 256 := by omega
  clear hq1 hq4 hq5 hrf hrn hrb hx hx2 hx3 hbl hr hd1 hd2 hd3 HD1 HD2 HD3
  cases q1 with
  | false =>
    have hrn : rn = 0 := by rw [HN.out, HF.out]; rfl
    have hrb : rb = [] := by rw [HB.out, HF.out]; rfl
    subst hrn; subst hrb
    clear HF HN HB
    go_enter Tryz.func98, Tryz.ntmps98
    go_wp2_with fail
    refine ((HNU _).out (by (repeat (first | (with_reducible exact Chg.refl _ _) | (with_reducible assumption) | (with_reducible refine Chg.drewN ?_ _) | (with_reducible refine Chg.drew ?_) | (with_reducible refine Chg.alloc ?_ _) | (with_reducible refine Chg.setCell ?_ (by first | (left; simp [DevH.foot]; done) | (right; simp; done) | (right; simp; omega)) _))))).mono ?_
    rintro e w1 ⟨rfl, hw1⟩
    have HC1 : Hid (Chg No w w1) := by show Chg No w w1; rw [← hw1]; (repeat (first | (with_reducible exact Chg.refl _ _) | (with_reducible assumption) | (with_reducible refine Chg.drewN ?_ _) | (with_reducible refine Chg.drew ?_) | (with_reducible refine Chg.alloc ?_ _) | (with_reducible refine Chg.setCell ?_ (by first | (left; simp [DevH.foot]; done) | (right; simp; done) | (right; simp; omega)) _)))
    clear hw1 hs2 hs2' hs3 hs3' HNU HN3
    go_wp2_with fail
    first
      | (go_region_with
          ((first
            | (go_at_call 112; refine (gmagic_calls _).mono ?_; rintro e w' ⟨rfl, rfl⟩)
            | (go_at_call 93; refine ((HEQ _ _).out (by have := HC1.out; (repeat (first | (with_reducible exact Chg.refl _ _) | (with_reducible assumption) | (with_reducible refine Chg.drewN ?_ _) | (with_reducible refine Chg.drew ?_) | (with_reducible refine Chg.alloc ?_ _) | (with_reducible refine Chg.setCell ?_ (by first | (left; simp [DevH.foot]; done) | (right; simp; done) | (right; simp; omega)) _)))) (by first | exact rd_gmagic _ | exact (rd_gmagic _).drewN _)).mono ?_; rintro e w' ⟨rfl, hc'⟩; have hc9 : Chg No w w' := (by have := HC1.out; (repeat (first | (with_reducible exact Chg.refl _ _) | (with_reducible assumption) | (with_reducible refine Chg.drewN ?_ _) | (with_reducible refine Chg.drew ?_) | (with_reducible refine Chg.alloc ?_ _) | (with_reducible refine Chg.setCell ?_ (by first | (left; simp [DevH.foot]; done) | (right; simp; done) | (right; simp; omega)) _))) : Chg No w _).trans hc'; clear hc'))))
      | fail "region"
    all_goals
      go_wp2
      go_ret2
      exact ⟨_, rfl, CutOf.none _ _, by (repeat (first | (with_reducible exact Chg.refl _ _) | (with_reducible assumption) | (with_reducible refine Chg.drewN ?_ _) | (with_reducible refine Chg.drew ?_) | (with_reducible refine Chg.alloc ?_ _) | (with_reducible refine Chg.setCell ?_ (by first | (left; simp [DevH.foot]; done) | (right; simp; done) | (right; simp; omega)) _)))⟩
  | true =>
    by_cases z : x2.toNat = k
    rotate_left
    · have b2 : ((x2.toNat : Int) != (k : Int)) = true := by simp; omega
      have b2' : ¬ (x2.toNat : Int) = (k : Int) := by omega
      have hrn : rn = 0 := by rw [HN.out, HF.out]; simp [z]
      have hrb : rb = [] := by rw [HB.out, HF.out]; simp [z]
      subst hrn; subst hrb
      clear HF HN HB z HN3 hs3 hs3'
      go_enter Tryz.func98, Tryz.ntmps98
      go_wp2_with fail
      refine ((HNU _).out (by (repeat (first | (with_reducible exact Chg.refl _ _) | (with_reducible assumption) | (with_reducible refine Chg.drewN ?_ _) | (with_reducible refine Chg.drew ?_) | (with_reducible refine Chg.alloc ?_ _) | (with_reducible refine Chg.setCell ?_ (by first | (left; simp [DevH.foot]; done) | (right; simp; done) | (right; simp; omega)) _))))).mono ?_
      rintro e w1 ⟨rfl, hw1⟩
      have HC1 : Hid (Chg No w w1) := by show Chg No w w1; rw [← hw1]; (repeat (first | (with_reducible exact Chg.refl _ _) | (with_reducible assumption) | (with_reducible refine Chg.drewN ?_ _) | (with_reducible refine Chg.drew ?_) | (with_reducible refine Chg.alloc ?_ _) | (with_reducible refine Chg.setCell ?_ (by first | (left; simp [DevH.foot]; done) | (right; simp; done) | (right; simp; omega)) _)))
      have HR1 := Lib.hid (HR.out.chg HC1.out (fun _ _ _ _ h => h))
      have d2 := rd_cell HR1.out (Chg.refl No w1) HX2.out
      have d3 := rd_cell HR1.out (Chg.refl No w1) HX3.out
      clear hw1 hs2 hs2' HNU
      have hwr : IntKind.i64.wrap (x2.toNat : Int) = x2.toNat := IntWalk.i64_in _ (by omega)
      go_wp2_with fail
      first
        | (go_region_with
            ((first
              | (go_at_call 112; refine (gmagic_calls _).mono ?_; rintro e w' ⟨rfl, rfl⟩)
              | (go_at_call 93; refine ((HEQ _ _).out (by have := HC1.out; (repeat (first | (with_reducible exact Chg.refl _ _) | (with_reducible assumption) | (with_reducible refine Chg.drewN ?_ _) | (with_reducible refine Chg.drew ?_) | (with_reducible refine Chg.alloc ?_ _) | (with_reducible refine Chg.setCell ?_ (by first | (left; simp [DevH.foot]; done) | (right; simp; done) | (right; simp; omega)) _)))) (by first | exact rd_gmagic _ | exact (rd_gmagic _).drewN _)).mono ?_; rintro e w' ⟨rfl, hc'⟩; have hc9 : Chg No w1 w' := (by (repeat (first | (with_reducible exact Chg.refl _ _) | (with_reducible assumption) | (with_reducible refine Chg.drewN ?_ _) | (with_reducible refine Chg.drew ?_) | (with_reducible refine Chg.alloc ?_ _) | (with_reducible refine Chg.setCell ?_ (by first | (left; simp [DevH.foot]; done) | (right; simp; done) | (right; simp; omega)) _))) : Chg No w1 _).trans hc'; have d2' := rd_cell HR1.out hc9 HX2.out; have d3' := rd_cell HR1.out hc9 HX3.out; clear hc'))))
        | fail "region"
      all_goals
        go_wp2
        go_ret2
        exact ⟨_, rfl, CutOf.none _ _, HC1.out.trans (by (repeat (first | (with_reducible exact Chg.refl _ _) | (with_reducible assumption) | (with_reducible refine Chg.drewN ?_ _) | (with_reducible refine Chg.drew ?_) | (with_reducible refine Chg.alloc ?_ _) | (with_reducible refine Chg.setCell ?_ (by first | (left; simp [DevH.foot]; done) | (right; simp; done) | (right; simp; omega)) _))))⟩
    obtain rfl := z
    by_cases z : x3 = 0
    rotate_left
    · have b3 : ((x3.toNat : Int) != 0) = true := by simp; intro h; exact z (UInt8.toNat_inj.1 (by rw [h]; rfl))
      have b3' : ¬ (x3.toNat : Int) = 0 := by simpa using b3
      have hrn : rn = 0 := by rw [HN.out, HF.out]; simp [z]
      have hrb : rb = [] := by rw [HB.out, HF.out]; simp [z]
      subst hrn; subst hrb
      clear HF HN HB z HN3 hs3 hs3'
      go_enter Tryz.func98, Tryz.ntmps98
      go_wp2_with fail
      refine ((HNU _).out (by (repeat (first | (with_reducible exact Chg.refl _ _) | (with_reducible assumption) | (with_reducible refine Chg.drewN ?_ _) | (with_reducible refine Chg.drew ?_) | (with_reducible refine Chg.alloc ?_ _) | (with_reducible refine Chg.setCell ?_ (by first | (left; simp [DevH.foot]; done) | (right; simp; done) | (right; simp; omega)) _))))).mono ?_
      rintro e w1 ⟨rfl, hw1⟩
      have HC1 : Hid (Chg No w w1) := by show Chg No w w1; rw [← hw1]; (repeat (first | (with_reducible exact Chg.refl _ _) | (with_reducible assumption) | (with_reducible refine Chg.drewN ?_ _) | (with_reducible refine Chg.drew ?_) | (with_reducible refine Chg.alloc ?_ _) | (with_reducible refine Chg.setCell ?_ (by first | (left; simp [DevH.foot]; done) | (right; simp; done) | (right; simp; omega)) _)))
      have HR1 := Lib.hid (HR.out.chg HC1.out (fun _ _ _ _ h => h))
      have d2 := rd_cell HR1.out (Chg.refl No w1) HX2.out
      have d3 := rd_cell HR1.out (Chg.refl No w1) HX3.out
      clear hw1 hs2 hs2' HNU
      have hwr : IntKind.i64.wrap (x2.toNat : Int) = x2.toNat := IntWalk.i64_in _ (by omega)
      go_wp2_with fail
      first
        | (go_region_with
          ((first
            | (go_at_call 112; refine (gmagic_calls _).mono ?_; rintro e w' ⟨rfl, rfl⟩)
            | (go_at_call 93; refine ((HEQ _ _).out (by have := HC1.out; (repeat (first | (with_reducible exact Chg.refl _ _) | (with_reducible assumption) | (with_reducible refine Chg.drewN ?_ _) | (with_reducible refine Chg.drew ?_) | (with_reducible refine Chg.alloc ?_ _) | (with_reducible refine Chg.setCell ?_ (by first | (left; simp [DevH.foot]; done) | (right; simp; done) | (right; simp; omega)) _)))) (by first | exact rd_gmagic _ | exact (rd_gmagic _).drewN _)).mono ?_; rintro e w' ⟨rfl, hc'⟩; have hc9 : Chg No w1 w' := (by (repeat (first | (with_reducible exact Chg.refl _ _) | (with_reducible assumption) | (with_reducible refine Chg.drewN ?_ _) | (with_reducible refine Chg.drew ?_) | (with_reducible refine Chg.alloc ?_ _) | (with_reducible refine Chg.setCell ?_ (by first | (left; simp [DevH.foot]; done) | (right; simp; done) | (right; simp; omega)) _))) : Chg No w1 _).trans hc'; have d2' := rd_cell HR1.out hc9 HX2.out; have d3' := rd_cell HR1.out hc9 HX3.out; clear hc'))))
        | fail "region"
      all_goals
        go_wp2
        go_ret2
        exact ⟨_, rfl, CutOf.none _ _, HC1.out.trans (by (repeat (first | (with_reducible exact Chg.refl _ _) | (with_reducible assumption) | (with_reducible refine Chg.drewN ?_ _) | (with_reducible refine Chg.drew ?_) | (with_reducible refine Chg.alloc ?_ _) | (with_reducible refine Chg.setCell ?_ (by first | (left; simp [DevH.foot]; done) | (right; simp; done) | (right; simp; omega)) _))))⟩
    replace HX3 : Hid ((bys b)[3]? = some (.int .u8 0)) := by show _ = _; rw [HX3.out, z]; rfl
    subst z
    by_cases z : q4 ≤ 368
    rotate_left
    · have b4 : decide ((368 : Int) < (q4 : Int)) = true := by simp; omega
      have hrn : rn = 0 := by rw [HN.out, HF.out]; simp [z]
      have hrb : rb = [] := by rw [HB.out, HF.out]; simp [z]
      subst hrn; subst hrb
      clear HF HN HB z HN3 hs3 hs3'
      go_enter Tryz.func98, Tryz.ntmps98
      go_wp2_with fail
      refine ((HNU _).out (by (repeat (first | (with_reducible exact Chg.refl _ _) | (with_reducible assumption) | (with_reducible refine Chg.drewN ?_ _) | (with_reducible refine Chg.drew ?_) | (with_reducible refine Chg.alloc ?_ _) | (with_reducible refine Chg.setCell ?_ (by first | (left; simp [DevH.foot]; done) | (right; simp; done) | (right; simp; omega)) _))))).mono ?_
      rintro e w1 ⟨rfl, hw1⟩
      have HC1 : Hid (Chg No w w1) := by show Chg No w w1; rw [← hw1]; (repeat (first | (with_reducible exact Chg.refl _ _) | (with_reducible assumption) | (with_reducible refine Chg.drewN ?_ _) | (with_reducible refine Chg.drew ?_) | (with_reducible refine Chg.alloc ?_ _) | (with_reducible refine Chg.setCell ?_ (by first | (left; simp [DevH.foot]; done) | (right; simp; done) | (right; simp; omega)) _)))
      have HR1 := Lib.hid (HR.out.chg HC1.out (fun _ _ _ _ h => h))
      have d2 := rd_cell HR1.out (Chg.refl No w1) HX2.out
      have d3 := rd_cell HR1.out (Chg.refl No w1) HX3.out
      clear hw1 hs2 hs2' HNU
      have hwr : IntKind.i64.wrap (x2.toNat : Int) = x2.toNat := IntWalk.i64_in _ (by omega)
      go_wp2_with fail
      go_region_held3 (fun w' => w'.cell? ⟨g, off + 2, none⟩ = some (.int .u8 x2.toNat) ∧ w'.cell? ⟨g, off + 3, none⟩ = some (.int .u8 0)) (first | go_keep)
          ((first
            | (go_at_call 112; refine (gmagic_calls _).mono ?_; rintro e w' ⟨rfl, rfl⟩)
            | (go_at_call 93; refine ((HEQ _ _).out (by have := HC1.out; (repeat (first | (with_reducible exact Chg.refl _ _) | (with_reducible assumption) | (with_reducible refine Chg.drewN ?_ _) | (with_reducible refine Chg.drew ?_) | (with_reducible refine Chg.alloc ?_ _) | (with_reducible refine Chg.setCell ?_ (by first | (left; simp [DevH.foot]; done) | (right; simp; done) | (right; simp; omega)) _)))) (by first | exact rd_gmagic _ | exact (rd_gmagic _).drewN _)).mono ?_; rintro e w' ⟨rfl, hc'⟩; have hc9 : Chg No w1 w' := (by (repeat (first | (with_reducible exact Chg.refl _ _) | (with_reducible assumption) | (with_reducible refine Chg.drewN ?_ _) | (with_reducible refine Chg.drew ?_) | (with_reducible refine Chg.alloc ?_ _) | (with_reducible refine Chg.setCell ?_ (by first | (left; simp [DevH.foot]; done) | (right; simp; done) | (right; simp; omega)) _))) : Chg No w1 _).trans hc'; have d2' := rd_cell HR1.out hc9 HX2.out; have d3' := rd_cell HR1.out hc9 HX3.out; clear hc')))
      all_goals
        go_wp2
        go_ret2
        exact ⟨_, rfl, CutOf.none _ _, HC1.out.trans (by (repeat (first | (with_reducible exact Chg.refl _ _) | (with_reducible assumption) | (with_reducible refine Chg.drewN ?_ _) | (with_reducible refine Chg.drew ?_) | (with_reducible refine Chg.alloc ?_ _) | (with_reducible refine Chg.setCell ?_ (by first | (left; simp [DevH.foot]; done) | (right; simp; done) | (right; simp; omega)) _))))⟩
    have hrn : rn = q5 := by rw [HN.out, HF.out]; simp [z]
    have hrb : Hid (rb = cut b 16 (16 + q4)) := by show _ = _; rw [HB.out, HF.out]; simp [z]
    subst hrn
    have b4 : decide ((368 : Int) < (q4 : Int)) = false := by simp; omega
    clear HF HN HB
    obtain ⟨A4, hs4, hd4⟩ := sub_slice (P := Tryz.prog) Tryz.underlying40 ti_u8 (some ⟨g, off, none⟩) 384 c 16 (16 + (q4 : Int)) (by omega) (by omega) (by omega)
    have hs4' : ∀ W : World, (Instr.sliceAt tBytes (.slice (some ⟨g, off, none⟩) 384 c) (some (.int .i64 16)) (some (.int .i64 (16 + (q4 : Int)))) none).run Tryz.prog W = _ := fun W => (run_sliceAt_slice W tBytes _ _ _ _ Tryz.underlying40).trans (hs4 W)
    have et : (16 + (q4 : Int)).toNat = 16 + q4 := by omega
    have HLR : Hid (rb.length = q4) := by show _ = _; rw [hrb.out]; unfold cut; simp [HBL.out]; omega
    have HD4 : Hid (CutOf (some ⟨g, off, none⟩) b (.slice A4 q4 (c - 16)) rb) := by
      refine ⟨A4, c - 16, by rw [HLR.out], by rw [HLR.out]; omega, fun W hW => ?_⟩
      have h4 := hd4 W tU8 (bys b) hW (by omega)
      rw [et] at h4
      rw [HLR.out, hrb.out]
      unfold cut
      rw [bys_take, bys_drop]
      simpa using h4
    simp only [Int.reduceToNat, et, Nat.add_sub_cancel_left] at hs4 hs4'
    have e16 : IntKind.i64.wrap (16 + (q4 : Int)) = 16 + (q4 : Int) := IntWalk.i64_in _ (by omega)
    clear hd4 et
    go_enter Tryz.func98, Tryz.ntmps98
    go_wp2_with fail
    refine ((HNU _).out (by (repeat (first | (with_reducible exact Chg.refl _ _) | (with_reducible assumption) | (with_reducible refine Chg.drewN ?_ _) | (with_reducible refine Chg.drew ?_) | (with_reducible refine Chg.alloc ?_ _) | (with_reducible refine Chg.setCell ?_ (by first | (left; simp [DevH.foot]; done) | (right; simp; done) | (right; simp; omega)) _))))).mono ?_
    rintro e w1 ⟨rfl, hw1⟩
    have HC1 : Hid (Chg No w w1) := by show Chg No w w1; rw [← hw1]; (repeat (first | (with_reducible exact Chg.refl _ _) | (with_reducible assumption) | (with_reducible refine Chg.drewN ?_ _) | (with_reducible refine Chg.drew ?_) | (with_reducible refine Chg.alloc ?_ _) | (with_reducible refine Chg.setCell ?_ (by first | (left; simp [DevH.foot]; done) | (right; simp; done) | (right; simp; omega)) _)))
    have HR1 := Lib.hid (HR.out.chg HC1.out (fun _ _ _ _ h => h))
    have d2 := rd_cell HR1.out (Chg.refl No w1) HX2.out
    have d3 := rd_cell HR1.out (Chg.refl No w1) HX3.out
    clear hw1 hs2 hs2' HNU
    have hwr : IntKind.i64.wrap (x2.toNat : Int) = x2.toNat := IntWalk.i64_in _ (by omega)
    go_wp2_with fail
    go_region_held3 (fun w' => w'.cell? ⟨g, off + 2, none⟩ = some (.int .u8 x2.toNat) ∧ w'.cell? ⟨g, off + 3, none⟩ = some (.int .u8 0)) (first | go_keep)
        ((first
          | (go_at_call 112; refine (gmagic_calls _).mono ?_; rintro e w' ⟨rfl, rfl⟩)
          | (go_at_call 93; refine ((HEQ _ _).out (by have := HC1.out; (repeat (first | (with_reducible exact Chg.refl _ _) | (with_reducible assumption) | (with_reducible refine Chg.drewN ?_ _) | (with_reducible refine Chg.drew ?_) | (with_reducible refine Chg.alloc ?_ _) | (with_reducible refine Chg.setCell ?_ (by first | (left; simp [DevH.foot]; done) | (right; simp; done) | (right; simp; omega)) _)))) (by first | exact rd_gmagic _ | exact (rd_gmagic _).drewN _)).mono ?_; rintro e w' ⟨rfl, hc'⟩; have hc9 : Chg No w1 w' := (by (repeat (first | (with_reducible exact Chg.refl _ _) | (with_reducible assumption) | (with_reducible refine Chg.drewN ?_ _) | (with_reducible refine Chg.drew ?_) | (with_reducible refine Chg.alloc ?_ _) | (with_reducible refine Chg.setCell ?_ (by first | (left; simp [DevH.foot]; done) | (right; simp; done) | (right; simp; omega)) _))) : Chg No w1 _).trans hc'; have d2' := rd_cell HR1.out hc9 HX2.out; have d3' := rd_cell HR1.out hc9 HX3.out; clear hc')))
    have hq4r : ¬ (368 : Int) < (q4 : Int) := by omega
    have w4 : IntKind.i64.wrap (q4 : Int) = q4 := IntWalk.i64_in _ (by omega)
    have i0 : (0 : Int) ≤ 16 + (q4 : Int) := by omega
    have i1 : (16 : Int) ≤ 16 + (q4 : Int) := by omega
    have i2 : 16 + (q4 : Int) ≤ 384 := by omega
    go_wp2_with fail
    go_quiet ((go_at_call 118; exact quiet_left ((HN3 _).out (HC1.out.trans (by (repeat (first | (with_reducible exact Chg.refl _ _) | (with_reducible assumption) | (with_reducible refine Chg.drewN ?_ _) | (with_reducible refine Chg.drew ?_) | (with_reducible refine Chg.alloc ?_ _) | (with_reducible refine Chg.setCell ?_ (by first | (left; simp [DevH.foot]; done) | (right; simp; done) | (right; simp; omega)) _))))))))
    go_wp2
    go_ret2
    exact ⟨_, rfl, HD4.out, HC1.out.trans (by (repeat (first | (with_reducible exact Chg.refl _ _) | (with_reducible assumption) | (with_reducible refine Chg.drewN ?_ _) | (with_reducible refine Chg.drew ?_) | (with_reducible refine Chg.alloc ?_ _) | (with_reducible refine Chg.setCell ?_ (by first | (left; simp [DevH.foot]; done) | (right; simp; done) | (right; simp; omega)) _))))⟩
theorem stands_page (A : Option Addr) (c : Nat) (b : List UInt8) (w : World) (hr : Rd w tU8 A 384 (bys b)) (hc : 384 ≤ c) :
    Calls Tryz.prog 97 #[.slice A 384 c] w fun e w' => e = .returned (.int .u64 (Pg.full b).rs) ∧ Chg No w w' := by
  have hbl : b.length = 384 := by rw [← bys_length]; exact hr.1
  obtain ⟨g, off, rfl, hg, hx⟩ := hr.at_ (j := 0) (by omega)
  obtain ⟨x2, hx2⟩ : ∃ x, b[2]? = some x := ⟨_, List.getElem?_eq_getElem (by omega)⟩
  have c2 := hx 2 _ (by simp only [bys, List.getElem?_map, hx2]; rfl)
  have hE : Hid ((Pg.full b).rs = rgN b x2.toNat) := by show rgN b _ = _; rw [List.getD_eq_getElem?_getD, hx2]; rfl
  have hx2l : x2.toNat < 256 := x2.toNat_lt
  have HRD := fun W => Lib.hid (fun hc' : Chg No w W => read_page (some ⟨g, off, none⟩) c b x2.toNat W (hr.chg hc' (fun _ _ _ _ h => h)) hc (by omega))
  obtain ⟨rn, hrn⟩ : ∃ rn, rn = rgN b x2.toNat := ⟨_, rfl⟩
  rw [← hrn] at hE HRD
  clear hr hx hx2 hbl hrn
  go_enter Tryz.func97, Tryz.ntmps97
  go_wp2_with fail
  have hwr : IntKind.i64.wrap (x2.toNat : Int) = x2.toNat := IntWalk.i64_in _ (by omega)
  first
    | (go_region_with ((go_at_call 98; refine ((HRD _).out (by (repeat (first | (with_reducible exact Chg.refl _ _) | (with_reducible assumption) | (with_reducible refine Chg.drewN ?_ _) | (with_reducible refine Chg.drew ?_) | (with_reducible refine Chg.alloc ?_ _) | (with_reducible refine Chg.setCell ?_ (by first | (left; simp [DevH.foot]; done) | (right; simp; done) | (right; simp; omega)) _))))).mono ?_; rintro e w1 ⟨v, rfl, _, hc1⟩; have HC1 := Lib.hid hc1; clear hc1)))
    | (refine ((HRD _).out (by (repeat (first | (with_reducible exact Chg.refl _ _) | (with_reducible assumption) | (with_reducible refine Chg.drewN ?_ _) | (with_reducible refine Chg.drew ?_) | (with_reducible refine Chg.alloc ?_ _) | (with_reducible refine Chg.setCell ?_ (by first | (left; simp [DevH.foot]; done) | (right; simp; done) | (right; simp; omega)) _))))).mono ?_; rintro e w1 ⟨v, rfl, _, hc1⟩; have HC1 := Lib.hid hc1; clear hc1)
  all_goals
    go_wp2
    go_ret
    exact ⟨by rw [hE.out]; rfl, (by (repeat (first | (with_reducible exact Chg.refl _ _) | (with_reducible assumption) | (with_reducible refine Chg.drewN ?_ _) | (with_reducible refine Chg.drew ?_) | (with_reducible refine Chg.alloc ?_ _) | (with_reducible refine Chg.setCell ?_ (by first | (left; simp [DevH.foot]; done) | (right; simp; done) | (right; simp; omega)) _))) : Chg No w _).trans HC1.out⟩
end Go.Proofs.YtplpbbdakihnfaaGreat
end

section
namespace Go.Proofs.YtplpbbdakihnfaaGreat
open Go.RowKit
namespace Zs
theorem add_plain (g j : Nat) : (⟨g, 0, none⟩ : Addr).add j = ⟨g, j, none⟩ := by unfold Addr.add; split <;> simp_all
theorem blk_frozen {w : World} {g : Nat} {t : TypeId} {cs : Array Value} (h : w.heap[g]? = some (.cells cs t (0, 0))) (i : Nat) : w.frozen? ⟨g, i, none⟩ = false := by simp [World.frozen?, h]
theorem setCells_far {g : Nat} : ∀ (vs : List Value) (o : Nat) {w : World} (k : Nat), k ≠ g → (w.setCells g o vs).heap[k]? = w.heap[k]?
  | [], _, _, _, _ => rfl
  | v :: r, o, w, k, hk => by
    rw [World.setCells, setCells_far r (o + 1) k hk]
    exact Below.heap_setCell w ⟨g, o, none⟩ v k hk
theorem setCells_same (g : Nat) : ∀ (vs : List Value) (o : Nat) (w : World), (w.setCells g o vs).os = w.os ∧ (w.setCells g o vs).tape = w.tape ∧ (w.setCells g o vs).output = w.output ∧ (w.setCells g o vs).heap.size = w.heap.size
  | [], _, _ => ⟨rfl, rfl, rfl, rfl⟩
  | v :: r, o, w => by
    obtain ⟨h1, h2, h3, h4⟩ := setCells_same g r (o + 1) (w.setCell ⟨g, o, none⟩ v)
    rw [World.setCells]
    exact ⟨h1, h2, h3, by rw [h4]; simp [World.setCell]⟩
theorem setCells_row {g : Nat} {e : TypeId} : ∀ (vs : List Value) (o : Nat) (w : World) (cur : Array Value), w.heap[g]? = some (.cells cur e (0, 0)) → o + vs.length ≤ cur.size →
    ∃ cur', (w.setCells g o vs).heap[g]? = some (.cells cur' e (0, 0)) ∧ cur'.size = cur.size ∧ cur'.toList = cur.toList.take o ++ vs ++ cur.toList.drop (o + vs.length)
  | [], o, w, cur, h, _ => ⟨cur, h, rfl, by simp⟩
  | v :: r, o, w, cur, h, hl => by
    have h2 := Blk.set_ h o v
    simp only [List.length_cons] at hl
    obtain ⟨cur', h3, h4, h5⟩ := setCells_row r (o + 1) (w.setCell ⟨g, o, none⟩ v) _ h2 (by simp; omega)
    refine ⟨cur', h3, by rw [h4]; simp, ?_⟩
    rw [h5, Array.toList_setIfInBounds]
    have ho : o < cur.toList.length := by rw [Array.length_toList]; omega
    rw [List.take_set, List.drop_set_of_lt (by omega)]
    simp only [List.length_cons]
    rw [show o + 1 + r.length = o + (r.length + 1) by omega]
    congr 1
    rw [List.take_succ_eq_append_getElem ho, List.set_append_right _ _ (by rw [List.length_take]; omega)]
    have ho' : o < cur.size := by omega
    simp [Nat.min_eq_left (Nat.le_of_lt ho')]
end Zs
open Zs
section
variable {P : Program}
theorem run_append_zeros (w : World) (base : Nat) (t ti ty e : TypeId) (i : TypeInfo) (z : Value) (size bytes : Nat) (ht : P.underlying t = some (.slice e)) {k : IntKind} (hti : P.underlying ti = some (.int k)) (hi : P.info? e = some i) (hz : i.zero = some z)
    (hsize : i.size = size) (hby : i.bytes = bytes) (hzs : z.cells.size = size) (hsz : 0 < size) (hb0 : 0 < bytes)
    (v : Value) (n : Nat) (xs : List Value) (hown : w.ownsRow base e size v n xs) (kx : IntKind) (m : Nat) (h1 : ∀ u ∈ (Builtin.zeroCells z.cells m).toList, u.oneCell' = true)
    (hbytes : (n + m) * bytes ≤ 140737488355328) (hbase : base ≤ w.heap.size) :
    ∃ v' w', (Builtin.append_ #[t, ti] ty #[v, .int kx m]).run P w = .ok v' w' ∧ w'.ownsRow base e size v' (n + m) (xs ++ (Builtin.zeroCells z.cells m).toList) ∧ w.grownBy w' v.ownBlock ∧
      (v'.ownBlock = v.ownBlock ∨ v'.ownBlock = some w.heap.size) := by
  subst hsize
  subst hby
  have hle : n + m ≤ 140737488355328 := Nat.le_trans (Nat.le_mul_of_pos_right _ hb0) hbytes
  have h63 : n + m ≤ maxLen := by simp only [maxLen]; omega
  have hw : IntKind.i64.wrap (m : Int) = m := by rw [IntKind.wrap_i64]; omega
  have hw0 : IntKind.i64.wrap 0 = 0 := by rw [IntKind.wrap_i64]; rfl
  have hneg : ¬ ((m : Int) < 0) := by omega
  have hmb : m * i.bytes ≤ 140737488355328 := Nat.le_trans (Nat.mul_le_mul_right _ (Nat.le_add_left m n)) hbytes
  have hbig : ¬ (281474976710656 < (m : Int) * (i.bytes : Int)) := by
    rw [← Int.natCast_mul]
    omega
  have hsn : i.size ≠ 0 := by omega
  obtain ⟨news, hnews⟩ : ∃ news, news = (Builtin.zeroCells z.cells m).toList := ⟨_, rfl⟩
  rw [← hnews] at h1 ⊢
  have hl : news.length = m * i.size := by rw [hnews, Array.length_toList, size_zeroCells, hzs]
  have hna : Builtin.zeroCells z.cells m = news.toArray := by rw [hnews]
  have hlen : (xs ++ news).length = (n + m) * i.size := by rw [List.length_append, hown.1, hl, Nat.add_mul]
  have hnil : m = 0 → news = [] := fun h => List.eq_nil_of_length_eq_zero (by rw [hl, h, Nat.zero_mul])
  have grown : ∀ (old : Nat), old < n + m → ∀ (row : Option Nat),
      (w.drew.alloc (.cells (xs.toArray ++ news.toArray ++ Builtin.zeroCells z.cells (grownCap w (n + m) old e - (n + m))) e)).ownsRow base e i.size
        (.slice (some ⟨w.heap.size, 0, none⟩) (n + m) (grownCap w (n + m) old e)) (n + m) (xs ++ news) ∧
      w.grownBy (w.drew.alloc (.cells (xs.toArray ++ news.toArray ++ Builtin.zeroCells z.cells (grownCap w (n + m) old e - (n + m))) e)) row := by
    intro old ho row
    have hge := grownCap_ge w (n + m) old e
    have hcm : grownCap w (n + m) old e ≤ maxLen := grownCap_le_maxLen w (n + m) old e h63
    refine ⟨⟨hlen, .inr ⟨w.heap.size, _, _, rfl, hbase, heap_alloc_new w.drew _, hge, hcm, ?_, ?_⟩⟩, ⟨rfl, rfl, rfl, by simp, fun k hk _ => heap_alloc_old w.drew _ hk⟩⟩
    · simp only [Array.size_append, List.size_toArray, size_zeroCells, hzs, hown.1, hl, ← Nat.add_mul]
      congr 1
      omega
    · simp only [Array.toList_append, List.append_assoc]
      rw [← List.append_assoc, ← hlen]
      exact List.take_left
  have runs : ∀ (A : Option Addr) (cap : Nat), cap < n + m → (Builtin.firstCells i.size n (.slice A n cap)).run P w.drew = .ok xs.toArray w.drew → (Builtin.append_ #[t, ti] ty #[.slice A n cap, .int kx m]).run P w =
      .ok (.slice (some ⟨w.heap.size, 0, none⟩) (n + m) (grownCap w (n + m) cap e)) (w.drew.alloc (.cells (xs.toArray ++ news.toArray ++ Builtin.zeroCells z.cells (grownCap w (n + m) cap e - (n + m))) e)) := by
    intro A cap hcap hfo
    have hn : ¬ (n + m ≤ cap) := by omega
    have h63' : ¬ (9223372036854775807 < ((n : Int) + (m : Int))) := by omega
    have hfit := growslice_fits hcap hbytes
    have h48' : ¬ (281474976710656 < Builtin.nextslicecap (n + m) cap * i.bytes) := by omega
    by_cases hm : m = 0
    · have hnl := hnil hm
      subst hm
      rw [hnl]
      simp only [Nat.add_zero] at hn h63' h48' ⊢
      have h63'' : ¬ (9223372036854775807 < (n : Int)) := by omega
      simp [Builtin.append_, run_underlying ht, run_underlying hti, sizeOf, typeInfo, zeroValue, hi, hz, asInt, asIntOf, hw0, hn, h63'', h48', Question.forced, hfo, newRow, grownCap]
    · have hmz : ¬ (m * i.size = 0) := Nat.mul_ne_zero hm hsn
      simp [Builtin.append_, run_underlying ht, run_underlying hti, sizeOf, typeInfo, zeroValue, hi, hz, asInt, asIntOf, hw, hneg, hbig, hn, h63', h48', Question.forced, hfo, newRow, grownCap, hmz, hna]
      congr 2
      apply Array.ext'
      simp [List.append_assoc]
  rcases hown.2 with ⟨rfl, rfl⟩ | ⟨g, cap, cur, rfl, hbg, hg, hnc, hcm, hcs, htake⟩
  · have hx : xs = [] := List.eq_nil_of_length_eq_zero (by simpa using hown.1)
    subst hx
    by_cases hm : m = 0
    · have hnl := hnil hm
      subst hm
      rw [hnl]
      refine ⟨.slice none 0 0, w, ?_, World.ownsRow_nil w base e i.size, ⟨rfl, rfl, rfl, Nat.le_refl _, fun _ _ _ => rfl⟩, Or.inl rfl⟩
      simp [Builtin.append_, run_underlying ht, run_underlying hti, sizeOf, typeInfo, hi, asInt, asIntOf, hw0]
    · have hgr := grown 0 (by omega) (Value.ownBlock (.slice none 0 0))
      exact ⟨_, _, runs none 0 (by omega) (by simp [Builtin.firstCells]), hgr.1, hgr.2, Or.inr rfl⟩
  · by_cases hroom : n + m ≤ cap
    · have hfit : n * i.size + news.length ≤ cur.size := by rw [hl, hcs, ← Nat.add_mul]; exact Nat.mul_le_mul_right _ hroom
      obtain ⟨cur', h3, h4, h5⟩ := setCells_row news (n * i.size) w cur hg hfit
      obtain ⟨s1, s2, s3, s4⟩ := setCells_same g news (n * i.size) w
      have hst := run_storeCells_cells (P := P) g (n * i.size) news 0 w (fun j hj => by rw [cell_of_row w g _ cur e (0, 0) hg]; simp; omega) (fun j _ => blk_frozen hg _) h1
      simp only [Nat.add_zero] at hst
      refine ⟨.slice (some ⟨g, 0, none⟩) (n + m) cap, w.setCells g (n * i.size) news, ?_, ⟨hlen, .inr ⟨g, cap, cur', rfl, hbg, h3, hroom, hcm, by rw [h4, hcs], ?_⟩⟩, ⟨s1, s2, s3, by rw [s4]; exact Nat.le_refl _, fun k _ hk => setCells_far news _ k (fun e => hk (by simp [Value.ownBlock, e]))⟩, Or.inl rfl⟩
      · by_cases hm : m = 0
        · have hnl := hnil hm
          subst hm
          rw [hnl] at hst ⊢
          simp [Builtin.append_, run_underlying ht, run_underlying hti, sizeOf, typeInfo, hi, asInt, asIntOf, hw0, hnc, add_plain, hst]
        · have hmz : ¬ (m * i.size = 0) := Nat.mul_ne_zero hm hsn
          simp [Builtin.append_, run_underlying ht, run_underlying hti, sizeOf, typeInfo, zeroValue, hi, hz, asInt, asIntOf, hw, hneg, hbig, hroom, hmz, hna, add_plain, hst]
      · rw [h5]
        have h6 : cur.toList.take (n * i.size) = xs := htake
        rw [h6, ← hlen]
        exact List.take_left
    · have holds : ∀ j u, xs[j]? = some u → w.cell? ((⟨g, 0, none⟩ : Addr).add j) = some u := hown.cells (g := g) rfl
      have hgr := grown cap (by omega) (Value.ownBlock (.slice (some ⟨g, 0, none⟩) n cap))
      exact ⟨_, _, runs (some ⟨g, 0, none⟩) cap (by omega) (run_firstCells_some (P := P) w.drew i.size n _ n cap xs hown.1 (by simpa using holds)), hgr.1, hgr.2, Or.inr rfl⟩
theorem wpList_zeros {ops : Array Oper} {rest : List Oper} {o : Oper} {a : Act} {Q : Exit → Act → World → Prop} {w : World} (hgd : o.guard = none) (s x : Operand) (t ti : TypeId)
    (ho : o.op = .call { callee := .builtin .append, args := #[s, x], argTypes := #[t, ti] })
    (e : TypeId) {z : Value} {bytes : Nat} {k : IntKind} (ht : P.underlying t = some (.slice e)) (hti : P.underlying ti = some (.int k)) (hi : TI P e z 1 bytes) (hz1 : z.cells = #[z]) (hone : z.oneCell' = true) (hb0 : 0 < bytes)
    (base : Nat) (v : Value) (n : Nat) (xs : List Value) (hs : a.eval s = v) (hown : w.ownsRow base e 1 v n xs)
    (m : Nat) (kx : IntKind) (hx : a.eval x = .int kx m)
    (hbytes : (n + m) * bytes ≤ 140737488355328) (hbase : base ≤ w.heap.size)
    (h : ∀ v' w', w'.ownsRow base e 1 v' (n + m) (xs ++ List.replicate m z) → w.grownBy w' v.ownBlock → (v'.ownBlock = v.ownBlock ∨ v'.ownBlock = some w.heap.size) → wpList P ops Q rest (a.put o.dst v') w') :
    wpList P ops Q (o :: rest) a w := by
  refine wpList_plain hgd fun K hK => ?_
  obtain ⟨i, hi', hz, hs1, hby⟩ := info_parts hi
  have hzc : (Builtin.zeroCells z.cells m).toList = List.replicate m z := by
    rw [hz1]
    apply List.ext_getElem
    · simp [Builtin.zeroCells]
    · intro j h1 h2
      simp [Builtin.zeroCells, Nat.mod_one]
  obtain ⟨v', w', hrun, h2, h3, h4⟩ := run_append_zeros (P := P) w base t ti o.type e i z 1 bytes ht hti hi' hz hs1 hby (by rw [hz1]; rfl) (by omega) hb0 v n xs hown kx m (by rw [hzc]; intro u hu; rw [(List.mem_replicate.1 hu).2]; exact hone) hbytes hbase
  rw [hzc] at h2
  unfold Oper.wp execOp
  simp only [ho, resolve, invoke, builtin, Sem.run_bind, Sem.run_pure, Result.andThen_ok, List.map_toArray, List.map_cons, List.map_nil, hs, hx, hrun]
  exact hK _ _ (h v' w' h2 h3 h4)
end
end Go.Proofs.YtplpbbdakihnfaaGreat
end

section
namespace Go.Proofs.YtplpbbdakihnfaaGreat
open Go.RowKit
theorem records_snoc (l : List Item) (x : Item) : records (l ++ [x]) = records l ++ record x := by simp [records]
theorem goods_append (a b : List Item) : goods (a ++ b) = (goods a && goods b) := by simp [goods]
theorem record_le (x : Item) (h : x.good = true) : (record x).length ≤ 1306 := by
  have hg := h
  simp only [Item.good, Bool.and_eq_true, decide_eq_true_eq] at hg
  have e : (record x).length = x.size := record_length x
  rw [e]; unfold Item.size; omega
theorem records_le (l : List Item) (h : goods l = true) : (records l).length ≤ 1306 * l.length := by
  induction l with
  | nil => simp [records]
  | cons x r ih =>
    simp only [goods, List.all_cons, Bool.and_eq_true] at h
    have h1 := record_le x h.1
    have h2 := ih h.2
    simp only [records, List.flatMap_cons, List.length_append, List.length_cons] at h2 ⊢
    omega
set_option maxRecDepth 100000 in
theorem lay_calls (A : Option Addr) (c : Nat) (l : List Item) (room : Nat) (w : World) (hr : Rd w tItem A (l.length * 5) (its l)) (hn : l.length ≤ 10000000) (hroom : room ≤ 65536) :
    Calls Tryz.prog 73 #[.slice A l.length c, .int .i64 room] w fun e w' => ∃ v, e = .returned (.tuple #[v, .int .i64 (layE l room)]) ∧ w'.ownsRow w.heap.size tU8 1 v (layB l room).length (bys (layB l room)) ∧ Chg No w w' := by
  have HR := Lib.hid hr
  clear hr
  go_enter Tryz.func73, Tryz.ntmps73
  go_wp2
  go_loopg [6, 13] (l.length) (fun g v6 v13 wr => ∃ (k : Nat) , v13 = .int .i64 k ∧ k ≤ l.length ∧ g = l.length - k ∧ Hid (goods (l.take k) = true ∧ wr.ownsRow w.heap.size tU8 1 v6 (records (l.take k)).length (bys (records (l.take k))) ∧ Chg No w wr))
  case atStart => exact ⟨0, rfl, Nat.zero_le _, rfl, ⟨rfl, World.ownsRow_nil _ _ _ _, Chg.refl _ _⟩⟩
  case round =>
    obtain ⟨k, rfl, hk, rfl, H⟩ := hrel
    by_cases h0 : k < l.length
    · obtain ⟨x, hx⟩ : ∃ x, l[k]? = some x := ⟨_, List.getElem?_eq_getElem h0⟩
      have hr1 : Rd wr tItem A (l.length * 5) (its l) := HR.out.chg H.out.2.2 (fun _ _ _ _ h => h)
      obtain ⟨g, off, rfl, hg, hc⟩ := hr1.at_ (j := k * 5) (by omega)
      have c0 := hc (k * 5 + 0) _ (its_get l k 0 x hx (by omega))
      have c1 := hc (k * 5 + 1) _ (its_get l k 1 x hx (by omega))
      have c2 := hc (k * 5 + 2) _ (its_get l k 2 x hx (by omega))
      have c3 := hc (k * 5 + 3) _ (its_get l k 3 x hx (by omega))
      have c4 := hc (k * 5 + 4) _ (its_get l k 4 x hx (by omega))
      simp only [itc, List.getElem_cons_zero, List.getElem_cons_succ, ← Nat.add_assoc, Nat.add_zero] at c0 c1 c2 c3 c4
      have HX := Lib.hid hx
      have HO := Lib.hid H.out.2.1
      have HC := Lib.hid H.out.2.2
      have HG := Lib.hid H.out.1
      have hlen : (records (l.take k)).length ≤ 1306 * k := by
        have := records_le (l.take k) H.out.1
        rw [List.length_take] at this
        omega
      have HL := Lib.hid hlen
      have hbase : w.heap.size ≤ wr.heap.size := H.out.2.2.size
      clear H hlen hr1 hx
      have ht : Hid (l.take (k + 1) = l.take k ++ [x]) := by
        show _ = _
        rw [List.take_add_one, HX.out]; rfl
      by_cases hgx : x.good = true
      · have HP := fun W => Lib.hid (put_good x W hgx)
        have HGX := Lib.hid hgx
        have hrl := record_le x hgx
        clear hgx
        go_wp2_with fail
        refine (HP _).out.mono ?_
        rintro e w1 ⟨v, rfl, ho1, hc1⟩
        obtain ⟨A1, c1, rfl, hc1n, hrd1⟩ := own_slice ho1
        have HO1 := Lib.hid (own_chg HO.out ((Chg.refl No wr).alloc _ |>.trans hc1) (fun _ _ h => h))
        have HC1 := Lib.hid hc1
        have HRD := Lib.hid hrd1
        have hs1 : wr.heap.size + 1 ≤ w1.heap.size := by have := hc1.size; simpa using this
        clear hc1 ho1 hrd1
        go_wp2_with (first
          | (at_builtin; refine wpList_app _ rfl (.tmp 25) (.tmp 26) 40 rfl tU8 Tryz.underlying40 ti_u8 rfl (by omega) w.heap.size _ _ _ rfl HO1.out tU8 _ _ _ _ rfl HRD.out (bys_one) (by have := HL.out; simp only [maxLen]; omega) (by have := HL.out; omega) (by omega) ?_; intro v2 w2 ho2 hg2 hb2; have HO2 := Lib.hid ho2; have HG2 := Lib.hid hg2; clear ho2 hg2 hb2))
        go_roundg (l.length - (k + 1))
        case measure => omega
        case rel =>
          refine ⟨k + 1, rfl, by omega, rfl, ?_, ?_, ?_⟩
          · rw [ht.out, goods_append, HG.out]; simp [goods, HGX.out]
          · rw [ht.out, records_snoc, bys_append, List.length_append]
            exact HO2.out
          · exact ((HC.out.alloc _).trans HC1.out).grown HG2.out (fun k' hk' => .inr (own_new HO1.out k' hk'))
      · have HP := fun W => Lib.hid (put_bad x W (by simpa using hgx))
        have HE : Hid (layE l room = 1) := by
          have : goods l = false := by
            simp only [goods]
            rw [Bool.eq_false_iff]
            intro hall
            exact hgx (List.all_eq_true.1 hall x (List.mem_of_getElem? HX.out))
          show _ = _
          unfold layE
          rw [this]; rfl
        clear hgx
        go_wp2_with fail
        refine (HP _).out.mono ?_
        rintro e w1 ⟨rfl, hc1⟩
        have HC1 := Lib.hid hc1
        clear hc1
        go_wp2
        go_ret2
        refine ⟨_, by rw [HE.out]; rfl, ?_, ?_⟩
        · rw [layB, HE.out]; exact World.ownsRow_nil _ _ _ _
        · exact (HC.out.alloc _).trans HC1.out
    · have hkl : l.take k = l := List.take_of_length_le (by omega)
      rw [hkl] at H
      have hlen := records_le l H.out.1
      have hgl := H.out.1
      obtain ⟨R, hR⟩ : ∃ R, R = (records l).length := ⟨_, rfl⟩
      have HO := Lib.hid H.out.2.1
      have HC := Lib.hid H.out.2.2
      have HRr := Lib.hid hR
      obtain ⟨A1, c1, rfl, hc1n, hrd1⟩ := own_slice HO.out
      have hbase : w.heap.size ≤ wr.heap.size := H.out.2.2.size
      rw [← hR] at hlen
      have e0 : ¬ (65536 : Int) < room := by omega
      have hE : layE l room = if room < R then 7 else 0 := by
        unfold layE
        rw [hgl, if_pos rfl, if_neg e0, ← hR]
        by_cases h : room < R
        · rw [if_pos h, if_pos (by omega)]
        · rw [if_neg h, if_neg (by omega)]
      have HE := Lib.hid hE
      clear H hE hgl hrd1 hkl
      rw [← hR] at HO
      rw [← hR]
      clear hR
      by_cases hfull : room < R
      · have e1 : (room : Int) < (R : Int) := by omega
        rw [if_pos hfull] at HE
        clear hfull
        go_wp2
        go_ret2
        refine ⟨_, by rw [HE.out]; rfl, ?_, ?_⟩
        · rw [layB, HE.out]; exact World.ownsRow_nil _ _ _ _
        · exact HC.out
      · have e1 : ¬ (room : Int) < (R : Int) := by omega
        rw [if_neg hfull] at HE
        obtain ⟨m, hm⟩ : ∃ m, room = R + m := ⟨room - R, by omega⟩
        have e2 : (room : Int) - (R : Int) = (m : Int) := by omega
        have e3 : IntKind.i64.wrap ((room : Int) - (R : Int)) = (m : Int) := by rw [e2]; exact IntWalk.i64_in _ (by omega)
        have HM := Lib.hid hm
        have hmr : R + m ≤ 65536 := by omega
        clear hfull hm
        go_wp2_with (first
          | (at_builtin; refine wpList_zeros rfl (.tmp 37) (.tmp 41) 40 3 rfl tU8 Tryz.underlying40 Tryz.underlying3 ti_u8 rfl rfl (by omega) w.heap.size _ _ _ rfl HO.out m .i64 rfl (by omega) (by omega) ?_; intro v2 w2 ho2 hg2 hb2; have HO2 := Lib.hid ho2; have HG2 := Lib.hid hg2; clear ho2 hg2 hb2))
        go_ret2
        have hb : layB l room = records l ++ List.replicate m 0 := by
          rw [layB, HE.out, if_pos rfl, ← HRr.out, HM.out]
          simp
          omega
        refine ⟨_, by rw [HE.out]; rfl, ?_, ?_⟩
        · rw [hb, List.length_append, List.length_replicate, bys_append]
          have := HO2.out
          rw [HRr.out] at this
          simpa [bys] using this
        · exact HC.out.grown HG2.out (fun k' hk' => .inr (own_new HO.out k' hk'))
end Go.Proofs.YtplpbbdakihnfaaGreat
end
