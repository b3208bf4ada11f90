/- A store whose power went: Items and Put answer that. -/
import Derived.Test.YtinofdfjaopdcaaBuckD
namespace Go.Proofs.Ytinofdfjaopdcaa
open Go.RowKit
set_option linter.unusedSimpArgs false
set_option linter.unusedVariables false

set_option maxRecDepth 100000 in
theorem sitems_off {N : Nat} {w : World} {h : DevH} {D : Dev} {t : StoH} {B : Sto} (hd : DevN N w h D) (hs : StoAt w h t B) (hp : 0 < B.fs.length) (he : B.lE D ((0 : Nat) : Int) = 4) :
    Calls Try.prog 31 #[.pointer (some ⟨t.s, 0, none⟩)] w fun e w' => e = .returned (.tuple #[.slice none 0 0, .int .i64 4]) ∧ DevN N w' h D ∧ Chg h.foot w w' := by
  have c3 := hs.box.cell 3
  simp at c3
  have hmost := hs.most
  obtain ⟨n, hn⟩ : ∃ n, n = B.fs.length := ⟨_, rfl⟩
  rw [← hn] at c3 hmost hp
  have HL := Lib.hid (blist_calls hd hs 0 (by omega))
  rw [he] at HL
  have hpi : (0 : Int) < (n : Int) := by omega
  clear he hd hs hn
  go_enter Try.func31, Try.ntmps31
  go_wp2
  go_loopg [4, 13] n (fun g v4 v13 wr => v13 = .int .i64 0 ∧ w = wr)
  case atStart => exact ⟨rfl, rfl⟩
  case round =>
    obtain ⟨rfl, rfl⟩ := hrel
    go_wp2_with fail
    refine HL.out.mono ?_
    rintro e w1 ⟨v, rfl, ho1, hd1, hc1⟩
    have F := Lib.hid (And.intro hd1 hc1)
    clear ho1 hd1 hc1 HL
    go_wp2
    go_ret2
    exact ⟨rfl, F.out⟩

set_option maxRecDepth 100000 in
theorem sput_off {N : Nat} {w : World} {h : DevH} {D : Dev} {t : StoH} {B : Sto} (hd : DevN N w h D) (hs : StoAt w h t B) (hp : 0 < B.fs.length) (x : Item) (hg : x.good = true) (hx : x.size ≤ 120)
    (he : B.lE D (B.no x.key) = 4) :
    Calls Try.prog 26 #[.pointer (some ⟨t.s, 0, none⟩), itemV x] w fun e w' => e = .returned (.tuple #[.slice none 0 0, .int .i64 4]) ∧ DevN N w' h D ∧ Chg h.foot w w' := by
  have hgg := hg
  simp only [Item.good, Bool.and_eq_true, decide_eq_true_eq] at hgg
  have HOF := fun W => Lib.hid (fun hc : Chg No w W => of_calls (hs.chgNo hc) hp x.key (by omega))
  have HG := fun W => Lib.hid (good_calls x W)
  rw [hg] at HG
  have HSZ := fun W => Lib.hid (size_calls x W (by omega) (by omega))
  have hlt := B.no_lt hp x.key
  have hmost := hs.most
  have HL := fun W => Lib.hid (fun hc : Chg No w W => blist_calls (hd.chgNo hc) (hs.chgNo hc) (B.no x.key) (by omega))
  rw [he] at HL
  obtain ⟨i, hi⟩ : ∃ i, i = B.no x.key := ⟨_, rfl⟩
  rw [← hi] at HL HOF hlt
  have hxx : ¬ 120 < x.size := by omega
  clear hd hs he hi hg hgg
  go_enter Try.func26, Try.ntmps26
  go_wp2_with fail
  refine (HG _).out.mono ?_
  rintro e w1 ⟨rfl, hc1⟩
  have HB := Lib.hid ((Blk.new w 32 (itc x).toArray).chg hc1 (fun h => h))
  simp only [itc] at HB
  have HC1 : Hid (Chg No w w1) := ((Chg.refl _ _).alloc _).trans hc1
  clear hc1
  (have d0 := HB.out.cell 0; have d1 := HB.out.cell 1; have d2 := HB.out.cell 2; have d3 := HB.out.cell 3; have d4 := HB.out.cell 4; simp at d0 d1 d2 d3 d4)
  go_wp2_with fail
  refine (HSZ _).out.mono ?_
  rintro e w2 ⟨rfl, hc2⟩
  have HB1 := HB
  clear HB
  have HB := Lib.hid (HB1.out.chg hc2 (fun h => h))
  have HC2 : Hid (Chg No w w2) := HC1.out.trans hc2
  clear hc2 d0 d1 d2 d3 d4 HB1 HC1
  (have d0 := HB.out.cell 0; have d1 := HB.out.cell 1; have d2 := HB.out.cell 2; have d3 := HB.out.cell 3; have d4 := HB.out.cell 4; simp at d0 d1 d2 d3 d4)
  go_wp2_with fail
  refine ((HOF _).out HC2.out).mono ?_
  rintro e w3 ⟨rfl, hc3⟩
  have HC3 : Hid (Chg No w w3) := HC2.out.trans hc3
  clear hc3 d0 d1 d2 d3 d4 HC2
  go_wp2_with fail
  refine ((HL _).out HC3.out).mono ?_
  rintro e w4 ⟨v4, rfl, ho4, hd4, hc4⟩
  have F : Hid (DevN N w4 h D ∧ Chg h.foot w w4) := ⟨hd4, (HC3.out.mono (fun _ _ h => h.elim)).trans hc4⟩
  clear ho4 hd4 hc4 HL
  go_wp2
  go_ret2
  exact ⟨rfl, F.out⟩
end Go.Proofs.Ytinofdfjaopdcaa
