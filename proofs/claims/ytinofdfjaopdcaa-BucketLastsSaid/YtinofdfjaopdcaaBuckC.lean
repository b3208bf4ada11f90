/- bucket's Drop. -/
import Derived.Test.YtinofdfjaopdcaaBuckB
namespace Go.Proofs.Ytinofdfjaopdcaa
open Go.RowKit
set_option linter.unusedSimpArgs false
set_option linter.unusedVariables false

theorem foot_lt {N : Nat} {w : World} {h : DevH} {D : Dev} (hd : DevN N w h D) {k : Nat} (hk : h.foot k) : k < w.heap.size := by
  obtain ⟨a, b, c, e, hb⟩ := hd.box
  obtain ⟨ps, hb2, _⟩ := hd.row
  obtain ⟨es, hb3, _⟩ := hd.map
  have := hb.lt
  have := hb2.lt
  have := hb3.lt
  rcases hk with rfl | rfl | rfl <;> omega

theorem layB_le (l : List Item) (room : Nat) : (layB l room).length ≤ room := by
  unfold layB
  by_cases h : layE l room = 0
  · rw [if_pos h]
    unfold layE at h
    split at h
    · split at h
      · cases h
      · split at h
        · cases h
        · simp; omega
    · cases h
  · rw [if_neg h]; simp

/-- Drop where list tells no fault -/
def Sto.rest (B : Sto) (D : Dev) (key : ByteArray) : List Item := rid (B.lL D (B.no key)) key
def Sto.dropE (B : Sto) (D : Dev) (key : ByteArray) : Int :=
  if (B.rest D key).length = (B.lL D (B.no key)).length then 5 else D.writeE (B.first + B.no key) (layB (B.rest D key) 384).length
def Sto.dropD (B : Sto) (D : Dev) (key : ByteArray) : Dev :=
  if (B.rest D key).length = (B.lL D (B.no key)).length then D else D.write (B.first + B.no key) (layB (B.rest D key) 384)

set_option maxRecDepth 100000 in
theorem drop_calls {N : Nat} {w : World} {h : DevH} {D : Dev} {t : StoH} {B : Sto} (hd : DevN N w h D) (hs : StoAt w h t B) (hp : 0 < B.fs.length) (key : ByteArray) (hk : key.size ≤ 140737488351232) (he : B.lE D (B.no key) = 0) :
    Calls Try.prog 27 #[.pointer (some ⟨t.s, 0, none⟩), .string key] w fun e w' => e = .returned (.int .i64 (B.dropE D key)) ∧ DevAt w' h (B.dropD D key) ∧ Chg h.foot w w' := by
  have HOF := Lib.hid (of_calls hs hp key hk)
  have hlt := B.no_lt hp key
  have hmost := hs.most
  obtain ⟨hf1, hf2⟩ := hs.fit
  have hll := lL_le hd B (B.no key)
  have HL := fun W => Lib.hid (fun hc : Chg No w W => blist_calls (hd.chgNo hc) (hs.chgNo hc) (B.no key) (by omega))
  rw [he] at HL
  have HEE : Hid (B.dropE D key = if (rid (B.lL D (B.no key)) key).length = (B.lL D (B.no key)).length then 5 else D.writeE (B.first + B.no key) (layB (rid (B.lL D (B.no key)) key) 384).length) := rfl
  have HDD : Hid (B.dropD D key = if (rid (B.lL D (B.no key)) key).length = (B.lL D (B.no key)).length then D else D.write (B.first + B.no key) (layB (rid (B.lL D (B.no key)) key) 384)) := rfl
  obtain ⟨i, hi⟩ : ∃ i, i = B.no key := ⟨_, rfl⟩
  obtain ⟨l, hl⟩ : ∃ l, l = B.lL D (B.no key) := ⟨_, rfl⟩
  rw [← hl] at HL HEE HDD hll
  rw [← hi] at HL HEE HDD HOF hlt
  have HD := Lib.hid hd
  have HS := Lib.hid hs
  have hadd : IntKind.i64.wrap (B.first + (i : Int)) = B.first + (i : Int) := IntWalk.i64_in _ (by omega)
  clear hd hs he hi hl
  go_enter Try.func27, Try.ntmps27
  go_wp2_with fail
  refine HOF.out.mono ?_
  rintro e w1 ⟨rfl, hc1⟩
  have HC1 := Lib.hid hc1
  clear hc1
  go_wp2_with fail
  refine ((HL _).out HC1.out).mono ?_
  rintro e w2 ⟨v, rfl, ho2, hd2, hc2⟩
  obtain ⟨A, c, rfl, hnc, hrd, h00⟩ := own_slice2 ho2
  have HC2 : Hid (Chg h.foot w w2) := (HC1.out.mono (fun _ _ h => h.elim)).trans hc2
  have HD2 := Lib.hid hd2
  have HW := Lib.hid (without_calls A c key l w2 hrd (by omega) h00)
  clear hc2 hrd ho2 hd2 h00
  go_wp2_with fail
  refine HW.out.mono ?_
  rintro e w3 ⟨v3, rfl, ho3, hc3⟩
  obtain ⟨m, hm⟩ : ∃ m, m = rid l key := ⟨_, rfl⟩
  have hml : m.length ≤ l.length := by rw [hm]; exact List.length_filter_le _ _
  rw [← hm] at ho3 HEE HDD
  obtain ⟨A3, c3, rfl, hnc3, hrd3⟩ := own_slice ho3
  have HC3 : Hid (Chg h.foot w w3) := HC2.out.trans (hc3.mono (fun _ _ h => h.elim))
  have HD3 := Lib.hid (HD2.out.chgNo hc3)
  have HLAY := Lib.hid (lay_calls A3 c3 m 384 w3 hrd3 (by omega) (by omega))
  clear hm hc3 hrd3 ho3
  by_cases hsame : m.length = l.length
  · rw [if_pos hsame] at HEE HDD
    have hb : ((m.length : Int) == (l.length : Int)) = true := by simp [hsame]
    clear hsame
    go_wp2
    go_ret
    exact ⟨by rw [HEE.out]; rfl, by rw [HDD.out]; exact HD3.out.at_, HC3.out⟩
  · rw [if_neg hsame] at HEE HDD
    have hb : ((m.length : Int) == (l.length : Int)) = false := by simp; omega
    clear hsame
    go_wp2_with fail
    refine HLAY.out.mono ?_
    rintro e w4 ⟨v4, rfl, ho4, hc4⟩
    obtain ⟨b, hbb⟩ : ∃ b, b = layB m ((384 : Nat) : Int) := ⟨_, rfl⟩
    have HBB : Hid (layB m 384 = b) := hbb.symm
    rw [← hbb] at ho4
    obtain ⟨A4, c4, rfl, hnc4, hrd4⟩ := own_slice ho4
    have HC4 : Hid (Chg h.foot w w4) := HC3.out.trans (hc4.mono (fun _ _ h => h.elim))
    have HD4 := Lib.hid (HD3.out.chgNo hc4)
    have HS4 := Lib.hid (HS.out.foot HD.out HC4.out)
    have hb4 : b.length ≤ 140737488351232 := by have h1 : b = layB m ((384 : Nat) : Int) := HBB.out.symm; have := layB_le m 384; rw [← h1] at this; omega
    have HWR := fun W => Lib.hid (fun hc : Chg No w4 W => write_calls (HD4.out.chgNo hc) (B.first + (i : Int)) A4 b.length c4 b (by have := hrd4.chg hc (fun _ _ _ _ h => h); simpa using this) hb4)
    have c04 := HS4.out.box.cell 0
    have c24 := HS4.out.box.cell 2
    simp at c04 c24
    have hl4 := HS4.out.box.lt
    rw [HBB.out] at HEE HDD
    clear hbb hc4 hrd4 ho4 HLAY
    go_wp2_with fail
    go_region_held3 (fun w' => w'.cell? ⟨t.s, 0, none⟩ = some (.pointer (some ⟨h.d, 0, none⟩)) ∧ w'.cell? ⟨t.s, 2, none⟩ = some (.int .i64 B.first)) (first | go_keep)
      ((go_at_call 23
        refine ((HWR _).out (by (repeat (first | (with_reducible exact Chg.refl _ _) | (with_reducible assumption) | (with_reducible refine Chg.drewN ?_ _) | (with_reducible refine Chg.drew ?_) | (with_reducible refine Chg.alloc ?_ _) | (with_reducible refine Chg.setCell ?_ (by first | (left; simp [DevH.foot]; done) | (right; simp; done) | (right; simp; omega)) _))))).mono ?_
        rintro e w5 ⟨rfl, hd5, hc5⟩
        have HD5 := Lib.hid hd5
        have HC5 : Hid (Chg h.foot w w5) := (HC4.out.trans ((by (repeat (first | (with_reducible exact Chg.refl _ _) | (with_reducible assumption) | (with_reducible refine Chg.drewN ?_ _) | (with_reducible refine Chg.drew ?_) | (with_reducible refine Chg.alloc ?_ _) | (with_reducible refine Chg.setCell ?_ (by first | (left; simp [DevH.foot]; done) | (right; simp; done) | (right; simp; omega)) _))) : Chg No w4 _).mono (fun _ _ h => h.elim))).trans hc5
        have HS5 := Lib.hid (HS.out.foot HD.out HC5.out)
        clear hd5 hc5
        have c05 := HS5.out.box.cell 0
        have c25 := HS5.out.box.cell 2
        simp at c05 c25))
    go_wp2
    go_ret
    exact ⟨by rw [HEE.out]; rfl, by rw [HDD.out]; exact HD5.out, HC5.out⟩

end Go.Proofs.Ytinofdfjaopdcaa
