/- The model's Items, walked (its loop). -/
import Derived.Test.YtedkoplgfidjlaaDoorMdlL
namespace Go.Proofs.YtedkoplgfidjlaaDoor
open Go.RowKit
attribute [local go_sem ↓] Go.wp_at_zero Go.wp_at_succ
set_option linter.unusedSimpArgs false
set_option linter.unusedVariables false

/-- the item of a key, as bytes -/
def mgetL (es : Its) (now : Int) (k : List UInt8) : Option Item := mget es ⟨k.toArray⟩ now
/-- what Items tells -/
def mitems (es : Its) (now : Int) : List Item := (skeys es).filterMap (mgetL es now)
theorem rd_atS {w : World} {t : TypeId} {A : Option Addr} {n k : Nat} {l : List (List UInt8)} {s : List UInt8} (h : Rd w t A (n * 1) (l.map encStr)) (hk : k < n) (hx : l[k]? = some s) :
    ∃ g off, A = some ⟨g, off, none⟩ ∧ ∀ W : World, Chg No w W → W.cell? ⟨g, off + k, none⟩ = some (.string ⟨s.toArray⟩) := by
  obtain ⟨g, off, cur, fz, rfl, hg, hc⟩ := h.2 (by omega)
  refine ⟨g, off, rfl, fun W hW => ?_⟩
  exact (cell_of_row W g _ cur t fz (hW.at_ hg (fun h => h))).trans (hc k _ (by rw [List.getElem?_map, hx]; rfl))
theorem skeys_length (es : Its) : (skeys es).length = es.length := by unfold skeys akeys; rw [List.length_mergeSort]; simp
section
variable {w w' : World} {m M : Nat} {es : Its}
set_option maxRecDepth 100000 in
set_option maxHeartbeats 4000000 in
/-- Items -/
theorem mitems_calls (h : Mp w m M es) (hn : es.length ≤ 100000) (now : Int) :
    Calls Tryd.prog 10 #[.pointer (some ⟨m, 0, none⟩), .int .i64 now] w fun e w' => ∃ v, e = .returned v ∧ w'.ownsRow w.heap.size tItem 5 v (mitems es now).length (its (mitems es now)) ∧ Chg No w w' := by
  have c0 := h.box.cell 0
  simp at c0
  have hlt := h.box.lt
  have HS := Lib.hid (msorted_calls h.map h.ok hn)
  have HG := fun W key => Lib.hid (fun hc : Chg No w W => mget_calls (h.chgNo hc) key now)
  have HMI : Hid (mitems es now = (skeys es).filterMap (mgetL es now)) := rfl
  obtain ⟨L, hL⟩ : ∃ L, L = mitems es now := ⟨_, rfl⟩
  obtain ⟨ks, hks⟩ : ∃ ks, ks = skeys es := ⟨_, rfl⟩
  have hkn := skeys_length es
  rw [← hL, ← hks] at HMI
  rw [← hks] at HS hkn
  rw [← hL]
  obtain ⟨n, hnn⟩ : ∃ n, n = ks.length := ⟨_, rfl⟩
  rw [← hnn] at HS hkn
  have hn2 : n ≤ 100000 := by omega
  have HNN := Lib.hid hnn
  have HM := Lib.hid h
  clear h hn hL hks hkn hnn
  go_enter Tryd.func10, Tryd.ntmps10
  go_wp2_with fail
  refine (mkeys_calls M _).mono ?_
  rintro e w' ⟨rfl, rfl⟩
  go_wp2_with fail
  refine HS.out.mono ?_
  rintro e w1 ⟨v, rfl, hrow, hb⟩
  obtain ⟨A, c, rfl, hnc, hrd⟩ := own_slice hrow
  have HRD := Lib.hid hrd
  have HC1 : Hid (Chg No w w1) := ((Chg.refl No w).alloc _).trans (Chg.ofBelow (by rw [World.size_alloc]; exact hb))
  clear hrow hb hrd HS c0 hlt
  go_wp2_with fail
  go_loopg [5, 17] n (fun g v5 v17 wr => ∃ k : Nat, v17 = .int .i64 k ∧ k ≤ n ∧ n - k = g ∧ Hid (∃ l, l = (ks.take k).filterMap (mgetL es now) ∧ wr.ownsRow w1.heap.size tItem 5 v5 l.length (its l) ∧ l.length ≤ k ∧ Chg No w1 wr))
  case atStart => exact ⟨0, rfl, by omega, by omega, [], rfl, World.ownsRow_nil _ _ _ _, by simp, Chg.refl _ _⟩
  case round =>
    obtain ⟨k, rfl, hk, hgg, H⟩ := hrel
    obtain ⟨l, hl, ho, hll, hc⟩ := H.out
    have HL := Lib.hid hl
    have HO := Lib.hid ho
    have HC := Lib.hid hc
    have HCC := Lib.hid (HC1.out.trans hc)
    have hbz : w1.heap.size ≤ wr.heap.size := HC.out.size
    clear hl ho hc H
    by_cases h0 : k < n
    · obtain ⟨x, hx⟩ : ∃ x, ks[k]? = some x := ⟨_, List.getElem?_eq_getElem (by rw [← HNN.out]; exact h0)⟩
      obtain ⟨g, off, rfl, hcell⟩ := rd_atS HRD.out h0 hx
      have cx := hcell wr HC.out
      have HTK : Hid ((ks.take (k + 1)).filterMap (mgetL es now) = l ++ (mgetL es now x).toList) := by
        show _ = _
        rw [List.take_add_one, hx, List.filterMap_append, HL.out]
        first
          | done
          | (cases hh : mgetL es now x <;> simp [hh])
      obtain ⟨q, hq⟩ : ∃ q, q = mgetL es now x := ⟨_, rfl⟩
      rw [← hq] at HTK
      have HQ : Hid (mget es ⟨x.toArray⟩ now = q) := hq.symm
      have HNUM : Hid (l.length ≤ k ∧ k < n ∧ n ≤ 100000) := ⟨hll, h0, hn2⟩
      clear hcell hx hq
      go_wp2_with fail
      refine ((HG _ _).out HCC.out).mono ?_
      rintro e w5 ⟨rfl, hc5⟩
      rw [HQ.out]
      have HC5 := Lib.hid (HC.out.trans hc5)
      have HO5 := Lib.hid (own_chg HO.out hc5 (fun _ _ h => h))
      have hbz5 : w1.heap.size ≤ w5.heap.size := Nat.le_trans hbz hc5.size
      clear hc5 cx HO HC
      cases q with
      | none =>
        go_wp2_with fail
        go_roundg (n - (k + 1))
        case measure => have := HNUM.out; omega
        case rel => exact ⟨k + 1, by go_num, by have := HNUM.out; omega, rfl, l, by have := HTK.out; simpa using this.symm, own_chg HO5.out (by (repeat (first | (with_reducible exact Chg.refl _ _) | (with_reducible assumption) | (with_reducible refine Chg.drewN ?_ _) | (with_reducible refine Chg.drew ?_) | (with_reducible refine Chg.alloc ?_ _) | (with_reducible refine Chg.setCell ?_ (by first | (left; simp [DevH.foot]; done) | (right; simp; done) | (right; simp; omega)) _)))) (fun _ _ h => h), by omega, HC5.out.trans (by (repeat (first | (with_reducible exact Chg.refl _ _) | (with_reducible assumption) | (with_reducible refine Chg.drewN ?_ _) | (with_reducible refine Chg.drew ?_) | (with_reducible refine Chg.alloc ?_ _) | (with_reducible refine Chg.setCell ?_ (by first | (left; simp [DevH.foot]; done) | (right; simp; done) | (right; simp; omega)) _))))⟩
      | some y =>
        have HI := Blk.new w5 tItem (itc y).toArray
        have HRI := Lib.hid (show Rd ((w5.alloc (.cells (itc y).toArray tItem)).alloc (.cells (itc y).toArray tItem)) tItem (some ⟨w5.heap.size + 1, 0, none⟩) (1 * 5) (itc y) from rd_item2 w5 _ y)
        have HO6 := Lib.hid (own_chg HO5.out (by (repeat (first | (with_reducible exact Chg.refl _ _) | (with_reducible assumption) | (with_reducible refine Chg.drewN ?_ _) | (with_reducible refine Chg.drew ?_) | (with_reducible refine Chg.alloc ?_ _) | (with_reducible refine Chg.setCell ?_ (by first | (left; simp [DevH.foot]; done) | (right; simp; done) | (right; simp; omega)) _))) : Chg No w5 ((w5.alloc (.cells (itc y).toArray tItem)).alloc (.cells (itc y).toArray tItem))) (fun _ _ h => h))
        simp only [itc] at HI HRI HO6
        have z0 := HI.cell 0
        have z1 := HI.cell 1
        have z2 := HI.cell 2
        have z3 := HI.cell 3
        have z4 := HI.cell 4
        simp at z0 z1 z2 z3 z4
        go_wp2_with (first
          | (at_builtin; refine wpList_app _ rfl (.tmp 29) (.tmp 31) tItems rfl tItem Tryd.underlying34 ti_item rfl (by omega) w1.heap.size _ _ _ rfl HO6.out tItem _ _ _ _ rfl HRI.out (itc_one_cell y) (by have := HNUM.out; simp only [maxLen]; omega) (by have := HNUM.out; omega) (by simp; omega) ?_; intro v2 w2 ho2 hg2 hb2; have HO2 := Lib.hid ho2; have HG2 := Lib.hid hg2; clear ho2 hg2 hb2))
        go_roundg (n - (k + 1))
        case measure => have := HNUM.out; omega
        case rel =>
          refine ⟨k + 1, by go_num, by have := HNUM.out; omega, rfl, l ++ [y], by have := HTK.out; simpa using this.symm, ?_, by simp; omega, ?_⟩
          · rw [List.length_append, its_append, its_one]; exact HO2.out
          · exact (HC5.out.trans (((Chg.refl No w5).alloc _).alloc _)).then (T := fun j => w1.heap.size ≤ j) ((Chg.refl _ _).grown HG2.out (fun k' hk' => .inl (own_new HO6.out k' hk'))) (fun i hi hT => by omega)
    · have e3 : k = n := by omega
      subst e3
      go_wp2
      go_ret
      have e4 : L = l := by rw [HMI.out, HL.out, HNN.out, List.take_length]
      rw [e4]
      exact ⟨_, rfl, own_base HO.out HC1.out.size, HCC.out⟩
end
end Go.Proofs.YtedkoplgfidjlaaDoor
