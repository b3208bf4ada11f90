/- The flash device's settle, Crash, On, walked. -/
import Derived.Test.YtcmobcbecbajiaaFlashC
import Derived.Test.YtcmobcbecbajiaaKeyMap
import Derived.Test.YtcmobcbecbajiaaShelf
import Derived.Shelf.AbstractIn
import Derived.TacticsInMore
import Derived.OwnWalkIn
import Derived.Deep.LoopGhost
import Derived.Deep.DrawnRows
import Derived.Test.YtcmobcbecbajiaaFlashD
import Derived.Deep.RegionHeld3
/- The flash device's Waiting. -/
namespace Go.Proofs.Ytcmobcbecbajiaa
open Go.RowKit Go.Maps Go.Shelf
open Go.ChangeMaps (setBlock)
set_option linter.unusedSimpArgs false
set_option linter.unusedVariables false

theorem shelf_sorts (m : Nat) : AnyZI.SortsIn Try.prog Try.sortedA_ren Fence.wide m :=
  ⟨fun blk off cap ss W hH hblk hsz => callsIn_wide.2 (AnyM.slices_Sort_int Try.sortA blk off cap ss W hH hblk hsz),
   fun p cap W => callsIn_wide.2 (AnyM.slices_Sort_int_none Try.sortA p cap W)⟩

/-- the pages that wait, as ints -/
def Dev.waitI (D : Dev) : List Int := D.waiting.map fun (i : Nat) => (i : Int)
theorem waitI_sorted (D : Dev) : D.waitI.Pairwise (fun a b => a < b) := by
  unfold Dev.waitI Dev.waiting
  refine List.pairwise_map.2 (List.Pairwise.filter _ ?_)
  exact List.pairwise_lt_range.imp (fun h => by omega)
theorem wait_perm {N : Nat} {w : World} {es : List (Int × Value)} {D : Dev} (h : WaitAt N w es D.n D.wt) (hnd : (akeys es).Nodup) : (akeys es).Perm D.waitI := by
  refine (List.perm_ext_iff_of_nodup hnd ((waitI_sorted D).imp (fun h => by omega))).2 fun x => ?_
  constructor
  · intro hx
    obtain ⟨p, hp, rfl⟩ := List.mem_map.1 hx
    obtain ⟨i, pg, e1, e2, e3, _⟩ := h.1 p.1 p.2 hp
    refine List.mem_map.2 ⟨i, ?_, e1.symm⟩
    unfold Dev.waiting
    exact List.mem_filter.2 ⟨List.mem_range.2 e2, by rw [e3]; rfl⟩
  · intro hx
    obtain ⟨i, hi, rfl⟩ := List.mem_map.1 hx
    unfold Dev.waiting at hi
    obtain ⟨h1, h2⟩ := List.mem_filter.1 hi
    obtain ⟨pg, hpg⟩ := Option.isSome_iff_exists.1 h2
    obtain ⟨v, hv⟩ := h.2 i pg hpg
    exact List.mem_map.2 ⟨((i : Int), v), aget_mem hv, rfl⟩
theorem waiting_le (D : Dev) : D.waiting.length ≤ D.n := by
  unfold Dev.waiting
  exact Nat.le_trans (List.length_filter_le _ _) (by simp)
theorem sort_wait {ss : List Int} {D : Dev} (h : ss.Perm D.waitI) : ss.mergeSort (fun x y => decide (x ≤ y)) = D.waitI := by
  rw [mergeSort_of_perm_i h]
  refine List.mergeSort_of_pairwise ((waitI_sorted D).imp (fun {a b} h => ?_))
  simp only [leI, decide_eq_true_eq]; omega

abbrev encI : Nat → Value := fun i => .int .i64 i
set_option maxHeartbeats 1000000 in
theorem waiting_calls {N : Nat} {w : World} {h : DevH} {D : Dev} (hd : DevN N w h D) :
    Calls Try.prog 99 #[.pointer (some ⟨h.d, 0, none⟩)] w fun e w' => ∃ v, e = .returned v ∧ w'.ownsRow w.heap.size 3 1 v D.waiting.length (D.waiting.map encI) ∧ Chg No w w' := by
  obtain ⟨a, b, c, e, hb⟩ := hd.box
  have h1 := hb.cell 1
  simp at h1
  obtain ⟨es, hm, hw⟩ := hd.map
  have hper := wait_perm hw hm.nodup
  have hlen : es.length = D.waiting.length := by
    have := hper.length_eq
    simpa [akeys, Dev.waitI] using this
  have hle := waiting_le D
  have hn := hd.nmost
  obtain ⟨D0, hown, hkp, hms⟩ := hm.owns (P := Try.prog) (kt := 3) Try.underlying3 (fun p hp => by
    obtain ⟨i, pg, e1, e2, _⟩ := hw.1 p.1 p.2 hp
    rw [e1]
    have m1 : IntKind.i64.min = -9223372036854775808 := by decide
    have m2 : IntKind.i64.max = 9223372036854775807 := by decide
    simp only [Lit.wf, m1, m2, Bool.and_eq_true, decide_eq_true_eq]; omega) (by simp only [maxLen]; omega)
  have hdb := hd.box
  clear hb hd
  refine (callsIn_wide (n := 6)).1 ?_
  have hbl := hown.lt
  have hseq : SeqGives Fence.wide 2 Try.prog 112 #[.pointer (some ⟨w.heap.size, 0, none⟩)] encZ (fun ss => ss.Perm (intKeys D0)) (Maps.size D0) (w.alloc (.cells #[.map (some h.M)] 77)) :=
    AnyZI.keys_gives (ρ := Try.keysA_ren) { Try.keysA with } Fence.wide _ trivial rfl (by omega) w.heap.size h.M es.length D0 _ (by simp) (by simp) (by
      obtain ⟨es, clock, hb, Ft, hs, hD⟩ := hown
      exact ⟨es, clock, (Below.heap_alloc _ _ h.M hbl).trans hb, Ft, hs, hD⟩)
  have cK : ∀ mb W, CallsIn Fence.wide 5 Try.prog 106 #[.map mb] W fun e w' => e = .returned (.func (.func 112) #[] #[.pointer (some ⟨W.heap.size, 0, none⟩)]) ∧ w' = W.alloc (.cells #[.map mb] 77) := fun mb W => AnyZI.keys_in Try.keysA Fence.wide 5 trivial rfl mb W
  have cS := AnyZI.sorted_in Try.sortedA Fence.wide 5 trivial trivial trivial trivial rfl (by omega) (shelf_sorts _) (enters_of Try.func111 (by kernel_rfl) rfl) 112 #[.pointer (some ⟨w.heap.size, 0, none⟩)] trivial (enters_of Try.func112 (by kernel_rfl) rfl) _ _ (by rw [hms]; simp only [maxLen]; omega) (by rw [hms]; omega) _ hseq
  change CallsIn _ _ Try.prog 105 _ _ _ at cS
  have hfK : Fence.wide.fn 106 := trivial
  have hfS : Fence.wide.fn 105 := trivial
  refine callsIn_of_wp Try.func99 rfl trivial ?_ rfl
  simp only [Try.ntmps99, List.size_toArray, List.length_cons, List.length_nil, Nat.reduceAdd, Nat.reduceSub, Array.replicate_succ, Array.replicate_zero, List.push_toArray, List.append_toArray, List.nil_append, List.cons_append]
  gi_wp2_with (first
    | (gi_at_call 106; refine (cK _ _).mono ?_; rintro e w' ⟨rfl, rfl⟩)
    | (gi_at_call 105; refine cS.mono ?_; rintro e w' ⟨v, ss, rfl, hS, hrow, hnil, hb⟩))
  go_ret
  have hss : ss.Perm D.waitI := hS.trans (hkp.trans hper)
  rw [sort_wait hss, hss.length_eq] at hrow
  have e1 : D.waitI.map encZ = D.waiting.map encI := by unfold Dev.waitI; rw [List.map_map]; rfl
  have e2 : D.waitI.length = D.waiting.length := by unfold Dev.waitI; simp
  rw [e1, e2] at hrow
  refine ⟨v, rfl, ownsRow_base_a hrow (by simp), ?_⟩
  exact ((Chg.refl _ w).alloc _).trans (Chg.ofBelow hb)
end Go.Proofs.Ytcmobcbecbajiaa

/- The flash device's settle, Crash, On. -/
namespace Go.Proofs.Ytcmobcbecbajiaa
open Go.RowKit
open Go.ChangeMaps (setBlock)
attribute [local go_sem ↓] Go.wp_at_zero Go.wp_at_succ
set_option linter.unusedSimpArgs false
set_option linter.unusedVariables false

theorem filt_get (p : Nat → Bool) : ∀ (n k a : Nat), ((List.range n).filter p)[k]? = some a → a < n ∧ p a = true ∧ ((List.range a).filter p).length = k := by
  intro n
  induction n with
  | zero => intro k a h; simp at h
  | succ n ih =>
    intro k a h
    rw [List.range_succ, List.filter_append] at h
    by_cases hk : k < ((List.range n).filter p).length
    · rw [List.getElem?_append_left hk] at h
      obtain ⟨h1, h2, h3⟩ := ih k a h
      exact ⟨by omega, h2, h3⟩
    · rw [List.getElem?_append_right (by omega)] at h
      by_cases hp : p n = true
      · rw [show List.filter p [n] = [n] by simp [hp]] at h
        have hk0 : k - ((List.range n).filter p).length = 0 := by
          cases hh : k - ((List.range n).filter p).length with
          | zero => rfl
          | succ j => rw [hh] at h; simp at h
        rw [hk0] at h
        simp only [List.getElem?_cons_zero, Option.some.injEq] at h
        subst h
        exact ⟨by omega, hp, by omega⟩
      · rw [show List.filter p [n] = [] by simp [hp]] at h
        simp at h
theorem filt_at (p : Nat → Bool) : ∀ (n a : Nat), a < n → p a = true → ((List.range n).filter p)[((List.range a).filter p).length]? = some a := by
  intro n
  induction n with
  | zero => intro a h; omega
  | succ n ih =>
    intro a ha hp
    rw [List.range_succ, List.filter_append]
    by_cases h : a < n
    · have := ih a h hp
      rw [List.getElem?_append_left (List.getElem?_eq_some_iff.1 this).1]
      exact this
    · obtain rfl : a = n := by omega
      rw [List.getElem?_append_right (Nat.le_refl _), Nat.sub_self, show List.filter p [a] = [a] by simp [hp]]
      rfl
theorem Dev.waiting_get {D : Dev} {k a : Nat} (h : D.waiting[k]? = some a) : a < D.n ∧ (D.wt a).isSome = true ∧ D.rank a = k := filt_get (fun i => (D.wt i).isSome) D.n k a h
theorem Dev.waiting_at {D : Dev} {a : Nat} (ha : a < D.n) (hw : (D.wt a).isSome = true) : D.waiting[D.rank a]? = some a := filt_at (fun i => (D.wt i).isSome) D.n a ha hw

/-- when k of those that wait were settled -/
def Dev.atK (D : Dev) (picks : List UInt8) (k : Nat) : Dev := { D with fl := fun i => match D.wt i with | none => D.fl i | some p => if D.rank i < k then Dev.fate (D.fl i) p picks[D.rank i]? else D.fl i }
theorem Dev.atK_zero (D : Dev) (picks : List UInt8) : D.atK picks 0 = D := by
  unfold Dev.atK
  have : (fun i => match D.wt i with | none => D.fl i | some p => if D.rank i < 0 then Dev.fate (D.fl i) p picks[D.rank i]? else D.fl i) = D.fl := by
    funext i
    cases D.wt i with
    | none => rfl
    | some p => simp
  rw [this]
/-- one page's content becomes p -/
def Dev.setFl (D : Dev) (a : Nat) (p : Pg) : Dev := { D with fl := fun i => if i = a then p else D.fl i }
theorem Dev.atK_succ {D : Dev} {picks : List UInt8} {k a : Nat} {p : Pg} (hk : D.waiting[k]? = some a) (hp : D.wt a = some p) (hb : ∀ i, (D.wt i).isSome = true → i < D.n) : D.atK picks (k + 1) = (D.atK picks k).setFl a (Dev.fate (D.fl a) p picks[k]?) := by
  obtain ⟨h1, h2, h3⟩ := Dev.waiting_get hk
  unfold Dev.setFl Dev.atK
  simp only
  congr 1
  funext i
  by_cases hi : i = a
  · subst hi
    rw [if_pos rfl, hp]
    simp only [h3]
    rw [if_pos (by omega)]
  · rw [if_neg hi]
    cases hw : D.wt i with
    | none => rfl
    | some q =>
      simp only
      have hne : D.rank i ≠ k := by
        intro e
        have := Dev.waiting_at (hb i (by rw [hw]; rfl)) (by rw [hw]; rfl)
        rw [e, hk] at this
        exact hi (Option.some.inj this).symm
      by_cases h : D.rank i < k
      · rw [if_pos h, if_pos (by omega)]
      · rw [if_neg h, if_neg (by omega)]
theorem Dev.atK_fl {D : Dev} {picks : List UInt8} {k a : Nat} (hk : D.waiting[k]? = some a) : (D.atK picks k).fl a = D.fl a := by
  obtain ⟨h1, h2, h3⟩ := Dev.waiting_get hk
  unfold Dev.atK
  simp only
  cases D.wt a with
  | none => rfl
  | some p => simp only; rw [if_neg (by omega)]
theorem Dev.setFl_same {D : Dev} {a : Nat} : D.setFl a (D.fl a) = D := by
  unfold Dev.setFl
  have : (fun i => if i = a then D.fl a else D.fl i) = D.fl := by
    funext i
    by_cases h : i = a
    · rw [if_pos h, h]
    · rw [if_neg h]
  rw [this]
theorem Dev.atK_all {D : Dev} {picks : List UInt8} (hb : ∀ i, (D.wt i).isSome = true → i < D.n) : { D.atK picks D.waiting.length with wt := fun _ => none, losses := Dev.more D.losses } = D.settle picks := by
  unfold Dev.atK Dev.settle
  simp only
  congr 1
  funext i
  cases hw : D.wt i with
  | none => rfl
  | some p =>
    have := Dev.waiting_at (hb i (by rw [hw]; rfl)) (by rw [hw]; rfl)
    simp only
    rw [if_pos (List.getElem?_eq_some_iff.1 this).1]
theorem DevN.wt_lt {N : Nat} {w : World} {h : DevH} {D : Dev} (hd : DevN N w h D) : ∀ i, (D.wt i).isSome = true → i < D.n := by
  intro i hi
  obtain ⟨es, _, h1, h2⟩ := hd.map
  obtain ⟨pg, hpg⟩ := Option.isSome_iff_exists.1 hi
  obtain ⟨v, hv⟩ := h2 i pg hpg
  obtain ⟨j, pg', e1, e2, _⟩ := h1 _ _ (aget_mem hv)
  omega

/-- the row's store -/
theorem DevN.setFl {w : World} {h : DevH} {D : Dev} (hd : DevAt w h D) (a : Nat) {v : Value} {p : Pg} (hp : PgAt w.heap.size w v p) : DevAt (w.setCell ⟨h.F, a, none⟩ v) h (D.setFl a p) := by
  have AP := DevN.apart hd
  have hc : Chg (fun i => i = h.F) w (w.setCell ⟨h.F, a, none⟩ v) := chg_setCell w ⟨h.F, a, none⟩ v
  obtain ⟨x, b, c, e, hb⟩ := hd.box
  obtain ⟨ps, hF, hl, hrow⟩ := hd.row
  obtain ⟨es, hm, hw1, hw2⟩ := hd.map
  have hkeep : ∀ g cs t, g < w.heap.size → (t = tPage ∨ t = tU8) → Blk w g t cs → ¬ g = h.F := fun g cs t _ ht hb e => by
    refine DevN.not_foot hd hb ?_ ?_ (.inr (.inl e)) <;> rcases ht with rfl | rfl <;> decide
  refine DevN.step hd (hc.mono (fun k _ e => .inr (.inl e))) rfl ⟨x, b, c, e, hb.chg hc (fun e => AP.1 e.symm)⟩ (.inl ⟨ps.set a v, ?_, ?_, ?_⟩) (.inr ⟨rfl, ?_⟩) hd.armed
  · have := hF.set_ a v
    simpa using this
  · show (ps.set a v).length = D.n
    rw [List.length_set]; exact hl
  · intro i u hu
    show PgAt _ _ u (if i = a then p else D.fl i)
    rw [World.size_setCell]
    by_cases hi : i = a
    · subst hi
      rw [if_pos rfl]
      have : u = v := by
        by_cases hlt : i < ps.length
        · rw [List.getElem?_set_self hlt] at hu
          exact (Option.some.inj hu).symm
        · rw [List.getElem?_eq_none (by rw [List.length_set]; omega)] at hu
          cases hu
      rw [this]
      exact hp.chg hc hkeep
    · rw [if_neg hi]
      rw [List.getElem?_set_ne (fun e => hi e.symm)] at hu
      exact (hrow i u hu).chg hc hkeep
  · exact hc.block h.M hm.lt (fun e => AP.2.2 e)
theorem DevN.cells {N : Nat} {w : World} {h : DevH} {D : Dev} (hd : DevN N w h D) : w.cell? ⟨h.d, 0, none⟩ = some (.slice (some ⟨h.F, 0, none⟩) D.n D.n) ∧ w.cell? ⟨h.d, 1, none⟩ = some (.map (some h.M)) ∧
    w.cell? ⟨h.d, 4, none⟩ = some (.int .i64 D.losses) ∧ w.frozen? ⟨h.d, 4, none⟩ = false := by
  obtain ⟨a, b, c, e, hb⟩ := hd.box
  have h0 := hb.cell 0
  have h1 := hb.cell 1
  have h4 := hb.cell 4
  simp at h0 h1 h4
  exact ⟨h0, h1, h4, hb.frozen 4⟩
theorem DevN.rowcell {N : Nat} {w : World} {h : DevH} {D : Dev} (hd : DevN N w h D) {a : Nat} (ha : a < D.n) : (∃ u, w.cell? ⟨h.F, a, none⟩ = some u) ∧ w.frozen? ⟨h.F, a, none⟩ = false := by
  obtain ⟨ps, hF, hl, _⟩ := hd.row
  refine ⟨⟨ps[a], ?_⟩, hF.frozen a⟩
  rw [hF.cell a]
  simp [List.getElem?_eq_getElem (show a < ps.length by omega)]
end Go.Proofs.Ytcmobcbecbajiaa

namespace Go.Proofs.Ytcmobcbecbajiaa
open Go.RowKit
open Go.ChangeMaps (setBlock)
attribute [local go_sem ↓] Go.wp_at_zero Go.wp_at_succ
set_option linter.unusedSimpArgs false
set_option linter.unusedVariables false

set_option maxRecDepth 100000 in
set_option maxHeartbeats 2000000 in
theorem settle_calls {w : World} {h : DevH} {D : Dev} (hd : DevAt w h D) (A : Option Addr) (n c : Nat) (picks : List UInt8) (te : TypeId) (hn : picks.length = n) (hr : ∀ W, Chg h.foot w W → Rd W te A n (bys picks)) :
    Calls Try.prog 78 #[.pointer (some ⟨h.d, 0, none⟩), .slice A n c] w fun e w' => e = .returned (.tuple #[]) ∧ DevAt w' h (D.settle picks) ∧ Chg h.foot w w' := by
  have HW := Lib.hid (waiting_calls hd)
  have HD := Lib.hid hd
  have HR := fun W => Lib.hid (hr W)
  have HLN := Lib.hid hn
  have hwle := waiting_le D
  have hnm := DevN.nmost hd
  have HWL := Lib.hid (DevN.wt_lt hd)
  obtain ⟨m, hm⟩ : ∃ m, m = D.waiting.length := ⟨_, rfl⟩
  rw [← hm] at HW hwle
  have HM := Lib.hid hm
  have hm4 : m ≤ 4096 := by omega
  clear hr hn hm
  go_enter Try.func78, Try.ntmps78
  go_wp2_with fail
  refine HW.out.mono ?_
  rintro e w1 ⟨v, rfl, ho, hc1⟩
  have hd1 : DevAt w1 h D := HD.out.chgNo hc1
  obtain ⟨A1, c1, rfl, hmc, hrd⟩ := own_slice ho
  have HRD : ∀ W, Hid (Chg h.foot w1 W → Rd W 3 A1 m (D.waiting.map encI)) := fun W => fun hc => (by simpa using hrd : Rd w1 3 A1 m (D.waiting.map encI)).chg hc (fun g cur fz hg => DevN.not_foot hd1 hg (by decide) (by decide))
  have HD1 := Lib.hid hd1
  have HC1 : Hid (Chg h.foot w w1) := hc1.mono (fun _ _ h => h.elim)
  clear hd1 hc1 ho hrd HW
  go_wp2
  go_loopg [10] m (fun g v10 wr => ∃ k : Nat, v10 = .int .i64 k ∧ k ≤ m ∧ m - k = g ∧ Hid (DevAt wr h (D.atK picks k) ∧ Chg h.foot w1 wr))
  case atStart => exact ⟨0, rfl, by omega, by omega, ⟨by rw [Dev.atK_zero]; exact HD1.out, Chg.refl _ _⟩⟩
  case round =>
    obtain ⟨k, rfl, hk, hg, H⟩ := hrel
    subst hg
    by_cases h0 : k < m
    · obtain ⟨a, ha⟩ : ∃ a, D.waiting[k]? = some a := ⟨_, List.getElem?_eq_getElem (by have := HM.out; omega)⟩
      obtain ⟨han, haw, _⟩ := Dev.waiting_get ha
      obtain ⟨p, hp⟩ := Option.isSome_iff_exists.1 haw
      obtain ⟨g, off, rfl, hg1, hc⟩ := ((HRD wr).out H.out.2).at_ h0
      have hcell := hc k (.int .i64 a) (by rw [List.getElem?_map, ha]; rfl)
      obtain ⟨d0, d1, _, _⟩ := DevN.cells H.out.1
      obtain ⟨⟨u0, hu0⟩, hfz⟩ := DevN.rowcell H.out.1 (a := a) han
      have hki : (0 : Int) ≤ (k : Int) := by omega
      have hkm : (k : Int) < (m : Int) := by omega
      have hai : (0 : Int) ≤ (a : Int) := by omega
      have HA := Lib.hid ha
      have HP := Lib.hid hp
      have dn : (D.atK picks k).n = D.n := rfl
      rw [dn] at d0
      obtain ⟨dN, hdN⟩ : ∃ dN, dN = D.n := ⟨_, rfl⟩
      rw [← hdN] at d0 han
      have han2 : (a : Int) < (dN : Int) := by omega
      have HS := Lib.hid (fun (pk : Option UInt8) (hpk : pk = picks[k]?) => (by rw [hpk]; exact Dev.atK_succ HA.out HP.out HWL.out : D.atK picks (k + 1) = (D.atK picks k).setFl a (Dev.fate (D.fl a) p pk)))
      have HSAME := Lib.hid (fun (hf : Dev.fate (D.fl a) p picks[k]? = D.fl a) => (by rw [Dev.atK_succ HA.out HP.out HWL.out, hf, ← Dev.atK_fl (picks := picks) HA.out, Dev.setFl_same] : D.atK picks (k + 1) = D.atK picks k))
      have HDN := Lib.hid hdN
      clear ha haw hp hc dn hdN
      by_cases hkn : k < n
      · obtain ⟨x, hx⟩ : ∃ x, picks[k]? = some x := ⟨_, List.getElem?_eq_getElem (by have := HLN.out; omega)⟩
        obtain ⟨g2, off2, rfl, hg2, hc2⟩ := ((HR wr).out (HC1.out.trans H.out.2)).at_ hkn
        have hcx := hc2 k (.int .u8 x.toNat) (by simp [bys, hx])
        have hkn2 : (k : Int) < (n : Int) := by omega
        have HX := Lib.hid hx
        clear hc2 hx
        by_cases hq0 : x.toNat % 3 = 0
        · have hq0' : ((x.toNat : Int) % 3) = 0 := by omega
          have hsame : D.atK picks (k + 1) = D.atK picks k := HSAME.out (by rw [HX.out]; simp [Dev.fate, hq0])
          have HSM := Lib.hid hsame
          clear hsame HS HSAME hq0
          go_wp2
          go_roundg (m - (k + 1))
          case measure => omega
          case rel => exact ⟨k + 1, by go_num, by omega, rfl, ⟨by rw [HSM.out]; exact H.out.1, H.out.2⟩⟩
        · have hq0' : ¬ ((x.toNat : Int) % 3) = 0 := by omega
          by_cases hq1 : x.toNat % 3 = 1
          · have hq1' : ((x.toNat : Int) % 3) = 1 := by omega
            have HS1 : Hid (D.atK picks (k + 1) = (D.atK picks k).setFl a p) := by
              show _ = _
              have := HS.out _ rfl
              rw [HX.out] at this
              rw [this]; simp [Dev.fate, hq1]
            obtain ⟨es, hmm, hw1, hw2⟩ := H.out.1.map
            obtain ⟨v, hv⟩ := hw2 a p HP.out
            obtain ⟨i', pg', e1, _, e3, hpg⟩ := hw1 _ _ (aget_mem hv)
            obtain rfl : a = i' := by omega
            have e4 : (D.atK picks k).wt a = some p := HP.out
            rw [e4] at e3
            obtain rfl : p = pg' := Option.some.inj e3
            obtain ⟨q, rfl⟩ := hpg.ptr
            have AP := DevN.apart H.out.1
            have HS3 : Hid (∀ W : World, Chg (fun i => i = h.F) wr W → W.cell? ⟨h.d, 0, none⟩ = some (.slice (some ⟨h.F, 0, none⟩) dN dN) ∧ W.cell? ⟨h.d, 1, none⟩ = some (.map (some h.M)) ∧ (Instr.lookup 77 (.map (some h.M)) (.int .i64 a) false).run Try.prog W = .ok (.pointer q) W) := fun W hc => by
              have hl := (hmm.chg hc (fun e => AP.2.2 e)).lookup (P := Try.prog) (keyLaw_int Try.underlying3) Try.underlying77 (zero_pp W) (a : Int) false
              rw [hv] at hl
              obtain ⟨b1, b2, b3, b4, hb⟩ := H.out.1.box
              have hb' := hb.chg hc (fun e => AP.1 e.symm)
              have e0 := hb'.cell 0
              have e1 := hb'.cell 1
              simp at e0 e1
              refine ⟨?_, e1, hl⟩
              rw [HDN.out]; exact e0
            have HPG := Lib.hid hpg
            clear hmm hw1 hw2 hv e1 e3 e4 hpg hq0 hq1 HS HSAME AP
            go_wp2_with fail
            go_region_held3 (fun w' => w'.cell? ⟨h.d, 0, none⟩ = some (.slice (some ⟨h.F, 0, none⟩) dN dN) ∧ w'.cell? ⟨h.d, 1, none⟩ = some (.map (some h.M)) ∧ (Instr.lookup 77 (.map (some h.M)) (.int .i64 a) false).run Try.prog w' = .ok (.pointer q) w') (exact HS3.out _ (by repeat (first | exact Chg.refl _ _ | exact (chg_setCell wr ⟨h.F, a, none⟩ _) | refine Chg.drewN ?_ _ | refine Chg.drew ?_ | refine Chg.setCell ?_ (.inl rfl) _))) (fail)
            go_wp2
            go_roundg (m - (k + 1))
            case measure => omega
            case rel => exact ⟨k + 1, by go_num, by omega, rfl, ⟨by rw [HS1.out]; exact DevN.setFl (H.out.1.chgNo ((Chg.refl _ _).drew)) a (HPG.out.chg (S := No) ((Chg.refl _ _).drew) (fun _ _ _ _ _ _ h => h)), H.out.2.drew.setCell (.inl (.inr (.inl rfl))) _⟩⟩
          · have hq1' : ¬ ((x.toNat : Int) % 3) = 1 := by omega
            have HS1 : Hid (D.atK picks (k + 1) = (D.atK picks k).setFl a .torn) := by
              show _ = _
              have := HS.out _ rfl
              rw [HX.out] at this
              rw [this]; simp [Dev.fate, hq0, hq1]
            have HCA : Hid (DevAt ((wr.alloc (.cells #[.slice none 0 0, .bool true] tPage)).setCell ⟨h.F, a, none⟩ (.pointer (some ⟨wr.heap.size, 0, none⟩))) h (D.atK picks (k + 1))) := by
              show DevAt _ _ _
              rw [HS1.out]
              refine DevN.setFl (H.out.1.chgNo ((Chg.refl _ _).alloc _)) a ⟨wr.heap.size, by simp, rfl, Blk.new _ _ _⟩
            have hne : h.F ≠ wr.heap.size := by
              obtain ⟨ps, hF, _⟩ := H.out.1.row
              have := hF.lt; omega
            obtain ⟨⟨u1, hu1⟩, hfz1⟩ := DevN.rowcell (H.out.1.chgNo ((Chg.refl _ _).alloc (.cells #[.slice none 0 0, .bool true] tPage))) (a := a) (by show a < D.n; rw [← HDN.out]; omega)
            clear hq0 hq1 HS HSAME HS1
            go_wp2
            go_roundg (m - (k + 1))
            case measure => omega
            case rel => exact ⟨k + 1, by go_num, by omega, rfl, ⟨HCA.out, (H.out.2.alloc _).setCell (.inl (.inr (.inl rfl))) _⟩⟩
      · have hkn2 : ¬ (k : Int) < (n : Int) := by omega
        have hsame : D.atK picks (k + 1) = D.atK picks k := HSAME.out (by rw [List.getElem?_eq_none (by have := HLN.out; omega)]; rfl)
        have HSM := Lib.hid hsame
        clear hsame HS HSAME
        go_wp2
        go_roundg (m - (k + 1))
        case measure => omega
        case rel => exact ⟨k + 1, by go_num, by omega, rfl, ⟨by rw [HSM.out]; exact H.out.1, H.out.2⟩⟩
    · obtain rfl : m = k := by omega
      have hfin : D.atK picks m = D.atK picks D.waiting.length := by rw [← HM.out]
      have hall := Dev.atK_all (picks := picks) HWL.out
      obtain ⟨D1, hD1⟩ : ∃ D1, D1 = D.atK picks m := ⟨_, rfl⟩
      rw [← hfin, ← hD1] at hall
      have hl1 : D1.losses = D.losses := by rw [hD1]; rfl
      have HH := Lib.hid H.out
      have HDD : Hid (DevAt wr h D1) := by show DevAt wr h D1; rw [hD1]; exact H.out.1
      have HC := Lib.hid (HC1.out.trans H.out.2)
      have HALL := Lib.hid hall
      clear hfin hall hD1 H HH h0 hk HWL HRD HD1 HC1 HM
      obtain ⟨b0, b1, b2, b3, hb⟩ := HDD.out.box
      have d1 := hb.cell 1
      simp at d1
      obtain ⟨es, hmm, _⟩ := HDD.out.map
      obtain ⟨o, hrun, hmc⟩ := hmm.clear (P := Try.prog) (ty := 0) Try.underlying77
      obtain ⟨w3, hw3⟩ : ∃ w3, w3 = setBlock wr h.M o := ⟨_, rfl⟩
      have hc3 : Chg (fun i => i = h.M) wr w3 := by rw [hw3]; exact chg_setBlock _ _ _
      rw [← hw3] at hrun hmc
      have AP := DevN.apart HDD.out
      have hb3 := hb.chg hc3 (fun e => AP.2.1 e.symm)
      have h4 := hb3.cell 4
      simp at h4
      have f4 := hb3.frozen 4
      have hfd : Chg h.foot wr (w3.setCell ⟨h.d, 4, none⟩ (.int .i64 (wrap64 (D1.losses + 1)))) :=
        (hc3.mono (fun k _ e => .inr (.inr e))).trans ((chg_setCell w3 ⟨h.d, 4, none⟩ _).mono (fun k _ e => .inl e))
      have fin : DevAt (w3.setCell ⟨h.d, 4, none⟩ (.int .i64 (wrap64 (D1.losses + 1)))) h (D.settle picks) := by
        rw [← HALL.out]
        refine DevN.step HDD.out hfd rfl ⟨b0, b1, b2, b3, ?_⟩ (.inr ⟨rfl, ?_⟩) (.inl ⟨[], ?_, ?_, ?_⟩) HDD.out.armed
        · have := hb3.set_ 4 (.int .i64 (wrap64 (D1.losses + 1)))
          rw [hl1] at this
          simpa [Dev.more, hl1] using this
        · obtain ⟨ps, hF, _⟩ := HDD.out.row
          have e1 := hc3.block h.F hF.lt (fun e => AP.2.2 e.symm)
          have e2 := (chg_setCell w3 ⟨h.d, 4, none⟩ (.int .i64 (wrap64 (D1.losses + 1)))).block h.F (by have := hc3.size; have := hF.lt; omega) AP.1
          exact e2.trans e1
        · exact hmc.chg (chg_setCell w3 ⟨h.d, 4, none⟩ _) AP.2.1
        · intro k v h; cases h
        · intro i pg h; cases h
      have F : Hid (DevAt (w3.setCell ⟨h.d, 4, none⟩ (.int .i64 (wrap64 (D1.losses + 1)))) h (D.settle picks) ∧ Chg h.foot w (w3.setCell ⟨h.d, 4, none⟩ (.int .i64 (wrap64 (D1.losses + 1))))) := ⟨fin, HC.out.trans hfd⟩
      clear fin hfd hb3 hb hmc hc3 hmm AP hl1 hw3
      go_wp2
      go_end0
      exact ⟨rfl, F.out⟩

/-- the device's own box alone is changed -/
theorem DevN.boxed {w w' : World} {h : DevH} {D D' : Dev} (hd : DevAt w h D) (hc : Chg (fun i => i = h.d) w w') (hn : D'.n = D.n) (hf : D'.fl = D.fl) (hw : D'.wt = D.wt) (ha : 0 ≤ D'.armed ∧ D'.armed ≤ 9223372036854775807)
    (box : ∃ a b c e, Blk w' h.d tDev #[.slice (some ⟨h.F, 0, none⟩) D'.n D'.n, .map (some h.M), .bool D'.off, .int .i64 D'.armed, .int .i64 D'.losses, .int .i64 a, .int .i64 b, .int .i64 c, .int .i64 e]) : DevAt w' h D' := by
  have AP := DevN.apart hd
  refine DevN.step hd (hc.mono (fun k _ e => .inl e)) hn box (.inr ⟨hf, ?_⟩) (.inr ⟨hw, ?_⟩) ha
  · obtain ⟨ps, hF, _⟩ := hd.row
    exact hc.block h.F hF.lt AP.1
  · obtain ⟨es, hm, _⟩ := hd.map
    exact hc.block h.M hm.lt AP.2.1

set_option maxRecDepth 100000 in
theorem crash_calls {w : World} {h : DevH} {D : Dev} (hd : DevAt w h D) (A : Option Addr) (n c : Nat) (picks : List UInt8) (te : TypeId) (hn : picks.length = n) (hr : ∀ W, Chg h.foot w W → Rd W te A n (bys picks)) :
    Calls Try.prog 39 #[.pointer (some ⟨h.d, 0, none⟩), .slice A n c] w fun e w' => e = .returned (.tuple #[]) ∧ DevAt w' h (D.crash picks) ∧ Chg h.foot w w' := by
  have HS := Lib.hid (settle_calls hd A n c picks te hn hr)
  clear hd hn hr
  go_enter Try.func39, Try.ntmps39
  go_wp2_with fail
  refine HS.out.mono ?_
  rintro e w1 ⟨rfl, hd1, hc1⟩
  obtain ⟨D1, hD1⟩ : ∃ D1, D1 = D.settle picks := ⟨_, rfl⟩
  have hcr : D.crash picks = { D1 with off := true } := by rw [hD1]; rfl
  rw [← hD1] at hd1
  have HCR := Lib.hid hcr
  obtain ⟨s0, s1, s2, s3, hb⟩ := hd1.box
  have h2 := hb.cell 2
  have h8 := hb.cell 8
  simp at h2 h8
  have f2 := hb.frozen 2
  have f8 := hb.frozen 8
  have F : Hid (DevAt ((w1.setCell ⟨h.d, 2, none⟩ (.bool true)).setCell ⟨h.d, 8, none⟩ (.int .i64 (wrap64 (s3 + 1)))) h { D1 with off := true } ∧ Chg h.foot w ((w1.setCell ⟨h.d, 2, none⟩ (.bool true)).setCell ⟨h.d, 8, none⟩ (.int .i64 (wrap64 (s3 + 1))))) := by
    have hc : Chg (fun i => i = h.d) w1 ((w1.setCell ⟨h.d, 2, none⟩ (.bool true)).setCell ⟨h.d, 8, none⟩ (.int .i64 (wrap64 (s3 + 1)))) := (chg_setCell w1 ⟨h.d, 2, none⟩ _).trans (chg_setCell _ ⟨h.d, 8, none⟩ _)
    refine ⟨DevN.boxed hd1 hc rfl rfl rfl hd1.armed ⟨s0, s1, s2, wrap64 (s3 + 1), ?_⟩, hc1.trans (hc.mono (fun k _ e => .inl e))⟩
    have := (hb.set_ 2 (.bool true)).set_ 8 (.int .i64 (wrap64 (s3 + 1)))
    simpa using this
  clear hd1 hc1 hb hD1 hcr HS
  go_wp2
  go_end0
  exact ⟨rfl, by rw [HCR.out]; exact F.out⟩

set_option maxRecDepth 100000 in
theorem on_calls {w : World} {h : DevH} {D : Dev} (hd : DevAt w h D) :
    Calls Try.prog 40 #[.pointer (some ⟨h.d, 0, none⟩)] w fun e w' => e = .returned (.tuple #[]) ∧ DevAt w' h D.on ∧ Chg h.foot w w' := by
  have HS := Lib.hid (settle_calls hd none 0 0 [] tU8 rfl (fun W _ => Rd.nil _ _ _))
  clear hd
  go_enter Try.func40, Try.ntmps40
  go_wp2_with fail
  refine HS.out.mono ?_
  rintro e w1 ⟨rfl, hd1, hc1⟩
  obtain ⟨D1, hD1⟩ : ∃ D1, D1 = D.settle [] := ⟨_, rfl⟩
  have hcr : D.on = { D1 with off := false, armed := 0 } := by rw [hD1]; rfl
  rw [← hD1] at hd1
  have HCR := Lib.hid hcr
  obtain ⟨s0, s1, s2, s3, hb⟩ := hd1.box
  have h2 := hb.cell 2
  have h3 := hb.cell 3
  simp at h2 h3
  have f2 := hb.frozen 2
  have f3 := hb.frozen 3
  have F : Hid (DevAt ((w1.setCell ⟨h.d, 2, none⟩ (.bool false)).setCell ⟨h.d, 3, none⟩ (.int .i64 0)) h { D1 with off := false, armed := 0 } ∧ Chg h.foot w ((w1.setCell ⟨h.d, 2, none⟩ (.bool false)).setCell ⟨h.d, 3, none⟩ (.int .i64 0))) := by
    have hc : Chg (fun i => i = h.d) w1 ((w1.setCell ⟨h.d, 2, none⟩ (.bool false)).setCell ⟨h.d, 3, none⟩ (.int .i64 0)) := (chg_setCell w1 ⟨h.d, 2, none⟩ _).trans (chg_setCell _ ⟨h.d, 3, none⟩ _)
    refine ⟨DevN.boxed hd1 hc rfl rfl rfl ⟨by show (0 : Int) ≤ 0; omega, by show (0 : Int) ≤ _; omega⟩ ⟨s0, s1, s2, s3, ?_⟩, hc1.trans (hc.mono (fun k _ e => .inl e))⟩
    have := (hb.set_ 2 (.bool false)).set_ 3 (.int .i64 0)
    simpa using this
  clear hd1 hc1 hb hD1 hcr HS
  go_wp2
  go_end0
  exact ⟨rfl, by rw [HCR.out]; exact F.out⟩
end Go.Proofs.Ytcmobcbecbajiaa
