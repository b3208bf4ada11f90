/- Packed texts: FlashG, EngHa, Open, OpenC. -/
import Derived.Test.YtplpbbdakihnfaaGreatPq04
import Derived.Test.YtplpbbdakihnfaaGreatPq28
import Derived.Shelf.AbstractIn
import Derived.TacticsInMore
import Derived.OwnWalkIn
import Derived.Deep.LoopGhost
import Derived.Deep.DrawnRows
import Derived.Test.YtplpbbdakihnfaaGreatPq08
import Derived.Deep.RegionHeld3
import Derived.Deep.Slices
import Derived.Deep.Fields
import Derived.OpenShut
import Derived.SizedLaws
set_option linter.unusedSimpArgs false
set_option linter.unusedVariables false
section
namespace Go.Proofs.YtplpbbdakihnfaaGreat
open Go.RowKit Go.Maps Go.Shelf
open Go.ChangeMaps (setBlock)
theorem shelf_sorts (m : Nat) : AnyZI.SortsIn Tryz.prog Tryz.sortedA_ren Fence.wide m :=
  ⟨fun blk off cap ss W hH hblk hsz => callsIn_wide.2 (AnyM.slices_Sort_int Tryz.sortA blk off cap ss W hH hblk hsz),
   fun p cap W => callsIn_wide.2 (AnyM.slices_Sort_int_none Tryz.sortA p cap W)⟩
def Dev.waitI (D : Dev) : List Int := D.waiting.map fun (i : Nat) => (i : Int)
theorem waitI_sorted (D : Dev) : D.waitI.Pairwise (fun a b => a < b) := by
  unfold Dev.waitI Dev.waiting
  refine List.pairwise_map.2 (List.Pairwise.filter _ ?_)
  exact List.pairwise_lt_range.imp (fun h => by omega)
theorem wait_perm {N : Nat} {w : World} {es : List (Int × Value)} {D : Dev} (h : WaitAt N w es D.n D.wt) (hnd : (akeys es).Nodup) : (akeys es).Perm D.waitI := by
  refine (List.perm_ext_iff_of_nodup hnd ((waitI_sorted D).imp (fun h => by omega))).2 fun x => ?_
  constructor
  · intro hx
    obtain ⟨p, hp, rfl⟩ := List.mem_map.1 hx
    obtain ⟨i, pg, e1, e2, e3, _⟩ := h.1 p.1 p.2 hp
    refine List.mem_map.2 ⟨i, ?_, e1.symm⟩
    unfold Dev.waiting
    exact List.mem_filter.2 ⟨List.mem_range.2 e2, by rw [e3]; rfl⟩
  · intro hx
    obtain ⟨i, hi, rfl⟩ := List.mem_map.1 hx
    unfold Dev.waiting at hi
    obtain ⟨h1, h2⟩ := List.mem_filter.1 hi
    obtain ⟨pg, hpg⟩ := Option.isSome_iff_exists.1 h2
    obtain ⟨v, hv⟩ := h.2 i pg hpg
    exact List.mem_map.2 ⟨((i : Int), v), aget_mem hv, rfl⟩
theorem waiting_le (D : Dev) : D.waiting.length ≤ D.n := by
  unfold Dev.waiting
  exact Nat.le_trans (List.length_filter_le _ _) (by simp)
theorem sort_wait {ss : List Int} {D : Dev} (h : ss.Perm D.waitI) : ss.mergeSort (fun x y => decide (x ≤ y)) = D.waitI := by
  rw [mergeSort_of_perm_i h]
  refine List.mergeSort_of_pairwise ((waitI_sorted D).imp (fun {a b} h => ?_))
  simp only [leI, decide_eq_true_eq]; omega
abbrev encI : Nat → Value := fun i => .int .i64 i
set_option maxHeartbeats 1000000 in
theorem waiting_calls {N : Nat} {w : World} {h : DevH} {D : Dev} (hd : DevN N w h D) :
    Calls Tryz.prog 85 #[.pointer (some ⟨h.d, 0, none⟩)] w fun e w' => ∃ v, e = .returned v ∧ w'.ownsRow w.heap.size 3 1 v D.waiting.length (D.waiting.map encI) ∧ Chg No w w' := by
  obtain ⟨a, b, c, e, hb⟩ := hd.box
  have h1 := hb.cell 1
  simp at h1
  obtain ⟨es, hm, hw⟩ := hd.map
  have hper := wait_perm hw hm.nodup
  have hlen : es.length = D.waiting.length := by
    have := hper.length_eq
    simpa [akeys, Dev.waitI] using this
  have hle := waiting_le D
  have hn := hd.nmost
  obtain ⟨D0, hown, hkp, hms⟩ := hm.owns (P := Tryz.prog) (kt := 3) Tryz.underlying3 (fun p hp => by
    obtain ⟨i, pg, e1, e2, _⟩ := hw.1 p.1 p.2 hp
    rw [e1]
    have m1 : IntKind.i64.min = -9223372036854775808 := by decide
    have m2 : IntKind.i64.max = 9223372036854775807 := by decide
    simp only [Lit.wf, m1, m2, Bool.and_eq_true, decide_eq_true_eq]; omega) (by simp only [maxLen]; omega)
  have hdb := hd.box
  clear hb hd
  refine (callsIn_wide (n := 6)).1 ?_
  have hbl := hown.lt
  have hseq : SeqGives Fence.wide 2 Tryz.prog 125 #[.pointer (some ⟨w.heap.size, 0, none⟩)] encZ (fun ss => ss.Perm (intKeys D0)) (Maps.size D0) (w.alloc (.cells #[.map (some h.M)] 74)) :=
    AnyZI.keys_gives (ρ := Tryz.keysA_ren) { Tryz.keysA with } Fence.wide _ trivial rfl (by omega) w.heap.size h.M es.length D0 _ (by simp) (by simp) (by
      obtain ⟨es, clock, hb, Ft, hs, hD⟩ := hown
      exact ⟨es, clock, (Below.heap_alloc _ _ h.M hbl).trans hb, Ft, hs, hD⟩)
  have cK : ∀ mb W, CallsIn Fence.wide 5 Tryz.prog 110 #[.map mb] W fun e w' => e = .returned (.func (.func 125) #[] #[.pointer (some ⟨W.heap.size, 0, none⟩)]) ∧ w' = W.alloc (.cells #[.map mb] 74) := fun mb W => AnyZI.keys_in Tryz.keysA Fence.wide 5 trivial rfl mb W
  have cS := AnyZI.sorted_in Tryz.sortedA Fence.wide 5 trivial trivial trivial trivial rfl (by omega) (shelf_sorts _) (enters_of Tryz.func124 (by kernel_rfl) rfl) 125 #[.pointer (some ⟨w.heap.size, 0, none⟩)] trivial (enters_of Tryz.func125 (by kernel_rfl) rfl) _ _ (by rw [hms]; simp only [maxLen]; omega) (by rw [hms]; omega) _ hseq
  change CallsIn _ _ Tryz.prog 109 _ _ _ at cS
  have hfK : Fence.wide.fn 110 := trivial
  have hfS : Fence.wide.fn 109 := trivial
  refine callsIn_of_wp Tryz.func85 rfl trivial ?_ rfl
  simp only [Tryz.ntmps85, List.size_toArray, List.length_cons, List.length_nil, Nat.reduceAdd, Nat.reduceSub, Array.replicate_succ, Array.replicate_zero, List.push_toArray, List.append_toArray, List.nil_append, List.cons_append]
  gi_wp2_with (first
    | (gi_at_call 110; refine (cK _ _).mono ?_; rintro e w' ⟨rfl, rfl⟩)
    | (gi_at_call 109; refine cS.mono ?_; rintro e w' ⟨v, ss, rfl, hS, hrow, hnil, hb⟩))
  go_ret
  have hss : ss.Perm D.waitI := hS.trans (hkp.trans hper)
  rw [sort_wait hss, hss.length_eq] at hrow
  have e1 : D.waitI.map encZ = D.waiting.map encI := by unfold Dev.waitI; rw [List.map_map]; rfl
  have e2 : D.waitI.length = D.waiting.length := by unfold Dev.waitI; simp
  rw [e1, e2] at hrow
  refine ⟨v, rfl, ownsRow_base_a hrow (by simp), ?_⟩
  exact ((Chg.refl _ w).alloc _).trans (Chg.ofBelow hb)
end Go.Proofs.YtplpbbdakihnfaaGreat
namespace Go.Proofs.YtplpbbdakihnfaaGreat
open Go.RowKit
open Go.ChangeMaps (setBlock)
attribute [local go_sem ↓] Go.wp_at_zero Go.wp_at_succ
theorem filt_get (p : Nat → Bool) : ∀ (n k a : Nat), ((List.range n).filter p)[k]? = some a → a < n ∧ p a = true ∧ ((List.range a).filter p).length = k := by
  intro n
  induction n with
  | zero => intro k a h; simp at h
  | succ n ih =>
    intro k a h
    rw [List.range_succ, List.filter_append] at h
    by_cases hk : k < ((List.range n).filter p).length
    · rw [List.getElem?_append_left hk] at h
      obtain ⟨h1, h2, h3⟩ := ih k a h
      exact ⟨by omega, h2, h3⟩
    · rw [List.getElem?_append_right (by omega)] at h
      by_cases hp : p n = true
      · rw [show List.filter p [n] = [n] by simp [hp]] at h
        have hk0 : k - ((List.range n).filter p).length = 0 := by
          cases hh : k - ((List.range n).filter p).length with
          | zero => rfl
          | succ j => rw [hh] at h; simp at h
        rw [hk0] at h
        simp only [List.getElem?_cons_zero, Option.some.injEq] at h
        subst h
        exact ⟨by omega, hp, by omega⟩
      · rw [show List.filter p [n] = [] by simp [hp]] at h
        simp at h
theorem filt_at (p : Nat → Bool) : ∀ (n a : Nat), a < n → p a = true → ((List.range n).filter p)[((List.range a).filter p).length]? = some a := by
  intro n
  induction n with
  | zero => intro a h; omega
  | succ n ih =>
    intro a ha hp
    rw [List.range_succ, List.filter_append]
    by_cases h : a < n
    · have := ih a h hp
      rw [List.getElem?_append_left (List.getElem?_eq_some_iff.1 this).1]
      exact this
    · obtain rfl : a = n := by omega
      rw [List.getElem?_append_right (Nat.le_refl _), Nat.sub_self, show List.filter p [a] = [a] by simp [hp]]
      rfl
theorem Dev.waiting_get {D : Dev} {k a : Nat} (h : D.waiting[k]? = some a) : a < D.n ∧ (D.wt a).isSome = true ∧ D.rank a = k := filt_get (fun i => (D.wt i).isSome) D.n k a h
theorem Dev.waiting_at {D : Dev} {a : Nat} (ha : a < D.n) (hw : (D.wt a).isSome = true) : D.waiting[D.rank a]? = some a := filt_at (fun i => (D.wt i).isSome) D.n a ha hw
def Dev.atK (D : Dev) (picks : List UInt8) (k : Nat) : Dev := { D with fl := fun i => match D.wt i with | none => D.fl i | some p => if D.rank i < k then Dev.fate (D.fl i) p picks[D.rank i]? else D.fl i }
theorem Dev.atK_zero (D : Dev) (picks : List UInt8) : D.atK picks 0 = D := by
  unfold Dev.atK
  have : (fun i => match D.wt i with | none => D.fl i | some p => if D.rank i < 0 then Dev.fate (D.fl i) p picks[D.rank i]? else D.fl i) = D.fl := by
    funext i
    cases D.wt i with
    | none => rfl
    | some p => simp
  rw [this]
def Dev.setFl (D : Dev) (a : Nat) (p : Pg) : Dev := { D with fl := fun i => if i = a then p else D.fl i }
theorem Dev.atK_succ {D : Dev} {picks : List UInt8} {k a : Nat} {p : Pg} (hk : D.waiting[k]? = some a) (hp : D.wt a = some p) (hb : ∀ i, (D.wt i).isSome = true → i < D.n) : D.atK picks (k + 1) = (D.atK picks k).setFl a (Dev.fate (D.fl a) p picks[k]?) := by
  obtain ⟨h1, h2, h3⟩ := Dev.waiting_get hk
  unfold Dev.setFl Dev.atK
  simp only
  congr 1
  funext i
  by_cases hi : i = a
  · subst hi
    rw [if_pos rfl, hp]
    simp only [h3]
    rw [if_pos (by omega)]
  · rw [if_neg hi]
    cases hw : D.wt i with
    | none => rfl
    | some q =>
      simp only
      have hne : D.rank i ≠ k := by
        intro e
        have := Dev.waiting_at (hb i (by rw [hw]; rfl)) (by rw [hw]; rfl)
        rw [e, hk] at this
        exact hi (Option.some.inj this).symm
      by_cases h : D.rank i < k
      · rw [if_pos h, if_pos (by omega)]
      · rw [if_neg h, if_neg (by omega)]
theorem Dev.atK_fl {D : Dev} {picks : List UInt8} {k a : Nat} (hk : D.waiting[k]? = some a) : (D.atK picks k).fl a = D.fl a := by
  obtain ⟨h1, h2, h3⟩ := Dev.waiting_get hk
  unfold Dev.atK
  simp only
  cases D.wt a with
  | none => rfl
  | some p => simp only; rw [if_neg (by omega)]
theorem Dev.setFl_same {D : Dev} {a : Nat} : D.setFl a (D.fl a) = D := by
  unfold Dev.setFl
  have : (fun i => if i = a then D.fl a else D.fl i) = D.fl := by
    funext i
    by_cases h : i = a
    · rw [if_pos h, h]
    · rw [if_neg h]
  rw [this]
theorem Dev.atK_all {D : Dev} {picks : List UInt8} (hb : ∀ i, (D.wt i).isSome = true → i < D.n) : { D.atK picks D.waiting.length with wt := fun _ => none, losses := Dev.more D.losses } = D.settle picks := by
  unfold Dev.atK Dev.settle
  simp only
  congr 1
  funext i
  cases hw : D.wt i with
  | none => rfl
  | some p =>
    have := Dev.waiting_at (hb i (by rw [hw]; rfl)) (by rw [hw]; rfl)
    simp only
    rw [if_pos (List.getElem?_eq_some_iff.1 this).1]
theorem DevN.wt_lt {N : Nat} {w : World} {h : DevH} {D : Dev} (hd : DevN N w h D) : ∀ i, (D.wt i).isSome = true → i < D.n := by
  intro i hi
  obtain ⟨es, _, h1, h2⟩ := hd.map
  obtain ⟨pg, hpg⟩ := Option.isSome_iff_exists.1 hi
  obtain ⟨v, hv⟩ := h2 i pg hpg
  obtain ⟨j, pg', e1, e2, _⟩ := h1 _ _ (aget_mem hv)
  omega
theorem DevN.setFl {w : World} {h : DevH} {D : Dev} (hd : DevAt w h D) (a : Nat) {v : Value} {p : Pg} (hp : PgAt w.heap.size w v p) : DevAt (w.setCell ⟨h.F, a, none⟩ v) h (D.setFl a p) := by
  have AP := DevN.apart hd
  have hc : Chg (fun i => i = h.F) w (w.setCell ⟨h.F, a, none⟩ v) := chg_setCell w ⟨h.F, a, none⟩ v
  obtain ⟨x, b, c, e, hb⟩ := hd.box
  obtain ⟨ps, hF, hl, hrow⟩ := hd.row
  obtain ⟨es, hm, hw1, hw2⟩ := hd.map
  have hkeep : ∀ g cs t, g < w.heap.size → (t = tPage ∨ t = tU8) → Blk w g t cs → ¬ g = h.F := fun g cs t _ ht hb e => by
    refine DevN.not_foot hd hb ?_ ?_ (.inr (.inl e)) <;> rcases ht with rfl | rfl <;> decide
  refine DevN.step hd (hc.mono (fun k _ e => .inr (.inl e))) rfl ⟨x, b, c, e, hb.chg hc (fun e => AP.1 e.symm)⟩ (.inl ⟨ps.set a v, ?_, ?_, ?_⟩) (.inr ⟨rfl, ?_⟩) hd.armed
  · have := hF.set_ a v
    simpa using this
  · show (ps.set a v).length = D.n
    rw [List.length_set]; exact hl
  · intro i u hu
    show PgAt _ _ u (if i = a then p else D.fl i)
    rw [World.size_setCell]
    by_cases hi : i = a
    · subst hi
      rw [if_pos rfl]
      have : u = v := by
        by_cases hlt : i < ps.length
        · rw [List.getElem?_set_self hlt] at hu
          exact (Option.some.inj hu).symm
        · rw [List.getElem?_eq_none (by rw [List.length_set]; omega)] at hu
          cases hu
      rw [this]
      exact hp.chg hc hkeep
    · rw [if_neg hi]
      rw [List.getElem?_set_ne (fun e => hi e.symm)] at hu
      exact (hrow i u hu).chg hc hkeep
  · exact hc.block h.M hm.lt (fun e => AP.2.2 e)
theorem DevN.cells {N : Nat} {w : World} {h : DevH} {D : Dev} (hd : DevN N w h D) : w.cell? ⟨h.d, 0, none⟩ = some (.slice (some ⟨h.F, 0, none⟩) D.n D.n) ∧ w.cell? ⟨h.d, 1, none⟩ = some (.map (some h.M)) ∧
    w.cell? ⟨h.d, 4, none⟩ = some (.int .i64 D.losses) ∧ w.frozen? ⟨h.d, 4, none⟩ = false := by
  obtain ⟨a, b, c, e, hb⟩ := hd.box
  have h0 := hb.cell 0
  have h1 := hb.cell 1
  have h4 := hb.cell 4
  simp at h0 h1 h4
  exact ⟨h0, h1, h4, hb.frozen 4⟩
theorem DevN.rowcell {N : Nat} {w : World} {h : DevH} {D : Dev} (hd : DevN N w h D) {a : Nat} (ha : a < D.n) : (∃ u, w.cell? ⟨h.F, a, none⟩ = some u) ∧ w.frozen? ⟨h.F, a, none⟩ = false := by
  obtain ⟨ps, hF, hl, _⟩ := hd.row
  refine ⟨⟨ps[a], ?_⟩, hF.frozen a⟩
  rw [hF.cell a]
  simp [List.getElem?_eq_getElem (show a < ps.length by omega)]
end Go.Proofs.YtplpbbdakihnfaaGreat
namespace Go.Proofs.YtplpbbdakihnfaaGreat
open Go.RowKit
open Go.ChangeMaps (setBlock)
attribute [local go_sem ↓] Go.wp_at_zero Go.wp_at_succ
set_option maxRecDepth 100000 in
set_option maxHeartbeats 2000000 in
theorem settle_calls {w : World} {h : DevH} {D : Dev} (hd : DevAt w h D) (A : Option Addr) (n c : Nat) (picks : List UInt8) (te : TypeId) (hn : picks.length = n) (hr : ∀ W, Chg h.foot w W → Rd W te A n (bys picks)) :
    Calls Tryz.prog 56 #[.pointer (some ⟨h.d, 0, none⟩), .slice A n c] w fun e w' => e = .returned (.tuple #[]) ∧ DevAt w' h (D.settle picks) ∧ Chg h.foot w w' := by
  have HW := Lib.hid (waiting_calls hd)
  have HD := Lib.hid hd
  have HR := fun W => Lib.hid (hr W)
  have HLN := Lib.hid hn
  have hwle := waiting_le D
  have hnm := DevN.nmost hd
  have HWL := Lib.hid (DevN.wt_lt hd)
  obtain ⟨m, hm⟩ : ∃ m, m = D.waiting.length := ⟨_, rfl⟩
  rw [← hm] at HW hwle
  have HM := Lib.hid hm
  have hm4 : m ≤ 4096 := by omega
  clear hr hn hm
  go_enter Tryz.func56, Tryz.ntmps56
  go_wp2_with fail
  refine HW.out.mono ?_
  rintro e w1 ⟨v, rfl, ho, hc1⟩
  have hd1 : DevAt w1 h D := HD.out.chgNo hc1
  obtain ⟨A1, c1, rfl, hmc, hrd⟩ := own_slice ho
  have HRD : ∀ W, Hid (Chg h.foot w1 W → Rd W 3 A1 m (D.waiting.map encI)) := fun W => fun hc => (by simpa using hrd : Rd w1 3 A1 m (D.waiting.map encI)).chg hc (fun g cur fz hg => DevN.not_foot hd1 hg (by decide) (by decide))
  have HD1 := Lib.hid hd1
  have HC1 : Hid (Chg h.foot w w1) := hc1.mono (fun _ _ h => h.elim)
  clear hd1 hc1 ho hrd HW
  go_wp2
  go_loopg [10] m (fun g v10 wr => ∃ k : Nat, v10 = .int .i64 k ∧ k ≤ m ∧ m - k = g ∧ Hid (DevAt wr h (D.atK picks k) ∧ Chg h.foot w1 wr))
  case atStart => exact ⟨0, rfl, by omega, by omega, ⟨by rw [Dev.atK_zero]; exact HD1.out, Chg.refl _ _⟩⟩
  case round =>
    obtain ⟨k, rfl, hk, hg, H⟩ := hrel
    subst hg
    by_cases h0 : k < m
    · obtain ⟨a, ha⟩ : ∃ a, D.waiting[k]? = some a := ⟨_, List.getElem?_eq_getElem (by have := HM.out; omega)⟩
      obtain ⟨han, haw, _⟩ := Dev.waiting_get ha
      obtain ⟨p, hp⟩ := Option.isSome_iff_exists.1 haw
      obtain ⟨g, off, rfl, hg1, hc⟩ := ((HRD wr).out H.out.2).at_ h0
      have hcell := hc k (.int .i64 a) (by rw [List.getElem?_map, ha]; rfl)
      obtain ⟨d0, d1, _, _⟩ := DevN.cells H.out.1
      obtain ⟨⟨u0, hu0⟩, hfz⟩ := DevN.rowcell H.out.1 (a := a) han
      have hki : (0 : Int) ≤ (k : Int) := by omega
      have hkm : (k : Int) < (m : Int) := by omega
      have hai : (0 : Int) ≤ (a : Int) := by omega
      have HA := Lib.hid ha
      have HP := Lib.hid hp
      have dn : (D.atK picks k).n = D.n := rfl
      rw [dn] at d0
      obtain ⟨dN, hdN⟩ : ∃ dN, dN = D.n := ⟨_, rfl⟩
      rw [← hdN] at d0 han
      have han2 : (a : Int) < (dN : Int) := by omega
      have HS := Lib.hid (fun (pk : Option UInt8) (hpk : pk = picks[k]?) => (by rw [hpk]; exact Dev.atK_succ HA.out HP.out HWL.out : D.atK picks (k + 1) = (D.atK picks k).setFl a (Dev.fate (D.fl a) p pk)))
      have HSAME := Lib.hid (fun (hf : Dev.fate (D.fl a) p picks[k]? = D.fl a) => (by rw [Dev.atK_succ HA.out HP.out HWL.out, hf, ← Dev.atK_fl (picks := picks) HA.out, Dev.setFl_same] : D.atK picks (k + 1) = D.atK picks k))
      have HDN := Lib.hid hdN
      clear ha haw hp hc dn hdN
      by_cases hkn : k < n
      · obtain ⟨x, hx⟩ : ∃ x, picks[k]? = some x := ⟨_, List.getElem?_eq_getElem (by have := HLN.out; omega)⟩
        obtain ⟨g2, off2, rfl, hg2, hc2⟩ := ((HR wr).out (HC1.out.trans H.out.2)).at_ hkn
        have hcx := hc2 k (.int .u8 x.toNat) (by simp [bys, hx])
        have hkn2 : (k : Int) < (n : Int) := by omega
        have HX := Lib.hid hx
        clear hc2 hx
        by_cases hq0 : x.toNat % 3 = 0
        · have hq0' : ((x.toNat : Int) % 3) = 0 := by omega
          have hsame : D.atK picks (k + 1) = D.atK picks k := HSAME.out (by rw [HX.out]; simp [Dev.fate, hq0])
          have HSM := Lib.hid hsame
          clear hsame HS HSAME hq0
          go_wp2
          go_roundg (m - (k + 1))
          case measure => omega
          case rel => exact ⟨k + 1, by go_num, by omega, rfl, ⟨by rw [HSM.out]; exact H.out.1, H.out.2⟩⟩
        · have hq0' : ¬ ((x.toNat : Int) % 3) = 0 := by omega
          by_cases hq1 : x.toNat % 3 = 1
          · have hq1' : ((x.toNat : Int) % 3) = 1 := by omega
            have HS1 : Hid (D.atK picks (k + 1) = (D.atK picks k).setFl a p) := by
              show _ = _
              have := HS.out _ rfl
              rw [HX.out] at this
              rw [this]; simp [Dev.fate, hq1]
            obtain ⟨es, hmm, hw1, hw2⟩ := H.out.1.map
            obtain ⟨v, hv⟩ := hw2 a p HP.out
            obtain ⟨i', pg', e1, _, e3, hpg⟩ := hw1 _ _ (aget_mem hv)
            obtain rfl : a = i' := by omega
            have e4 : (D.atK picks k).wt a = some p := HP.out
            rw [e4] at e3
            obtain rfl : p = pg' := Option.some.inj e3
            obtain ⟨q, rfl⟩ := hpg.ptr
            have AP := DevN.apart H.out.1
            have HS3 : Hid (∀ W : World, Chg (fun i => i = h.F) wr W → W.cell? ⟨h.d, 0, none⟩ = some (.slice (some ⟨h.F, 0, none⟩) dN dN) ∧ W.cell? ⟨h.d, 1, none⟩ = some (.map (some h.M)) ∧ (Instr.lookup 74 (.map (some h.M)) (.int .i64 a) false).run Tryz.prog W = .ok (.pointer q) W) := fun W hc => by
              have hl := (hmm.chg hc (fun e => AP.2.2 e)).lookup (P := Tryz.prog) (keyLaw_int Tryz.underlying3) Tryz.underlying74 (zero_pp W) (a : Int) false
              rw [hv] at hl
              obtain ⟨b1, b2, b3, b4, hb⟩ := H.out.1.box
              have hb' := hb.chg hc (fun e => AP.1 e.symm)
              have e0 := hb'.cell 0
              have e1 := hb'.cell 1
              simp at e0 e1
              refine ⟨?_, e1, hl⟩
              rw [HDN.out]; exact e0
            have HPG := Lib.hid hpg
            clear hmm hw1 hw2 hv e1 e3 e4 hpg hq0 hq1 HS HSAME AP
            go_wp2_with fail
            go_region_held3 (fun w' => w'.cell? ⟨h.d, 0, none⟩ = some (.slice (some ⟨h.F, 0, none⟩) dN dN) ∧ w'.cell? ⟨h.d, 1, none⟩ = some (.map (some h.M)) ∧ (Instr.lookup 74 (.map (some h.M)) (.int .i64 a) false).run Tryz.prog w' = .ok (.pointer q) w') (exact HS3.out _ (by repeat (first | exact Chg.refl _ _ | exact (chg_setCell wr ⟨h.F, a, none⟩ _) | refine Chg.drewN ?_ _ | refine Chg.drew ?_ | refine Chg.setCell ?_ (.inl rfl) _))) (fail)
            go_wp2
            go_roundg (m - (k + 1))
            case measure => omega
            case rel => exact ⟨k + 1, by go_num, by omega, rfl, ⟨by rw [HS1.out]; exact DevN.setFl (H.out.1.chgNo ((Chg.refl _ _).drew)) a (HPG.out.chg (S := No) ((Chg.refl _ _).drew) (fun _ _ _ _ _ _ h => h)), H.out.2.drew.setCell (.inl (.inr (.inl rfl))) _⟩⟩
          · have hq1' : ¬ ((x.toNat : Int) % 3) = 1 := by omega
            have HS1 : Hid (D.atK picks (k + 1) = (D.atK picks k).setFl a .torn) := by
              show _ = _
              have := HS.out _ rfl
              rw [HX.out] at this
              rw [this]; simp [Dev.fate, hq0, hq1]
            have HCA : Hid (DevAt ((wr.alloc (.cells #[.slice none 0 0, .bool true] tPage)).setCell ⟨h.F, a, none⟩ (.pointer (some ⟨wr.heap.size, 0, none⟩))) h (D.atK picks (k + 1))) := by
              show DevAt _ _ _
              rw [HS1.out]
              refine DevN.setFl (H.out.1.chgNo ((Chg.refl _ _).alloc _)) a ⟨wr.heap.size, by simp, rfl, Blk.new _ _ _⟩
            have hne : h.F ≠ wr.heap.size := by
              obtain ⟨ps, hF, _⟩ := H.out.1.row
              have := hF.lt; omega
            obtain ⟨⟨u1, hu1⟩, hfz1⟩ := DevN.rowcell (H.out.1.chgNo ((Chg.refl _ _).alloc (.cells #[.slice none 0 0, .bool true] tPage))) (a := a) (by show a < D.n; rw [← HDN.out]; omega)
            clear hq0 hq1 HS HSAME HS1
            go_wp2
            go_roundg (m - (k + 1))
            case measure => omega
            case rel => exact ⟨k + 1, by go_num, by omega, rfl, ⟨HCA.out, (H.out.2.alloc _).setCell (.inl (.inr (.inl rfl))) _⟩⟩
      · have hkn2 : ¬ (k : Int) < (n : Int) := by omega
        have hsame : D.atK picks (k + 1) = D.atK picks k := HSAME.out (by rw [List.getElem?_eq_none (by have := HLN.out; omega)]; rfl)
        have HSM := Lib.hid hsame
        clear hsame HS HSAME
        go_wp2
        go_roundg (m - (k + 1))
        case measure => omega
        case rel => exact ⟨k + 1, by go_num, by omega, rfl, ⟨by rw [HSM.out]; exact H.out.1, H.out.2⟩⟩
    · obtain rfl : m = k := by omega
      have hfin : D.atK picks m = D.atK picks D.waiting.length := by rw [← HM.out]
      have hall := Dev.atK_all (picks := picks) HWL.out
      obtain ⟨D1, hD1⟩ : ∃ D1, D1 = D.atK picks m := ⟨_, rfl⟩
      rw [← hfin, ← hD1] at hall
      have hl1 : D1.losses = D.losses := by rw [hD1]; rfl
      have HH := Lib.hid H.out
      have HDD : Hid (DevAt wr h D1) := by show DevAt wr h D1; rw [hD1]; exact H.out.1
      have HC := Lib.hid (HC1.out.trans H.out.2)
      have HALL := Lib.hid hall
      clear hfin hall hD1 H HH h0 hk HWL HRD HD1 HC1 HM
      obtain ⟨b0, b1, b2, b3, hb⟩ := HDD.out.box
      have d1 := hb.cell 1
      simp at d1
      obtain ⟨es, hmm, _⟩ := HDD.out.map
      obtain ⟨o, hrun, hmc⟩ := hmm.clear (P := Tryz.prog) (ty := 0) Tryz.underlying74
      obtain ⟨w3, hw3⟩ : ∃ w3, w3 = setBlock wr h.M o := ⟨_, rfl⟩
      have hc3 : Chg (fun i => i = h.M) wr w3 := by rw [hw3]; exact chg_setBlock _ _ _
      rw [← hw3] at hrun hmc
      have AP := DevN.apart HDD.out
      have hb3 := hb.chg hc3 (fun e => AP.2.1 e.symm)
      have h4 := hb3.cell 4
      simp at h4
      have f4 := hb3.frozen 4
      have hfd : Chg h.foot wr (w3.setCell ⟨h.d, 4, none⟩ (.int .i64 (wrap64 (D1.losses + 1)))) :=
        (hc3.mono (fun k _ e => .inr (.inr e))).trans ((chg_setCell w3 ⟨h.d, 4, none⟩ _).mono (fun k _ e => .inl e))
      have fin : DevAt (w3.setCell ⟨h.d, 4, none⟩ (.int .i64 (wrap64 (D1.losses + 1)))) h (D.settle picks) := by
        rw [← HALL.out]
        refine DevN.step HDD.out hfd rfl ⟨b0, b1, b2, b3, ?_⟩ (.inr ⟨rfl, ?_⟩) (.inl ⟨[], ?_, ?_, ?_⟩) HDD.out.armed
        · have := hb3.set_ 4 (.int .i64 (wrap64 (D1.losses + 1)))
          rw [hl1] at this
          simpa [Dev.more, hl1] using this
        · obtain ⟨ps, hF, _⟩ := HDD.out.row
          have e1 := hc3.block h.F hF.lt (fun e => AP.2.2 e.symm)
          have e2 := (chg_setCell w3 ⟨h.d, 4, none⟩ (.int .i64 (wrap64 (D1.losses + 1)))).block h.F (by have := hc3.size; have := hF.lt; omega) AP.1
          exact e2.trans e1
        · exact hmc.chg (chg_setCell w3 ⟨h.d, 4, none⟩ _) AP.2.1
        · intro k v h; cases h
        · intro i pg h; cases h
      have F : Hid (DevAt (w3.setCell ⟨h.d, 4, none⟩ (.int .i64 (wrap64 (D1.losses + 1)))) h (D.settle picks) ∧ Chg h.foot w (w3.setCell ⟨h.d, 4, none⟩ (.int .i64 (wrap64 (D1.losses + 1))))) := ⟨fin, HC.out.trans hfd⟩
      clear fin hfd hb3 hb hmc hc3 hmm AP hl1 hw3
      go_wp2
      go_end0
      exact ⟨rfl, F.out⟩
theorem DevN.boxed {w w' : World} {h : DevH} {D D' : Dev} (hd : DevAt w h D) (hc : Chg (fun i => i = h.d) w w') (hn : D'.n = D.n) (hf : D'.fl = D.fl) (hw : D'.wt = D.wt) (ha : 0 ≤ D'.armed ∧ D'.armed ≤ 9223372036854775807)
    (box : ∃ a b c e, Blk w' h.d tDev #[.slice (some ⟨h.F, 0, none⟩) D'.n D'.n, .map (some h.M), .bool D'.off, .int .i64 D'.armed, .int .i64 D'.losses, .int .i64 a, .int .i64 b, .int .i64 c, .int .i64 e]) : DevAt w' h D' := by
  have AP := DevN.apart hd
  refine DevN.step hd (hc.mono (fun k _ e => .inl e)) hn box (.inr ⟨hf, ?_⟩) (.inr ⟨hw, ?_⟩) ha
  · obtain ⟨ps, hF, _⟩ := hd.row
    exact hc.block h.F hF.lt AP.1
  · obtain ⟨es, hm, _⟩ := hd.map
    exact hc.block h.M hm.lt AP.2.1
set_option maxRecDepth 100000 in
theorem crash_calls {w : World} {h : DevH} {D : Dev} (hd : DevAt w h D) (A : Option Addr) (n c : Nat) (picks : List UInt8) (te : TypeId) (hn : picks.length = n) (hr : ∀ W, Chg h.foot w W → Rd W te A n (bys picks)) :
    Calls Tryz.prog 23 #[.pointer (some ⟨h.d, 0, none⟩), .slice A n c] w fun e w' => e = .returned (.tuple #[]) ∧ DevAt w' h (D.crash picks) ∧ Chg h.foot w w' := by
  have HS := Lib.hid (settle_calls hd A n c picks te hn hr)
  clear hd hn hr
  go_enter Tryz.func23, Tryz.ntmps23
  go_wp2_with fail
  refine HS.out.mono ?_
  rintro e w1 ⟨rfl, hd1, hc1⟩
  obtain ⟨D1, hD1⟩ : ∃ D1, D1 = D.settle picks := ⟨_, rfl⟩
  have hcr : D.crash picks = { D1 with off := true } := by rw [hD1]; rfl
  rw [← hD1] at hd1
  have HCR := Lib.hid hcr
  obtain ⟨s0, s1, s2, s3, hb⟩ := hd1.box
  have h2 := hb.cell 2
  have h8 := hb.cell 8
  simp at h2 h8
  have f2 := hb.frozen 2
  have f8 := hb.frozen 8
  have F : Hid (DevAt ((w1.setCell ⟨h.d, 2, none⟩ (.bool true)).setCell ⟨h.d, 8, none⟩ (.int .i64 (wrap64 (s3 + 1)))) h { D1 with off := true } ∧ Chg h.foot w ((w1.setCell ⟨h.d, 2, none⟩ (.bool true)).setCell ⟨h.d, 8, none⟩ (.int .i64 (wrap64 (s3 + 1))))) := by
    have hc : Chg (fun i => i = h.d) w1 ((w1.setCell ⟨h.d, 2, none⟩ (.bool true)).setCell ⟨h.d, 8, none⟩ (.int .i64 (wrap64 (s3 + 1)))) := (chg_setCell w1 ⟨h.d, 2, none⟩ _).trans (chg_setCell _ ⟨h.d, 8, none⟩ _)
    refine ⟨DevN.boxed hd1 hc rfl rfl rfl hd1.armed ⟨s0, s1, s2, wrap64 (s3 + 1), ?_⟩, hc1.trans (hc.mono (fun k _ e => .inl e))⟩
    have := (hb.set_ 2 (.bool true)).set_ 8 (.int .i64 (wrap64 (s3 + 1)))
    simpa using this
  clear hd1 hc1 hb hD1 hcr HS
  go_wp2
  go_end0
  exact ⟨rfl, by rw [HCR.out]; exact F.out⟩
set_option maxRecDepth 100000 in
theorem on_calls {w : World} {h : DevH} {D : Dev} (hd : DevAt w h D) :
    Calls Tryz.prog 24 #[.pointer (some ⟨h.d, 0, none⟩)] w fun e w' => e = .returned (.tuple #[]) ∧ DevAt w' h D.on ∧ Chg h.foot w w' := by
  have HS := Lib.hid (settle_calls hd none 0 0 [] tU8 rfl (fun W _ => Rd.nil _ _ _))
  clear hd
  go_enter Tryz.func24, Tryz.ntmps24
  go_wp2_with fail
  refine HS.out.mono ?_
  rintro e w1 ⟨rfl, hd1, hc1⟩
  obtain ⟨D1, hD1⟩ : ∃ D1, D1 = D.settle [] := ⟨_, rfl⟩
  have hcr : D.on = { D1 with off := false, armed := 0 } := by rw [hD1]; rfl
  rw [← hD1] at hd1
  have HCR := Lib.hid hcr
  obtain ⟨s0, s1, s2, s3, hb⟩ := hd1.box
  have h2 := hb.cell 2
  have h3 := hb.cell 3
  simp at h2 h3
  have f2 := hb.frozen 2
  have f3 := hb.frozen 3
  have F : Hid (DevAt ((w1.setCell ⟨h.d, 2, none⟩ (.bool false)).setCell ⟨h.d, 3, none⟩ (.int .i64 0)) h { D1 with off := false, armed := 0 } ∧ Chg h.foot w ((w1.setCell ⟨h.d, 2, none⟩ (.bool false)).setCell ⟨h.d, 3, none⟩ (.int .i64 0))) := by
    have hc : Chg (fun i => i = h.d) w1 ((w1.setCell ⟨h.d, 2, none⟩ (.bool false)).setCell ⟨h.d, 3, none⟩ (.int .i64 0)) := (chg_setCell w1 ⟨h.d, 2, none⟩ _).trans (chg_setCell _ ⟨h.d, 3, none⟩ _)
    refine ⟨DevN.boxed hd1 hc rfl rfl rfl ⟨by show (0 : Int) ≤ 0; omega, by show (0 : Int) ≤ _; omega⟩ ⟨s0, s1, s2, s3, ?_⟩, hc1.trans (hc.mono (fun k _ e => .inl e))⟩
    have := (hb.set_ 2 (.bool false)).set_ 3 (.int .i64 0)
    simpa using this
  clear hd1 hc1 hb hD1 hcr HS
  go_wp2
  go_end0
  exact ⟨rfl, by rw [HCR.out]; exact F.out⟩
end Go.Proofs.YtplpbbdakihnfaaGreat
end

section
namespace Go.Proofs.YtplpbbdakihnfaaGreat
open Go.RowKit
structure Haft (w0 : World) (h : DevH) (t : EngH) (g : Geo) (Q : Item → Prop) (K : ByteArray → Prop) (X : Eng) (ls : List (List Item)) (Y : Eng) (E : Dev) (w : World) : Prop where
  dev : DevAt w h E
  eng : EngAt w h t Y
  aft : Aft g Q K X ls Y E
  foot : ∀ k, h.foot k → w0.heap.size ≤ k
  chg : Chg No w0 w
section
variable {w0 w w' : World} {h : DevH} {t : EngH} {g : Geo} {Q : Item → Prop} {K : ByteArray → Prop} {c : Nat} {X Y : Eng} {D E : Dev} {ls : List (List Item)}
theorem Haft.chgNo (H : Haft w0 h t g Q K X ls Y E w) (hc : Chg No w w') : Haft w0 h t g Q K X ls Y E w' := ⟨(DevN.chgNo H.dev hc).at_, H.eng.chgNo hc, H.aft, H.foot, H.chg.trans hc⟩
theorem Haft.footC (H : Haft w0 h t g Q K X ls Y E w) (hd : DevAt w' h E) (hc : Chg h.foot w w') : Haft w0 h t g Q K X ls Y E w' := ⟨hd, H.eng.foot (show DevN w.heap.size w h E from H.dev) hc, H.aft, H.foot, H.chg.then hc (fun i hi hk => by have := H.foot i hk; omega)⟩
theorem crash10 (hd : DevAt w h D) (hf : ∀ k, h.foot k → w0.heap.size ≤ k) (hc : Chg No w0 w) (A : Option Addr) (n cp : Nat) (picks : List UInt8) (te : TypeId) (hn : picks.length = n) (hr : Rd w0 te A n (bys picks)) :
    Calls Tryz.prog 23 #[.pointer (some ⟨h.d, 0, none⟩), .slice A n cp] w fun e w' => e = .returned (.tuple #[]) ∧ DevAt w' h (D.crash picks) ∧ Chg No w0 w' ∧ Chg h.foot w w' := by
  refine (crash_calls hd A n cp picks te hn (fun W hW => hr.chg (hc.then hW (fun i hi hk => by have := hf i hk; omega)) (fun _ _ _ _ h => h))).mono ?_
  rintro e w' ⟨rfl, hd', hch⟩
  exact ⟨rfl, hd', hc.then hch (fun i hi hk => by have := hf i hk; omega), hch⟩
theorem on10 (hd : DevAt w h D) (hf : ∀ k, h.foot k → w0.heap.size ≤ k) (hc : Chg No w0 w) :
    Calls Tryz.prog 24 #[.pointer (some ⟨h.d, 0, none⟩)] w fun e w' => e = .returned (.tuple #[]) ∧ DevAt w' h D.on ∧ Chg No w0 w' ∧ Chg h.foot w w' := by
  refine (on_calls hd).mono ?_
  rintro e w' ⟨rfl, hd', hch⟩
  exact ⟨rfl, hd', hc.then hch (fun i hi hk => by have := hf i hk; omega), hch⟩
theorem open10 (hA : All g Q K c X D ls) (hcc : c + 1 ≤ 1000000) (picks : List UInt8) (hd : DevAt w h (D.back picks)) (hf : ∀ k, h.foot k → w0.heap.size ≤ k) (hc : Chg No w0 w) :
    Calls Tryz.prog 14 #[.pointer (some ⟨h.d, 0, none⟩), g.V] w fun e w' => ∃ (t : EngH) (b : Sb), e = .returned (.tuple #[.pointer (some ⟨t.E, 0, none⟩), sbV b, .int .i64 0]) ∧ Haft w0 h t g Q K X ls (Eng.opened (D.back picks) g) ((D.back picks).stD (Eng.now (D.back picks))) w' := by
  obtain ⟨q1, q2, q3, q4, q5, q6⟩ := hA.back hcc picks
  refine (eopen_calls hd g hA.run.geo q2 q1 q3 q4 q5).mono ?_
  rintro e w' ⟨t, rfl, ⟨he, _⟩, hd', hch⟩
  exact ⟨t, _, rfl, hd', he, q6, hf, hc.then hch (fun i hi hk => by have := hf i hk; omega)⟩
theorem Haft.get (H : Haft w0 h t g Q K X ls Y E w) (hA : All g Q K c X D ls) (hQ : ∀ x, Q x → x.good = true) (key : ByteArray) (hk : key.size ≤ 140737488351232) :
    Calls Tryz.prog 17 #[.pointer (some ⟨t.E, 0, none⟩), .string key] w fun e w' => e = .returned (.tuple #[itemV (Y.get E key), .int .i64 (Y.getE E key)]) ∧ Haft w0 h t g Q K X ls Y E w' := by
  obtain ⟨h1, h2, h3⟩ := H.aft.get_key hA H.eng.lg.ok hQ key
  refine (eget_calls (show DevN w.heap.size w h E from H.dev) H.eng H.aft.on.off H.aft.los key hk h1 h2 h3).mono ?_
  rintro e w' ⟨rfl, hd, hch⟩
  exact ⟨rfl, H.footC hd.at_ hch⟩
theorem Haft.items (H : Haft w0 h t g Q K X ls Y E w) (hA : All g Q K c X D ls) (hQ : ∀ x, Q x → x.good = true) :
    Calls Tryz.prog 25 #[.pointer (some ⟨t.E, 0, none⟩)] w fun e w' => ∃ v, e = .returned v ∧ w'.ownsRow w.heap.size tItem 5 v (Y.items E).length (its (Y.items E)) ∧ Haft w0 h t g Q K X ls Y E w' ∧ (Y.items E).length ≤ 1000000 := by
  have hp := Geo.parts hA.run.geo
  have hb2 := H.aft.b2
  have hal : (Y.all E).length ≤ 1000000 := by
    unfold Eng.all
    rw [List.length_append]
    have h1 := items_le H.eng.lg.ok
    have h2 := allL_len (show DevN w.heap.size w h E from H.dev) Y.B Y.B.fs.length
    omega
  have hlen : (Y.items E).length ≤ 1000000 := Nat.le_trans (List.length_filter_le _ _) hal
  have hks : ∀ x ∈ Y.all E, x.key.size ≤ 140737488351232 ∧ (Y.B.get E x.key).2 ≠ 4 ∧ (Y.B.get E x.key).1.key.size ≤ 140737488351232 ∧ (Y.G.get x.key).key.size ≤ 140737488351232 := by
    intro x hx
    have hg : x.good = true := by
      unfold Eng.all at hx
      rcases List.mem_append.1 hx with hx | hx
      · unfold Sto.allL at hx
        obtain ⟨i, hi, hxi⟩ := List.mem_flatMap.1 hx
        rw [List.mem_range, hb2] at hi
        exact hQ x (H.aft.lL i hi x hxi).1
      · obtain ⟨p, hk, hit, _⟩ := items_mem hx
        have hv : Y.G.view x.key = some x := by unfold Lg.view; rw [hk]; simp [hit]
        obtain ⟨i, j, S, hS, hj, _⟩ := view_reg H.eng.lg.ok H.aft.go hv
        rw [H.aft.g2] at hS
        exact hQ x (hA.lgs.stands hS hj).1
    have h1 := (good_key hg).1
    obtain ⟨h2, h3, h4⟩ := H.aft.get_key hA H.eng.lg.ok hQ x.key
    exact ⟨by omega, h2, h3, h4⟩
  have hb := byNum_len Y.G.regs
  have hg2 : Y.G.regs.length = g.r := by rw [H.aft.g2]; exact hA.run.g2
  refine (eitems_calls H.dev H.eng H.aft.on.off H.aft.los (fun i hi => H.aft.lE i (by rw [← hb2]; exact hi)) (by omega) (byNum_lt _) (by omega) hal hks).mono ?_
  rintro e w' ⟨v, rfl, ho, hd, hch⟩
  exact ⟨v, rfl, ho, H.footC hd hch, hlen⟩
end
end Go.Proofs.YtplpbbdakihnfaaGreat
end

section
namespace Go.Proofs.YtplpbbdakihnfaaGreat
open Go.RowKit Go.ChangeShapes Go.WideShapes Go.Deep
def dItem {H : Type} (x : Item) : DataW H := .agg [.lit (.string x.key.data.toList), .lit (.string x.val.data.toList), .lit (.int .u32 x.flags.toNat), .lit (.int .i64 x.exp.toInt), .lit (.int .u64 x.ver.toNat)]
section
variable {H : Type} {enc : TypeId × Value → H} {w : World} {base : Nat} {spare : Nat → Bool} {held : Bool}
theorem item_fields : oneCellFields Tryz.prog (match Tryz.prog.underlying tItem with | some (.struct fs) => fs | _ => #[]) = true := by kernel_rfl
theorem item_cells : Tryz.prog.cellsOf tItem = 5 := by kernel_rfl
theorem item_bytes : Tryz.prog.bytesOf tItem = 56 := by kernel_rfl
set_option maxRecDepth 100000 in
theorem item_of {fuel : Nat} {cs : List Value} {y : DataW H × List MemPlace} (h : DataW.trod enc Tryz.prog w base spare held fuel tItem cs = some y) :
    ∃ x : Item, cs = itc x ∧ y.1 = dItem x := by
  have hone := item_fields
  rw [Tryz.underlying39] at hone
  obtain ⟨xs, n, _, hx, hcl, hlen, hg⟩ := DataW.trod_struct Tryz.underlying39 h
  rw [item_cells] at hcl
  match cs, hcl with
  | [c0, c1, c2, c3, c4], _ =>
    match xs, hlen with
    | [y0, y1, y2, y3, y4], _ =>
      obtain ⟨o0, k0⟩ := hone_of hone 0 _ rfl
      obtain ⟨o1, k1⟩ := hone_of hone 1 _ rfl
      obtain ⟨o2, k2⟩ := hone_of hone 2 _ rfl
      obtain ⟨o3, k3⟩ := hone_of hone 3 _ rfl
      obtain ⟨o4, k4⟩ := hone_of hone 4 _ rfl
      have g0 := hg 0 _ rfl
      have g1 := hg 1 _ rfl
      have g2 := hg 2 _ rfl
      have g3 := hg 3 _ rfl
      have g4 := hg 4 _ rfl
      rw [o0, k0] at g0
      rw [o1, k1] at g1
      rw [o2, k2] at g2
      rw [o3, k3] at g3
      rw [o4, k4] at g4
      obtain ⟨s0, e0, r0, _⟩ := DataW.trod_string Tryz.underlying9 g0
      obtain ⟨s1, e1, r1, _⟩ := DataW.trod_string Tryz.underlying9 g1
      obtain ⟨n2, e2, r2, w2⟩ := DataW.trod_int Tryz.underlying37 g2
      obtain ⟨n3, e3, r3, w3⟩ := DataW.trod_int Tryz.underlying2 g3
      obtain ⟨n4, e4, r4, w4⟩ := DataW.trod_int Tryz.underlying28 g4
      simp only [List.drop_zero, List.drop_succ_cons, List.take_succ_cons, List.take_zero, List.cons.injEq, and_true] at e0 e1 e2 e3 e4
      subst e0; subst e1; subst e2; subst e3; subst e4
      subst r0; subst r1; subst r2; subst r3; subst r4
      have b2 := bounds_u32 w2
      have b3 := bounds_i64 w3
      have b4 := bounds_u64 w4
      have f2 : ((UInt32.ofNat n2.toNat).toNat : Int) = n2 := by rw [UInt32.toNat_ofNat']; omega
      have f3 : (Int64.ofInt n3).toInt = n3 := Int64.toInt_ofInt_of_le (by omega) (by omega)
      have f4 : ((UInt64.ofNat n4.toNat).toNat : Int) = n4 := by rw [UInt64.toNat_ofNat']; omega
      refine ⟨{ key := s0, val := s1, flags := UInt32.ofNat n2.toNat, exp := Int64.ofInt n3, ver := UInt64.ofNat n4.toNat }, ?_, ?_⟩
      · simp only [itc, f2, f3, f4]
      · rw [hx]; simp only [dItem, f2, f3, f4, List.map_cons, List.map_nil]
theorem weights_all {P : Program} {e : TypeId} {l : List (DataW H)} {d : DataW H} (hd : d ∈ l) : ∀ n ∈ d.weights P e, n ∈ DataW.weightsAll P e l := by
  induction l with
  | nil => cases hd
  | cons a r ih =>
    intro n hn
    rw [DataW.weightsAll, List.mem_append]
    rcases List.mem_cons.1 hd with rfl | hd
    · exact .inl hn
    · exact .inr (ih hd n hn)
set_option maxRecDepth 100000 in
theorem item_sized {x : Item} {N : Nat} (h : ∀ n ∈ (dItem (H := H) x).weights Tryz.prog tItem, n ≤ N) : x.key.size ≤ N ∧ x.val.size ≤ N := by
  have e : (dItem (H := H) x).weights Tryz.prog tItem = [x.key.data.toList.length, x.val.data.toList.length] := by
    simp [dItem, DataW.weights, Tryz.underlying39, DataW.weightsEach]
  rw [e] at h
  rw [Array.length_toList, Array.length_toList] at h
  exact ⟨h _ List.mem_cons_self, h _ (List.mem_cons_of_mem _ List.mem_cons_self)⟩
instance : Inhabited Item := ⟨Item.zero⟩
theorem choose_item {n : Nat} {p : Nat → Item → Prop} (h : ∀ i, i < n → ∃ x, p i x) : ∃ f : Nat → Item, ∀ i, i < n → p i (f i) := choose_lt h
theorem add_at (g off j : Nat) : (⟨g, off, none⟩ : Addr).add j = ⟨g, off + j, none⟩ := by unfold Addr.add; split <;> simp_all
set_option maxRecDepth 100000 in
theorem open_items {b0 : Nat} {v : Value} {d : DataW H} {p : List MemPlace} (hv : Value.okWide Tryz.prog w .any b0 tItems v) (h : DataW.Trod enc Tryz.prog w base (fun _ => true) held tItems v d p) (hs : ∀ n ∈ d.weights Tryz.prog tItems, n ≤ reachBytes) :
    ∃ (A : Option Addr) (n c : Nat) (l : List Item) (t : TypeId), v = .slice A n c ∧ l.length = n ∧ n ≤ c ∧ (A = none → c = 0) ∧ Rd w t A (n * 5) (its l) ∧ c * 56 ≤ reachBytes ∧ ∀ x ∈ l, x.key.size ≤ reachBytes ∧ x.val.size ≤ reachBytes := by
  obtain ⟨A, n, c, rfl⟩ := okWide_slice Tryz.underlying46 hv
  obtain ⟨fuel, hf⟩ := h
  rcases open_slice Tryz.underlying46 hf with ⟨hcs, _⟩ | ⟨a, len, cap, m, k, D, Pl, hcs, _, hl, hm, hmm, hx, hi⟩
  · simp only [Value.cells, List.cons.injEq, and_true, Value.slice.injEq] at hcs
    obtain ⟨rfl, rfl, rfl⟩ := hcs
    exact ⟨none, 0, 0, [], tItem, rfl, rfl, Nat.le_refl _, fun _ => rfl, Rd.nil _ _ _, Nat.zero_le _, fun x hx => by cases hx⟩
  · simp only [Value.cells, List.cons.injEq, and_true, Value.slice.injEq] at hcs
    obtain ⟨rfl, rfl, rfl⟩ := hcs
    simp only [if_true] at hmm
    subst hmm
    rw [item_cells] at hi
    obtain ⟨f, hfn⟩ := choose_item (p := fun i x => w.cells? base (a.add (i * 5)) 5 = some (itc x) ∧ D i = dItem x) (fun i hi' => by
      obtain ⟨cs', h1, h2⟩ := hi i hi'
      obtain ⟨x, rfl, hd⟩ := item_of h2
      exact ⟨x, h1, hd⟩)
    have hd : d = .slice ((List.range n).map D) ((List.range (m - n)).map fun j => D (n + j)) := congrArg Prod.fst hx
    subst hd
    refine ⟨some a, n, m, (List.range n).map f, ?_⟩
    have hsz : m * 56 ≤ reachBytes := by
      have := hs ((((List.range n).map D).length + ((List.range (m - n)).map fun j => D (n + j)).length) * Tryz.prog.bytesOf tItem) (by simp [DataW.weights, Tryz.underlying46])
      rw [item_bytes] at this
      simp only [List.length_map, List.length_range] at this
      rwa [show n + (m - n) = m from by omega] at this
    have hstr : ∀ x ∈ (List.range n).map f, x.key.size ≤ reachBytes ∧ x.val.size ≤ reachBytes := by
      intro x hx
      obtain ⟨i, hi1, rfl⟩ := List.mem_map.1 hx
      have hin : i < n := List.mem_range.1 hi1
      refine item_sized (H := H) fun k hk => hs k ?_
      simp only [DataW.weights, Tryz.underlying46, List.mem_cons, List.mem_append]
      refine .inr (.inl (weights_all (d := D i) (List.mem_map_of_mem (List.mem_range.2 hin)) k ?_))
      rw [(hfn i (by omega)).2]
      exact hk
    by_cases hn : n = 0
    · subst hn
      exact ⟨tItem, rfl, by simp, hl, fun h => (by cases h), Rd.nil _ _ _, hsz, hstr⟩
    · obtain ⟨g, off, spot⟩ := a
      have hcell : ∀ i j, i < m → j < 5 → w.cell? ((⟨g, off, spot⟩ : Addr).add (i * 5 + j)) = (itc (f i))[j]? := by
        intro i j hi' hj
        have := (World.cells?_some (hfn i hi').1).2.2 j hj
        rwa [add_add] at this
      have hspot : spot = none := by
        have := hcell 0 0 (by omega) (by omega)
        simp only [Nat.zero_mul, Nat.add_zero, itc, List.getElem?_cons_zero] at this
        simpa [Addr.add] using World.cell?_spot this
      subst hspot
      have h00 := hcell 0 0 (by omega) (by omega)
      simp only [Nat.zero_mul, Nat.add_zero, itc, List.getElem?_cons_zero] at h00
      obtain ⟨cur, t, fz, hg⟩ : ∃ cur t fz, w.heap[g]? = some (.cells cur t fz) := by
        unfold World.cell? at h00
        simp only [Addr.add, if_true] at h00
        split at h00
        · rename_i c t fz hh; exact ⟨c, t, fz, hh⟩
        · cases h00
      refine ⟨t, rfl, by simp, hl, fun h => (by cases h), ⟨by rw [its_length]; simp, fun _ => ⟨g, off, cur, fz, rfl, hg, ?_⟩⟩, hsz, hstr⟩
      intro j u hu
      have hjl : j < n * 5 := by
        have := (List.getElem?_eq_some_iff.1 hu).1
        rw [its_length] at this
        simpa using this
      have hj5 : j = j / 5 * 5 + j % 5 := by omega
      have hjd : j / 5 < n := by omega
      have hget := its_get ((List.range n).map f) (j / 5) (j % 5) (f (j / 5)) (by simp [hjd]) (by omega)
      rw [← hj5, hu] at hget
      have hc := hcell (j / 5) (j % 5) (by omega) (by omega)
      rw [← hj5, ← hget] at hc
      rw [add_at, cell_of_row w g _ cur t fz hg] at hc
      exact hc
theorem u8_cells : Tryz.prog.cellsOf tU8 = 1 := by kernel_rfl
theorem u8_bytes : Tryz.prog.bytesOf tU8 = 1 := by kernel_rfl
set_option maxRecDepth 100000 in
theorem open_bytes {b0 : Nat} {v : Value} {d : DataW H} {p : List MemPlace} (hv : Value.okWide Tryz.prog w .any b0 tBytes v) (h : DataW.Trod enc Tryz.prog w base (fun _ => true) held tBytes v d p) (hs : ∀ n ∈ d.weights Tryz.prog tBytes, n ≤ reachBytes) :
    ∃ (A : Option Addr) (n c : Nat) (b : List UInt8) (t : TypeId), v = .slice A n c ∧ b.length = n ∧ n ≤ c ∧ (A = none → c = 0) ∧ Rd w t A n (bys b) ∧ c ≤ reachBytes := by
  obtain ⟨A, n, c, rfl⟩ := okWide_slice Tryz.underlying40 hv
  obtain ⟨fuel, hf⟩ := h
  rcases open_ints Tryz.underlying40 Tryz.underlying5 u8_cells hf with ⟨hcs, _⟩ | ⟨a, len, cap, zs, hcs, _, hl, hm, hz, hx, hcell, hwz⟩
  · simp only [Value.cells, List.cons.injEq, and_true, Value.slice.injEq] at hcs
    obtain ⟨rfl, rfl, rfl⟩ := hcs
    exact ⟨none, 0, 0, [], tU8, rfl, rfl, Nat.le_refl _, fun _ => rfl, Rd.nil _ _ _, Nat.zero_le _⟩
  · simp only [Value.cells, List.cons.injEq, and_true, Value.slice.injEq] at hcs
    obtain ⟨rfl, rfl, rfl⟩ := hcs
    simp only [if_true] at hz
    have hd : d = _ := congrArg Prod.fst hx
    subst hd
    have hsz : c ≤ reachBytes := by
      have := hs _ (by simp only [DataW.weights, Tryz.underlying40]; exact List.mem_cons_self)
      rw [u8_bytes] at this
      simp [lits] at this
      omega
    have hb8 : ∀ z ∈ zs, ((UInt8.ofNat z.toNat).toNat : Int) = z := fun z hz => by
      have := hwz z hz
      have m1 : IntKind.u8.min = 0 := rfl
      have m2 : IntKind.u8.max = 255 := rfl
      simp only [Lit.wf, m1, m2, Bool.and_eq_true, decide_eq_true_eq] at this
      rw [UInt8.toNat_ofNat']; omega
    have hbys : bys ((zs.take n).map fun z => UInt8.ofNat z.toNat) = (zs.take n).map (fun z => Value.int .u8 z) := by
      unfold bys
      rw [List.map_map]
      refine List.map_congr_left fun z hz => ?_
      show Value.int .u8 _ = _
      rw [hb8 z (List.mem_of_mem_take hz)]
    have hlen : ((zs.take n).map fun z => UInt8.ofNat z.toNat).length = n := by simp; omega
    by_cases hn : n = 0
    · subst hn
      exact ⟨some a, 0, c, [], tU8, rfl, rfl, Nat.zero_le _, fun h => (by cases h), Rd.nil _ _ _, hsz⟩
    · obtain ⟨g, off, spot⟩ := a
      have hspot : spot = none := by
        have := hcell 0 (by omega)
        simpa [Addr.add] using World.cell?_spot this
      subst hspot
      have h00 := hcell 0 (by omega)
      obtain ⟨cur, t, fz, hg⟩ : ∃ cur t fz, w.heap[g]? = some (.cells cur t fz) := by
        unfold World.cell? at h00
        simp only [Addr.add, if_true] at h00
        split at h00
        · rename_i c t fz hh; exact ⟨c, t, fz, hh⟩
        · cases h00
      refine ⟨some ⟨g, off, none⟩, n, c, _, t, rfl, hlen, hl, fun h => (by cases h), ⟨by rw [bys_length, hlen], fun _ => ⟨g, off, cur, fz, rfl, hg, ?_⟩⟩, hsz⟩
      intro j u hu
      rw [hbys] at hu
      have hj : j < n := by
        have := (List.getElem?_eq_some_iff.1 hu).1
        simp at this; omega
      have hjz : j < zs.length := by omega
      rw [List.getElem?_map, List.getElem?_take_of_lt hj, List.getElem?_eq_getElem hjz] at hu
      have hc := hcell j hjz
      rw [add_at, cell_of_row w g _ cur t fz hg] at hc
      rw [hc, ← hu]
      simp [List.getD, List.getElem?_eq_getElem hjz]
set_option maxRecDepth 100000 in
theorem open_item {b0 : Nat} {v : Value} {d : DataW H} {p : List MemPlace} (hv : Value.okWide Tryz.prog w .any b0 tItem v) (h : DataW.Trod enc Tryz.prog w base spare held tItem v d p) (hs : ∀ n ∈ d.weights Tryz.prog tItem, n ≤ reachBytes) :
    ∃ x : Item, v = itemV x ∧ x.key.size ≤ reachBytes ∧ x.val.size ≤ reachBytes := by
  obtain ⟨cs, rfl, _⟩ := okWide_struct Tryz.underlying39 hv
  obtain ⟨fuel, hf⟩ := h
  obtain ⟨x, hx, hd⟩ := item_of hf
  have hd' : d = dItem x := hd
  subst hd'
  obtain ⟨l⟩ := cs
  have hl : l = itc x := by simpa [Value.cells] using hx
  subst hl
  exact ⟨x, rfl, item_sized hs⟩
theorem sized_all {P : Program} {ts : List TypeId} {ds : List (DataW H)} (h : (DataW.weightsEach P ts ds).all (· ≤ reachBytes) = true) {j : Nat} {t : TypeId} {d : DataW H} (ht : ts[j]? = some t) (hd : ds[j]? = some d) : ∀ n ∈ d.weights P t, n ≤ reachBytes := fun n hn => by
  have := List.all_eq_true.1 h n (DataW.weights_mem_each ht hd n hn)
  simpa using this
theorem reach_num : reachBytes = 140737488351232 := rfl
end
end Go.Proofs.YtplpbbdakihnfaaGreat
end

section
namespace Go.Proofs.YtplpbbdakihnfaaGreat
open Go.RowKit Go.ChangeShapes Go.WideShapes Go.Deep
abbrev tCall10 : TypeId := 53
abbrev tCalls10 : TypeId := 45
section
variable {H : Type} {enc : TypeId × Value → H} {w : World} {base : Nat} {spare : Nat → Bool} {held : Bool}
theorem call_cells : Tryz.prog.cellsOf tCall10 = 12 := by kernel_rfl
theorem int_cells : Tryz.prog.cellsOf 3 = 1 := by kernel_rfl
set_option maxRecDepth 100000 in
theorem call_of {fuel : Nat} {cs : List Value} {y : DataW H × List MemPlace} (h : DataW.trod enc Tryz.prog w base spare held fuel tCall10 cs = some y) :
    ∃ (op : Int) (x : Item) (rest : List (DataW H)), cs.length = 12 ∧ cs[0]? = some (.int .i64 op) ∧ (cs.drop 1).take 5 = itc x ∧ y.1 = .agg (.lit (.int .i64 op) :: dItem x :: rest) := by
  obtain ⟨xs, n, _, hx, hcl, hlen, hg⟩ := DataW.trod_struct Tryz.underlying53 h
  rw [call_cells] at hcl
  match xs, hlen with
  | [y0, y1, y2, y3, y4, y5], _ =>
    have g0 := hg 0 _ rfl
    have g1 := hg 1 _ rfl
    have h0 : DataW.trod enc Tryz.prog w base spare held n 3 ((cs.drop 0).take (Tryz.prog.cellsOf 3)) = some y0 := g0
    have h1 : DataW.trod enc Tryz.prog w base spare held n tItem ((cs.drop 1).take (Tryz.prog.cellsOf tItem)) = some y1 := g1
    rw [int_cells] at h0
    rw [item_cells] at h1
    obtain ⟨n0, e0, r0, _⟩ := DataW.trod_int Tryz.underlying3 h0
    obtain ⟨x, e1, r1⟩ := item_of h1
    refine ⟨n0, x, [y2.1, y3.1, y4.1, y5.1], hcl, ?_, e1, ?_⟩
    · match cs, hcl with
      | c0 :: r, _ =>
        simp only [List.drop_zero, List.take_succ_cons, List.take_zero, List.cons.injEq, and_true] at e0
        rw [e0]; rfl
    · rw [hx]
      simp only [List.map_cons, List.map_nil, r1]
      rw [r0]
theorem call_bytes_ge : 56 ≤ Tryz.prog.bytesOf tCall10 := by decide +kernel
set_option maxRecDepth 100000 in
theorem call_sized {op : Int} {x : Item} {rest : List (DataW H)} {N : Nat} (h : ∀ n ∈ (DataW.agg (.lit (.int .i64 op) :: dItem (H := H) x :: rest)).weights Tryz.prog tCall10, n ≤ N) : x.key.size ≤ N ∧ x.val.size ≤ N := by
  refine item_sized (H := H) fun n hn => h n ?_
  simp only [DataW.weights, Tryz.underlying53]
  simp only [List.map_cons, DataW.weightsEach, List.mem_append]
  exact .inr (.inl hn)
theorem flat12 (F : Nat → List Value) (n : Nat) (hF : ∀ i, i < n → (F i).length = 12) : ((List.range n).flatMap F).length = n * 12 ∧ ∀ i j, i < n → j < 12 → ((List.range n).flatMap F)[i * 12 + j]? = (F i)[j]? := by
  induction n with
  | zero => exact ⟨rfl, fun i j h => by omega⟩
  | succ n ih =>
    obtain ⟨h1, h2⟩ := ih (fun i hi => hF i (by omega))
    have hn := hF n (Nat.lt_succ_self n)
    rw [List.range_succ, List.flatMap_append]
    have e : [n].flatMap F = F n := by simp
    rw [e]
    refine ⟨by rw [List.length_append, h1, hn]; omega, fun i j hi hj => ?_⟩
    by_cases hin : i < n
    · rw [List.getElem?_append_left (by rw [h1]; omega)]
      exact h2 i j hin hj
    · have e2 : i = n := by omega
      subst e2
      rw [List.getElem?_append_right (by rw [h1]; omega), h1, show i * 12 + j - i * 12 = j from by omega]
theorem choose_ci {n : Nat} {p : Nat → (Int × Item) × List Value × List (DataW H) → Prop} (h : ∀ i, i < n → ∃ x, p i x) : ∃ f : Nat → (Int × Item) × List Value × List (DataW H), ∀ i, i < n → p i (f i) := choose_lt h
set_option maxRecDepth 100000 in
theorem open_calls10 {b0 : Nat} {v : Value} {d : DataW H} {p : List MemPlace} (hv : Value.okWide Tryz.prog w .any b0 tCalls10 v) (h : DataW.Trod enc Tryz.prog w base (fun _ => true) held tCalls10 v d p) (hs : ∀ n ∈ d.weights Tryz.prog tCalls10, n ≤ reachBytes) :
    ∃ (A : Option Addr) (n c : Nat) (xs : List Value) (l : List (Int × Item)) (t : TypeId), v = .slice A n c ∧ l.length = n ∧ n ≤ c ∧ Rd w t A (n * 12) xs ∧ Calls10 xs l ∧ ∀ x ∈ l, x.2.key.size ≤ reachBytes ∧ x.2.val.size ≤ reachBytes := by
  obtain ⟨A, n, c, rfl⟩ := okWide_slice Tryz.underlying45 hv
  obtain ⟨fuel, hf⟩ := h
  rcases open_slice Tryz.underlying45 hf with ⟨hcs, _⟩ | ⟨a, len, cap, m, k, D, Pl, hcs, _, hl, hm, hmm, hx, hi⟩
  · simp only [Value.cells, List.cons.injEq, and_true, Value.slice.injEq] at hcs
    obtain ⟨rfl, rfl, rfl⟩ := hcs
    exact ⟨none, 0, 0, [], [], tItem, rfl, rfl, Nat.le_refl _, Rd.nil _ _ _, (fun i p hp => by cases hp), fun x hx => by cases hx⟩
  · simp only [Value.cells, List.cons.injEq, and_true, Value.slice.injEq] at hcs
    obtain ⟨rfl, rfl, rfl⟩ := hcs
    simp only [if_true] at hmm
    subst hmm
    rw [call_cells] at hi
    obtain ⟨f, hfn⟩ := choose_ci (H := H) (p := fun i q => w.cells? base (a.add (i * 12)) 12 = some q.2.1 ∧ q.2.1.length = 12 ∧ q.2.1[0]? = some (.int .i64 q.1.1) ∧ (q.2.1.drop 1).take 5 = itc q.1.2 ∧ D i = .agg (.lit (.int .i64 q.1.1) :: dItem q.1.2 :: q.2.2)) (fun i hi' => by
      obtain ⟨cs', h1, h2⟩ := hi i hi'
      obtain ⟨op, x, rest, q1, q2, q3, q4⟩ := call_of h2
      exact ⟨((op, x), cs', rest), h1, q1, q2, q3, q4⟩)
    have hd : d = .slice ((List.range n).map D) ((List.range (m - n)).map fun j => D (n + j)) := congrArg Prod.fst hx
    subst hd
    obtain ⟨fl1, fl2⟩ := flat12 (fun i => (f i).2.1) n (fun i hi1 => (hfn i (by omega)).2.1)
    have hstr : ∀ x ∈ (List.range n).map (fun i => (f i).1), x.2.key.size ≤ reachBytes ∧ x.2.val.size ≤ reachBytes := by
      intro x hx
      obtain ⟨i, hi1, rfl⟩ := List.mem_map.1 hx
      have hin : i < n := List.mem_range.1 hi1
      refine call_sized (H := H) (op := (f i).1.1) (rest := (f i).2.2) fun k hk => hs k ?_
      simp only [DataW.weights, Tryz.underlying45, List.mem_cons, List.mem_append]
      refine .inr (.inl (weights_all (d := D i) (List.mem_map_of_mem (List.mem_range.2 hin)) k ?_))
      rw [(hfn i (by omega)).2.2.2.2]
      exact hk
    have hcalls : Calls10 ((List.range n).flatMap (fun i => (f i).2.1)) ((List.range n).map (fun i => (f i).1)) := by
      intro i p hp
      rw [List.getElem?_map] at hp
      have hin : i < n := by
        rcases Nat.lt_or_ge i n with h9 | h9
        · exact h9
        · rw [List.getElem?_eq_none (by simp; omega)] at hp; cases hp
      rw [List.getElem?_range hin] at hp
      simp only [Option.map_some, Option.some.injEq] at hp
      subst hp
      obtain ⟨_, k1, k2, k3, _⟩ := hfn i (by omega)
      have hg : ∀ j, j < 5 → (f i).2.1[j + 1]? = (itc (f i).1.2)[j]? := by
        intro j hj
        rw [← k3, List.getElem?_take_of_lt hj, List.getElem?_drop, Nat.add_comm]
      have e0 := fl2 i 0 hin (by omega)
      have e1 := fl2 i 1 hin (by omega)
      have e2 := fl2 i 2 hin (by omega)
      have e3 := fl2 i 3 hin (by omega)
      have e4 := fl2 i 4 hin (by omega)
      have e5 := fl2 i 5 hin (by omega)
      exact ⟨e0.trans k2, e1.trans (hg 0 (by omega)), e2.trans (hg 1 (by omega)), e3.trans (hg 2 (by omega)), e4.trans (hg 3 (by omega)), e5.trans (hg 4 (by omega))⟩
    by_cases hn : n = 0
    · subst hn
      exact ⟨some a, 0, m, [], [], tItem, rfl, rfl, hl, Rd.nil _ _ _, (fun i p hp => by cases hp), fun x hx => by cases hx⟩
    refine ⟨some a, n, m, (List.range n).flatMap (fun i => (f i).2.1), (List.range n).map (fun i => (f i).1), ?_⟩
    obtain ⟨g, off, spot⟩ := a
    have hcell : ∀ i j, i < m → j < 12 → w.cell? ((⟨g, off, spot⟩ : Addr).add (i * 12 + j)) = (f i).2.1[j]? := by
      intro i j hi' hj
      have := (World.cells?_some (hfn i hi').1).2.2 j hj
      rwa [add_add] at this
    have hspot : spot = none := by
      have := hcell 0 0 (by omega) (by omega)
      rw [(hfn 0 (by omega)).2.2.1] at this
      simpa [Addr.add] using World.cell?_spot this
    subst hspot
    have h00 := hcell 0 0 (by omega) (by omega)
    rw [(hfn 0 (by omega)).2.2.1] at h00
    obtain ⟨cur, t, fz, hg⟩ : ∃ cur t fz, w.heap[g]? = some (.cells cur t fz) := by
      unfold World.cell? at h00
      simp only [Addr.add, if_true] at h00
      split at h00
      · rename_i c t fz hh; exact ⟨c, t, fz, hh⟩
      · cases h00
    refine ⟨t, rfl, by simp, hl, ⟨fl1, fun _ => ⟨g, off, cur, fz, rfl, hg, ?_⟩⟩, hcalls, hstr⟩
    intro j u hu
    have hjl : j < n * 12 := by rw [← fl1]; exact (List.getElem?_eq_some_iff.1 hu).1
    have hj5 : j = j / 12 * 12 + j % 12 := by omega
    have hjd : j / 12 < n := by omega
    have hget := fl2 (j / 12) (j % 12) hjd (by omega)
    rw [← hj5, hu] at hget
    have hc := hcell (j / 12) (j % 12) (by omega) (by omega)
    rw [← hj5, ← hget] at hc
    rw [add_at, cell_of_row w g _ cur t fz hg] at hc
    exact hc
end
end Go.Proofs.YtplpbbdakihnfaaGreat
end
