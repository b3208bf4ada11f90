/- Commands: event.Of, walked. -/
import Derived.Test.YtedkoplgfidjlaaDoorMdlF
namespace Go.Proofs.YtedkoplgfidjlaaDoor
open Go.RowKit
attribute [local go_sem ↓] Go.wp_at_zero Go.wp_at_succ
set_option linter.unusedSimpArgs false
set_option linter.unusedVariables false

/-- keys in memory -/
def KeysAt (w : World) (A : Option Addr) (n : Nat) (ks : List ByteArray) : Prop := Rd w tStr A n (ks.map .string) ∧ n = ks.length ∧ n * 16 ≤ 140737488355328
theorem KeysAt.chg {S : Nat → Prop} {w w' : World} {A : Option Addr} {n : Nat} {ks : List ByteArray} (h : KeysAt w A n ks) (hc : Chg S w w') (hn : ∀ g cur fz, w.heap[g]? = some (.cells cur tStr fz) → ¬ S g) : KeysAt w' A n ks := ⟨h.1.chg hc hn, h.2⟩
theorem KeysAt.chgNo {w w' : World} {A : Option Addr} {n : Nat} {ks : List ByteArray} (h : KeysAt w A n ks) (hc : Chg No w w') : KeysAt w' A n ks := h.chg hc (fun _ _ _ _ h => h)
theorem kclone_calls {w : World} {A : Option Addr} {n : Nat} {ks : List ByteArray} (h : KeysAt w A n ks) (c : Nat) :
    Calls Tryd.prog 31 #[.slice A n c] w fun e w' => (∃ A' c', e = .returned (.slice A' n c') ∧ KeysAt w' A' n ks) ∧ Chg No w w' := by
  obtain ⟨hr, hn, hb⟩ := h
  cases A with
  | none =>
    have h0 : n = 0 := by
      rcases Nat.eq_zero_or_pos n with h | h
      · exact h
      · obtain ⟨g, off, h1, _⟩ := hr.at_ h
        cases h1
    subst h0
    obtain rfl : ks = [] := List.length_eq_zero_iff.1 hn.symm
    refine (Tryd.slices_Clone_string_nil 0 c w).mono ?_
    rintro e w' ⟨rfl, rfl⟩
    exact ⟨⟨none, 0, rfl, Rd.nil _ _ _, rfl, by decide⟩, Chg.refl _ _⟩
  | some a =>
    rcases Nat.eq_zero_or_pos n with h0 | h0
    · subst h0
      obtain rfl : ks = [] := List.length_eq_zero_iff.1 hn.symm
      refine (Tryd.slices_Clone_string_zero a c w).mono ?_
      rintro e w' ⟨v', rfl, ho, _, hbw⟩
      obtain ⟨A', c', rfl, _, hr'⟩ := own_slice ho
      exact ⟨⟨A', c', rfl, hr', rfl, by decide⟩, Chg.ofBelow hbw⟩
    · obtain ⟨g, off, h1, hg, hcells⟩ := hr.at_ h0
      injection h1 with h1
      subst h1
      refine (Tryd.slices_Clone_string g off n c ks w (by omega) hb (fun j hj => hcells j _ (by rw [List.getElem?_map, List.getElem?_eq_getElem hj]; simp [List.getD, List.getElem?_eq_getElem hj]))).mono ?_
      rintro e w' ⟨v', rfl, ho, _, hbw⟩
      obtain ⟨A', c', rfl, _, hr'⟩ := own_slice ho
      rw [List.take_of_length_le (by omega), Nat.mul_one] at hr'
      exact ⟨⟨A', c', rfl, hr', hn, hb⟩, Chg.ofBelow hbw⟩
/-- a command -/
structure CmdP where
  what : ByteArray
  verb : ByteArray
  ks : List ByteArray
  data : ByteArray
  flags : UInt32
  exp : Int
  cas : UInt64
  by_ : UInt64
  wc : Bool
  wt : Bool
  dn : Bool
  qt : Bool
abbrev tCmd : TypeId := 31
abbrev cmdc (c : CmdP) (A : Option Addr) (n cp : Nat) : Array Value := #[.string c.what, .string c.verb, .slice A n cp, .string c.data, .int .u32 c.flags.toNat, .int .i64 c.exp, .int .u64 c.cas.toNat, .int .u64 c.by_.toNat, .bool c.wc, .bool c.wt, .bool c.dn, .bool c.qt]
def fstKey (ks : List ByteArray) : ByteArray := ks.headD ⟨#[]⟩
theorem ckey_calls {w : World} (c : CmdP) {A : Option Addr} {n : Nat} (h : KeysAt w A n c.ks) (cp : Nat) :
    Calls Tryd.prog 32 #[.agg (cmdc c A n cp)] w fun e w' => e = .returned (.string (fstKey c.ks)) ∧ Chg No w w' := by
  obtain ⟨ks, hks⟩ : ∃ ks, ks = c.ks := ⟨_, rfl⟩
  rw [← hks] at h ⊢
  unfold cmdc
  rcases Nat.eq_zero_or_pos n with h0 | h0
  · subst h0
    obtain rfl : ks = [] := List.length_eq_zero_iff.1 h.2.1.symm
    clear h hks
    go_enter Tryd.func32, Tryd.ntmps32
    go_wp2_with fail
    go_ret
    exact ⟨rfl, by (repeat (first | (with_reducible exact Chg.refl _ _) | (with_reducible assumption) | (with_reducible refine Chg.drewN ?_ _) | (with_reducible refine Chg.drew ?_) | (with_reducible refine Chg.alloc ?_ _) | (with_reducible refine Chg.setCell ?_ (by first | (left; simp [DevH.foot]; done) | (right; simp; done) | (right; simp; omega)) _)))⟩
  · obtain ⟨g, off, rfl, hg, hcells⟩ := h.1.at_ h0
    cases ks with
    | nil => have := h.2.1; simp at this; omega
    | cons k r =>
      have hc0 := hcells 0 (.string k) (by rfl)
      have hn0 : ((n : Int) == 0) = false := by simp; omega
      have hni : (0 : Int) < (n : Int) := by omega
      rw [Nat.add_zero] at hc0
      clear h hks hcells
      go_enter Tryd.func32, Tryd.ntmps32
      go_wp2_with fail
      go_ret
      exact ⟨rfl, by (repeat (first | (with_reducible exact Chg.refl _ _) | (with_reducible assumption) | (with_reducible refine Chg.drewN ?_ _) | (with_reducible refine Chg.drew ?_) | (with_reducible refine Chg.alloc ?_ _) | (with_reducible refine Chg.setCell ?_ (by first | (left; simp [DevH.foot]; done) | (right; simp; done) | (right; simp; omega)) _)))⟩
/-- a command as a value of its own type -/
inductive Ev where
  | get (ks : List ByteArray) (wc wt : Bool) (exp : Int)
  | store (c : StC)
  | arith (c : ArC)
  | touch (key : ByteArray) (exp : Int) (q : Bool)
  | del (key : ByteArray) (q : Bool)
  | flush (q : Bool)
  | bad (t : ByteArray)
  | word (t : ByteArray)
  | none
def EvAt (w : World) (v : Value) : Ev → Prop
  | .get ks wc wt exp => ∃ A n cp, v = .iface 62 (.agg #[.slice A n cp, .bool wc, .bool wt, .int .i64 exp]) ∧ KeysAt w A n ks
  | .store c => v = .iface 66 (.agg (stc c))
  | .arith c => v = .iface 69 (.agg (arc c))
  | .touch key exp q => v = .iface 72 (.agg #[.string key, .int .i64 exp, .bool q])
  | .del key q => v = .iface 76 (.agg #[.string key, .bool q])
  | .flush q => v = .iface 78 (.agg #[.bool q])
  | .bad t => v = .iface 57 (.agg #[.string t])
  | .word t => v = .iface 80 (.agg #[.string t])
  | .none => v = .nilIface
def kGet : ByteArray := ⟨#[103, 101, 116]⟩
def kStore : ByteArray := ⟨#[115, 116, 111, 114, 101]⟩
def kArith : ByteArray := ⟨#[97, 114, 105, 116, 104]⟩
def kTouch : ByteArray := ⟨#[116, 111, 117, 99, 104]⟩
def kDelete : ByteArray := ⟨#[100, 101, 108, 101, 116, 101]⟩
def kFlush : ByteArray := ⟨#[102, 108, 117, 115, 104]⟩
def kBad : ByteArray := ⟨#[98, 97, 100]⟩
def kWord : ByteArray := ⟨#[119, 111, 114, 100]⟩
def evOf (c : CmdP) : Ev :=
  if c.what = kGet then .get c.ks c.wc c.wt c.exp
  else if c.what = kStore then .store ⟨c.verb, fstKey c.ks, c.data, c.flags, c.exp, c.cas, c.qt⟩
  else if c.what = kArith then .arith ⟨fstKey c.ks, c.by_, c.dn, c.qt⟩
  else if c.what = kTouch then .touch (fstKey c.ks) c.exp c.qt
  else if c.what = kDelete then .del (fstKey c.ks) c.qt
  else if c.what = kFlush then .flush c.qt
  else if c.what = kBad then .bad c.verb
  else if c.what = kWord then .word c.verb
  else .none
set_option maxRecDepth 100000 in
set_option maxHeartbeats 8000000 in
theorem of_calls {w : World} (c : CmdP) {A : Option Addr} {n : Nat} (h : KeysAt w A n c.ks) (cp : Nat) :
    Calls Tryd.prog 18 #[.agg (cmdc c A n cp)] w fun e w' => (∃ v, e = .returned v ∧ EvAt w' v (evOf c)) ∧ Chg No w w' := by
  have HB := Lib.hid (Blk.new w tCmd (cmdc c A n cp))
  have HC := fun W => Lib.hid (fun hc : Chg No w W => kclone_calls (h.chgNo hc) cp)
  have HK := fun W => Lib.hid (fun hc : Chg No w W => ckey_calls c (h.chgNo hc) cp)
  obtain ⟨fk, hfk⟩ : ∃ fk, fk = fstKey c.ks := ⟨_, rfl⟩
  simp only [evOf, ← hfk] at HK ⊢
  clear hfk h
  obtain ⟨what, verb, ks, data, flags, exp, cas, by_, wc, wt, dn, qt⟩ := c
  simp only [cmdc] at HB HK HC ⊢
  by_cases q0 : what = kGet
  · rw [if_pos q0]
    obtain rfl : what = ⟨#[103, 101, 116]⟩ := q0
    clear HK
    go_enter Tryd.func18, Tryd.ntmps18
    go_wp2_with fail
    go_region_held3 (fun W => W.cell? ⟨w.heap.size, 0, none⟩ = some (.string ⟨#[103, 101, 116]⟩) ∧ W.cell? ⟨w.heap.size, 1, none⟩ = some (.string verb) ∧ W.cell? ⟨w.heap.size, 2, none⟩ = some (.slice A n cp) ∧ W.cell? ⟨w.heap.size, 3, none⟩ = some (.string data) ∧ W.cell? ⟨w.heap.size, 4, none⟩ = some (.int .u32 flags.toNat) ∧ W.cell? ⟨w.heap.size, 5, none⟩ = some (.int .i64 exp) ∧ W.cell? ⟨w.heap.size, 6, none⟩ = some (.int .u64 cas.toNat) ∧ W.cell? ⟨w.heap.size, 7, none⟩ = some (.int .u64 by_.toNat) ∧ W.cell? ⟨w.heap.size, 8, none⟩ = some (.bool wc) ∧ W.cell? ⟨w.heap.size, 9, none⟩ = some (.bool wt) ∧ W.cell? ⟨w.heap.size, 10, none⟩ = some (.bool dn) ∧ W.cell? ⟨w.heap.size, 11, none⟩ = some (.bool qt)) (first | go_keep)
      ((go_at_call 31
        refine ((HC _).out (by (repeat (first | (with_reducible exact Chg.refl _ _) | (with_reducible assumption) | (with_reducible refine Chg.drewN ?_ _) | (with_reducible refine Chg.drew ?_) | (with_reducible refine Chg.alloc ?_ _) | (with_reducible refine Chg.setCell ?_ (by first | (left; simp [DevH.foot]; done) | (right; simp; done) | (right; simp; omega)) _))))).mono ?_
        rintro e w4 ⟨⟨A', c', rfl, hk4⟩, hc4⟩; have HK4 := Lib.hid hk4; clear hk4
        have HC4 : Hid (Chg No w w4) := Chg.trans (by (repeat (first | (with_reducible exact Chg.refl _ _) | (with_reducible assumption) | (with_reducible refine Chg.drewN ?_ _) | (with_reducible refine Chg.drew ?_) | (with_reducible refine Chg.alloc ?_ _) | (with_reducible refine Chg.setCell ?_ (by first | (left; simp [DevH.foot]; done) | (right; simp; done) | (right; simp; omega)) _)))) hc4
        have HB4 := Lib.hid (HB.out.chg (Chg.trans (by (repeat (first | (with_reducible exact Chg.refl _ _) | (with_reducible assumption) | (with_reducible refine Chg.drewN ?_ _) | (with_reducible refine Chg.drew ?_) | (with_reducible refine Chg.alloc ?_ _) | (with_reducible refine Chg.setCell ?_ (by first | (left; simp [DevH.foot]; done) | (right; simp; done) | (right; simp; omega)) _)))) hc4) (fun h => h))
        clear hc4
        have k0 := HB4.out.cell 0
        have k1 := HB4.out.cell 1
        have k2 := HB4.out.cell 2
        have k3 := HB4.out.cell 3
        have k4 := HB4.out.cell 4
        have k5 := HB4.out.cell 5
        have k6 := HB4.out.cell 6
        have k7 := HB4.out.cell 7
        have k8 := HB4.out.cell 8
        have k9 := HB4.out.cell 9
        have k10 := HB4.out.cell 10
        have k11 := HB4.out.cell 11
        simp only [List.getElem?_toArray, List.getElem?_cons_zero, List.getElem?_cons_succ] at k0 k1 k2 k3 k4 k5 k6 k7 k8 k9 k10 k11))
    all_goals
      go_wp2_with fail
      go_ret
      exact ⟨⟨_, rfl, _, _, _, rfl, HK4.out.chgNo (by (repeat (first | (with_reducible exact Chg.refl _ _) | (with_reducible assumption) | (with_reducible refine Chg.drewN ?_ _) | (with_reducible refine Chg.drew ?_) | (with_reducible refine Chg.alloc ?_ _) | (with_reducible refine Chg.setCell ?_ (by first | (left; simp [DevH.foot]; done) | (right; simp; done) | (right; simp; omega)) _))))⟩, HC4.out.trans (by (repeat (first | (with_reducible exact Chg.refl _ _) | (with_reducible assumption) | (with_reducible refine Chg.drewN ?_ _) | (with_reducible refine Chg.drew ?_) | (with_reducible refine Chg.alloc ?_ _) | (with_reducible refine Chg.setCell ?_ (by first | (left; simp [DevH.foot]; done) | (right; simp; done) | (right; simp; omega)) _))))⟩
  rw [if_neg q0]
  have s0 := str_ne what _ q0
  by_cases q1 : what = kStore
  · rw [if_pos q1]
    obtain rfl : what = ⟨#[115, 116, 111, 114, 101]⟩ := q1
    clear HC q0 s0
    go_enter Tryd.func18, Tryd.ntmps18
    go_wp2_with fail
    go_region_held3 (fun W => W.cell? ⟨w.heap.size, 0, none⟩ = some (.string ⟨#[115, 116, 111, 114, 101]⟩) ∧ W.cell? ⟨w.heap.size, 1, none⟩ = some (.string verb) ∧ W.cell? ⟨w.heap.size, 2, none⟩ = some (.slice A n cp) ∧ W.cell? ⟨w.heap.size, 3, none⟩ = some (.string data) ∧ W.cell? ⟨w.heap.size, 4, none⟩ = some (.int .u32 flags.toNat) ∧ W.cell? ⟨w.heap.size, 5, none⟩ = some (.int .i64 exp) ∧ W.cell? ⟨w.heap.size, 6, none⟩ = some (.int .u64 cas.toNat) ∧ W.cell? ⟨w.heap.size, 7, none⟩ = some (.int .u64 by_.toNat) ∧ W.cell? ⟨w.heap.size, 8, none⟩ = some (.bool wc) ∧ W.cell? ⟨w.heap.size, 9, none⟩ = some (.bool wt) ∧ W.cell? ⟨w.heap.size, 10, none⟩ = some (.bool dn) ∧ W.cell? ⟨w.heap.size, 11, none⟩ = some (.bool qt)) (first | go_keep)
      ((go_at_call 32
        refine ((HK _).out (by (repeat (first | (with_reducible exact Chg.refl _ _) | (with_reducible assumption) | (with_reducible refine Chg.drewN ?_ _) | (with_reducible refine Chg.drew ?_) | (with_reducible refine Chg.alloc ?_ _) | (with_reducible refine Chg.setCell ?_ (by first | (left; simp [DevH.foot]; done) | (right; simp; done) | (right; simp; omega)) _))))).mono ?_
        rintro e w4 ⟨rfl, hc4⟩
        have HC4 : Hid (Chg No w w4) := Chg.trans (by (repeat (first | (with_reducible exact Chg.refl _ _) | (with_reducible assumption) | (with_reducible refine Chg.drewN ?_ _) | (with_reducible refine Chg.drew ?_) | (with_reducible refine Chg.alloc ?_ _) | (with_reducible refine Chg.setCell ?_ (by first | (left; simp [DevH.foot]; done) | (right; simp; done) | (right; simp; omega)) _)))) hc4
        have HB4 := Lib.hid (HB.out.chg (Chg.trans (by (repeat (first | (with_reducible exact Chg.refl _ _) | (with_reducible assumption) | (with_reducible refine Chg.drewN ?_ _) | (with_reducible refine Chg.drew ?_) | (with_reducible refine Chg.alloc ?_ _) | (with_reducible refine Chg.setCell ?_ (by first | (left; simp [DevH.foot]; done) | (right; simp; done) | (right; simp; omega)) _)))) hc4) (fun h => h))
        clear hc4
        have k0 := HB4.out.cell 0
        have k1 := HB4.out.cell 1
        have k2 := HB4.out.cell 2
        have k3 := HB4.out.cell 3
        have k4 := HB4.out.cell 4
        have k5 := HB4.out.cell 5
        have k6 := HB4.out.cell 6
        have k7 := HB4.out.cell 7
        have k8 := HB4.out.cell 8
        have k9 := HB4.out.cell 9
        have k10 := HB4.out.cell 10
        have k11 := HB4.out.cell 11
        simp only [List.getElem?_toArray, List.getElem?_cons_zero, List.getElem?_cons_succ] at k0 k1 k2 k3 k4 k5 k6 k7 k8 k9 k10 k11))
    all_goals
      go_wp2_with fail
      go_ret
      exact ⟨⟨_, rfl, rfl⟩, HC4.out.trans (by (repeat (first | (with_reducible exact Chg.refl _ _) | (with_reducible assumption) | (with_reducible refine Chg.drewN ?_ _) | (with_reducible refine Chg.drew ?_) | (with_reducible refine Chg.alloc ?_ _) | (with_reducible refine Chg.setCell ?_ (by first | (left; simp [DevH.foot]; done) | (right; simp; done) | (right; simp; omega)) _))))⟩
  rw [if_neg q1]
  have s1 := str_ne what _ q1
  by_cases q2 : what = kArith
  · rw [if_pos q2]
    obtain rfl : what = ⟨#[97, 114, 105, 116, 104]⟩ := q2
    clear HC q0 s0 q1 s1
    go_enter Tryd.func18, Tryd.ntmps18
    go_wp2_with fail
    go_region_held3 (fun W => W.cell? ⟨w.heap.size, 0, none⟩ = some (.string ⟨#[97, 114, 105, 116, 104]⟩) ∧ W.cell? ⟨w.heap.size, 1, none⟩ = some (.string verb) ∧ W.cell? ⟨w.heap.size, 2, none⟩ = some (.slice A n cp) ∧ W.cell? ⟨w.heap.size, 3, none⟩ = some (.string data) ∧ W.cell? ⟨w.heap.size, 4, none⟩ = some (.int .u32 flags.toNat) ∧ W.cell? ⟨w.heap.size, 5, none⟩ = some (.int .i64 exp) ∧ W.cell? ⟨w.heap.size, 6, none⟩ = some (.int .u64 cas.toNat) ∧ W.cell? ⟨w.heap.size, 7, none⟩ = some (.int .u64 by_.toNat) ∧ W.cell? ⟨w.heap.size, 8, none⟩ = some (.bool wc) ∧ W.cell? ⟨w.heap.size, 9, none⟩ = some (.bool wt) ∧ W.cell? ⟨w.heap.size, 10, none⟩ = some (.bool dn) ∧ W.cell? ⟨w.heap.size, 11, none⟩ = some (.bool qt)) (first | go_keep)
      ((go_at_call 32
        refine ((HK _).out (by (repeat (first | (with_reducible exact Chg.refl _ _) | (with_reducible assumption) | (with_reducible refine Chg.drewN ?_ _) | (with_reducible refine Chg.drew ?_) | (with_reducible refine Chg.alloc ?_ _) | (with_reducible refine Chg.setCell ?_ (by first | (left; simp [DevH.foot]; done) | (right; simp; done) | (right; simp; omega)) _))))).mono ?_
        rintro e w4 ⟨rfl, hc4⟩
        have HC4 : Hid (Chg No w w4) := Chg.trans (by (repeat (first | (with_reducible exact Chg.refl _ _) | (with_reducible assumption) | (with_reducible refine Chg.drewN ?_ _) | (with_reducible refine Chg.drew ?_) | (with_reducible refine Chg.alloc ?_ _) | (with_reducible refine Chg.setCell ?_ (by first | (left; simp [DevH.foot]; done) | (right; simp; done) | (right; simp; omega)) _)))) hc4
        have HB4 := Lib.hid (HB.out.chg (Chg.trans (by (repeat (first | (with_reducible exact Chg.refl _ _) | (with_reducible assumption) | (with_reducible refine Chg.drewN ?_ _) | (with_reducible refine Chg.drew ?_) | (with_reducible refine Chg.alloc ?_ _) | (with_reducible refine Chg.setCell ?_ (by first | (left; simp [DevH.foot]; done) | (right; simp; done) | (right; simp; omega)) _)))) hc4) (fun h => h))
        clear hc4
        have k0 := HB4.out.cell 0
        have k1 := HB4.out.cell 1
        have k2 := HB4.out.cell 2
        have k3 := HB4.out.cell 3
        have k4 := HB4.out.cell 4
        have k5 := HB4.out.cell 5
        have k6 := HB4.out.cell 6
        have k7 := HB4.out.cell 7
        have k8 := HB4.out.cell 8
        have k9 := HB4.out.cell 9
        have k10 := HB4.out.cell 10
        have k11 := HB4.out.cell 11
        simp only [List.getElem?_toArray, List.getElem?_cons_zero, List.getElem?_cons_succ] at k0 k1 k2 k3 k4 k5 k6 k7 k8 k9 k10 k11))
    all_goals
      go_wp2_with fail
      go_ret
      exact ⟨⟨_, rfl, rfl⟩, HC4.out.trans (by (repeat (first | (with_reducible exact Chg.refl _ _) | (with_reducible assumption) | (with_reducible refine Chg.drewN ?_ _) | (with_reducible refine Chg.drew ?_) | (with_reducible refine Chg.alloc ?_ _) | (with_reducible refine Chg.setCell ?_ (by first | (left; simp [DevH.foot]; done) | (right; simp; done) | (right; simp; omega)) _))))⟩
  rw [if_neg q2]
  have s2 := str_ne what _ q2
  by_cases q3 : what = kTouch
  · rw [if_pos q3]
    obtain rfl : what = ⟨#[116, 111, 117, 99, 104]⟩ := q3
    clear HC q0 s0 q1 s1 q2 s2
    go_enter Tryd.func18, Tryd.ntmps18
    go_wp2_with fail
    go_region_held3 (fun W => W.cell? ⟨w.heap.size, 0, none⟩ = some (.string ⟨#[116, 111, 117, 99, 104]⟩) ∧ W.cell? ⟨w.heap.size, 1, none⟩ = some (.string verb) ∧ W.cell? ⟨w.heap.size, 2, none⟩ = some (.slice A n cp) ∧ W.cell? ⟨w.heap.size, 3, none⟩ = some (.string data) ∧ W.cell? ⟨w.heap.size, 4, none⟩ = some (.int .u32 flags.toNat) ∧ W.cell? ⟨w.heap.size, 5, none⟩ = some (.int .i64 exp) ∧ W.cell? ⟨w.heap.size, 6, none⟩ = some (.int .u64 cas.toNat) ∧ W.cell? ⟨w.heap.size, 7, none⟩ = some (.int .u64 by_.toNat) ∧ W.cell? ⟨w.heap.size, 8, none⟩ = some (.bool wc) ∧ W.cell? ⟨w.heap.size, 9, none⟩ = some (.bool wt) ∧ W.cell? ⟨w.heap.size, 10, none⟩ = some (.bool dn) ∧ W.cell? ⟨w.heap.size, 11, none⟩ = some (.bool qt)) (first | go_keep)
      ((go_at_call 32
        refine ((HK _).out (by (repeat (first | (with_reducible exact Chg.refl _ _) | (with_reducible assumption) | (with_reducible refine Chg.drewN ?_ _) | (with_reducible refine Chg.drew ?_) | (with_reducible refine Chg.alloc ?_ _) | (with_reducible refine Chg.setCell ?_ (by first | (left; simp [DevH.foot]; done) | (right; simp; done) | (right; simp; omega)) _))))).mono ?_
        rintro e w4 ⟨rfl, hc4⟩
        have HC4 : Hid (Chg No w w4) := Chg.trans (by (repeat (first | (with_reducible exact Chg.refl _ _) | (with_reducible assumption) | (with_reducible refine Chg.drewN ?_ _) | (with_reducible refine Chg.drew ?_) | (with_reducible refine Chg.alloc ?_ _) | (with_reducible refine Chg.setCell ?_ (by first | (left; simp [DevH.foot]; done) | (right; simp; done) | (right; simp; omega)) _)))) hc4
        have HB4 := Lib.hid (HB.out.chg (Chg.trans (by (repeat (first | (with_reducible exact Chg.refl _ _) | (with_reducible assumption) | (with_reducible refine Chg.drewN ?_ _) | (with_reducible refine Chg.drew ?_) | (with_reducible refine Chg.alloc ?_ _) | (with_reducible refine Chg.setCell ?_ (by first | (left; simp [DevH.foot]; done) | (right; simp; done) | (right; simp; omega)) _)))) hc4) (fun h => h))
        clear hc4
        have k0 := HB4.out.cell 0
        have k1 := HB4.out.cell 1
        have k2 := HB4.out.cell 2
        have k3 := HB4.out.cell 3
        have k4 := HB4.out.cell 4
        have k5 := HB4.out.cell 5
        have k6 := HB4.out.cell 6
        have k7 := HB4.out.cell 7
        have k8 := HB4.out.cell 8
        have k9 := HB4.out.cell 9
        have k10 := HB4.out.cell 10
        have k11 := HB4.out.cell 11
        simp only [List.getElem?_toArray, List.getElem?_cons_zero, List.getElem?_cons_succ] at k0 k1 k2 k3 k4 k5 k6 k7 k8 k9 k10 k11))
    all_goals
      go_wp2_with fail
      go_ret
      exact ⟨⟨_, rfl, rfl⟩, HC4.out.trans (by (repeat (first | (with_reducible exact Chg.refl _ _) | (with_reducible assumption) | (with_reducible refine Chg.drewN ?_ _) | (with_reducible refine Chg.drew ?_) | (with_reducible refine Chg.alloc ?_ _) | (with_reducible refine Chg.setCell ?_ (by first | (left; simp [DevH.foot]; done) | (right; simp; done) | (right; simp; omega)) _))))⟩
  rw [if_neg q3]
  have s3 := str_ne what _ q3
  by_cases q4 : what = kDelete
  · rw [if_pos q4]
    obtain rfl : what = ⟨#[100, 101, 108, 101, 116, 101]⟩ := q4
    clear HC q0 s0 q1 s1 q2 s2 q3 s3
    go_enter Tryd.func18, Tryd.ntmps18
    go_wp2_with fail
    go_region_held3 (fun W => W.cell? ⟨w.heap.size, 0, none⟩ = some (.string ⟨#[100, 101, 108, 101, 116, 101]⟩) ∧ W.cell? ⟨w.heap.size, 1, none⟩ = some (.string verb) ∧ W.cell? ⟨w.heap.size, 2, none⟩ = some (.slice A n cp) ∧ W.cell? ⟨w.heap.size, 3, none⟩ = some (.string data) ∧ W.cell? ⟨w.heap.size, 4, none⟩ = some (.int .u32 flags.toNat) ∧ W.cell? ⟨w.heap.size, 5, none⟩ = some (.int .i64 exp) ∧ W.cell? ⟨w.heap.size, 6, none⟩ = some (.int .u64 cas.toNat) ∧ W.cell? ⟨w.heap.size, 7, none⟩ = some (.int .u64 by_.toNat) ∧ W.cell? ⟨w.heap.size, 8, none⟩ = some (.bool wc) ∧ W.cell? ⟨w.heap.size, 9, none⟩ = some (.bool wt) ∧ W.cell? ⟨w.heap.size, 10, none⟩ = some (.bool dn) ∧ W.cell? ⟨w.heap.size, 11, none⟩ = some (.bool qt)) (first | go_keep)
      ((go_at_call 32
        refine ((HK _).out (by (repeat (first | (with_reducible exact Chg.refl _ _) | (with_reducible assumption) | (with_reducible refine Chg.drewN ?_ _) | (with_reducible refine Chg.drew ?_) | (with_reducible refine Chg.alloc ?_ _) | (with_reducible refine Chg.setCell ?_ (by first | (left; simp [DevH.foot]; done) | (right; simp; done) | (right; simp; omega)) _))))).mono ?_
        rintro e w4 ⟨rfl, hc4⟩
        have HC4 : Hid (Chg No w w4) := Chg.trans (by (repeat (first | (with_reducible exact Chg.refl _ _) | (with_reducible assumption) | (with_reducible refine Chg.drewN ?_ _) | (with_reducible refine Chg.drew ?_) | (with_reducible refine Chg.alloc ?_ _) | (with_reducible refine Chg.setCell ?_ (by first | (left; simp [DevH.foot]; done) | (right; simp; done) | (right; simp; omega)) _)))) hc4
        have HB4 := Lib.hid (HB.out.chg (Chg.trans (by (repeat (first | (with_reducible exact Chg.refl _ _) | (with_reducible assumption) | (with_reducible refine Chg.drewN ?_ _) | (with_reducible refine Chg.drew ?_) | (with_reducible refine Chg.alloc ?_ _) | (with_reducible refine Chg.setCell ?_ (by first | (left; simp [DevH.foot]; done) | (right; simp; done) | (right; simp; omega)) _)))) hc4) (fun h => h))
        clear hc4
        have k0 := HB4.out.cell 0
        have k1 := HB4.out.cell 1
        have k2 := HB4.out.cell 2
        have k3 := HB4.out.cell 3
        have k4 := HB4.out.cell 4
        have k5 := HB4.out.cell 5
        have k6 := HB4.out.cell 6
        have k7 := HB4.out.cell 7
        have k8 := HB4.out.cell 8
        have k9 := HB4.out.cell 9
        have k10 := HB4.out.cell 10
        have k11 := HB4.out.cell 11
        simp only [List.getElem?_toArray, List.getElem?_cons_zero, List.getElem?_cons_succ] at k0 k1 k2 k3 k4 k5 k6 k7 k8 k9 k10 k11))
    all_goals
      go_wp2_with fail
      go_ret
      exact ⟨⟨_, rfl, rfl⟩, HC4.out.trans (by (repeat (first | (with_reducible exact Chg.refl _ _) | (with_reducible assumption) | (with_reducible refine Chg.drewN ?_ _) | (with_reducible refine Chg.drew ?_) | (with_reducible refine Chg.alloc ?_ _) | (with_reducible refine Chg.setCell ?_ (by first | (left; simp [DevH.foot]; done) | (right; simp; done) | (right; simp; omega)) _))))⟩
  rw [if_neg q4]
  have s4 := str_ne what _ q4
  clear HC HK HB
  by_cases q5 : what = kFlush
  · rw [if_pos q5]
    obtain rfl : what = ⟨#[102, 108, 117, 115, 104]⟩ := q5
    clear q0 q1 q2 q3 q4 s0 s1 s2 s3 s4
    go_enter Tryd.func18, Tryd.ntmps18
    go_wp2_with fail
    go_ret
    exact ⟨⟨_, rfl, rfl⟩, by (repeat (first | (with_reducible exact Chg.refl _ _) | (with_reducible assumption) | (with_reducible refine Chg.drewN ?_ _) | (with_reducible refine Chg.drew ?_) | (with_reducible refine Chg.alloc ?_ _) | (with_reducible refine Chg.setCell ?_ (by first | (left; simp [DevH.foot]; done) | (right; simp; done) | (right; simp; omega)) _)))⟩
  rw [if_neg q5]
  have s5 := str_ne what _ q5
  by_cases q6 : what = kBad
  · rw [if_pos q6]
    obtain rfl : what = ⟨#[98, 97, 100]⟩ := q6
    clear q0 q1 q2 q3 q4 q5 s0 s1 s2 s3 s4 s5
    go_enter Tryd.func18, Tryd.ntmps18
    go_wp2_with fail
    go_ret
    exact ⟨⟨_, rfl, rfl⟩, by (repeat (first | (with_reducible exact Chg.refl _ _) | (with_reducible assumption) | (with_reducible refine Chg.drewN ?_ _) | (with_reducible refine Chg.drew ?_) | (with_reducible refine Chg.alloc ?_ _) | (with_reducible refine Chg.setCell ?_ (by first | (left; simp [DevH.foot]; done) | (right; simp; done) | (right; simp; omega)) _)))⟩
  rw [if_neg q6]
  have s6 := str_ne what _ q6
  by_cases q7 : what = kWord
  · rw [if_pos q7]
    obtain rfl : what = ⟨#[119, 111, 114, 100]⟩ := q7
    clear q0 q1 q2 q3 q4 q5 q6 s0 s1 s2 s3 s4 s5 s6
    go_enter Tryd.func18, Tryd.ntmps18
    go_wp2_with fail
    go_ret
    exact ⟨⟨_, rfl, rfl⟩, by (repeat (first | (with_reducible exact Chg.refl _ _) | (with_reducible assumption) | (with_reducible refine Chg.drewN ?_ _) | (with_reducible refine Chg.drew ?_) | (with_reducible refine Chg.alloc ?_ _) | (with_reducible refine Chg.setCell ?_ (by first | (left; simp [DevH.foot]; done) | (right; simp; done) | (right; simp; omega)) _)))⟩
  rw [if_neg q7]
  have s7 := str_ne what _ q7
  clear q0 q1 q2 q3 q4 q5 q6 q7
  go_enter Tryd.func18, Tryd.ntmps18
  go_wp2_with fail
  go_ret
  exact ⟨⟨_, rfl, rfl⟩, by (repeat (first | (with_reducible exact Chg.refl _ _) | (with_reducible assumption) | (with_reducible refine Chg.drewN ?_ _) | (with_reducible refine Chg.drew ?_) | (with_reducible refine Chg.alloc ?_ _) | (with_reducible refine Chg.setCell ?_ (by first | (left; simp [DevH.foot]; done) | (right; simp; done) | (right; simp; omega)) _)))⟩
end Go.Proofs.YtedkoplgfidjlaaDoor
