/- Packed texts: RecE, ItemSpec, Items, FlashC, Comm. -/
import Derived.Test.YtplpbbdakihnfaaGreatPk03
import Derived.Test.YtplpbbdakihnfaaGreatPk02
import Derived.Deep.LoopGhost

/- rec.Take, the other ways; and all ways together. -/
section
namespace Go.Proofs.YtplpbbdakihnfaaGreat
open Go.RowKit
set_option linter.unusedSimpArgs false
set_option linter.unusedVariables false

theorem take_nil (A : Option Addr) (c : Nat) (w : World) :
    Calls Tryz.prog 116 #[.slice A 0 c] w fun e w' => e = .returned (.tuple #[itemV Item.zero, .int .i64 0, .int .i64 5]) ∧ Chg No w w' := by
  go_enter Tryz.func116, Tryz.ntmps116
  go_wp2
  exact bodyPost_ret (v := .tuple #[itemV Item.zero, .int .i64 0, .int .i64 5]) (by simp [results, Tryz.results116, go_sem]; exact ⟨rfl, rfl, rfl, rfl, rfl⟩) rfl ⟨rfl, by (repeat (first | (with_reducible exact Chg.refl _ _) | (with_reducible assumption) | (with_reducible refine Chg.drewN ?_ _) | (with_reducible refine Chg.drew ?_) | (with_reducible refine Chg.alloc ?_ _) | (with_reducible refine Chg.setCell ?_ (by first | (left; simp [DevH.foot]; done) | (right; simp; done) | (right; simp; omega)) _)))⟩

theorem take_zero (g off n c : Nat) (w : World) (hn : 0 < n) (hnl : n ≤ 140737488351232) (c0 : w.cell? ⟨g, off, none⟩ = some (.int .u8 0)) (hg : g < w.heap.size) :
    Calls Tryz.prog 116 #[.slice (some ⟨g, off, none⟩) n c] w fun e w' => e = .returned (.tuple #[itemV Item.zero, .int .i64 0, .int .i64 5]) ∧ Chg No w w' := by
  have n0 : ((n : Int) == 0) = false := by simp; omega
  go_enter Tryz.func116, Tryz.ntmps116
  go_wp2
  exact bodyPost_ret (v := .tuple #[itemV Item.zero, .int .i64 0, .int .i64 5]) (by simp [results, Tryz.results116, go_sem]; exact ⟨rfl, rfl, rfl, rfl, rfl⟩) rfl ⟨rfl, by (repeat (first | (with_reducible exact Chg.refl _ _) | (with_reducible assumption) | (with_reducible refine Chg.drewN ?_ _) | (with_reducible refine Chg.drew ?_) | (with_reducible refine Chg.alloc ?_ _) | (with_reducible refine Chg.setCell ?_ (by first | (left; simp [DevH.foot]; done) | (right; simp; done) | (right; simp; omega)) _)))⟩

theorem take_short (g off n c : Nat) (x0 : UInt8) (w : World) (hn : 0 < n) (h32 : n < 32) (c0 : w.cell? ⟨g, off, none⟩ = some (.int .u8 x0.toNat)) (hg : g < w.heap.size) (h0 : ((x0.toNat : Int) == 0) = false) :
    Calls Tryz.prog 116 #[.slice (some ⟨g, off, none⟩) n c] w fun e w' => e = .returned (.tuple #[itemV Item.zero, .int .i64 0, .int .i64 3]) ∧ Chg No w w' := by
  have n0 : ((n : Int) == 0) = false := by simp; omega
  have n32 : decide ((n : Int) < 32) = true := by simp; omega
  go_enter Tryz.func116, Tryz.ntmps116
  go_wp2_with fail
  go_quiet (fail)
  go_wp2
  exact bodyPost_ret (v := .tuple #[itemV Item.zero, .int .i64 0, .int .i64 3]) (by simp [results, Tryz.results116, go_sem]; exact ⟨rfl, rfl, rfl, rfl, rfl⟩) rfl ⟨rfl, by (repeat (first | (with_reducible exact Chg.refl _ _) | (with_reducible assumption) | (with_reducible refine Chg.drewN ?_ _) | (with_reducible refine Chg.drew ?_) | (with_reducible refine Chg.alloc ?_ _) | (with_reducible refine Chg.setCell ?_ (by first | (left; simp [DevH.foot]; done) | (right; simp; done) | (right; simp; omega)) _)))⟩

theorem take_wrong3 (g off n c : Nat) (x0 x3 : UInt8) (w : World) (h32 : 32 ≤ n) (hnl : n ≤ 140737488351232) (c0 : w.cell? ⟨g, off, none⟩ = some (.int .u8 x0.toNat)) (c3 : w.cell? ⟨g, off + 3, none⟩ = some (.int .u8 x3.toNat)) (hg : g < w.heap.size) (h0 : ((x0.toNat : Int) == 0) = false) (h3 : ((x3.toNat : Int) != 82) = true) :
    Calls Tryz.prog 116 #[.slice (some ⟨g, off, none⟩) n c] w fun e w' => e = .returned (.tuple #[itemV Item.zero, .int .i64 0, .int .i64 3]) ∧ Chg No w w' := by
  have n0 : ((n : Int) == 0) = false := by simp; omega
  have n32 : decide ((n : Int) < 32) = false := by simp; omega
  go_enter Tryz.func116, Tryz.ntmps116
  go_wp2_with fail
  go_quiet (fail)
  go_wp2
  exact bodyPost_ret (v := .tuple #[itemV Item.zero, .int .i64 0, .int .i64 3]) (by simp [results, Tryz.results116, go_sem]; exact ⟨rfl, rfl, rfl, rfl, rfl⟩) rfl ⟨rfl, by (repeat (first | (with_reducible exact Chg.refl _ _) | (with_reducible assumption) | (with_reducible refine Chg.drewN ?_ _) | (with_reducible refine Chg.drew ?_) | (with_reducible refine Chg.alloc ?_ _) | (with_reducible refine Chg.setCell ?_ (by first | (left; simp [DevH.foot]; done) | (right; simp; done) | (right; simp; omega)) _)))⟩

set_option maxRecDepth 100000 in
set_option maxHeartbeats 1000000 in
theorem take_far (g off n c : Nat) (b : List UInt8) (w : World) (hr : Rd w tU8 (some ⟨g, off, none⟩) n (bys b)) (hn : n ≤ 140737488351232) (hcap : n ≤ c) (x0 : UInt8) (hx0 : b[0]? = some x0) (h0 : ((x0.toNat : Int) == 0) = false)
    (h32 : 32 ≤ n) (hx3 : b[3]? = some 82) (hend : ¬ endOf b ≤ n) :
    Calls Tryz.prog 116 #[.slice (some ⟨g, off, none⟩) n c] w fun e w' => e = .returned (.tuple #[itemV Item.zero, .int .i64 0, .int .i64 3]) ∧ Chg No w w' := by
  have hcell : ∀ (j : Nat) (x : UInt8), b[j]? = some x → w.cell? ⟨g, off + j, none⟩ = some (.int .u8 x.toNat) := by
    intro j x hj
    have hk : 0 < n := by omega
    obtain ⟨g', off', e, hlt, hx⟩ := hr.at_ hk
    simp only [Option.some.injEq, Addr.mk.injEq, and_true] at e
    obtain ⟨rfl, rfl⟩ := e
    exact hx j _ (by simp [bys, hj])
  have hg : g < w.heap.size := by
    obtain ⟨g', off', cur, fz, e, hb, _⟩ := hr.2 (by omega)
    simp only [Option.some.injEq, Addr.mk.injEq, and_true] at e
    rw [e.1]
    exact (Array.getElem?_eq_some_iff.1 hb).1
  have hbl : b.length = n := by rw [← bys_length]; exact hr.1
  have hk0 : keyLen b = x0.toNat := by unfold keyLen; rw [List.getD_eq_getElem?_getD, hx0]; rfl
  obtain ⟨v, hv⟩ : ∃ v, v = valLen b := ⟨_, rfl⟩
  have hv16 : v < 65536 := by
    rw [hv]
    have h1 := num_lt (cut b 1 3)
    have h2 : (cut b 1 3).length ≤ 2 := by simp [cut]; omega
    have h3 : 256 ^ (cut b 1 3).length ≤ 256 ^ 2 := Nat.pow_le_pow_right (by decide) h2
    unfold valLen
    omega
  have hendv : endOf b = 32 + x0.toNat + v := by unfold endOf; rw [hk0, hv]
  have hen : ¬ 32 + x0.toNat + v ≤ n := by omega
  have c0 := hcell 0 x0 hx0
  have c3 := hcell 3 82 hx3
  simp at c0 c3
  have n24 : ¬ c = 24 := by omega
  have n28 : ¬ c = 28 := by omega
  have n1 : ¬ c = 1 := by omega
  have n32n : decide ((n : Int) < 32) = false := by simp; omega
  have HR := Lib.hid hr
  obtain ⟨q1, hq1⟩ : ∃ q, q = num (cut b 24 28) := ⟨_, rfl⟩
  obtain ⟨k1, hk1⟩ : ∃ k, k = crc (cut b 0 24) := ⟨_, rfl⟩
  have wk1 : IntKind.u64.wrap (k1 : Int) = k1 := wraps_u64 _ (by omega) (by have := crc_lt (cut b 0 24); omega)
  have H1 := fun W k => Lib.hid (number_calls (some ⟨g, off + 24, none⟩) 4 (c - 24) (cut b 24 28) ((w.alloc W).drewN k) ((hr.window 24 28 (by omega) (by omega)).alloc W) (by omega))
  have H2 := fun W k => Lib.hid (crc_calls (some ⟨g, off, none⟩) 24 c (cut b 0 24) ((w.alloc W).drewN k) ((hr.window 0 24 (by omega) (by omega)).alloc W) (by omega))
  have H3 := fun W k => Lib.hid (number_calls (some ⟨g, off + 1, none⟩) 2 (c - 1) (cut b 1 3) ((w.alloc W).drewN k) ((hr.window 1 3 (by omega) (by omega)).alloc W) (by omega))
  rw [← hq1] at H1
  rw [← hk1] at H2
  have e3 : num (cut b 1 3) = v := hv.symm
  rw [e3] at H3
  have HQ1 := Lib.hid hq1
  have HX0 := Lib.hid hx0
  have HX3 := Lib.hid hx3
  have HL := Lib.hid hbl
  have HK0 := Lib.hid hk0
  have HK1 := Lib.hid hk1
  have HV := Lib.hid hv
  have HE := Lib.hid hendv
  have n0 : ((n : Int) == 0) = false := by simp; omega
  have x0p : 0 < x0.toNat := by simp at h0; omega
  have nend : decide ((n : Int) < 32 + (x0.toNat : Int) + (v : Int)) = true := by simp; omega
  have nend' : (n : Int) < 32 + (x0.toNat : Int) + (v : Int) := by omega
  have hx256 : (x0.toNat : Int) < 256 := by have := x0.toNat_lt; omega
  clear hr hcell hx0 hx3 hq1 hk1 hv hendv hend hk0 e3 hbl
  go_enter Tryz.func116, Tryz.ntmps116
  go_wp2_with fail
  go_quiet ((first | (go_at_call 127; exact quiet_left (H1 _ _).out) | (go_at_call 115; exact quiet_left (H2 _ _).out)))
  go_wp2_with fail
  · go_wp2
    exact bodyPost_ret (v := .tuple #[itemV Item.zero, .int .i64 0, .int .i64 3]) (by simp [results, Tryz.results116, go_sem]; exact ⟨rfl, rfl, rfl, rfl, rfl⟩) rfl ⟨rfl, by (repeat (first | (with_reducible exact Chg.refl _ _) | (with_reducible assumption) | (with_reducible refine Chg.drewN ?_ _) | (with_reducible refine Chg.drew ?_) | (with_reducible refine Chg.alloc ?_ _) | (with_reducible refine Chg.setCell ?_ (by first | (left; simp [DevH.foot]; done) | (right; simp; done) | (right; simp; omega)) _)))⟩
  · go_quiet ((first | (go_at_call 127; exact quiet_add_left (H3 _ _).out)))
    go_wp2_with fail
    go_quiet (fail)
    go_wp2
    exact bodyPost_ret (v := .tuple #[itemV Item.zero, .int .i64 0, .int .i64 3]) (by simp [results, Tryz.results116, go_sem]; exact ⟨rfl, rfl, rfl, rfl, rfl⟩) rfl ⟨rfl, by (repeat (first | (with_reducible exact Chg.refl _ _) | (with_reducible assumption) | (with_reducible refine Chg.drewN ?_ _) | (with_reducible refine Chg.drew ?_) | (with_reducible refine Chg.alloc ?_ _) | (with_reducible refine Chg.setCell ?_ (by first | (left; simp [DevH.foot]; done) | (right; simp; done) | (right; simp; omega)) _)))⟩

theorem take_calls (A : Option Addr) (n c : Nat) (b : List UInt8) (w : World) (hr : Rd w tU8 A n (bys b)) (hn : n ≤ 140737488351232) (hcap : n ≤ c) :
    Calls Tryz.prog 116 #[.slice A n c] w fun e w' => e = .returned (.tuple #[itemV (take b).item, .int .i64 (take b).len, .int .i64 (take b).err]) ∧ Chg No w w' := by
  have hbl : b.length = n := by rw [← bys_length]; exact hr.1
  rcases Nat.eq_zero_or_pos n with rfl | hpos
  · have : take b = .none := by unfold take; rw [if_pos (.inl hbl)]
    rw [this]
    exact take_nil A c w
  · obtain ⟨g, off, rfl, hg, hx⟩ := hr.at_ hpos
    have hcell : ∀ (j : Nat) (x : UInt8), b[j]? = some x → w.cell? ⟨g, off + j, none⟩ = some (.int .u8 x.toNat) := fun j x hj => hx j _ (by simp [bys, hj])
    obtain ⟨x0, h0⟩ : ∃ x0, b[0]? = some x0 := ⟨_, List.getElem?_eq_getElem (by omega)⟩
    have c0 := hcell 0 x0 h0
    simp at c0
    have e0 : b.getD 0 0 = x0 := by rw [List.getD_eq_getElem?_getD, h0]; rfl
    by_cases hz : x0 = 0
    · have : take b = .none := by unfold take; rw [if_pos (.inr (by rw [e0, hz]))]
      rw [this]
      subst hz
      exact take_zero g off n c w hpos hn c0 hg
    · have hxp : 0 < x0.toNat := by
        rcases Nat.eq_zero_or_pos x0.toNat with h | h
        · exact absurd (UInt8.toNat_inj.1 (by rw [h]; rfl)) hz
        · exact h
      have hb0 : ((x0.toNat : Int) == 0) = false := by simp; omega
      by_cases h32 : n < 32
      · rw [take_b3 b n x0 hbl h0 hxp (.inl h32)]
        exact take_short g off n c x0 w hpos h32 c0 hg hb0
      · obtain ⟨x3, h3⟩ : ∃ x3, b[3]? = some x3 := ⟨_, List.getElem?_eq_getElem (by omega)⟩
        by_cases hx3 : x3 = 82
        · subst hx3
          by_cases he : endOf b ≤ n
          · exact take_long g off n c b w hr hn hcap x0 h0 hb0 (by omega) h3 he
          · rw [take_end b n x0 hbl h0 hxp he]
            exact take_far g off n c b w hr hn hcap x0 h0 hb0 (by omega) h3 he
        · have e3 : b.getD 3 0 = x3 := by rw [List.getD_eq_getElem?_getD, h3]; rfl
          rw [take_b3 b n x0 hbl h0 hxp (.inr (by rw [e3]; exact hx3))]
          refine take_wrong3 g off n c x0 x3 w (by omega) hn c0 (hcell 3 x3 h3) hg hb0 ?_
          simp only [bne_iff_ne]
          intro h
          apply hx3
          have h82 : x3.toNat = (82 : UInt8).toNat := by simp; omega
          exact UInt8.toNat_inj.1 h82
end Go.Proofs.YtplpbbdakihnfaaGreat
end

/- Lists of items in bytes, in plain Lean. -/
section
namespace Go.Proofs.YtplpbbdakihnfaaGreat
open Go.RowKit

theorem take_ok_len {b : List UInt8} {x : Item} {n : Nat} (h : take b = .ok x n) : 32 < n ∧ n ≤ b.length ∧ x.good = true ∧ x.size = n := by
  unfold take at h
  split at h
  · cases h
  · rename_i h0
    split at h
    · rename_i hh
      simp only [Bool.and_eq_true] at hh
      obtain ⟨⟨h1, h2⟩, h3⟩ := hh
      injection h with e1 e2
      subst e1; subst e2
      simp only [bodyOk, Bool.and_eq_true, decide_eq_true_eq] at h2
      have h4 := h3
      simp only [Item.good, Bool.and_eq_true, decide_eq_true_eq] at h4
      have hk : (itemOf b).key.size = keyLen b := by
        simp only [itemOf, cut]
        show (List.toArray _).size = _
        simp
        have := h2.1
        unfold endOf at this
        omega
      have hv : (itemOf b).val.size = valLen b := by
        simp only [itemOf, cut]
        show (List.toArray _).size = _
        simp
        have := h2.1
        unfold endOf at this ⊢
        omega
      refine ⟨?_, h2.1, h3, ?_⟩
      · unfold endOf; omega
      · unfold Item.size endOf; omega
    · cases h

/-- the items of bytes, k records at most; none: they have no form -/
def lst : Nat → List UInt8 → Option (List Item)
  | 0, _ => none
  | k + 1, b => match take b with
    | .none => some []
    | .bad => none
    | .ok x n => (lst k (b.drop n)).map (x :: ·)
def listOf (b : List UInt8) : Option (List Item) := lst (b.length + 1) b

theorem lst_more {k : Nat} : ∀ {b : List UInt8}, b.length < k → lst k b = lst (k + 1) b := by
  induction k with
  | zero => intro b h; omega
  | succ k ih =>
    intro b h
    rw [lst, lst]
    cases ht : take b with
    | none => rfl
    | bad => rfl
    | ok x n =>
      have hl := take_ok_len ht
      simp only
      rw [ih (by rw [List.length_drop]; omega)]
theorem lst_listOf {k : Nat} {b : List UInt8} (h : b.length < k) : lst k b = listOf b := by
  unfold listOf
  obtain ⟨d, rfl⟩ : ∃ d, k = b.length + 1 + d := ⟨k - (b.length + 1), by omega⟩
  clear h
  induction d with
  | zero => rfl
  | succ d ih => rw [← ih, ← Nat.add_assoc, ← lst_more (by omega)]
theorem listOf_step (b : List UInt8) : listOf b = match take b with
    | .none => some []
    | .bad => none
    | .ok x n => (listOf (b.drop n)).map (x :: ·) := by
  unfold listOf
  rw [lst]
  cases ht : take b with
  | none => rfl
  | bad => rfl
  | ok x n =>
    have hl := take_ok_len ht
    simp only
    rw [lst_listOf (by rw [List.length_drop]; omega), listOf]

/-- what List answers: the error; the items -/
def listE (b : List UInt8) : Int := if (listOf b).isSome then 0 else 3
def listL (b : List UInt8) : List Item := (listOf b).getD []

/-- records, one behind the other -/
def records (l : List Item) : List UInt8 := l.flatMap record
def goods (l : List Item) : Bool := l.all (·.good)
/-- what Lay answers: the error, the bytes -/
def layE (l : List Item) (room : Int) : Int := if goods l then (if 65536 < room then 1 else if room < (records l).length then 7 else 0) else 1
def layB (l : List Item) (room : Int) : List UInt8 := if layE l room = 0 then records l ++ List.replicate (room.toNat - (records l).length) 0 else []
end Go.Proofs.YtplpbbdakihnfaaGreat
end

/- Lists of items in memory; rec.List. -/
section
namespace Go.Proofs.YtplpbbdakihnfaaGreat
open Go.RowKit
set_option linter.unusedSimpArgs false
set_option linter.unusedVariables false

abbrev tItem : TypeId := 39
abbrev tItems : TypeId := 46
def itc (x : Item) : List Value := [.string x.key, .string x.val, .int .u32 x.flags.toNat, .int .i64 x.exp.toInt, .int .u64 x.ver.toNat]
def its (l : List Item) : List Value := l.flatMap itc
theorem its_length (l : List Item) : (its l).length = l.length * 5 := by
  induction l with
  | nil => rfl
  | cons x r ih => simp only [its, List.flatMap_cons, List.length_append, List.length_cons] at ih ⊢; rw [ih]; simp [itc]; omega
theorem its_append (a b : List Item) : its (a ++ b) = its a ++ its b := by simp [its]
theorem its_cons (x : Item) (r : List Item) : its (x :: r) = itc x ++ its r := by simp [its]
theorem its_one (x : Item) : its [x] = itc x := by simp [its]
theorem its_get (l : List Item) (i k : Nat) (x : Item) (h : l[i]? = some x) (hk : k < 5) : (its l)[i * 5 + k]? = (itc x)[k]? := by
  induction l generalizing i with
  | nil => cases h
  | cons y r ih =>
    rw [its_cons]
    cases i with
    | zero =>
      simp only [List.getElem?_cons_zero, Option.some.injEq] at h
      subst h
      rw [Nat.zero_mul, Nat.zero_add, List.getElem?_append_left (by simp [itc]; exact hk)]
    | succ i =>
      simp only [List.getElem?_cons_succ] at h
      have e : (i + 1) * 5 + k = (itc y).length + (i * 5 + k) := by simp [itc]; omega
      rw [e, List.getElem?_append_right (by omega), Nat.add_sub_cancel_left]
      exact ih i h
theorem its_one_cell {l : List Item} : ∀ u ∈ its l, u.oneCell' = true := by
  intro u hu
  simp only [its, itc, List.mem_flatMap] at hu
  obtain ⟨x, _, hx⟩ := hu
  simp only [List.mem_cons, List.not_mem_nil, or_false] at hx
  rcases hx with rfl | rfl | rfl | rfl | rfl <;> rfl
theorem itc_one_cell (x : Item) : ∀ u ∈ itc x, u.oneCell' = true := by rw [← its_one]; exact its_one_cell
theorem its_take (l : List Item) (n : Nat) : its (l.take n) = (its l).take (n * 5) := by
  induction l generalizing n with
  | nil => simp [its]
  | cons x r ih =>
    cases n with
    | zero => simp [its]
    | succ n =>
      rw [List.take_succ_cons, its_cons, its_cons, ih]
      have e : (n + 1) * 5 = (itc x).length + n * 5 := by simp [itc]; omega
      rw [e, List.take_length_add_append]
theorem its_drop (l : List Item) (n : Nat) : its (l.drop n) = (its l).drop (n * 5) := by
  induction l generalizing n with
  | nil => simp [its]
  | cons x r ih =>
    cases n with
    | zero => simp [its]
    | succ n =>
      rw [List.drop_succ_cons, its_cons, ih]
      have e : (n + 1) * 5 = (itc x).length + n * 5 := by simp [itc]; omega
      rw [e, List.drop_length_add_append]

theorem ti_item : TI Tryz.prog tItem (itemV Item.zero) 5 56 := (by kernel_rfl : (Tryz.prog.info? tItem).map (fun i => (i.zero, i.size, i.bytes)) = some (some (itemV Item.zero), 5, 56))

/-- an item that was laid into a new block -/
theorem rd_item (w : World) (x : Item) : Rd (w.alloc (.cells (itc x).toArray tItem)) tItem (some ⟨w.heap.size, 0, none⟩) (1 * 5) (itc x) := by
  have := Rd.ofBlk (k := 5) (Blk.new w tItem (itc x).toArray) (by simp [itc])
  simpa [itc] using this

theorem rd_item2 (w : World) (o : Obj) (x : Item) : Rd ((w.alloc o).alloc (.cells (itc x).toArray tItem)) tItem (some ⟨w.heap.size + 1, 0, none⟩) (1 * 5) (itc x) := by
  have := rd_item (w.alloc o) x
  rwa [World.size_alloc] at this

set_option maxRecDepth 100000 in
theorem list_calls (A : Option Addr) (n c : Nat) (b : List UInt8) (w : World) (hr : Rd w tU8 A n (bys b)) (hn : n ≤ 1073741824) (hcap : n ≤ c) :
    Calls Tryz.prog 95 #[.slice A n c] w fun e w' => ∃ v, e = .returned (.tuple #[v, .int .i64 (listE b)]) ∧ w'.ownsRow w.heap.size tItem 5 v (listL b).length (its (listL b)) ∧ Chg No w w' := by
  have hbl : b.length = n := by rw [← bys_length]; exact hr.1
  have HR := Lib.hid hr
  have HBL := Lib.hid hbl
  clear hr hbl
  go_enter Tryz.func95, Tryz.ntmps95
  go_wp2
  go_loopg [0, 4] (n + 1) (fun g v0 v4 wr => ∃ (A' : Option Addr) (n' c' : Nat) (rest : List UInt8) (acc : List Item), v0 = .slice A' n' c' ∧ n' ≤ c' ∧ n' < g ∧
      Hid (Rd wr tU8 A' n' (bys rest) ∧ wr.ownsRow w.heap.size tItem 5 v4 acc.length (its acc) ∧ Chg No w wr ∧ listOf b = (listOf rest).map (acc ++ ·) ∧ acc.length * 32 + n' ≤ n))
  case atStart => exact ⟨A, n, c, b, [], rfl, hcap, by omega, ⟨HR.out, World.ownsRow_nil _ _ _ _, Chg.refl _ _, by simp, by simp⟩⟩
  case round =>
    obtain ⟨A', n', c', rest, acc, rfl, hc', hg, H⟩ := hrel
    have hn' : n' ≤ n := by have := H.out.2.2.2.2; omega
    have hT := take_calls A' n' c' rest wr H.out.1 (by omega) hc'
    cases ht : take rest with
    | none =>
      rw [ht] at hT
      simp only [Tk.item, Tk.len, Tk.err] at hT
      have HT := Lib.hid hT
      have HS := Lib.hid ht
      clear ht hT
      go_wp2_with fail
      refine HT.out.mono ?_
      rintro e w1 ⟨rfl, hc1⟩
      have HC1 := Lib.hid hc1
      clear hc1
      go_wp2
      go_ret2
      have e1 : listOf b = some acc := by rw [H.out.2.2.2.1, listOf_step, HS.out]; simp
      refine ⟨_, by rw [listE, e1]; rfl, ?_, ?_⟩
      · rw [listL, e1]
        exact (own_chg H.out.2.1 (HC1.out) (fun _ _ h => h)).alloc _
      · exact (H.out.2.2.1.trans HC1.out).alloc _
    | bad =>
      rw [ht] at hT
      simp only [Tk.item, Tk.len, Tk.err] at hT
      have HT := Lib.hid hT
      have HS := Lib.hid ht
      clear ht hT
      go_wp2_with fail
      refine HT.out.mono ?_
      rintro e w1 ⟨rfl, hc1⟩
      have HC1 := Lib.hid hc1
      clear hc1
      go_wp2
      go_ret2
      have e1 : listOf b = none := by rw [H.out.2.2.2.1, listOf_step, HS.out]; simp
      refine ⟨_, by rw [listE, e1]; rfl, ?_, ?_⟩
      · rw [listL, e1]
        exact World.ownsRow_nil _ _ _ _
      · exact (H.out.2.2.1.trans HC1.out).alloc _
    | ok x k =>
      rw [ht] at hT
      simp only [Tk.item, Tk.len, Tk.err] at hT
      have HT := Lib.hid hT
      have hlen := take_ok_len ht
      have hrl : rest.length = n' := by rw [← bys_length]; exact H.out.1.1
      rw [hrl] at hlen
      obtain ⟨hk1, hk2, _, _⟩ := hlen
      obtain ⟨A2, hs2, hd2⟩ := sub_slice_l (P := Tryz.prog) Tryz.underlying40 ti_u8 A' n' c' (k : Int) (by omega) (by omega) hc'
      have HS := Lib.hid ht
      have HD2 := Lib.hid hd2
      clear ht hT hd2 hrl
      simp only [Int.toNat_natCast] at hs2
      have hki : (k : Int) ≤ (n' : Int) := by omega
      go_wp2_with fail
      refine HT.out.mono ?_
      rintro e w1 ⟨rfl, hc1⟩
      have HC1 := Lib.hid hc1
      have HO1 := Lib.hid (own_chg H.out.2.1 hc1 (fun _ _ h => h))
      clear hc1
      have hw1 : w.heap.size ≤ w1.heap.size := by have := H.out.2.2.1.size; have := HC1.out.size; omega
      have hal : acc.length * 32 + n' ≤ n := H.out.2.2.2.2
      go_wp2_with (first
        | (at_builtin; refine wpList_app _ rfl (.tmp 18) (.tmp 20) tItems rfl tItem Tryz.underlying46 ti_item rfl (by omega) w.heap.size _ acc.length (its acc) rfl ((HO1.out.alloc _).alloc _) tItem _ 1 1 (itc x) rfl (rd_item2 _ _ x) (itc_one_cell x) (by simp only [maxLen]; omega) (by omega) (by simp; omega) ?_; intro v2 w2 ho2 hg2 hb2; have HO2 := Lib.hid ho2; have HG2 := Lib.hid hg2; clear ho2 hg2 hb2))
      go_roundg (n' - k + 1)
      case measure => omega
      case rel =>
        have hc12 : Chg No wr w1 := HC1.out
        have hr1 : Rd w1 tU8 A' n' (bys rest) := H.out.1.below hc12.toBelow
        have hg2 := HG2.out
        refine ⟨A2, n' - k, c' - k, rest.drop k, acc ++ [x], rfl, by omega, by omega, ?_, ?_, ?_, ?_, ?_⟩
        · have hr2 := HD2.out w1 tU8 (bys rest) (by simpa using hr1)
          have hr3 : Rd w1 tU8 A2 (n' - k) (bys (rest.drop k)) := by simpa [bys_drop] using hr2
          have hc3 : Chg (fun i => Value.ownBlock _ = some i) w1 w2 := Chg.grown (((Chg.refl _ _).alloc _).alloc _) hg2 (fun k' hk' => .inl hk')
          refine hr3.chg hc3 ?_
          intro g cur fz hgb hk'
          exact own_other HO1.out hgb (by decide) hk'
        · have := HO2.out
          rw [its_append, its_one]
          simpa using this
        · exact (((H.out.2.2.1.trans hc12).alloc _).alloc _).grown hg2 (fun k' hk' => .inr (own_new HO1.out k' hk'))
        · rw [H.out.2.2.2.1, listOf_step, HS.out]
          show Option.map _ (Option.map _ (listOf (rest.drop k))) = Option.map _ (listOf (rest.drop k))
          generalize listOf (rest.drop k) = z
          cases z <;> simp
        · simp; omega
end Go.Proofs.YtplpbbdakihnfaaGreat
end

/- The flash device's New and Read. -/
section
namespace Go.Proofs.YtplpbbdakihnfaaGreat
open Go.RowKit
open Go.ChangeMaps (setBlock)
set_option linter.unusedSimpArgs false
set_option linter.unusedVariables false

theorem new_bad (n : Int) (w : World) (hn : ¬ (1 ≤ n ∧ n ≤ 4096)) :
    Calls Tryz.prog 13 #[.int .i64 n] w fun e w' => e = .returned (.tuple #[.pointer none, .int .i64 1]) ∧ w = w' := by
  by_cases c1 : n < 1
  · clear hn
    go_enter Tryz.func13, Tryz.ntmps13
    go_wp2
    go_ret2
    exact ⟨rfl, rfl⟩
  · have c2 : 4096 < n := by omega
    clear hn
    go_enter Tryz.func13, Tryz.ntmps13
    go_wp2
    go_ret2
    exact ⟨rfl, rfl⟩

set_option maxRecDepth 100000 in
theorem new_calls (n : Int) (w : World) (h1 : 1 ≤ n) (h2 : n ≤ 4096) :
    Calls Tryz.prog 13 #[.int .i64 n] w fun e w' => ∃ h : DevH, e = .returned (.tuple #[.pointer (some ⟨h.d, 0, none⟩), .int .i64 0]) ∧ DevAt w' h (Dev.new n.toNat) ∧ Chg No w w' ∧ ∀ k, h.foot k → w.heap.size ≤ k := by
  obtain ⟨n, rfl⟩ := Int.eq_ofNat_of_zero_le (show 0 ≤ n by omega)
  rw [Int.toNat_natCast]
  have hmk := run_mk (P := Tryz.prog) w Tryz.underlying73 ti_pp rfl n (by omega) (by omega)
  have hmm := @run_makeMap Tryz.prog
  go_enter Tryz.func13, Tryz.ntmps13
  go_wp2
  go_ret2
  refine ⟨⟨w.heap.size + 1 + 1, w.heap.size, w.heap.size + 1⟩, rfl, ?_, by (repeat (first | (with_reducible exact Chg.refl _ _) | (with_reducible assumption) | (with_reducible refine Chg.drewN ?_ _) | (with_reducible refine Chg.drew ?_) | (with_reducible refine Chg.alloc ?_ _) | (with_reducible refine Chg.setCell ?_ (by first | (left; simp [DevH.foot]; done) | (right; simp; done) | (right; simp; omega)) _))), ?_⟩
  · refine { box := ⟨0, 0, 0, 0, ?_⟩, row := ⟨List.replicate n (.pointer none), ?_, by simp [Dev.new], ?_⟩, map := ⟨[], ?_, ?_, ?_⟩, npos := by simp only [Dev.new]; omega, nmost := by simp only [Dev.new]; omega, armed := by simp [Dev.new], below := Nat.le_refl _ }
    · have := Blk.new ((w.alloc (.cells (mk n (.pointer none)) tPP)).alloc (.map #[] 0)) tDev #[.slice (some ⟨w.heap.size, 0, none⟩) n n, .map (some (w.heap.size + 1)), .bool false, .int .i64 0, .int .i64 0, .int .i64 0, .int .i64 0, .int .i64 0, .int .i64 0]
      simpa [Dev.new] using this
    · exact ((Blk.new w tPP (mk n (.pointer none))).alloc _).alloc _
    · intro i v hv
      rw [List.getElem?_replicate] at hv
      split at hv
      · injection hv with hv; exact hv.symm
      · cases hv
    · have := (MapIs.made ikey (w.alloc (.cells (mk n (.pointer none)) tPP)))
      have h2 := this.alloc (.cells #[.slice (some ⟨w.heap.size, 0, none⟩) n n, .map (some (w.heap.size + 1)), .bool false, .int .i64 0, .int .i64 0, .int .i64 0, .int .i64 0, .int .i64 0, .int .i64 0] tDev)
      simpa using h2
    · intro k v h; cases h
    · intro i pg h; cases h
  · rintro k (rfl | rfl | rfl) <;> simp <;> omega

theorem zero_pp (w : World) : (zeroValue tPP).run Tryz.prog w = .ok (.pointer none) w := by kernel_rfl

/-- what stands on a page, as the memory has it -/
theorem page_at {N : Nat} {w : World} {h : DevH} {D : Dev} (hd : DevN N w h D) (k : Nat) (hk : k < D.n) : ∃ (es : List (Int × Value)) (ps : List Value), MapIs ikey w h.M es ∧ Blk w h.F tPP ps.toArray ∧ ps.length = D.n ∧
    ((∃ v, aget es (k : Int) = some v ∧ PgAt N w v (D.page k)) ∨ (aget es (k : Int) = none ∧ ∃ v, ps[k]? = some v ∧ PgAt N w v (D.page k))) := by
  obtain ⟨es, hm, hw1, hw2⟩ := hd.map
  obtain ⟨ps, hb, hl, hp⟩ := hd.row
  refine ⟨es, ps, hm, hb, hl, ?_⟩
  cases hg : aget es (k : Int) with
  | some v =>
    obtain ⟨i, pg, e1, e2, e3, e4⟩ := hw1 _ _ (aget_mem hg)
    obtain rfl : k = i := by omega
    exact .inl ⟨v, rfl, by simpa [Dev.page, e3] using e4⟩
  | none =>
    have hv : ps[k]? = some (ps[k]'(by omega)) := List.getElem?_eq_getElem (by omega)
    refine .inr ⟨rfl, _, hv, ?_⟩
    have : D.wt k = none := by
      cases hw : D.wt k with
      | none => rfl
      | some pg => obtain ⟨v, hv2⟩ := hw2 k pg hw; rw [hg] at hv2; cases hv2
    simpa [Dev.page, this] using hp k _ hv

/-- a world that is w but for the number of reads -/
theorem read_counted {N : Nat} {w : World} {h : DevH} {D : Dev} (hd : DevN N w h D) {a : Int} (q : Int) (ha : w.cell? ⟨h.d, 7, none⟩ = some (.int .i64 a)) :
    DevN N (w.setCell ⟨h.d, 7, none⟩ (.int .i64 q)) h D ∧ Chg h.foot w (w.setCell ⟨h.d, 7, none⟩ (.int .i64 q)) := by
  obtain ⟨s0, s1, s2, s3, hb⟩ := hd.box
  obtain ⟨nF, nM, nMF⟩ := hd.apart
  have hc : Chg (fun i => i = h.d) w (w.setCell ⟨h.d, 7, none⟩ (.int .i64 q)) := chg_setCell w ⟨h.d, 7, none⟩ _
  have hk : ∀ g cs t, g < N → (t = tPage ∨ t = tU8) → Blk w g t cs → ¬ g = h.d := fun g cs t _ ht hb2 e => by
    refine hd.not_foot hb2 ?_ ?_ (.inl e) <;> rcases ht with rfl | rfl <;> decide
  refine ⟨{ hd with box := ⟨s0, s1, q, s3, ?_⟩, row := ?_, map := ?_, below := Nat.le_trans hd.below hc.size }, hc.mono (fun k _ e => .inl e)⟩
  · have := hb.set_ 7 (.int .i64 q)
    simpa using this
  · obtain ⟨ps, g1, g2, g3⟩ := hd.row
    exact ⟨ps, g1.chg hc nF, g2, fun i v hv => (g3 i v hv).chg hc hk⟩
  · obtain ⟨es, g1, g2, g3⟩ := hd.map
    exact ⟨es, g1.chg hc nM, WaitAt.chg ⟨g2, g3⟩ (fun v p h => h.chg hc hk)⟩

theorem read_calls {N : Nat} {w : World} {h : DevH} {D : Dev} (hd : DevN N w h D) (k : Int) :
    Calls Tryz.prog 62 #[.pointer (some ⟨h.d, 0, none⟩), .int .i64 k] w fun e w' => ∃ v, e = .returned (.tuple #[v, .int .i64 (D.readE k)]) ∧ w'.ownsRow w.heap.size tU8 1 v (D.read k).length (bys (D.read k)) ∧ DevN N w' h D ∧ Chg h.foot w w' := by
  have hhas := Lib.hid (has_calls hd k)
  by_cases c0 : D.has k = true
  · rw [c0] at hhas
    obtain ⟨s0, s1, s2, s3, hb⟩ := hd.box
    have h0 := hb.cell 0
    have h1 := hb.cell 1
    have h2 := hb.cell 2
    have h7 := hb.cell 7
    simp at h0 h1 h2 h7
    have f7 := hb.frozen 7
    by_cases c1 : D.off = true
    · rw [show D.readE k = 4 from by simp [Dev.readE, c0, c1], show D.read k = [] from by simp [Dev.read, c0, c1]]
      rw [c1] at h2
      have F : Hid (w.ownsRow w.heap.size tU8 1 (.slice none 0 0) 0 (bys []) ∧ DevN N w h D ∧ Chg h.foot w w) := ⟨World.ownsRow_nil _ _ _ _, hd, Chg.refl _ _⟩
      clear hd hb c0 c1
      go_enter Tryz.func62, Tryz.ntmps62
      go_wp2_with fail
      refine hhas.out.mono ?_
      rintro e w1 ⟨rfl, rfl⟩
      go_wp2
      go_ret2
      exact ⟨_, rfl, F.out⟩
    · have c1' : D.off = false := by simpa using c1
      rw [c1'] at h2
      have hk : 0 ≤ k ∧ k < D.n := by simpa [Dev.has] using c0
      obtain ⟨n, rfl⟩ := Int.eq_ofNat_of_zero_le hk.1
      have hkn : n < D.n := by omega
      obtain ⟨hd1, hc1⟩ := read_counted hd (wrap64 (s2 + 1)) h7
      have e1 : D.readE (n : Int) = (D.page n).err := by simp [Dev.readE, c0, c1']
      have e2 : D.read (n : Int) = (D.page n).data := by simp [Dev.read, c0, c1']
      rw [e1, e2]
      obtain ⟨w1, hw1⟩ : ∃ w1, w1 = w.setCell ⟨h.d, 7, none⟩ (.int .i64 (wrap64 (s2 + 1))) := ⟨_, rfl⟩
      rw [← hw1] at hd1 hc1
      obtain ⟨es, ps, hm, hF, hl, hpage⟩ := page_at hd1 n hkn
      have hlook := hm.lookup (keyLaw_int (Tryz.underlying3)) Tryz.underlying74 (zero_pp w1) (n : Int) true
      obtain ⟨s0', s1', s2', s3', hb1⟩ := hd1.box
      have g0 := hb1.cell 0
      have g1 := hb1.cell 1
      simp at g0 g1
      have hn4 := hd.nmost
      have hsz : w1.heap.size = w.heap.size := by rw [hw1]; simp
      clear e1 e2 c0 hk hb hb1 s0' s1' s2' s3' c1 c1' h0
      have hcell : ∀ v, ps[n]? = some v → w1.cell? ⟨h.F, n, none⟩ = some v := fun v hv => by
        have := hF.cell n
        rw [this]
        simpa using hv
      have hl4 : (n : Int) < (D.n : Int) := by omega
      rcases hpage with ⟨v, hg, hp⟩ | ⟨hg, v, hv, hp⟩
      all_goals
        rw [hg] at hlook
        simp at hlook
      · cases hpg : D.page n with
        | blank =>
          rw [hpg] at hp
          obtain rfl : v = .pointer none := hp
          have F : Hid (w1.ownsRow w.heap.size tU8 1 (.slice none 0 0) 0 (bys []) ∧ DevN N w1 h D ∧ Chg h.foot w w1) := ⟨World.ownsRow_nil _ _ _ _, hd1, hc1⟩
          (have SZ := Lib.hid hsz; simp only [Pg.err, Pg.data]; clear hsz hpg hd hd1 hc1 hm hF hl hg hcell hkn; subst hw1; go_enter Tryz.func62, Tryz.ntmps62; go_wp2_with fail; refine hhas.out.mono ?_; rintro e w0 ⟨rfl, rfl⟩)
          go_wp2
          go_ret2
          exact ⟨_, rfl, F.out⟩
        | torn =>
          rw [hpg] at hp
          obtain ⟨p, hpN, rfl, hpb⟩ := hp
          have p1 := hpb.cell 1
          simp at p1
          have F : Hid (w1.ownsRow w.heap.size tU8 1 (.slice none 0 0) 0 (bys []) ∧ DevN N w1 h D ∧ Chg h.foot w w1) := ⟨World.ownsRow_nil _ _ _ _, hd1, hc1⟩
          clear hpb
          (have SZ := Lib.hid hsz; simp only [Pg.err, Pg.data]; clear hsz hpg hd hd1 hc1 hm hF hl hg hcell hkn; subst hw1; go_enter Tryz.func62, Tryz.ntmps62; go_wp2_with fail; refine hhas.out.mono ?_; rintro e w0 ⟨rfl, rfl⟩)
          go_wp2
          go_ret2
          exact ⟨_, rfl, F.out⟩
        | full b =>
          rw [hpg] at hp
          obtain ⟨p, q, hpN, hqN, rfl, hpb, hqb, hbl⟩ := hp
          have p0 := hpb.cell 0
          have p1 := hpb.cell 1
          simp at p0 p1
          have hcl := Lib.hid (cloneBytes_calls (some ⟨q, 0, none⟩) 384 384 b w1 (by have := Rd.ofBlk (k := 384) hqb (by simp [bys_length, hbl]); simpa [List.take_of_length_le, bys_length, hbl] using this) (by omega))
          have HB := Lib.hid hbl
          have F := Lib.hid (And.intro hd1 hc1)
          clear hpb hqb hbl
          (have SZ := Lib.hid hsz; simp only [Pg.err, Pg.data]; clear hsz hpg hd hd1 hc1 hm hF hl hg hcell hkn; subst hw1; go_enter Tryz.func62, Tryz.ntmps62; go_wp2_with fail; refine hhas.out.mono ?_; rintro e w0 ⟨rfl, rfl⟩)
          go_wp2_with fail
          refine hcl.out.mono ?_
          rintro e w2 ⟨v2, rfl, ho2, hc2⟩
          have G : Hid (w2.ownsRow w.heap.size tU8 1 v2 b.length (bys b) ∧ DevN N w2 h D ∧ Chg h.foot w w2) := ⟨by rw [HB.out, ← SZ.out]; exact ho2, F.out.1.chgNo hc2, F.out.2.trans (hc2.mono (fun _ _ h => h.elim))⟩
          clear ho2 hc2
          go_wp2
          go_ret2
          exact ⟨_, rfl, G.out⟩
      · have hcv := hcell v hv
        cases hpg : D.page n with
        | blank =>
          rw [hpg] at hp
          obtain rfl : v = .pointer none := hp
          have F : Hid (w1.ownsRow w.heap.size tU8 1 (.slice none 0 0) 0 (bys []) ∧ DevN N w1 h D ∧ Chg h.foot w w1) := ⟨World.ownsRow_nil _ _ _ _, hd1, hc1⟩
          (have SZ := Lib.hid hsz; simp only [Pg.err, Pg.data]; clear hsz hpg hd hd1 hc1 hm hF hl hg hcell hkn; subst hw1; go_enter Tryz.func62, Tryz.ntmps62; go_wp2_with fail; refine hhas.out.mono ?_; rintro e w0 ⟨rfl, rfl⟩)
          go_wp2
          go_ret2
          exact ⟨_, rfl, F.out⟩
        | torn =>
          rw [hpg] at hp
          obtain ⟨p, hpN, rfl, hpb⟩ := hp
          have p1 := hpb.cell 1
          simp at p1
          have F : Hid (w1.ownsRow w.heap.size tU8 1 (.slice none 0 0) 0 (bys []) ∧ DevN N w1 h D ∧ Chg h.foot w w1) := ⟨World.ownsRow_nil _ _ _ _, hd1, hc1⟩
          clear hpb
          (have SZ := Lib.hid hsz; simp only [Pg.err, Pg.data]; clear hsz hpg hd hd1 hc1 hm hF hl hg hcell hkn; subst hw1; go_enter Tryz.func62, Tryz.ntmps62; go_wp2_with fail; refine hhas.out.mono ?_; rintro e w0 ⟨rfl, rfl⟩)
          go_wp2
          go_ret2
          exact ⟨_, rfl, F.out⟩
        | full b =>
          rw [hpg] at hp
          obtain ⟨p, q, hpN, hqN, rfl, hpb, hqb, hbl⟩ := hp
          have p0 := hpb.cell 0
          have p1 := hpb.cell 1
          simp at p0 p1
          have hcl := Lib.hid (cloneBytes_calls (some ⟨q, 0, none⟩) 384 384 b w1 (by have := Rd.ofBlk (k := 384) hqb (by simp [bys_length, hbl]); simpa [List.take_of_length_le, bys_length, hbl] using this) (by omega))
          have HB := Lib.hid hbl
          have F := Lib.hid (And.intro hd1 hc1)
          clear hpb hqb hbl
          (have SZ := Lib.hid hsz; simp only [Pg.err, Pg.data]; clear hsz hpg hd hd1 hc1 hm hF hl hg hcell hkn; subst hw1; go_enter Tryz.func62, Tryz.ntmps62; go_wp2_with fail; refine hhas.out.mono ?_; rintro e w0 ⟨rfl, rfl⟩)
          go_wp2_with fail
          refine hcl.out.mono ?_
          rintro e w2 ⟨v2, rfl, ho2, hc2⟩
          have G : Hid (w2.ownsRow w.heap.size tU8 1 v2 b.length (bys b) ∧ DevN N w2 h D ∧ Chg h.foot w w2) := ⟨by rw [HB.out, ← SZ.out]; exact ho2, F.out.1.chgNo hc2, F.out.2.trans (hc2.mono (fun _ _ h => h.elim))⟩
          clear ho2 hc2
          go_wp2
          go_ret2
          exact ⟨_, rfl, G.out⟩
  · have c1 : D.has k = false := by simpa using c0
    rw [show D.readE k = 1 from by simp [Dev.readE, c1], show D.read k = [] from by simp [Dev.read, c1]]
    rw [c1] at hhas
    have F : Hid (w.ownsRow w.heap.size tU8 1 (.slice none 0 0) 0 (bys []) ∧ DevN N w h D ∧ Chg h.foot w w) := ⟨World.ownsRow_nil _ _ _ _, hd, Chg.refl _ _⟩
    clear hd c0 c1
    go_enter Tryz.func62, Tryz.ntmps62
    go_wp2_with fail
    refine hhas.out.mono ?_
    rintro e w1 ⟨rfl, rfl⟩
    go_wp2
    go_ret2
    exact ⟨_, rfl, F.out⟩
end Go.Proofs.YtplpbbdakihnfaaGreat
end

/- What all laws use: items compared, the document's Good and Size, a slice's head, an item's cells. -/
section
namespace Go.Proofs.YtplpbbdakihnfaaGreat
open Go.RowKit
set_option linter.unusedSimpArgs false
set_option linter.unusedVariables false

set_option maxRecDepth 100000 in
theorem run_equal_item (x y : Item) (W : World) : (Op.equalIn 10000 tItem (itemV x) (itemV y)).run Tryz.prog W = .ok (decide (x = y)) W := by
  rw [show (10000 : Nat) = 9999 + 1 from rfl, run_equalIn_agg W 9999 tItem _ _ (by kernel_rfl) (by kernel_rfl)]
  simp [go_sem, Program.fieldsOf, Tryz.underlying39, Op.eqFields]
  have hs : ∀ a b : ByteArray, (a.toList = b.toList) ↔ a = b := fun a b => by
    rw [ByteArray.toList_eq, ByteArray.toList_eq]
    exact ⟨fun h => ByteArray.ext (Array.toList_inj.1 h), fun h => by rw [h]⟩
  have hxy : x = y ↔ (x.key = y.key ∧ x.val = y.val ∧ (x.flags.toNat : Int) = y.flags.toNat ∧ x.exp.toInt = y.exp.toInt ∧ (x.ver.toNat : Int) = y.ver.toNat) := by
    constructor
    · rintro rfl; exact ⟨rfl, rfl, rfl, rfl, rfl⟩
    · rintro ⟨h1, h2, h3, h4, h5⟩
      cases x; cases y
      simp only [Item.mk.injEq]
      exact ⟨h1, h2, UInt32.toNat_inj.1 (Int.ofNat.inj h3), Int64.toInt_inj.1 h4, UInt64.toNat_inj.1 (Int.ofNat.inj h5)⟩
  simp only [hs]
  by_cases h1 : x.key = y.key
  · rw [if_pos h1]
    by_cases h2 : x.val = y.val
    · rw [if_pos h2]
      by_cases h3 : (x.flags.toNat : Int) = y.flags.toNat
      · rw [if_pos h3]
        by_cases h4 : x.exp.toInt = y.exp.toInt
        · rw [if_pos h4]
          by_cases h5 : (x.ver.toNat : Int) = y.ver.toNat
          · rw [if_pos h5, decide_eq_true (hxy.2 ⟨h1, h2, h3, h4, h5⟩)]
          · rw [if_neg h5, decide_eq_false (fun h => h5 (hxy.1 h).2.2.2.2)]
        · rw [if_neg h4, decide_eq_false (fun h => h4 (hxy.1 h).2.2.2.1)]
      · rw [if_neg h3, decide_eq_false (fun h => h3 (hxy.1 h).2.2.1)]
    · rw [if_neg h2, decide_eq_false (fun h => h2 (hxy.1 h).2.1)]
  · rw [if_neg h1, decide_eq_false (fun h => h1 (hxy.1 h).1)]

theorem run_neq_item (x y : Item) (W : World) : (binOp .neq tItem (itemV x) (itemV y)).run Tryz.prog W = .ok (.bool (decide (x ≠ y))) W := by
  rw [run_neq_struct, run_equal_item]
  simp
theorem run_eql_item (x y : Item) (W : World) : (binOp .eql tItem (itemV x) (itemV y)).run Tryz.prog W = .ok (.bool (decide (x = y))) W := by
  rw [run_eql_struct, run_equal_item]
  simp

/-- x[:hi] -/
theorem sub_slice_h {P : Program} {T e : TypeId} {z : Value} {size bytes : Nat} (hT : P.underlying T = some (.slice e)) (hi : TI P e z size bytes) (A : Option Addr) (n c h : Nat) (h2 : h ≤ c) :
    ∃ A', (∀ W : World, (Instr.slice T (.slice A n c) none (some (.int .i64 h)) none).run P W = .ok (.slice A' h c) W) ∧
      ∀ (W : World) (t : TypeId) (xs : List Value), Rd W t A (n * size) xs → h ≤ n → Rd W t A' (h * size) (xs.take (h * size)) := by
  obtain ⟨i, hi', hz, hs, hby⟩ := info_parts hi
  refine ⟨if c = 0 then A else A.map (·.add (0 * size)), fun W => ?_, fun W t xs hr hn => ?_⟩
  · have hsz : (sizeOf e).run P W = .ok size W := by simp [sizeOf, typeInfo, hi', hs]
    simp only [Instr.slice, Sem.run_bind, run_underlying hT, Result.andThen, Instr.sliceBounds, Sem.run_pure]
    rw [run_sliceBound _ _ _ _ _ (by omega) (by omega)]
    simp only [hsz, Option.isSome_none, Bool.false_eq_true, if_false]
    simp
  · have ht := hr.take (m := h * size) (Nat.mul_le_mul_right _ hn)
    have e : (if c = 0 then A else A.map (·.add (0 * size))) = A := if_add_zero _ A size 0 rfl
    rw [e]
    exact ht

theorem bys_one_cell {b : List UInt8} : ∀ u ∈ bys b, u.oneCell' = true := by
  intro u hu
  obtain ⟨x, _, rfl⟩ := List.mem_map.1 hu
  rfl
theorem rd_at6 {w : World} {t : TypeId} {A : Option Addr} {n k : Nat} {l : List Item} {x : Item} (h : Rd w t A (n * 5) (its l)) (hk : k < n) (hx : l[k]? = some x) :
    ∃ g off, A = some ⟨g, off, none⟩ ∧ ∀ W : World, Chg No w W → W.cell? ⟨g, off + k * 5, none⟩ = some (.string x.key) ∧ W.cell? ⟨g, off + k * 5 + 1, none⟩ = some (.string x.val) ∧
      W.cell? ⟨g, off + k * 5 + 2, none⟩ = some (.int .u32 x.flags.toNat) ∧ W.cell? ⟨g, off + k * 5 + 3, none⟩ = some (.int .i64 x.exp.toInt) ∧ W.cell? ⟨g, off + k * 5 + 4, none⟩ = some (.int .u64 x.ver.toNat) := by
  obtain ⟨g, off, cur, fz, rfl, hg, hc⟩ := h.2 (by omega)
  refine ⟨g, off, rfl, fun W hW => ?_⟩
  have hc' : ∀ j u, (its l)[j]? = some u → W.cell? ⟨g, off + j, none⟩ = some u := fun j u hu => (cell_of_row W g _ cur t fz (hW.at_ hg (fun h => h))).trans (hc j u hu)
  have c0 := hc' (k * 5 + 0) _ (its_get l k 0 x hx (by omega))
  have c1 := hc' (k * 5 + 1) _ (its_get l k 1 x hx (by omega))
  have c2 := hc' (k * 5 + 2) _ (its_get l k 2 x hx (by omega))
  have c3 := hc' (k * 5 + 3) _ (its_get l k 3 x hx (by omega))
  have c4 := hc' (k * 5 + 4) _ (its_get l k 4 x hx (by omega))
  simp only [itc, List.getElem_cons_zero, List.getElem_cons_succ, ← Nat.add_assoc, Nat.add_zero] at c0 c1 c2 c3 c4
  exact ⟨c0, c1, c2, c3, c4⟩
theorem own_foot {N : Nat} {w : World} {h : DevH} {D : Dev} (hd : DevN N w h D) {base size n : Nat} {e : TypeId} {v : Value} {xs : List Value} (ho : w.ownsRow base e size v n xs) (h1 : e ≠ tDev) (h2 : e ≠ tPP) : ∀ k, v.ownBlock = some k → ¬ h.foot k := by
  rcases ho.2 with ⟨rfl, _⟩ | ⟨g', cap, cur, rfl, _, hh, _⟩
  · intro k hk; simp [Value.ownBlock] at hk
  · intro k hk
    have : g' = k := by simpa [Value.ownBlock] using hk
    subst this
    exact hd.not_foot hh h1 h2

end Go.Proofs.YtplpbbdakihnfaaGreat
end
