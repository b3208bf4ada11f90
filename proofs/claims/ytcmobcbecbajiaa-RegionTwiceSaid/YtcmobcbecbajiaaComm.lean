/- What all laws use: items compared, the document's Good and Size, a slice's head, an item's cells. -/
import Derived.Test.YtcmobcbecbajiaaItems
import Derived.Test.YtcmobcbecbajiaaFlashC
import Derived.Test.YtcmobcbecbajiaaConv
namespace Go.Proofs.Ytcmobcbecbajiaa
open Go.RowKit
set_option linter.unusedSimpArgs false
set_option linter.unusedVariables false

set_option maxRecDepth 100000 in
theorem run_equal_item (x y : Item) (W : World) : (Op.equalIn 10000 tItem (itemV x) (itemV y)).run Try.prog W = .ok (decide (x = y)) W := by
  rw [show (10000 : Nat) = 9999 + 1 from rfl, run_equalIn_agg W 9999 tItem _ _ (by kernel_rfl) (by kernel_rfl)]
  simp [go_sem, Program.fieldsOf, Try.underlying38, Op.eqFields]
  have hs : ∀ a b : ByteArray, (a.toList = b.toList) ↔ a = b := fun a b => by
    rw [ByteArray.toList_eq, ByteArray.toList_eq]
    exact ⟨fun h => ByteArray.ext (Array.toList_inj.1 h), fun h => by rw [h]⟩
  have hxy : x = y ↔ (x.key = y.key ∧ x.val = y.val ∧ (x.flags.toNat : Int) = y.flags.toNat ∧ x.exp.toInt = y.exp.toInt ∧ (x.ver.toNat : Int) = y.ver.toNat) := by
    constructor
    · rintro rfl; exact ⟨rfl, rfl, rfl, rfl, rfl⟩
    · rintro ⟨h1, h2, h3, h4, h5⟩
      cases x; cases y
      simp only [Item.mk.injEq]
      exact ⟨h1, h2, UInt32.toNat_inj.1 (Int.ofNat.inj h3), Int64.toInt_inj.1 h4, UInt64.toNat_inj.1 (Int.ofNat.inj h5)⟩
  simp only [hs]
  by_cases h1 : x.key = y.key
  · rw [if_pos h1]
    by_cases h2 : x.val = y.val
    · rw [if_pos h2]
      by_cases h3 : (x.flags.toNat : Int) = y.flags.toNat
      · rw [if_pos h3]
        by_cases h4 : x.exp.toInt = y.exp.toInt
        · rw [if_pos h4]
          by_cases h5 : (x.ver.toNat : Int) = y.ver.toNat
          · rw [if_pos h5, decide_eq_true (hxy.2 ⟨h1, h2, h3, h4, h5⟩)]
          · rw [if_neg h5, decide_eq_false (fun h => h5 (hxy.1 h).2.2.2.2)]
        · rw [if_neg h4, decide_eq_false (fun h => h4 (hxy.1 h).2.2.2.1)]
      · rw [if_neg h3, decide_eq_false (fun h => h3 (hxy.1 h).2.2.1)]
    · rw [if_neg h2, decide_eq_false (fun h => h2 (hxy.1 h).2.1)]
  · rw [if_neg h1, decide_eq_false (fun h => h1 (hxy.1 h).1)]

theorem run_neq_item (x y : Item) (W : World) : (binOp .neq tItem (itemV x) (itemV y)).run Try.prog W = .ok (.bool (decide (x ≠ y))) W := by
  rw [run_neq_struct, run_equal_item]
  simp
theorem run_eql_item (x y : Item) (W : World) : (binOp .eql tItem (itemV x) (itemV y)).run Try.prog W = .ok (.bool (decide (x = y))) W := by
  rw [run_eql_struct, run_equal_item]
  simp

theorem rgood_calls (x : Item) (w : World) :
    Calls Try.prog 29 #[.agg #[.string x.key, .string x.val, .int .u32 x.flags.toNat, .int .i64 x.exp.toInt, .int .u64 x.ver.toNat]] w fun e w' => e = .returned (.bool x.good) ∧ Chg No w w' := by
  by_cases c1 : 1 ≤ x.key.size
  · by_cases c2 : x.key.size ≤ 250
    · by_cases c3 : x.val.size ≤ 1024
      · rw [show x.good = decide (0 < x.ver.toNat) from by simp [Item.good, c1, c2, c3]]
        go_enter Try.func29, Try.ntmps29
        go_wp2
        go_ret
        exact ⟨by simp, by (repeat (first | (with_reducible exact Chg.refl _ _) | (with_reducible assumption) | (with_reducible refine Chg.drewN ?_ _) | (with_reducible refine Chg.drew ?_) | (with_reducible refine Chg.alloc ?_ _) | (with_reducible refine Chg.setCell ?_ (by first | (left; simp [DevH.foot]; done) | (right; simp; done) | (right; simp; omega)) _)))⟩
      · rw [show x.good = false from by simp [Item.good, c3]]
        go_enter Try.func29, Try.ntmps29
        go_wp2
        go_ret
        exact ⟨rfl, by (repeat (first | (with_reducible exact Chg.refl _ _) | (with_reducible assumption) | (with_reducible refine Chg.drewN ?_ _) | (with_reducible refine Chg.drew ?_) | (with_reducible refine Chg.alloc ?_ _) | (with_reducible refine Chg.setCell ?_ (by first | (left; simp [DevH.foot]; done) | (right; simp; done) | (right; simp; omega)) _)))⟩
    · rw [show x.good = false from by simp [Item.good, c2]]
      go_enter Try.func29, Try.ntmps29
      go_wp2
      go_ret
      exact ⟨rfl, by (repeat (first | (with_reducible exact Chg.refl _ _) | (with_reducible assumption) | (with_reducible refine Chg.drewN ?_ _) | (with_reducible refine Chg.drew ?_) | (with_reducible refine Chg.alloc ?_ _) | (with_reducible refine Chg.setCell ?_ (by first | (left; simp [DevH.foot]; done) | (right; simp; done) | (right; simp; omega)) _)))⟩
  · rw [show x.good = false from by simp only [Item.good, c1]; simp]
    go_enter Try.func29, Try.ntmps29
    go_wp2
    go_ret
    exact ⟨rfl, by (repeat (first | (with_reducible exact Chg.refl _ _) | (with_reducible assumption) | (with_reducible refine Chg.drewN ?_ _) | (with_reducible refine Chg.drew ?_) | (with_reducible refine Chg.alloc ?_ _) | (with_reducible refine Chg.setCell ?_ (by first | (left; simp [DevH.foot]; done) | (right; simp; done) | (right; simp; omega)) _)))⟩

theorem rsize_calls (x : Item) (w : World) (h1 : x.key.size ≤ 140737488351232) (h2 : x.val.size ≤ 140737488351232) :
    Calls Try.prog 30 #[.agg #[.string x.key, .string x.val, .int .u32 x.flags.toNat, .int .i64 x.exp.toInt, .int .u64 x.ver.toNat]] w fun e w' => e = .returned (.int .i64 x.size) ∧ Chg No w w' := by
  go_enter Try.func30, Try.ntmps30
  go_wp2
  go_ret
  exact ⟨ret_int (by simp [Item.size]), by (repeat (first | (with_reducible exact Chg.refl _ _) | (with_reducible assumption) | (with_reducible refine Chg.drewN ?_ _) | (with_reducible refine Chg.drew ?_) | (with_reducible refine Chg.alloc ?_ _) | (with_reducible refine Chg.setCell ?_ (by first | (left; simp [DevH.foot]; done) | (right; simp; done) | (right; simp; omega)) _)))⟩
/-- x[:hi] -/
theorem sub_slice_h {P : Program} {T e : TypeId} {z : Value} {size bytes : Nat} (hT : P.underlying T = some (.slice e)) (hi : TI P e z size bytes) (A : Option Addr) (n c h : Nat) (h2 : h ≤ c) :
    ∃ A', (∀ W : World, (Instr.slice T (.slice A n c) none (some (.int .i64 h)) none).run P W = .ok (.slice A' h c) W) ∧
      ∀ (W : World) (t : TypeId) (xs : List Value), Rd W t A (n * size) xs → h ≤ n → Rd W t A' (h * size) (xs.take (h * size)) := by
  obtain ⟨i, hi', hz, hs, hby⟩ := info_parts hi
  refine ⟨if c = 0 then A else A.map (·.add (0 * size)), fun W => ?_, fun W t xs hr hn => ?_⟩
  · have hsz : (sizeOf e).run P W = .ok size W := by simp [sizeOf, typeInfo, hi', hs]
    simp only [Instr.slice, Sem.run_bind, run_underlying hT, Result.andThen, Instr.sliceBounds, Sem.run_pure]
    rw [run_sliceBound _ _ _ _ _ (by omega) (by omega)]
    simp only [hsz, Option.isSome_none, Bool.false_eq_true, if_false]
    simp
  · have ht := hr.take (m := h * size) (Nat.mul_le_mul_right _ hn)
    have e : (if c = 0 then A else A.map (·.add (0 * size))) = A := if_add_zero _ A size 0 rfl
    rw [e]
    exact ht

theorem bys_one_cell {b : List UInt8} : ∀ u ∈ bys b, u.oneCell' = true := by
  intro u hu
  obtain ⟨x, _, rfl⟩ := List.mem_map.1 hu
  rfl
theorem rd_at6 {w : World} {t : TypeId} {A : Option Addr} {n k : Nat} {l : List Item} {x : Item} (h : Rd w t A (n * 5) (its l)) (hk : k < n) (hx : l[k]? = some x) :
    ∃ g off, A = some ⟨g, off, none⟩ ∧ ∀ W : World, Chg No w W → W.cell? ⟨g, off + k * 5, none⟩ = some (.string x.key) ∧ W.cell? ⟨g, off + k * 5 + 1, none⟩ = some (.string x.val) ∧
      W.cell? ⟨g, off + k * 5 + 2, none⟩ = some (.int .u32 x.flags.toNat) ∧ W.cell? ⟨g, off + k * 5 + 3, none⟩ = some (.int .i64 x.exp.toInt) ∧ W.cell? ⟨g, off + k * 5 + 4, none⟩ = some (.int .u64 x.ver.toNat) := by
  obtain ⟨g, off, cur, fz, rfl, hg, hc⟩ := h.2 (by omega)
  refine ⟨g, off, rfl, fun W hW => ?_⟩
  have hc' : ∀ j u, (its l)[j]? = some u → W.cell? ⟨g, off + j, none⟩ = some u := fun j u hu => (cell_of_row W g _ cur t fz (hW.at_ hg (fun h => h))).trans (hc j u hu)
  have c0 := hc' (k * 5 + 0) _ (its_get l k 0 x hx (by omega))
  have c1 := hc' (k * 5 + 1) _ (its_get l k 1 x hx (by omega))
  have c2 := hc' (k * 5 + 2) _ (its_get l k 2 x hx (by omega))
  have c3 := hc' (k * 5 + 3) _ (its_get l k 3 x hx (by omega))
  have c4 := hc' (k * 5 + 4) _ (its_get l k 4 x hx (by omega))
  simp only [itc, List.getElem_cons_zero, List.getElem_cons_succ, ← Nat.add_assoc, Nat.add_zero] at c0 c1 c2 c3 c4
  exact ⟨c0, c1, c2, c3, c4⟩
theorem own_foot {N : Nat} {w : World} {h : DevH} {D : Dev} (hd : DevN N w h D) {base size n : Nat} {e : TypeId} {v : Value} {xs : List Value} (ho : w.ownsRow base e size v n xs) (h1 : e ≠ tDev) (h2 : e ≠ tPP) : ∀ k, v.ownBlock = some k → ¬ h.foot k := by
  rcases ho.2 with ⟨rfl, _⟩ | ⟨g', cap, cur, rfl, _, hh, _⟩
  · intro k hk; simp [Value.ownBlock] at hk
  · intro k hk
    have : g' = k := by simpa [Value.ownBlock] using hk
    subst this
    exact hd.not_foot hh h1 h2

end Go.Proofs.Ytcmobcbecbajiaa
