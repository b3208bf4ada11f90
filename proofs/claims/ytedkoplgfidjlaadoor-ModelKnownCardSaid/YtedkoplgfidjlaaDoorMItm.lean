/- Items in memory, strings: what the model's walks use (lines of own texts of the other seats). -/
import Derived.Test.YtedkoplgfidjlaaDoorRecSpec
import Derived.Test.YtedkoplgfidjlaaDoorAppend
import Derived.Test.YtedkoplgfidjlaaDoorMaps
import Derived.Deep.LoopGhost
import Derived.Deep.QuietTactic
import Derived.BigQuiet
import Derived.StillTailTactics
import Derived.Deep.DeepCutAuto
import Derived.Laws.IdiomStrings
import Derived.Test.YtedkoplgfidjlaaDoorChecked
namespace Go.Proofs.YtedkoplgfidjlaaDoor
open Go.RowKit
set_option linter.unusedSimpArgs false
set_option linter.unusedVariables false

theorem quiet_left {P : Program} {f : FuncId} {args : Array Value} {w : World} {n : Nat} {v : Value}
    (h : Calls P f args (w.drewN n) fun e w' => e = .returned v ∧ w.drewN n = w') : Calls P f args (w.drewN n) fun e w' => e = .returned v ∧ ∃ m, w' = w.drewN m :=
  h.mono fun _ _ ⟨he, hm⟩ => ⟨he, n, hm.symm⟩
theorem quiet_add_left {P : Program} {f : FuncId} {args : Array Value} {w : World} {a n : Nat} {v : Value}
    (h : Calls P f args (w.drewN (a + n)) fun e w' => e = .returned v ∧ w.drewN (a + n) = w') :
    Calls P f args (w.drewN (a + n)) fun e w'' => e = .returned v ∧ ∃ m, w'' = w.drewN (a + m) :=
  h.mono fun _ _ ⟨he, hm⟩ => ⟨he, n, hm.symm⟩
/-- the values of an item -/
abbrev itemV (x : Item) : Value := .agg #[.string x.key, .string x.val, .int .u32 x.flags.toNat, .int .i64 x.exp.toInt, .int .u64 x.ver.toNat]
theorem same_left {P : Program} {f : FuncId} {args : Array Value} {w : World} {v : Value}
    (h : Calls P f args w fun e w' => e = .returned v ∧ w = w') : Calls P f args w fun e w' => e = .returned v ∧ w' = w :=
  h.mono fun _ _ ⟨he, hm⟩ => ⟨he, hm.symm⟩
abbrev tItem : TypeId := 43
abbrev tItems : TypeId := 34
def itc (x : Item) : List Value := [.string x.key, .string x.val, .int .u32 x.flags.toNat, .int .i64 x.exp.toInt, .int .u64 x.ver.toNat]
def its (l : List Item) : List Value := l.flatMap itc
theorem its_length (l : List Item) : (its l).length = l.length * 5 := by
  induction l with
  | nil => rfl
  | cons x r ih => simp only [its, List.flatMap_cons, List.length_append, List.length_cons] at ih ⊢; rw [ih]; simp [itc]; omega
theorem its_append (a b : List Item) : its (a ++ b) = its a ++ its b := by simp [its]
theorem its_cons (x : Item) (r : List Item) : its (x :: r) = itc x ++ its r := by simp [its]
theorem its_one (x : Item) : its [x] = itc x := by simp [its]
theorem its_get (l : List Item) (i k : Nat) (x : Item) (h : l[i]? = some x) (hk : k < 5) : (its l)[i * 5 + k]? = (itc x)[k]? := by
  induction l generalizing i with
  | nil => cases h
  | cons y r ih =>
    rw [its_cons]
    cases i with
    | zero =>
      simp only [List.getElem?_cons_zero, Option.some.injEq] at h
      subst h
      rw [Nat.zero_mul, Nat.zero_add, List.getElem?_append_left (by simp [itc]; exact hk)]
    | succ i =>
      simp only [List.getElem?_cons_succ] at h
      have e : (i + 1) * 5 + k = (itc y).length + (i * 5 + k) := by simp [itc]; omega
      rw [e, List.getElem?_append_right (by omega), Nat.add_sub_cancel_left]
      exact ih i h
theorem its_one_cell {l : List Item} : ∀ u ∈ its l, u.oneCell' = true := by
  intro u hu
  simp only [its, itc, List.mem_flatMap] at hu
  obtain ⟨x, _, hx⟩ := hu
  simp only [List.mem_cons, List.not_mem_nil, or_false] at hx
  rcases hx with rfl | rfl | rfl | rfl | rfl <;> rfl
theorem itc_one_cell (x : Item) : ∀ u ∈ itc x, u.oneCell' = true := by rw [← its_one]; exact its_one_cell
theorem its_take (l : List Item) (n : Nat) : its (l.take n) = (its l).take (n * 5) := by
  induction l generalizing n with
  | nil => simp [its]
  | cons x r ih =>
    cases n with
    | zero => simp [its]
    | succ n =>
      rw [List.take_succ_cons, its_cons, its_cons, ih]
      have e : (n + 1) * 5 = (itc x).length + n * 5 := by simp [itc]; omega
      rw [e, List.take_length_add_append]
theorem ti_item : TI Tryd.prog tItem (itemV Item.zero) 5 56 := (by kernel_rfl : (Tryd.prog.info? tItem).map (fun i => (i.zero, i.size, i.bytes)) = some (some (itemV Item.zero), 5, 56))
/-- an item that was laid into a new block -/
theorem rd_item (w : World) (x : Item) : Rd (w.alloc (.cells (itc x).toArray tItem)) tItem (some ⟨w.heap.size, 0, none⟩) (1 * 5) (itc x) := by
  have := Rd.ofBlk (k := 5) (Blk.new w tItem (itc x).toArray) (by simp [itc])
  simpa [itc] using this
theorem rd_item2 (w : World) (o : Obj) (x : Item) : Rd ((w.alloc o).alloc (.cells (itc x).toArray tItem)) tItem (some ⟨w.heap.size + 1, 0, none⟩) (1 * 5) (itc x) := by
  have := rd_item (w.alloc o) x
  rwa [World.size_alloc] at this
set_option maxRecDepth 100000 in
theorem run_equal_item (x y : Item) (W : World) : (Op.equalIn 10000 tItem (itemV x) (itemV y)).run Tryd.prog W = .ok (decide (x = y)) W := by
  rw [show (10000 : Nat) = 9999 + 1 from rfl, run_equalIn_agg W 9999 tItem _ _ (by kernel_rfl) (by kernel_rfl)]
  simp [go_sem, Program.fieldsOf, Tryd.underlying43, Op.eqFields]
  have hs : ∀ a b : ByteArray, (a.toList = b.toList) ↔ a = b := fun a b => by
    rw [ByteArray.toList_eq, ByteArray.toList_eq]
    exact ⟨fun h => ByteArray.ext (Array.toList_inj.1 h), fun h => by rw [h]⟩
  have hxy : x = y ↔ (x.key = y.key ∧ x.val = y.val ∧ (x.flags.toNat : Int) = y.flags.toNat ∧ x.exp.toInt = y.exp.toInt ∧ (x.ver.toNat : Int) = y.ver.toNat) := by
    constructor
    · rintro rfl; exact ⟨rfl, rfl, rfl, rfl, rfl⟩
    · rintro ⟨h1, h2, h3, h4, h5⟩
      cases x; cases y
      simp only [Item.mk.injEq]
      exact ⟨h1, h2, UInt32.toNat_inj.1 (Int.ofNat.inj h3), Int64.toInt_inj.1 h4, UInt64.toNat_inj.1 (Int.ofNat.inj h5)⟩
  simp only [hs]
  by_cases h1 : x.key = y.key
  · rw [if_pos h1]
    by_cases h2 : x.val = y.val
    · rw [if_pos h2]
      by_cases h3 : (x.flags.toNat : Int) = y.flags.toNat
      · rw [if_pos h3]
        by_cases h4 : x.exp.toInt = y.exp.toInt
        · rw [if_pos h4]
          by_cases h5 : (x.ver.toNat : Int) = y.ver.toNat
          · rw [if_pos h5, decide_eq_true (hxy.2 ⟨h1, h2, h3, h4, h5⟩)]
          · rw [if_neg h5, decide_eq_false (fun h => h5 (hxy.1 h).2.2.2.2)]
        · rw [if_neg h4, decide_eq_false (fun h => h4 (hxy.1 h).2.2.2.1)]
      · rw [if_neg h3, decide_eq_false (fun h => h3 (hxy.1 h).2.2.1)]
    · rw [if_neg h2, decide_eq_false (fun h => h2 (hxy.1 h).2.1)]
  · rw [if_neg h1, decide_eq_false (fun h => h1 (hxy.1 h).1)]
theorem run_neq_item (x y : Item) (W : World) : (binOp .neq tItem (itemV x) (itemV y)).run Tryd.prog W = .ok (.bool (decide (x ≠ y))) W := by
  rw [run_neq_struct, run_equal_item]
  simp
theorem run_eql_item (x y : Item) (W : World) : (binOp .eql tItem (itemV x) (itemV y)).run Tryd.prog W = .ok (.bool (decide (x = y))) W := by
  rw [run_eql_struct, run_equal_item]
  simp
theorem rd_at6 {w : World} {t : TypeId} {A : Option Addr} {n k : Nat} {l : List Item} {x : Item} (h : Rd w t A (n * 5) (its l)) (hk : k < n) (hx : l[k]? = some x) :
    ∃ g off, A = some ⟨g, off, none⟩ ∧ ∀ W : World, Chg No w W → W.cell? ⟨g, off + k * 5, none⟩ = some (.string x.key) ∧ W.cell? ⟨g, off + k * 5 + 1, none⟩ = some (.string x.val) ∧
      W.cell? ⟨g, off + k * 5 + 2, none⟩ = some (.int .u32 x.flags.toNat) ∧ W.cell? ⟨g, off + k * 5 + 3, none⟩ = some (.int .i64 x.exp.toInt) ∧ W.cell? ⟨g, off + k * 5 + 4, none⟩ = some (.int .u64 x.ver.toNat) := by
  obtain ⟨g, off, cur, fz, rfl, hg, hc⟩ := h.2 (by omega)
  refine ⟨g, off, rfl, fun W hW => ?_⟩
  have hc' : ∀ j u, (its l)[j]? = some u → W.cell? ⟨g, off + j, none⟩ = some u := fun j u hu => (cell_of_row W g _ cur t fz (hW.at_ hg (fun h => h))).trans (hc j u hu)
  have c0 := hc' (k * 5 + 0) _ (its_get l k 0 x hx (by omega))
  have c1 := hc' (k * 5 + 1) _ (its_get l k 1 x hx (by omega))
  have c2 := hc' (k * 5 + 2) _ (its_get l k 2 x hx (by omega))
  have c3 := hc' (k * 5 + 3) _ (its_get l k 3 x hx (by omega))
  have c4 := hc' (k * 5 + 4) _ (its_get l k 4 x hx (by omega))
  simp only [itc, List.getElem_cons_zero, List.getElem_cons_succ, ← Nat.add_assoc, Nat.add_zero] at c0 c1 c2 c3 c4
  exact ⟨c0, c1, c2, c3, c4⟩
theorem str_eq (a b : ByteArray) : (a.toList == b.toList) = decide (a = b) := by
  rw [ByteArray.toList_eq, ByteArray.toList_eq, Bool.eq_iff_iff]
  simp only [beq_iff_eq, decide_eq_true_eq]
  exact ⟨fun h => ByteArray.ext (Array.toList_inj.1 h), fun h => by rw [h]⟩
abbrev skey : ByteArray → Value := fun s => .string s
abbrev tStr : TypeId := 9
theorem ti_str : TI Tryd.prog tStr (.string ⟨#[]⟩) 1 16 := (by kernel_rfl : (Tryd.prog.info? tStr).map (fun i => (i.zero, i.size, i.bytes)) = some (some (.string ⟨#[]⟩), 1, 16))
theorem str_one_cell (xs : List ByteArray) : ∀ u ∈ xs.map skey, u.oneCell' = true := by
  intro u hu
  obtain ⟨x, _, rfl⟩ := List.mem_map.1 hu
  rfl
/-- a byte that was laid into a new block of one cell -/
theorem rd_one (w : World) (t : TypeId) (u : Value) : Rd (w.alloc (.cells #[u] t)) t (some ⟨w.heap.size, 0, none⟩) (1 * 1) [u] :=
  Rd.ofBlk (k := 1) (Blk.new w t #[u]) (by simp)
theorem rd_one2 (w : World) (o : Obj) (t : TypeId) (u : Value) : Rd ((w.alloc o).alloc (.cells #[u] t)) t (some ⟨w.heap.size + 1, 0, none⟩) (1 * 1) [u] := by
  have := rd_one (w.alloc o) t u
  rwa [World.size_alloc] at this
theorem add_at (g off j : Nat) : (⟨g, off, none⟩ : Addr).add j = ⟨g, off + j, none⟩ := by unfold Addr.add; split <;> simp_all
end Go.Proofs.YtedkoplgfidjlaaDoor
