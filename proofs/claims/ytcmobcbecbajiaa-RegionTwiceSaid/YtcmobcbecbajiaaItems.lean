/- Lists of items in memory; rec.List. -/
import Derived.Test.YtcmobcbecbajiaaRecE
import Derived.Test.YtcmobcbecbajiaaItemSpec
import Derived.Deep.LoopGhost
namespace Go.Proofs.Ytcmobcbecbajiaa
open Go.RowKit
set_option linter.unusedSimpArgs false
set_option linter.unusedVariables false

abbrev tItem : TypeId := 38
abbrev tItems : TypeId := 22
def itc (x : Item) : List Value := [.string x.key, .string x.val, .int .u32 x.flags.toNat, .int .i64 x.exp.toInt, .int .u64 x.ver.toNat]
def its (l : List Item) : List Value := l.flatMap itc
theorem its_length (l : List Item) : (its l).length = l.length * 5 := by
  induction l with
  | nil => rfl
  | cons x r ih => simp only [its, List.flatMap_cons, List.length_append, List.length_cons] at ih ⊢; rw [ih]; simp [itc]; omega
theorem its_append (a b : List Item) : its (a ++ b) = its a ++ its b := by simp [its]
theorem its_cons (x : Item) (r : List Item) : its (x :: r) = itc x ++ its r := by simp [its]
theorem its_one (x : Item) : its [x] = itc x := by simp [its]
theorem its_get (l : List Item) (i k : Nat) (x : Item) (h : l[i]? = some x) (hk : k < 5) : (its l)[i * 5 + k]? = (itc x)[k]? := by
  induction l generalizing i with
  | nil => cases h
  | cons y r ih =>
    rw [its_cons]
    cases i with
    | zero =>
      simp only [List.getElem?_cons_zero, Option.some.injEq] at h
      subst h
      rw [Nat.zero_mul, Nat.zero_add, List.getElem?_append_left (by simp [itc]; exact hk)]
    | succ i =>
      simp only [List.getElem?_cons_succ] at h
      have e : (i + 1) * 5 + k = (itc y).length + (i * 5 + k) := by simp [itc]; omega
      rw [e, List.getElem?_append_right (by omega), Nat.add_sub_cancel_left]
      exact ih i h
theorem its_one_cell {l : List Item} : ∀ u ∈ its l, u.oneCell' = true := by
  intro u hu
  simp only [its, itc, List.mem_flatMap] at hu
  obtain ⟨x, _, hx⟩ := hu
  simp only [List.mem_cons, List.not_mem_nil, or_false] at hx
  rcases hx with rfl | rfl | rfl | rfl | rfl <;> rfl
theorem itc_one_cell (x : Item) : ∀ u ∈ itc x, u.oneCell' = true := by rw [← its_one]; exact its_one_cell
theorem its_take (l : List Item) (n : Nat) : its (l.take n) = (its l).take (n * 5) := by
  induction l generalizing n with
  | nil => simp [its]
  | cons x r ih =>
    cases n with
    | zero => simp [its]
    | succ n =>
      rw [List.take_succ_cons, its_cons, its_cons, ih]
      have e : (n + 1) * 5 = (itc x).length + n * 5 := by simp [itc]; omega
      rw [e, List.take_length_add_append]
theorem its_drop (l : List Item) (n : Nat) : its (l.drop n) = (its l).drop (n * 5) := by
  induction l generalizing n with
  | nil => simp [its]
  | cons x r ih =>
    cases n with
    | zero => simp [its]
    | succ n =>
      rw [List.drop_succ_cons, its_cons, ih]
      have e : (n + 1) * 5 = (itc x).length + n * 5 := by simp [itc]; omega
      rw [e, List.drop_length_add_append]

theorem ti_item : TI Try.prog tItem (itemV Item.zero) 5 56 := (by kernel_rfl : (Try.prog.info? tItem).map (fun i => (i.zero, i.size, i.bytes)) = some (some (itemV Item.zero), 5, 56))

/-- an item that was laid into a new block -/
theorem rd_item (w : World) (x : Item) : Rd (w.alloc (.cells (itc x).toArray tItem)) tItem (some ⟨w.heap.size, 0, none⟩) (1 * 5) (itc x) := by
  have := Rd.ofBlk (k := 5) (Blk.new w tItem (itc x).toArray) (by simp [itc])
  simpa [itc] using this

theorem rd_item2 (w : World) (o : Obj) (x : Item) : Rd ((w.alloc o).alloc (.cells (itc x).toArray tItem)) tItem (some ⟨w.heap.size + 1, 0, none⟩) (1 * 5) (itc x) := by
  have := rd_item (w.alloc o) x
  rwa [World.size_alloc] at this

set_option maxRecDepth 100000 in
theorem list_calls (A : Option Addr) (n c : Nat) (b : List UInt8) (w : World) (hr : Rd w tU8 A n (bys b)) (hn : n ≤ 1073741824) (hcap : n ≤ c) :
    Calls Try.prog 90 #[.slice A n c] w fun e w' => ∃ v, e = .returned (.tuple #[v, .int .i64 (listE b)]) ∧ w'.ownsRow w.heap.size tItem 5 v (listL b).length (its (listL b)) ∧ Chg No w w' := by
  have hbl : b.length = n := by rw [← bys_length]; exact hr.1
  have HR := Lib.hid hr
  have HBL := Lib.hid hbl
  clear hr hbl
  go_enter Try.func90, Try.ntmps90
  go_wp2
  go_loopg [0, 4] (n + 1) (fun g v0 v4 wr => ∃ (A' : Option Addr) (n' c' : Nat) (rest : List UInt8) (acc : List Item), v0 = .slice A' n' c' ∧ n' ≤ c' ∧ n' < g ∧
      Hid (Rd wr tU8 A' n' (bys rest) ∧ wr.ownsRow w.heap.size tItem 5 v4 acc.length (its acc) ∧ Chg No w wr ∧ listOf b = (listOf rest).map (acc ++ ·) ∧ acc.length * 32 + n' ≤ n))
  case atStart => exact ⟨A, n, c, b, [], rfl, hcap, by omega, ⟨HR.out, World.ownsRow_nil _ _ _ _, Chg.refl _ _, by simp, by simp⟩⟩
  case round =>
    obtain ⟨A', n', c', rest, acc, rfl, hc', hg, H⟩ := hrel
    have hn' : n' ≤ n := by have := H.out.2.2.2.2; omega
    have hT := take_calls A' n' c' rest wr H.out.1 (by omega) hc'
    cases ht : take rest with
    | none =>
      rw [ht] at hT
      simp only [Tk.item, Tk.len, Tk.err] at hT
      have HT := Lib.hid hT
      have HS := Lib.hid ht
      clear ht hT
      go_wp2_with fail
      refine HT.out.mono ?_
      rintro e w1 ⟨rfl, hc1⟩
      have HC1 := Lib.hid hc1
      clear hc1
      go_wp2
      go_ret2
      have e1 : listOf b = some acc := by rw [H.out.2.2.2.1, listOf_step, HS.out]; simp
      refine ⟨_, by rw [listE, e1]; rfl, ?_, ?_⟩
      · rw [listL, e1]
        exact (own_chg H.out.2.1 (HC1.out) (fun _ _ h => h)).alloc _
      · exact (H.out.2.2.1.trans HC1.out).alloc _
    | bad =>
      rw [ht] at hT
      simp only [Tk.item, Tk.len, Tk.err] at hT
      have HT := Lib.hid hT
      have HS := Lib.hid ht
      clear ht hT
      go_wp2_with fail
      refine HT.out.mono ?_
      rintro e w1 ⟨rfl, hc1⟩
      have HC1 := Lib.hid hc1
      clear hc1
      go_wp2
      go_ret2
      have e1 : listOf b = none := by rw [H.out.2.2.2.1, listOf_step, HS.out]; simp
      refine ⟨_, by rw [listE, e1]; rfl, ?_, ?_⟩
      · rw [listL, e1]
        exact World.ownsRow_nil _ _ _ _
      · exact (H.out.2.2.1.trans HC1.out).alloc _
    | ok x k =>
      rw [ht] at hT
      simp only [Tk.item, Tk.len, Tk.err] at hT
      have HT := Lib.hid hT
      have hlen := take_ok_len ht
      have hrl : rest.length = n' := by rw [← bys_length]; exact H.out.1.1
      rw [hrl] at hlen
      obtain ⟨hk1, hk2, _, _⟩ := hlen
      obtain ⟨A2, hs2, hd2⟩ := sub_slice_l (P := Try.prog) Try.underlying31 ti_u8 A' n' c' (k : Int) (by omega) (by omega) hc'
      have HS := Lib.hid ht
      have HD2 := Lib.hid hd2
      clear ht hT hd2 hrl
      simp only [Int.toNat_natCast] at hs2
      have hki : (k : Int) ≤ (n' : Int) := by omega
      go_wp2_with fail
      refine HT.out.mono ?_
      rintro e w1 ⟨rfl, hc1⟩
      have HC1 := Lib.hid hc1
      have HO1 := Lib.hid (own_chg H.out.2.1 hc1 (fun _ _ h => h))
      clear hc1
      have hw1 : w.heap.size ≤ w1.heap.size := by have := H.out.2.2.1.size; have := HC1.out.size; omega
      have hal : acc.length * 32 + n' ≤ n := H.out.2.2.2.2
      go_wp2_with (first
        | (at_builtin; refine wpList_app _ rfl (.tmp 18) (.tmp 20) tItems rfl tItem Try.underlying22 ti_item rfl (by omega) w.heap.size _ acc.length (its acc) rfl ((HO1.out.alloc _).alloc _) tItem _ 1 1 (itc x) rfl (rd_item2 _ _ x) (itc_one_cell x) (by simp only [maxLen]; omega) (by omega) (by simp; omega) ?_; intro v2 w2 ho2 hg2 hb2; have HO2 := Lib.hid ho2; have HG2 := Lib.hid hg2; clear ho2 hg2 hb2))
      go_roundg (n' - k + 1)
      case measure => omega
      case rel =>
        have hc12 : Chg No wr w1 := HC1.out
        have hr1 : Rd w1 tU8 A' n' (bys rest) := H.out.1.below hc12.toBelow
        have hg2 := HG2.out
        refine ⟨A2, n' - k, c' - k, rest.drop k, acc ++ [x], rfl, by omega, by omega, ?_, ?_, ?_, ?_, ?_⟩
        · have hr2 := HD2.out w1 tU8 (bys rest) (by simpa using hr1)
          have hr3 : Rd w1 tU8 A2 (n' - k) (bys (rest.drop k)) := by simpa [bys_drop] using hr2
          have hc3 : Chg (fun i => Value.ownBlock _ = some i) w1 w2 := Chg.grown (((Chg.refl _ _).alloc _).alloc _) hg2 (fun k' hk' => .inl hk')
          refine hr3.chg hc3 ?_
          intro g cur fz hgb hk'
          exact own_other HO1.out hgb (by decide) hk'
        · have := HO2.out
          rw [its_append, its_one]
          simpa using this
        · exact (((H.out.2.2.1.trans hc12).alloc _).alloc _).grown hg2 (fun k' hk' => .inr (own_new HO1.out k' hk'))
        · rw [H.out.2.2.2.1, listOf_step, HS.out]
          show Option.map _ (Option.map _ (listOf (rest.drop k))) = Option.map _ (listOf (rest.drop k))
          generalize listOf (rest.drop k) = z
          cases z <;> simp
        · simp; omega
end Go.Proofs.Ytcmobcbecbajiaa
