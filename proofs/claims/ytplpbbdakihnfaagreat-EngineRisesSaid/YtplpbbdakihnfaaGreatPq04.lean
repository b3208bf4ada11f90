/- Packed texts: ItemSpec, Items, FlashC, Comm, TombB. -/
import Derived.Test.YtplpbbdakihnfaaGreatPq02
import Derived.Test.YtplpbbdakihnfaaGreatPq03
import Derived.Deep.LoopGhost
import Derived.Deep.RegionHeld3
import Derived.Shelf.RegionOpen
set_option linter.unusedSimpArgs false
set_option linter.unusedVariables false
section
namespace Go.Proofs.YtplpbbdakihnfaaGreat
open Go.RowKit
theorem take_ok_len {b : List UInt8} {x : Item} {n : Nat} (h : take b = .ok x n) : 32 < n ∧ n ≤ b.length ∧ x.good = true ∧ x.size = n := by
  unfold take at h
  split at h
  · cases h
  · rename_i h0
    split at h
    · rename_i hh
      simp only [Bool.and_eq_true] at hh
      obtain ⟨⟨h1, h2⟩, h3⟩ := hh
      injection h with e1 e2
      subst e1; subst e2
      simp only [bodyOk, Bool.and_eq_true, decide_eq_true_eq] at h2
      have h4 := h3
      simp only [Item.good, Bool.and_eq_true, decide_eq_true_eq] at h4
      have hk : (itemOf b).key.size = keyLen b := by
        simp only [itemOf, cut]
        show (List.toArray _).size = _
        simp
        have := h2.1
        unfold endOf at this
        omega
      have hv : (itemOf b).val.size = valLen b := by
        simp only [itemOf, cut]
        show (List.toArray _).size = _
        simp
        have := h2.1
        unfold endOf at this ⊢
        omega
      refine ⟨?_, h2.1, h3, ?_⟩
      · unfold endOf; omega
      · unfold Item.size endOf; omega
    · cases h
def lst : Nat → List UInt8 → Option (List Item)
  | 0, _ => none
  | k + 1, b => match take b with
    | .none => some []
    | .bad => none
    | .ok x n => (lst k (b.drop n)).map (x :: ·)
def listOf (b : List UInt8) : Option (List Item) := lst (b.length + 1) b
theorem lst_more {k : Nat} : ∀ {b : List UInt8}, b.length < k → lst k b = lst (k + 1) b := by
  induction k with
  | zero => intro b h; omega
  | succ k ih =>
    intro b h
    rw [lst, lst]
    cases ht : take b with
    | none => rfl
    | bad => rfl
    | ok x n =>
      have hl := take_ok_len ht
      simp only
      rw [ih (by rw [List.length_drop]; omega)]
theorem lst_listOf {k : Nat} {b : List UInt8} (h : b.length < k) : lst k b = listOf b := by
  unfold listOf
  obtain ⟨d, rfl⟩ : ∃ d, k = b.length + 1 + d := ⟨k - (b.length + 1), by omega⟩
  clear h
  induction d with
  | zero => rfl
  | succ d ih => rw [← ih, ← Nat.add_assoc, ← lst_more (by omega)]
theorem listOf_step (b : List UInt8) : listOf b = match take b with
    | .none => some []
    | .bad => none
    | .ok x n => (listOf (b.drop n)).map (x :: ·) := by
  unfold listOf
  rw [lst]
  cases ht : take b with
  | none => rfl
  | bad => rfl
  | ok x n =>
    have hl := take_ok_len ht
    simp only
    rw [lst_listOf (by rw [List.length_drop]; omega), listOf]
def listE (b : List UInt8) : Int := if (listOf b).isSome then 0 else 3
def listL (b : List UInt8) : List Item := (listOf b).getD []
def records (l : List Item) : List UInt8 := l.flatMap record
def goods (l : List Item) : Bool := l.all (·.good)
def layE (l : List Item) (room : Int) : Int := if goods l then (if 65536 < room then 1 else if room < (records l).length then 7 else 0) else 1
def layB (l : List Item) (room : Int) : List UInt8 := if layE l room = 0 then records l ++ List.replicate (room.toNat - (records l).length) 0 else []
end Go.Proofs.YtplpbbdakihnfaaGreat
end

section
namespace Go.Proofs.YtplpbbdakihnfaaGreat
open Go.RowKit
abbrev tItem : TypeId := 39
abbrev tItems : TypeId := 46
def itc (x : Item) : List Value := [.string x.key, .string x.val, .int .u32 x.flags.toNat, .int .i64 x.exp.toInt, .int .u64 x.ver.toNat]
def its (l : List Item) : List Value := l.flatMap itc
theorem its_length (l : List Item) : (its l).length = l.length * 5 := by
  induction l with
  | nil => rfl
  | cons x r ih => simp only [its, List.flatMap_cons, List.length_append, List.length_cons] at ih ⊢; rw [ih]; simp [itc]; omega
theorem its_append (a b : List Item) : its (a ++ b) = its a ++ its b := by simp [its]
theorem its_cons (x : Item) (r : List Item) : its (x :: r) = itc x ++ its r := by simp [its]
theorem its_one (x : Item) : its [x] = itc x := by simp [its]
theorem its_get (l : List Item) (i k : Nat) (x : Item) (h : l[i]? = some x) (hk : k < 5) : (its l)[i * 5 + k]? = (itc x)[k]? := by
  induction l generalizing i with
  | nil => cases h
  | cons y r ih =>
    rw [its_cons]
    cases i with
    | zero =>
      simp only [List.getElem?_cons_zero, Option.some.injEq] at h
      subst h
      rw [Nat.zero_mul, Nat.zero_add, List.getElem?_append_left (by simp [itc]; exact hk)]
    | succ i =>
      simp only [List.getElem?_cons_succ] at h
      have e : (i + 1) * 5 + k = (itc y).length + (i * 5 + k) := by simp [itc]; omega
      rw [e, List.getElem?_append_right (by omega), Nat.add_sub_cancel_left]
      exact ih i h
theorem its_one_cell {l : List Item} : ∀ u ∈ its l, u.oneCell' = true := by
  intro u hu
  simp only [its, itc, List.mem_flatMap] at hu
  obtain ⟨x, _, hx⟩ := hu
  simp only [List.mem_cons, List.not_mem_nil, or_false] at hx
  rcases hx with rfl | rfl | rfl | rfl | rfl <;> rfl
theorem itc_one_cell (x : Item) : ∀ u ∈ itc x, u.oneCell' = true := by rw [← its_one]; exact its_one_cell
theorem its_take (l : List Item) (n : Nat) : its (l.take n) = (its l).take (n * 5) := by
  induction l generalizing n with
  | nil => simp [its]
  | cons x r ih =>
    cases n with
    | zero => simp [its]
    | succ n =>
      rw [List.take_succ_cons, its_cons, its_cons, ih]
      have e : (n + 1) * 5 = (itc x).length + n * 5 := by simp [itc]; omega
      rw [e, List.take_length_add_append]
theorem its_drop (l : List Item) (n : Nat) : its (l.drop n) = (its l).drop (n * 5) := by
  induction l generalizing n with
  | nil => simp [its]
  | cons x r ih =>
    cases n with
    | zero => simp [its]
    | succ n =>
      rw [List.drop_succ_cons, its_cons, ih]
      have e : (n + 1) * 5 = (itc x).length + n * 5 := by simp [itc]; omega
      rw [e, List.drop_length_add_append]
theorem ti_item : TI Tryz.prog tItem (itemV Item.zero) 5 56 := (by kernel_rfl : (Tryz.prog.info? tItem).map (fun i => (i.zero, i.size, i.bytes)) = some (some (itemV Item.zero), 5, 56))
theorem rd_item (w : World) (x : Item) : Rd (w.alloc (.cells (itc x).toArray tItem)) tItem (some ⟨w.heap.size, 0, none⟩) (1 * 5) (itc x) := by
  have := Rd.ofBlk (k := 5) (Blk.new w tItem (itc x).toArray) (by simp [itc])
  simpa [itc] using this
theorem rd_item2 (w : World) (o : Obj) (x : Item) : Rd ((w.alloc o).alloc (.cells (itc x).toArray tItem)) tItem (some ⟨w.heap.size + 1, 0, none⟩) (1 * 5) (itc x) := by
  have := rd_item (w.alloc o) x
  rwa [World.size_alloc] at this
set_option maxRecDepth 100000 in
theorem list_calls (A : Option Addr) (n c : Nat) (b : List UInt8) (w : World) (hr : Rd w tU8 A n (bys b)) (hn : n ≤ 1073741824) (hcap : n ≤ c) :
    Calls Tryz.prog 95 #[.slice A n c] w fun e w' => ∃ v, e = .returned (.tuple #[v, .int .i64 (listE b)]) ∧ w'.ownsRow w.heap.size tItem 5 v (listL b).length (its (listL b)) ∧ Chg No w w' := by
  have hbl : b.length = n := by rw [← bys_length]; exact hr.1
  have HR := Lib.hid hr
  have HBL := Lib.hid hbl
  clear hr hbl
  go_enter Tryz.func95, Tryz.ntmps95
  go_wp2
  go_loopg [0, 4] (n + 1) (fun g v0 v4 wr => ∃ (A' : Option Addr) (n' c' : Nat) (rest : List UInt8) (acc : List Item), v0 = .slice A' n' c' ∧ n' ≤ c' ∧ n' < g ∧
      Hid (Rd wr tU8 A' n' (bys rest) ∧ wr.ownsRow w.heap.size tItem 5 v4 acc.length (its acc) ∧ Chg No w wr ∧ listOf b = (listOf rest).map (acc ++ ·) ∧ acc.length * 32 + n' ≤ n))
  case atStart => exact ⟨A, n, c, b, [], rfl, hcap, by omega, ⟨HR.out, World.ownsRow_nil _ _ _ _, Chg.refl _ _, by simp, by simp⟩⟩
  case round =>
    obtain ⟨A', n', c', rest, acc, rfl, hc', hg, H⟩ := hrel
    have hn' : n' ≤ n := by have := H.out.2.2.2.2; omega
    have hT := take_calls A' n' c' rest wr H.out.1 (by omega) hc'
    cases ht : take rest with
    | none =>
      rw [ht] at hT
      simp only [Tk.item, Tk.len, Tk.err] at hT
      have HT := Lib.hid hT
      have HS := Lib.hid ht
      clear ht hT
      go_wp2_with fail
      refine HT.out.mono ?_
      rintro e w1 ⟨rfl, hc1⟩
      have HC1 := Lib.hid hc1
      clear hc1
      go_wp2
      go_ret2
      have e1 : listOf b = some acc := by rw [H.out.2.2.2.1, listOf_step, HS.out]; simp
      refine ⟨_, by rw [listE, e1]; rfl, ?_, ?_⟩
      · rw [listL, e1]
        exact (own_chg H.out.2.1 (HC1.out) (fun _ _ h => h)).alloc _
      · exact (H.out.2.2.1.trans HC1.out).alloc _
    | bad =>
      rw [ht] at hT
      simp only [Tk.item, Tk.len, Tk.err] at hT
      have HT := Lib.hid hT
      have HS := Lib.hid ht
      clear ht hT
      go_wp2_with fail
      refine HT.out.mono ?_
      rintro e w1 ⟨rfl, hc1⟩
      have HC1 := Lib.hid hc1
      clear hc1
      go_wp2
      go_ret2
      have e1 : listOf b = none := by rw [H.out.2.2.2.1, listOf_step, HS.out]; simp
      refine ⟨_, by rw [listE, e1]; rfl, ?_, ?_⟩
      · rw [listL, e1]
        exact World.ownsRow_nil _ _ _ _
      · exact (H.out.2.2.1.trans HC1.out).alloc _
    | ok x k =>
      rw [ht] at hT
      simp only [Tk.item, Tk.len, Tk.err] at hT
      have HT := Lib.hid hT
      have hlen := take_ok_len ht
      have hrl : rest.length = n' := by rw [← bys_length]; exact H.out.1.1
      rw [hrl] at hlen
      obtain ⟨hk1, hk2, _, _⟩ := hlen
      obtain ⟨A2, hs2, hd2⟩ := sub_slice_l (P := Tryz.prog) Tryz.underlying40 ti_u8 A' n' c' (k : Int) (by omega) (by omega) hc'
      have HS := Lib.hid ht
      have HD2 := Lib.hid hd2
      clear ht hT hd2 hrl
      simp only [Int.toNat_natCast] at hs2
      have hki : (k : Int) ≤ (n' : Int) := by omega
      go_wp2_with fail
      refine HT.out.mono ?_
      rintro e w1 ⟨rfl, hc1⟩
      have HC1 := Lib.hid hc1
      have HO1 := Lib.hid (own_chg H.out.2.1 hc1 (fun _ _ h => h))
      clear hc1
      have hw1 : w.heap.size ≤ w1.heap.size := by have := H.out.2.2.1.size; have := HC1.out.size; omega
      have hal : acc.length * 32 + n' ≤ n := H.out.2.2.2.2
      go_wp2_with (first
        | (at_builtin; refine wpList_app _ rfl (.tmp 18) (.tmp 20) tItems rfl tItem Tryz.underlying46 ti_item rfl (by omega) w.heap.size _ acc.length (its acc) rfl ((HO1.out.alloc _).alloc _) tItem _ 1 1 (itc x) rfl (rd_item2 _ _ x) (itc_one_cell x) (by simp only [maxLen]; omega) (by omega) (by simp; omega) ?_; intro v2 w2 ho2 hg2 hb2; have HO2 := Lib.hid ho2; have HG2 := Lib.hid hg2; clear ho2 hg2 hb2))
      go_roundg (n' - k + 1)
      case measure => omega
      case rel =>
        have hc12 : Chg No wr w1 := HC1.out
        have hr1 : Rd w1 tU8 A' n' (bys rest) := H.out.1.below hc12.toBelow
        have hg2 := HG2.out
        refine ⟨A2, n' - k, c' - k, rest.drop k, acc ++ [x], rfl, by omega, by omega, ?_, ?_, ?_, ?_, ?_⟩
        · have hr2 := HD2.out w1 tU8 (bys rest) (by simpa using hr1)
          have hr3 : Rd w1 tU8 A2 (n' - k) (bys (rest.drop k)) := by simpa [bys_drop] using hr2
          have hc3 : Chg (fun i => Value.ownBlock _ = some i) w1 w2 := Chg.grown (((Chg.refl _ _).alloc _).alloc _) hg2 (fun k' hk' => .inl hk')
          refine hr3.chg hc3 ?_
          intro g cur fz hgb hk'
          exact own_other HO1.out hgb (by decide) hk'
        · have := HO2.out
          rw [its_append, its_one]
          simpa using this
        · exact (((H.out.2.2.1.trans hc12).alloc _).alloc _).grown hg2 (fun k' hk' => .inr (own_new HO1.out k' hk'))
        · rw [H.out.2.2.2.1, listOf_step, HS.out]
          show Option.map _ (Option.map _ (listOf (rest.drop k))) = Option.map _ (listOf (rest.drop k))
          generalize listOf (rest.drop k) = z
          cases z <;> simp
        · simp; omega
end Go.Proofs.YtplpbbdakihnfaaGreat
end

section
namespace Go.Proofs.YtplpbbdakihnfaaGreat
open Go.RowKit
open Go.ChangeMaps (setBlock)
set_option maxRecDepth 100000 in
theorem new_calls (n : Int) (w : World) (h1 : 1 ≤ n) (h2 : n ≤ 4096) :
    Calls Tryz.prog 13 #[.int .i64 n] w fun e w' => ∃ h : DevH, e = .returned (.tuple #[.pointer (some ⟨h.d, 0, none⟩), .int .i64 0]) ∧ DevAt w' h (Dev.new n.toNat) ∧ Chg No w w' ∧ ∀ k, h.foot k → w.heap.size ≤ k := by
  obtain ⟨n, rfl⟩ := Int.eq_ofNat_of_zero_le (show 0 ≤ n by omega)
  rw [Int.toNat_natCast]
  have hmk := run_mk (P := Tryz.prog) w Tryz.underlying73 ti_pp rfl n (by omega) (by omega)
  have hmm := @run_makeMap Tryz.prog
  go_enter Tryz.func13, Tryz.ntmps13
  go_wp2
  go_ret2
  refine ⟨⟨w.heap.size + 1 + 1, w.heap.size, w.heap.size + 1⟩, rfl, ?_, by (repeat (first | (with_reducible exact Chg.refl _ _) | (with_reducible assumption) | (with_reducible refine Chg.drewN ?_ _) | (with_reducible refine Chg.drew ?_) | (with_reducible refine Chg.alloc ?_ _) | (with_reducible refine Chg.setCell ?_ (by first | (left; simp [DevH.foot]; done) | (right; simp; done) | (right; simp; omega)) _))), ?_⟩
  · refine { box := ⟨0, 0, 0, 0, ?_⟩, row := ⟨List.replicate n (.pointer none), ?_, by simp [Dev.new], ?_⟩, map := ⟨[], ?_, ?_, ?_⟩, npos := by simp only [Dev.new]; omega, nmost := by simp only [Dev.new]; omega, armed := by simp [Dev.new], below := Nat.le_refl _ }
    · have := Blk.new ((w.alloc (.cells (mk n (.pointer none)) tPP)).alloc (.map #[] 0)) tDev #[.slice (some ⟨w.heap.size, 0, none⟩) n n, .map (some (w.heap.size + 1)), .bool false, .int .i64 0, .int .i64 0, .int .i64 0, .int .i64 0, .int .i64 0, .int .i64 0]
      simpa [Dev.new] using this
    · exact ((Blk.new w tPP (mk n (.pointer none))).alloc _).alloc _
    · intro i v hv
      rw [List.getElem?_replicate] at hv
      split at hv
      · injection hv with hv; exact hv.symm
      · cases hv
    · have := (MapIs.made ikey (w.alloc (.cells (mk n (.pointer none)) tPP)))
      have h2 := this.alloc (.cells #[.slice (some ⟨w.heap.size, 0, none⟩) n n, .map (some (w.heap.size + 1)), .bool false, .int .i64 0, .int .i64 0, .int .i64 0, .int .i64 0, .int .i64 0, .int .i64 0] tDev)
      simpa using h2
    · intro k v h; cases h
    · intro i pg h; cases h
  · rintro k (rfl | rfl | rfl) <;> simp <;> omega
theorem zero_pp (w : World) : (zeroValue tPP).run Tryz.prog w = .ok (.pointer none) w := by kernel_rfl
theorem page_at {N : Nat} {w : World} {h : DevH} {D : Dev} (hd : DevN N w h D) (k : Nat) (hk : k < D.n) : ∃ (es : List (Int × Value)) (ps : List Value), MapIs ikey w h.M es ∧ Blk w h.F tPP ps.toArray ∧ ps.length = D.n ∧
    ((∃ v, aget es (k : Int) = some v ∧ PgAt N w v (D.page k)) ∨ (aget es (k : Int) = none ∧ ∃ v, ps[k]? = some v ∧ PgAt N w v (D.page k))) := by
  obtain ⟨es, hm, hw1, hw2⟩ := hd.map
  obtain ⟨ps, hb, hl, hp⟩ := hd.row
  refine ⟨es, ps, hm, hb, hl, ?_⟩
  cases hg : aget es (k : Int) with
  | some v =>
    obtain ⟨i, pg, e1, e2, e3, e4⟩ := hw1 _ _ (aget_mem hg)
    obtain rfl : k = i := by omega
    exact .inl ⟨v, rfl, by simpa [Dev.page, e3] using e4⟩
  | none =>
    have hv : ps[k]? = some (ps[k]'(by omega)) := List.getElem?_eq_getElem (by omega)
    refine .inr ⟨rfl, _, hv, ?_⟩
    have : D.wt k = none := by
      cases hw : D.wt k with
      | none => rfl
      | some pg => obtain ⟨v, hv2⟩ := hw2 k pg hw; rw [hg] at hv2; cases hv2
    simpa [Dev.page, this] using hp k _ hv
theorem read_counted {N : Nat} {w : World} {h : DevH} {D : Dev} (hd : DevN N w h D) {a : Int} (q : Int) (ha : w.cell? ⟨h.d, 7, none⟩ = some (.int .i64 a)) :
    DevN N (w.setCell ⟨h.d, 7, none⟩ (.int .i64 q)) h D ∧ Chg h.foot w (w.setCell ⟨h.d, 7, none⟩ (.int .i64 q)) := by
  obtain ⟨s0, s1, s2, s3, hb⟩ := hd.box
  obtain ⟨nF, nM, nMF⟩ := hd.apart
  have hc : Chg (fun i => i = h.d) w (w.setCell ⟨h.d, 7, none⟩ (.int .i64 q)) := chg_setCell w ⟨h.d, 7, none⟩ _
  have hk : ∀ g cs t, g < N → (t = tPage ∨ t = tU8) → Blk w g t cs → ¬ g = h.d := fun g cs t _ ht hb2 e => by
    refine hd.not_foot hb2 ?_ ?_ (.inl e) <;> rcases ht with rfl | rfl <;> decide
  refine ⟨{ hd with box := ⟨s0, s1, q, s3, ?_⟩, row := ?_, map := ?_, below := Nat.le_trans hd.below hc.size }, hc.mono (fun k _ e => .inl e)⟩
  · have := hb.set_ 7 (.int .i64 q)
    simpa using this
  · obtain ⟨ps, g1, g2, g3⟩ := hd.row
    exact ⟨ps, g1.chg hc nF, g2, fun i v hv => (g3 i v hv).chg hc hk⟩
  · obtain ⟨es, g1, g2, g3⟩ := hd.map
    exact ⟨es, g1.chg hc nM, WaitAt.chg ⟨g2, g3⟩ (fun v p h => h.chg hc hk)⟩
theorem read_calls {N : Nat} {w : World} {h : DevH} {D : Dev} (hd : DevN N w h D) (k : Int) :
    Calls Tryz.prog 62 #[.pointer (some ⟨h.d, 0, none⟩), .int .i64 k] w fun e w' => ∃ v, e = .returned (.tuple #[v, .int .i64 (D.readE k)]) ∧ w'.ownsRow w.heap.size tU8 1 v (D.read k).length (bys (D.read k)) ∧ DevN N w' h D ∧ Chg h.foot w w' := by
  have hhas := Lib.hid (has_calls hd k)
  by_cases c0 : D.has k = true
  · rw [c0] at hhas
    obtain ⟨s0, s1, s2, s3, hb⟩ := hd.box
    have h0 := hb.cell 0
    have h1 := hb.cell 1
    have h2 := hb.cell 2
    have h7 := hb.cell 7
    simp at h0 h1 h2 h7
    have f7 := hb.frozen 7
    by_cases c1 : D.off = true
    · rw [show D.readE k = 4 from by simp [Dev.readE, c0, c1], show D.read k = [] from by simp [Dev.read, c0, c1]]
      rw [c1] at h2
      have F : Hid (w.ownsRow w.heap.size tU8 1 (.slice none 0 0) 0 (bys []) ∧ DevN N w h D ∧ Chg h.foot w w) := ⟨World.ownsRow_nil _ _ _ _, hd, Chg.refl _ _⟩
      clear hd hb c0 c1
      go_enter Tryz.func62, Tryz.ntmps62
      go_wp2_with fail
      refine hhas.out.mono ?_
      rintro e w1 ⟨rfl, rfl⟩
      go_wp2
      go_ret2
      exact ⟨_, rfl, F.out⟩
    · have c1' : D.off = false := by simpa using c1
      rw [c1'] at h2
      have hk : 0 ≤ k ∧ k < D.n := by simpa [Dev.has] using c0
      obtain ⟨n, rfl⟩ := Int.eq_ofNat_of_zero_le hk.1
      have hkn : n < D.n := by omega
      obtain ⟨hd1, hc1⟩ := read_counted hd (wrap64 (s2 + 1)) h7
      have e1 : D.readE (n : Int) = (D.page n).err := by simp [Dev.readE, c0, c1']
      have e2 : D.read (n : Int) = (D.page n).data := by simp [Dev.read, c0, c1']
      rw [e1, e2]
      obtain ⟨w1, hw1⟩ : ∃ w1, w1 = w.setCell ⟨h.d, 7, none⟩ (.int .i64 (wrap64 (s2 + 1))) := ⟨_, rfl⟩
      rw [← hw1] at hd1 hc1
      obtain ⟨es, ps, hm, hF, hl, hpage⟩ := page_at hd1 n hkn
      have hlook := hm.lookup (keyLaw_int (Tryz.underlying3)) Tryz.underlying74 (zero_pp w1) (n : Int) true
      obtain ⟨s0', s1', s2', s3', hb1⟩ := hd1.box
      have g0 := hb1.cell 0
      have g1 := hb1.cell 1
      simp at g0 g1
      have hn4 := hd.nmost
      have hsz : w1.heap.size = w.heap.size := by rw [hw1]; simp
      clear e1 e2 c0 hk hb hb1 s0' s1' s2' s3' c1 c1' h0
      have hcell : ∀ v, ps[n]? = some v → w1.cell? ⟨h.F, n, none⟩ = some v := fun v hv => by
        have := hF.cell n
        rw [this]
        simpa using hv
      have hl4 : (n : Int) < (D.n : Int) := by omega
      rcases hpage with ⟨v, hg, hp⟩ | ⟨hg, v, hv, hp⟩
      all_goals
        rw [hg] at hlook
        simp at hlook
      · cases hpg : D.page n with
        | blank =>
          rw [hpg] at hp
          obtain rfl : v = .pointer none := hp
          have F : Hid (w1.ownsRow w.heap.size tU8 1 (.slice none 0 0) 0 (bys []) ∧ DevN N w1 h D ∧ Chg h.foot w w1) := ⟨World.ownsRow_nil _ _ _ _, hd1, hc1⟩
          (have SZ := Lib.hid hsz; simp only [Pg.err, Pg.data]; clear hsz hpg hd hd1 hc1 hm hF hl hg hcell hkn; subst hw1; go_enter Tryz.func62, Tryz.ntmps62; go_wp2_with fail; refine hhas.out.mono ?_; rintro e w0 ⟨rfl, rfl⟩)
          go_wp2
          go_ret2
          exact ⟨_, rfl, F.out⟩
        | torn =>
          rw [hpg] at hp
          obtain ⟨p, hpN, rfl, hpb⟩ := hp
          have p1 := hpb.cell 1
          simp at p1
          have F : Hid (w1.ownsRow w.heap.size tU8 1 (.slice none 0 0) 0 (bys []) ∧ DevN N w1 h D ∧ Chg h.foot w w1) := ⟨World.ownsRow_nil _ _ _ _, hd1, hc1⟩
          clear hpb
          (have SZ := Lib.hid hsz; simp only [Pg.err, Pg.data]; clear hsz hpg hd hd1 hc1 hm hF hl hg hcell hkn; subst hw1; go_enter Tryz.func62, Tryz.ntmps62; go_wp2_with fail; refine hhas.out.mono ?_; rintro e w0 ⟨rfl, rfl⟩)
          go_wp2
          go_ret2
          exact ⟨_, rfl, F.out⟩
        | full b =>
          rw [hpg] at hp
          obtain ⟨p, q, hpN, hqN, rfl, hpb, hqb, hbl⟩ := hp
          have p0 := hpb.cell 0
          have p1 := hpb.cell 1
          simp at p0 p1
          have hcl := Lib.hid (cloneBytes_calls (some ⟨q, 0, none⟩) 384 384 b w1 (by have := Rd.ofBlk (k := 384) hqb (by simp [bys_length, hbl]); simpa [List.take_of_length_le, bys_length, hbl] using this) (by omega))
          have HB := Lib.hid hbl
          have F := Lib.hid (And.intro hd1 hc1)
          clear hpb hqb hbl
          (have SZ := Lib.hid hsz; simp only [Pg.err, Pg.data]; clear hsz hpg hd hd1 hc1 hm hF hl hg hcell hkn; subst hw1; go_enter Tryz.func62, Tryz.ntmps62; go_wp2_with fail; refine hhas.out.mono ?_; rintro e w0 ⟨rfl, rfl⟩)
          go_wp2_with fail
          refine hcl.out.mono ?_
          rintro e w2 ⟨v2, rfl, ho2, hc2⟩
          have G : Hid (w2.ownsRow w.heap.size tU8 1 v2 b.length (bys b) ∧ DevN N w2 h D ∧ Chg h.foot w w2) := ⟨by rw [HB.out, ← SZ.out]; exact ho2, F.out.1.chgNo hc2, F.out.2.trans (hc2.mono (fun _ _ h => h.elim))⟩
          clear ho2 hc2
          go_wp2
          go_ret2
          exact ⟨_, rfl, G.out⟩
      · have hcv := hcell v hv
        cases hpg : D.page n with
        | blank =>
          rw [hpg] at hp
          obtain rfl : v = .pointer none := hp
          have F : Hid (w1.ownsRow w.heap.size tU8 1 (.slice none 0 0) 0 (bys []) ∧ DevN N w1 h D ∧ Chg h.foot w w1) := ⟨World.ownsRow_nil _ _ _ _, hd1, hc1⟩
          (have SZ := Lib.hid hsz; simp only [Pg.err, Pg.data]; clear hsz hpg hd hd1 hc1 hm hF hl hg hcell hkn; subst hw1; go_enter Tryz.func62, Tryz.ntmps62; go_wp2_with fail; refine hhas.out.mono ?_; rintro e w0 ⟨rfl, rfl⟩)
          go_wp2
          go_ret2
          exact ⟨_, rfl, F.out⟩
        | torn =>
          rw [hpg] at hp
          obtain ⟨p, hpN, rfl, hpb⟩ := hp
          have p1 := hpb.cell 1
          simp at p1
          have F : Hid (w1.ownsRow w.heap.size tU8 1 (.slice none 0 0) 0 (bys []) ∧ DevN N w1 h D ∧ Chg h.foot w w1) := ⟨World.ownsRow_nil _ _ _ _, hd1, hc1⟩
          clear hpb
          (have SZ := Lib.hid hsz; simp only [Pg.err, Pg.data]; clear hsz hpg hd hd1 hc1 hm hF hl hg hcell hkn; subst hw1; go_enter Tryz.func62, Tryz.ntmps62; go_wp2_with fail; refine hhas.out.mono ?_; rintro e w0 ⟨rfl, rfl⟩)
          go_wp2
          go_ret2
          exact ⟨_, rfl, F.out⟩
        | full b =>
          rw [hpg] at hp
          obtain ⟨p, q, hpN, hqN, rfl, hpb, hqb, hbl⟩ := hp
          have p0 := hpb.cell 0
          have p1 := hpb.cell 1
          simp at p0 p1
          have hcl := Lib.hid (cloneBytes_calls (some ⟨q, 0, none⟩) 384 384 b w1 (by have := Rd.ofBlk (k := 384) hqb (by simp [bys_length, hbl]); simpa [List.take_of_length_le, bys_length, hbl] using this) (by omega))
          have HB := Lib.hid hbl
          have F := Lib.hid (And.intro hd1 hc1)
          clear hpb hqb hbl
          (have SZ := Lib.hid hsz; simp only [Pg.err, Pg.data]; clear hsz hpg hd hd1 hc1 hm hF hl hg hcell hkn; subst hw1; go_enter Tryz.func62, Tryz.ntmps62; go_wp2_with fail; refine hhas.out.mono ?_; rintro e w0 ⟨rfl, rfl⟩)
          go_wp2_with fail
          refine hcl.out.mono ?_
          rintro e w2 ⟨v2, rfl, ho2, hc2⟩
          have G : Hid (w2.ownsRow w.heap.size tU8 1 v2 b.length (bys b) ∧ DevN N w2 h D ∧ Chg h.foot w w2) := ⟨by rw [HB.out, ← SZ.out]; exact ho2, F.out.1.chgNo hc2, F.out.2.trans (hc2.mono (fun _ _ h => h.elim))⟩
          clear ho2 hc2
          go_wp2
          go_ret2
          exact ⟨_, rfl, G.out⟩
  · have c1 : D.has k = false := by simpa using c0
    rw [show D.readE k = 1 from by simp [Dev.readE, c1], show D.read k = [] from by simp [Dev.read, c1]]
    rw [c1] at hhas
    have F : Hid (w.ownsRow w.heap.size tU8 1 (.slice none 0 0) 0 (bys []) ∧ DevN N w h D ∧ Chg h.foot w w) := ⟨World.ownsRow_nil _ _ _ _, hd, Chg.refl _ _⟩
    clear hd c0 c1
    go_enter Tryz.func62, Tryz.ntmps62
    go_wp2_with fail
    refine hhas.out.mono ?_
    rintro e w1 ⟨rfl, rfl⟩
    go_wp2
    go_ret2
    exact ⟨_, rfl, F.out⟩
end Go.Proofs.YtplpbbdakihnfaaGreat
end

section
namespace Go.Proofs.YtplpbbdakihnfaaGreat
open Go.RowKit
set_option maxRecDepth 100000 in
theorem run_equal_item (x y : Item) (W : World) : (Op.equalIn 10000 tItem (itemV x) (itemV y)).run Tryz.prog W = .ok (decide (x = y)) W := by
  rw [show (10000 : Nat) = 9999 + 1 from rfl, run_equalIn_agg W 9999 tItem _ _ (by kernel_rfl) (by kernel_rfl)]
  simp [go_sem, Program.fieldsOf, Tryz.underlying39, Op.eqFields]
  have hs : ∀ a b : ByteArray, (a.toList = b.toList) ↔ a = b := fun a b => by
    rw [ByteArray.toList_eq, ByteArray.toList_eq]
    exact ⟨fun h => ByteArray.ext (Array.toList_inj.1 h), fun h => by rw [h]⟩
  have hxy : x = y ↔ (x.key = y.key ∧ x.val = y.val ∧ (x.flags.toNat : Int) = y.flags.toNat ∧ x.exp.toInt = y.exp.toInt ∧ (x.ver.toNat : Int) = y.ver.toNat) := by
    constructor
    · rintro rfl; exact ⟨rfl, rfl, rfl, rfl, rfl⟩
    · rintro ⟨h1, h2, h3, h4, h5⟩
      cases x; cases y
      simp only [Item.mk.injEq]
      exact ⟨h1, h2, UInt32.toNat_inj.1 (Int.ofNat.inj h3), Int64.toInt_inj.1 h4, UInt64.toNat_inj.1 (Int.ofNat.inj h5)⟩
  simp only [hs]
  by_cases h1 : x.key = y.key
  · rw [if_pos h1]
    by_cases h2 : x.val = y.val
    · rw [if_pos h2]
      by_cases h3 : (x.flags.toNat : Int) = y.flags.toNat
      · rw [if_pos h3]
        by_cases h4 : x.exp.toInt = y.exp.toInt
        · rw [if_pos h4]
          by_cases h5 : (x.ver.toNat : Int) = y.ver.toNat
          · rw [if_pos h5, decide_eq_true (hxy.2 ⟨h1, h2, h3, h4, h5⟩)]
          · rw [if_neg h5, decide_eq_false (fun h => h5 (hxy.1 h).2.2.2.2)]
        · rw [if_neg h4, decide_eq_false (fun h => h4 (hxy.1 h).2.2.2.1)]
      · rw [if_neg h3, decide_eq_false (fun h => h3 (hxy.1 h).2.2.1)]
    · rw [if_neg h2, decide_eq_false (fun h => h2 (hxy.1 h).2.1)]
  · rw [if_neg h1, decide_eq_false (fun h => h1 (hxy.1 h).1)]
theorem run_eql_item (x y : Item) (W : World) : (binOp .eql tItem (itemV x) (itemV y)).run Tryz.prog W = .ok (.bool (decide (x = y))) W := by
  rw [run_eql_struct, run_equal_item]
  simp
theorem sub_slice_h {P : Program} {T e : TypeId} {z : Value} {size bytes : Nat} (hT : P.underlying T = some (.slice e)) (hi : TI P e z size bytes) (A : Option Addr) (n c h : Nat) (h2 : h ≤ c) :
    ∃ A', (∀ W : World, (Instr.slice T (.slice A n c) none (some (.int .i64 h)) none).run P W = .ok (.slice A' h c) W) ∧
      ∀ (W : World) (t : TypeId) (xs : List Value), Rd W t A (n * size) xs → h ≤ n → Rd W t A' (h * size) (xs.take (h * size)) := by
  obtain ⟨i, hi', hz, hs, hby⟩ := info_parts hi
  refine ⟨if c = 0 then A else A.map (·.add (0 * size)), fun W => ?_, fun W t xs hr hn => ?_⟩
  · have hsz : (sizeOf e).run P W = .ok size W := by simp [sizeOf, typeInfo, hi', hs]
    simp only [Instr.slice, Sem.run_bind, run_underlying hT, Result.andThen, Instr.sliceBounds, Sem.run_pure]
    rw [run_sliceBound _ _ _ _ _ (by omega) (by omega)]
    simp only [hsz, Option.isSome_none, Bool.false_eq_true, if_false]
    simp
  · have ht := hr.take (m := h * size) (Nat.mul_le_mul_right _ hn)
    have e : (if c = 0 then A else A.map (·.add (0 * size))) = A := if_add_zero _ A size 0 rfl
    rw [e]
    exact ht
theorem bys_one_cell {b : List UInt8} : ∀ u ∈ bys b, u.oneCell' = true := by
  intro u hu
  obtain ⟨x, _, rfl⟩ := List.mem_map.1 hu
  rfl
theorem rd_at6 {w : World} {t : TypeId} {A : Option Addr} {n k : Nat} {l : List Item} {x : Item} (h : Rd w t A (n * 5) (its l)) (hk : k < n) (hx : l[k]? = some x) :
    ∃ g off, A = some ⟨g, off, none⟩ ∧ ∀ W : World, Chg No w W → W.cell? ⟨g, off + k * 5, none⟩ = some (.string x.key) ∧ W.cell? ⟨g, off + k * 5 + 1, none⟩ = some (.string x.val) ∧
      W.cell? ⟨g, off + k * 5 + 2, none⟩ = some (.int .u32 x.flags.toNat) ∧ W.cell? ⟨g, off + k * 5 + 3, none⟩ = some (.int .i64 x.exp.toInt) ∧ W.cell? ⟨g, off + k * 5 + 4, none⟩ = some (.int .u64 x.ver.toNat) := by
  obtain ⟨g, off, cur, fz, rfl, hg, hc⟩ := h.2 (by omega)
  refine ⟨g, off, rfl, fun W hW => ?_⟩
  have hc' : ∀ j u, (its l)[j]? = some u → W.cell? ⟨g, off + j, none⟩ = some u := fun j u hu => (cell_of_row W g _ cur t fz (hW.at_ hg (fun h => h))).trans (hc j u hu)
  have c0 := hc' (k * 5 + 0) _ (its_get l k 0 x hx (by omega))
  have c1 := hc' (k * 5 + 1) _ (its_get l k 1 x hx (by omega))
  have c2 := hc' (k * 5 + 2) _ (its_get l k 2 x hx (by omega))
  have c3 := hc' (k * 5 + 3) _ (its_get l k 3 x hx (by omega))
  have c4 := hc' (k * 5 + 4) _ (its_get l k 4 x hx (by omega))
  simp only [itc, List.getElem_cons_zero, List.getElem_cons_succ, ← Nat.add_assoc, Nat.add_zero] at c0 c1 c2 c3 c4
  exact ⟨c0, c1, c2, c3, c4⟩
theorem own_foot {N : Nat} {w : World} {h : DevH} {D : Dev} (hd : DevN N w h D) {base size n : Nat} {e : TypeId} {v : Value} {xs : List Value} (ho : w.ownsRow base e size v n xs) (h1 : e ≠ tDev) (h2 : e ≠ tPP) : ∀ k, v.ownBlock = some k → ¬ h.foot k := by
  rcases ho.2 with ⟨rfl, _⟩ | ⟨g', cap, cur, rfl, _, hh, _⟩
  · intro k hk; simp [Value.ownBlock] at hk
  · intro k hk
    have : g' = k := by simpa [Value.ownBlock] using hk
    subst this
    exact hd.not_foot hh h1 h2
end Go.Proofs.YtplpbbdakihnfaaGreat
end

section
namespace Go.Proofs.YtplpbbdakihnfaaGreat
open Go.RowKit
attribute [local go_sem ↓] Go.wp_at_zero Go.wp_at_succ
abbrev tMark : TypeId := 104
abbrev tMarks : TypeId := 100
def mkc (m : Mk) : List Value := [.int .u64 m.1, .int .u64 m.2]
def mks (l : List Mk) : List Value := l.flatMap mkc
theorem mks_length (l : List Mk) : (mks l).length = l.length * 2 := by
  induction l with
  | nil => rfl
  | cons p r ih => simp only [mks, List.flatMap_cons, List.length_append, mkc, List.length_cons, List.length_nil] at ih ⊢; omega
theorem mks_append (a b : List Mk) : mks (a ++ b) = mks a ++ mks b := by simp [mks]
theorem mks_one (m : Mk) : mks [m] = mkc m := by simp [mks]
theorem mks_get (l : List Mk) (i : Nat) (m : Mk) (h : l[i]? = some m) : (mks l)[i * 2]? = some (.int .u64 m.1) ∧ (mks l)[i * 2 + 1]? = some (.int .u64 m.2) := by
  induction l generalizing i with
  | nil => simp at h
  | cons y r ih =>
    have e : mks (y :: r) = mkc y ++ mks r := by simp [mks]
    rw [e]
    cases i with
    | zero =>
      simp only [List.getElem?_cons_zero, Option.some.injEq] at h
      subst h
      exact ⟨rfl, rfl⟩
    | succ i =>
      have := ih i (by simpa using h)
      have e1 : (i + 1) * 2 = (mkc y).length + i * 2 := by simp [mkc]; omega
      have e2 : (i + 1) * 2 + 1 = (mkc y).length + (i * 2 + 1) := by simp [mkc]; omega
      rw [e2, e1, List.getElem?_append_right (by omega), List.getElem?_append_right (by omega), Nat.add_sub_cancel_left, Nat.add_sub_cancel_left]
      exact this
theorem mkc_one_cell (m : Mk) : ∀ u ∈ mkc m, u.oneCell' = true := by
  intro u hu
  simp only [mkc, List.mem_cons, List.not_mem_nil, or_false] at hu
  rcases hu with rfl | rfl <;> rfl
theorem ti_mark : TI Tryz.prog tMark (.agg #[.int .u64 0, .int .u64 0]) 2 16 := (by kernel_rfl : (Tryz.prog.info? tMark).map (fun i => (i.zero, i.size, i.bytes)) = some (some (.agg #[.int .u64 0, .int .u64 0]), 2, 16))
theorem rd_mark (w : World) (m : Mk) : Rd (w.alloc (.cells (mkc m).toArray tMark)) tMark (some ⟨w.heap.size, 0, none⟩) (1 * 2) (mkc m) := by
  have := Rd.ofBlk (k := 2) (Blk.new w tMark (mkc m).toArray) (by simp [mkc])
  simpa [mkc] using this
def jnL (b : List UInt8) (gen : Nat) : List Mk := (jnRead b gen).getD []
theorem jnL_form {b : List UInt8} {gen : Nat} : jnL b gen = if jnForm b gen then jnMarks b (num (cut b 4 8)) else [] := by
  unfold jnL jnRead
  split <;> rfl
set_option maxRecDepth 100000 in
set_option maxHeartbeats 4000000 in
theorem tread_calls (A : Option Addr) (c : Nat) (b : List UInt8) (gen : Nat) (w : World) (hr : Rd w tU8 A 384 (bys b)) (hc : 384 ≤ c) (hg : gen < 18446744073709551616) :
    Calls Tryz.prog 64 #[.slice A 384 c, .int .u64 gen] w fun e w' => ∃ v, e = .returned (.tuple #[v, .bool (jnForm b gen)]) ∧ w'.ownsRow w.heap.size tMark 2 v (jnL b gen).length (mks (jnL b gen)) ∧ Chg No w w' := by
  have hbl : b.length = 384 := by rw [← bys_length]; exact hr.1
  obtain ⟨A1, hs1, hd1⟩ := sub_slice_h (P := Tryz.prog) Tryz.underlying40 ti_u8 A 384 c 4 (by omega)
  have hs1' : ∀ W : World, (Instr.sliceAt tBytes (.slice A 384 c) none (some (.int .i64 4)) none).run Tryz.prog W = _ := fun W => (run_sliceAt_slice W tBytes _ _ _ _ Tryz.underlying40).trans (hs1 W)
  obtain ⟨A2, hs2, hd2⟩ := sub_slice (P := Tryz.prog) Tryz.underlying40 ti_u8 A 384 c 4 8 (by omega) (by omega) (by omega)
  have hs2' : ∀ W : World, (Instr.sliceAt tBytes (.slice A 384 c) (some (.int .i64 4)) (some (.int .i64 8)) none).run Tryz.prog W = _ := fun W => (run_sliceAt_slice W tBytes _ _ _ _ Tryz.underlying40).trans (hs2 W)
  obtain ⟨A3, hs3, hd3⟩ := sub_slice (P := Tryz.prog) Tryz.underlying40 ti_u8 A 384 c 8 16 (by omega) (by omega) (by omega)
  have hs3' : ∀ W : World, (Instr.sliceAt tBytes (.slice A 384 c) (some (.int .i64 8)) (some (.int .i64 16)) none).run Tryz.prog W = _ := fun W => (run_sliceAt_slice W tBytes _ _ _ _ Tryz.underlying40).trans (hs3 W)
  have HR := Lib.hid hr
  have HD1 : Hid (∀ W, Chg No w W → Rd W tU8 A1 4 (bys (b.take 4))) := fun W hc => by rw [bys_take]; exact hd1 W tU8 (bys b) (HR.out.chg hc (fun _ _ _ _ h => h)) (by omega)
  have HD2 : Hid (∀ W, Chg No w W → Rd W tU8 A2 4 (bys (cut b 4 8))) := fun W hc => by unfold cut; rw [bys_take, bys_drop]; exact hd2 W tU8 (bys b) (HR.out.chg hc (fun _ _ _ _ h => h)) (by omega)
  have HD3 : Hid (∀ W, Chg No w W → Rd W tU8 A3 8 (bys (cut b 8 16))) := fun W hc => by unfold cut; rw [bys_take, bys_drop]; exact hd3 W tU8 (bys b) (HR.out.chg hc (fun _ _ _ _ h => h)) (by omega)
  simp only [Int.reduceToNat, Nat.reduceSub] at hs2 hs2' hs3 hs3'
  obtain ⟨q1, hq1⟩ : ∃ q1, q1 = decide (b.take 4 = [84, 79, 77, 66]) := ⟨_, rfl⟩
  obtain ⟨q4, hq4⟩ : ∃ q4, q4 = num (cut b 4 8) := ⟨_, rfl⟩
  obtain ⟨q5, hq5⟩ : ∃ q5, q5 = num (cut b 8 16) := ⟨_, rfl⟩
  have hq4l : q4 < 4294967296 := by rw [hq4]; exact num_lt4 (cut_len_le b 4 8)
  have HEQ : ∀ (W : World) (B : Option Addr), Hid (Chg No w W → Rd W tU8 B 4 (bys [84, 79, 77, 66]) → Calls Tryz.prog 93 #[.slice A1 4 c, .slice B 4 4] W fun e w' => e = .returned (.bool q1) ∧ Chg No W w') := fun W B => fun hc hr => by
    rw [hq1]; exact eqb_calls A1 B 4 4 c 4 _ _ W (HD1.out W hc) hr (by omega) (by omega)
  have HNU : ∀ (W : World), Hid (Chg No w W → Calls Tryz.prog 94 #[.slice A2 4 (c - 4)] W fun e w' => e = .returned (.int .u64 q4) ∧ W = w') := fun W => fun hc => by
    rw [hq4]; exact tnumber_calls A2 4 _ _ W (HD2.out W hc) (by omega)
  have HN3 : ∀ (W : World), Hid (Chg No w W → Calls Tryz.prog 94 #[.slice A3 8 (c - 8)] W fun e w' => e = .returned (.int .u64 q5) ∧ W = w') := fun W => fun hc => by
    rw [hq5]; exact tnumber_calls A3 8 _ _ W (HD3.out W hc) (by omega)
  have HF : Hid (jnForm b gen = (q1 && (decide (q4 ≤ 23) && decide (q5 = gen)))) := by show _ = _; unfold jnForm; rw [hq1, hq4, hq5]
  have HJL : Hid (jnL b gen = if jnForm b gen then jnMarks b q4 else []) := by show _ = _; rw [jnL_form, hq4]
  obtain ⟨jf, hjf⟩ : ∃ jf, jf = jnForm b gen := ⟨_, rfl⟩
  obtain ⟨jl, hjl⟩ : ∃ jl, jl = jnL b gen := ⟨_, rfl⟩
  rw [← hjf] at HF HJL ⊢
  rw [← hjl] at HJL ⊢
  have HBL := Lib.hid hbl
  clear hq1 hq4 hq5 hjf hjl hbl hr hd1 hd2 hd3 HD1 HD2 HD3
  cases q1 with
  | false =>
    have hjf : jf = false := by rw [HF.out]; rfl
    have hjl : jl = [] := by rw [HJL.out, hjf]; rfl
    subst hjf; subst hjl
    clear HF HJL
    go_enter Tryz.func64, Tryz.ntmps64
    go_wp2_with fail
    refine ((HNU _).out (by (repeat (first | (with_reducible exact Chg.refl _ _) | (with_reducible assumption) | (with_reducible refine Chg.drewN ?_ _) | (with_reducible refine Chg.drew ?_) | (with_reducible refine Chg.alloc ?_ _) | (with_reducible refine Chg.setCell ?_ (by first | (left; simp [DevH.foot]; done) | (right; simp; done) | (right; simp; omega)) _))))).mono ?_
    rintro e w1 ⟨rfl, hw1⟩
    have HC1 : Hid (Chg No w w1) := by show Chg No w w1; rw [← hw1]; (repeat (first | (with_reducible exact Chg.refl _ _) | (with_reducible assumption) | (with_reducible refine Chg.drewN ?_ _) | (with_reducible refine Chg.drew ?_) | (with_reducible refine Chg.alloc ?_ _) | (with_reducible refine Chg.setCell ?_ (by first | (left; simp [DevH.foot]; done) | (right; simp; done) | (right; simp; omega)) _)))
    clear hw1 hs2 hs2' HNU
    go_wp2_with fail
    first
      | (go_region_with
          ((first
            | (go_at_call 83; refine (tmagic_calls _).mono ?_; rintro e w' ⟨rfl, rfl⟩)
            | (go_at_call 93; refine ((HEQ _ _).out (by have := HC1.out; (repeat (first | (with_reducible exact Chg.refl _ _) | (with_reducible assumption) | (with_reducible refine Chg.drewN ?_ _) | (with_reducible refine Chg.drew ?_) | (with_reducible refine Chg.alloc ?_ _) | (with_reducible refine Chg.setCell ?_ (by first | (left; simp [DevH.foot]; done) | (right; simp; done) | (right; simp; omega)) _)))) (by first | exact rd_tmagic _ | exact (rd_tmagic _).drewN _)).mono ?_; rintro e w' ⟨rfl, hc'⟩; have hc9 : Chg No w1 w' := (by (repeat (first | (with_reducible exact Chg.refl _ _) | (with_reducible assumption) | (with_reducible refine Chg.drewN ?_ _) | (with_reducible refine Chg.drew ?_) | (with_reducible refine Chg.alloc ?_ _) | (with_reducible refine Chg.setCell ?_ (by first | (left; simp [DevH.foot]; done) | (right; simp; done) | (right; simp; omega)) _))) : Chg No w1 _).trans hc'; clear hc'))))
      | fail "region"
    all_goals
      go_wp2
      go_ret2
      exact ⟨_, rfl, World.ownsRow_nil _ _ _ _, HC1.out.trans (by (repeat (first | (with_reducible exact Chg.refl _ _) | (with_reducible assumption) | (with_reducible refine Chg.drewN ?_ _) | (with_reducible refine Chg.drew ?_) | (with_reducible refine Chg.alloc ?_ _) | (with_reducible refine Chg.setCell ?_ (by first | (left; simp [DevH.foot]; done) | (right; simp; done) | (right; simp; omega)) _))))⟩
  | true =>
    by_cases z : q4 ≤ 23
    rotate_left
    · have hjf : jf = false := by rw [HF.out]; simp [z]
      have hjl : jl = [] := by rw [HJL.out, hjf]; rfl
      have b4 : decide ((23 : Int) < (q4 : Int)) = true := by simp; omega
      subst hjf; subst hjl
      clear z
      clear HF HJL
      go_enter Tryz.func64, Tryz.ntmps64
      go_wp2_with fail
      refine ((HNU _).out (by (repeat (first | (with_reducible exact Chg.refl _ _) | (with_reducible assumption) | (with_reducible refine Chg.drewN ?_ _) | (with_reducible refine Chg.drew ?_) | (with_reducible refine Chg.alloc ?_ _) | (with_reducible refine Chg.setCell ?_ (by first | (left; simp [DevH.foot]; done) | (right; simp; done) | (right; simp; omega)) _))))).mono ?_
      rintro e w1 ⟨rfl, hw1⟩
      have HC1 : Hid (Chg No w w1) := by show Chg No w w1; rw [← hw1]; (repeat (first | (with_reducible exact Chg.refl _ _) | (with_reducible assumption) | (with_reducible refine Chg.drewN ?_ _) | (with_reducible refine Chg.drew ?_) | (with_reducible refine Chg.alloc ?_ _) | (with_reducible refine Chg.setCell ?_ (by first | (left; simp [DevH.foot]; done) | (right; simp; done) | (right; simp; omega)) _)))
      clear hw1 hs2 hs2' HNU
      go_wp2_with fail
      first
        | (go_region_with
            ((first
              | (go_at_call 83; refine (tmagic_calls _).mono ?_; rintro e w' ⟨rfl, rfl⟩)
              | (go_at_call 93; refine ((HEQ _ _).out (by have := HC1.out; (repeat (first | (with_reducible exact Chg.refl _ _) | (with_reducible assumption) | (with_reducible refine Chg.drewN ?_ _) | (with_reducible refine Chg.drew ?_) | (with_reducible refine Chg.alloc ?_ _) | (with_reducible refine Chg.setCell ?_ (by first | (left; simp [DevH.foot]; done) | (right; simp; done) | (right; simp; omega)) _)))) (by first | exact rd_tmagic _ | exact (rd_tmagic _).drewN _)).mono ?_; rintro e w' ⟨rfl, hc'⟩; have hc9 : Chg No w1 w' := (by (repeat (first | (with_reducible exact Chg.refl _ _) | (with_reducible assumption) | (with_reducible refine Chg.drewN ?_ _) | (with_reducible refine Chg.drew ?_) | (with_reducible refine Chg.alloc ?_ _) | (with_reducible refine Chg.setCell ?_ (by first | (left; simp [DevH.foot]; done) | (right; simp; done) | (right; simp; omega)) _))) : Chg No w1 _).trans hc'; clear hc'))))
        | fail "region"
      all_goals
        go_wp2
        go_ret2
        exact ⟨_, rfl, World.ownsRow_nil _ _ _ _, HC1.out.trans (by (repeat (first | (with_reducible exact Chg.refl _ _) | (with_reducible assumption) | (with_reducible refine Chg.drewN ?_ _) | (with_reducible refine Chg.drew ?_) | (with_reducible refine Chg.alloc ?_ _) | (with_reducible refine Chg.setCell ?_ (by first | (left; simp [DevH.foot]; done) | (right; simp; done) | (right; simp; omega)) _))))⟩
    by_cases z5 : q5 = gen
    rotate_left
    · have hjf : jf = false := by rw [HF.out]; simp [z5]
      have hjl : jl = [] := by rw [HJL.out, hjf]; rfl
      have b4 : decide ((23 : Int) < (q4 : Int)) = false := by simp; omega
      have b5 : ((q5 : Int) != (gen : Int)) = true := by simp; omega
      have b5' : ¬ (q5 : Int) = (gen : Int) := by omega
      subst hjf; subst hjl
      clear z z5
      clear HF HJL
      go_enter Tryz.func64, Tryz.ntmps64
      go_wp2_with fail
      refine ((HNU _).out (by (repeat (first | (with_reducible exact Chg.refl _ _) | (with_reducible assumption) | (with_reducible refine Chg.drewN ?_ _) | (with_reducible refine Chg.drew ?_) | (with_reducible refine Chg.alloc ?_ _) | (with_reducible refine Chg.setCell ?_ (by first | (left; simp [DevH.foot]; done) | (right; simp; done) | (right; simp; omega)) _))))).mono ?_
      rintro e w1 ⟨rfl, hw1⟩
      have HC1 : Hid (Chg No w w1) := by show Chg No w w1; rw [← hw1]; (repeat (first | (with_reducible exact Chg.refl _ _) | (with_reducible assumption) | (with_reducible refine Chg.drewN ?_ _) | (with_reducible refine Chg.drew ?_) | (with_reducible refine Chg.alloc ?_ _) | (with_reducible refine Chg.setCell ?_ (by first | (left; simp [DevH.foot]; done) | (right; simp; done) | (right; simp; omega)) _)))
      clear hw1 hs2 hs2' HNU
      go_wp2_with fail
      go_region_held3 (fun _ => True) (exact trivial)
        ((first
          | (go_at_call 83; refine (tmagic_calls _).mono ?_; rintro e w' ⟨rfl, rfl⟩)
          | (go_at_call 93; refine ((HEQ _ _).out (by have := HC1.out; (repeat (first | (with_reducible exact Chg.refl _ _) | (with_reducible assumption) | (with_reducible refine Chg.drewN ?_ _) | (with_reducible refine Chg.drew ?_) | (with_reducible refine Chg.alloc ?_ _) | (with_reducible refine Chg.setCell ?_ (by first | (left; simp [DevH.foot]; done) | (right; simp; done) | (right; simp; omega)) _)))) (by first | exact rd_tmagic _ | exact (rd_tmagic _).drewN _)).mono ?_; rintro e w' ⟨rfl, hc'⟩; have hc9 : Chg No w1 w' := (by (repeat (first | (with_reducible exact Chg.refl _ _) | (with_reducible assumption) | (with_reducible refine Chg.drewN ?_ _) | (with_reducible refine Chg.drew ?_) | (with_reducible refine Chg.alloc ?_ _) | (with_reducible refine Chg.setCell ?_ (by first | (left; simp [DevH.foot]; done) | (right; simp; done) | (right; simp; omega)) _))) : Chg No w1 _).trans hc'; clear hc')
          | (go_at_call 94; refine ((HN3 _).out (by have := HC1.out; exact this.trans (by (repeat (first | (with_reducible exact Chg.refl _ _) | (with_reducible assumption) | (with_reducible refine Chg.drewN ?_ _) | (with_reducible refine Chg.drew ?_) | (with_reducible refine Chg.alloc ?_ _) | (with_reducible refine Chg.setCell ?_ (by first | (left; simp [DevH.foot]; done) | (right; simp; done) | (right; simp; omega)) _)))))).mono ?_; rintro e w' ⟨rfl, rfl⟩)))
      all_goals
        go_wp2
        go_ret2
        exact ⟨_, rfl, World.ownsRow_nil _ _ _ _, HC1.out.trans (by (repeat (first | (with_reducible exact Chg.refl _ _) | (with_reducible assumption) | (with_reducible refine Chg.drewN ?_ _) | (with_reducible refine Chg.drew ?_) | (with_reducible refine Chg.alloc ?_ _) | (with_reducible refine Chg.setCell ?_ (by first | (left; simp [DevH.foot]; done) | (right; simp; done) | (right; simp; omega)) _))))⟩
    have hjf : jf = true := by rw [HF.out]; simp [z, z5]
    have hjl : jl = jnMarks b q4 := by rw [HJL.out, hjf]; rfl
    have b4 : decide ((23 : Int) < (q4 : Int)) = false := by simp; omega
    have b5 : ((q5 : Int) != (gen : Int)) = false := by rw [z5]; simp
    have HJ2 := Lib.hid hjl
    subst hjf
    subst z5
    clear HF HJL hjl
    go_enter Tryz.func64, Tryz.ntmps64
    go_wp2_with fail
    refine ((HNU _).out (by (repeat (first | (with_reducible exact Chg.refl _ _) | (with_reducible assumption) | (with_reducible refine Chg.drewN ?_ _) | (with_reducible refine Chg.drew ?_) | (with_reducible refine Chg.alloc ?_ _) | (with_reducible refine Chg.setCell ?_ (by first | (left; simp [DevH.foot]; done) | (right; simp; done) | (right; simp; omega)) _))))).mono ?_
    rintro e w1 ⟨rfl, hw1⟩
    have HC1 : Hid (Chg No w w1) := by show Chg No w w1; rw [← hw1]; (repeat (first | (with_reducible exact Chg.refl _ _) | (with_reducible assumption) | (with_reducible refine Chg.drewN ?_ _) | (with_reducible refine Chg.drew ?_) | (with_reducible refine Chg.alloc ?_ _) | (with_reducible refine Chg.setCell ?_ (by first | (left; simp [DevH.foot]; done) | (right; simp; done) | (right; simp; omega)) _)))
    clear hw1 hs2 hs2' HNU
    go_wp2_with fail
    go_region_held3 (fun _ => True) (exact trivial)
      ((first
        | (go_at_call 83; refine (tmagic_calls _).mono ?_; rintro e w' ⟨rfl, rfl⟩)
        | (go_at_call 93; refine ((HEQ _ _).out (by have := HC1.out; (repeat (first | (with_reducible exact Chg.refl _ _) | (with_reducible assumption) | (with_reducible refine Chg.drewN ?_ _) | (with_reducible refine Chg.drew ?_) | (with_reducible refine Chg.alloc ?_ _) | (with_reducible refine Chg.setCell ?_ (by first | (left; simp [DevH.foot]; done) | (right; simp; done) | (right; simp; omega)) _)))) (by first | exact rd_tmagic _ | exact (rd_tmagic _).drewN _)).mono ?_; rintro e w' ⟨rfl, hc'⟩; have hc9 : Chg No w1 w' := (by (repeat (first | (with_reducible exact Chg.refl _ _) | (with_reducible assumption) | (with_reducible refine Chg.drewN ?_ _) | (with_reducible refine Chg.drew ?_) | (with_reducible refine Chg.alloc ?_ _) | (with_reducible refine Chg.setCell ?_ (by first | (left; simp [DevH.foot]; done) | (right; simp; done) | (right; simp; omega)) _))) : Chg No w1 _).trans hc'; clear hc')
        | (go_at_call 94; refine ((HN3 _).out (by have := HC1.out; exact this.trans (by (repeat (first | (with_reducible exact Chg.refl _ _) | (with_reducible assumption) | (with_reducible refine Chg.drewN ?_ _) | (with_reducible refine Chg.drew ?_) | (with_reducible refine Chg.alloc ?_ _) | (with_reducible refine Chg.setCell ?_ (by first | (left; simp [DevH.foot]; done) | (right; simp; done) | (right; simp; omega)) _)))))).mono ?_; rintro e w' ⟨rfl, rfl⟩)))
    all_goals
      have HC2 : Hid (Chg No w w') := HC1.out.trans hc9
      clear hc9 hs1 hs1' hs3 hs3' HEQ HN3 HC1
      have hew : IntKind.i64.wrap (q4 : Int) = q4 := IntWalk.i64_in _ (by omega)
      go_wp2
      go_loopg [7, 31] q4 (fun gk v7 vi wr => ∃ (k : Nat) (v9 : Value), v9 = v7 ∧ gk = q4 - k ∧ k ≤ q4 ∧ vi = .int .i64 k ∧ Hid (wr.ownsRow w.heap.size tMark 2 v9 k (mks (jnMarks b k)) ∧ Chg No w wr))
      case atStart => exact ⟨0, _, rfl, rfl, Nat.zero_le _, rfl, World.ownsRow_nil _ _ _ _, HC2.out⟩
      case round =>
        obtain ⟨k, v9, rfl, rfl, hk, rfl, H⟩ := hrel
        by_cases hlt : k < q4
        · have hkq : (k : Int) < (q4 : Int) := by omega
          have et : (16 + 16 * (k : Int)).toNat = 16 + 16 * k := by omega
          obtain ⟨A4, hs4, hd4⟩ := sub_slice_l (P := Tryz.prog) Tryz.underlying40 ti_u8 A 384 c (16 + 16 * (k : Int)) (by omega) (by omega) hc
          rw [et] at hs4 hd4
          obtain ⟨n4, hn4⟩ : ∃ n4, n4 = 384 - (16 + 16 * k) := ⟨_, rfl⟩
          obtain ⟨c4, hc4⟩ : ∃ c4, c4 = c - (16 + 16 * k) := ⟨_, rfl⟩
          rw [← hn4] at hs4 hd4
          rw [← hc4] at hs4
          have hs4' : ∀ W : World, (Instr.sliceAt tBytes (.slice A 384 c) (some (.int .i64 (16 + 16 * (k : Int)))) none none).run Tryz.prog W = _ := fun W => (run_sliceAt_slice W tBytes _ _ _ _ Tryz.underlying40).trans (hs4 W)
          obtain ⟨A5, hs5, hd5⟩ := sub_slice_h (P := Tryz.prog) Tryz.underlying40 ti_u8 A4 n4 c4 8 (by omega)
          have hs5' : ∀ W : World, (Instr.sliceAt tBytes (.slice A4 n4 c4) none (some (.int .i64 8)) none).run Tryz.prog W = _ := fun W => (run_sliceAt_slice W tBytes _ _ _ _ Tryz.underlying40).trans (hs5 W)
          obtain ⟨A6, hs6, hd6⟩ := sub_slice (P := Tryz.prog) Tryz.underlying40 ti_u8 A4 n4 c4 8 16 (by omega) (by omega) (by omega)
          have hs6' : ∀ W : World, (Instr.sliceAt tBytes (.slice A4 n4 c4) (some (.int .i64 8)) (some (.int .i64 16)) none).run Tryz.prog W = _ := fun W => (run_sliceAt_slice W tBytes _ _ _ _ Tryz.underlying40).trans (hs6 W)
          simp only [Int.reduceToNat, Nat.reduceSub] at hs5 hs5' hs6 hs6'
          have hr4 : ∀ W, Chg No w W → Rd W tU8 A4 n4 (bys (b.drop (16 + 16 * k))) := fun W hc => by
            have := hd4 W tU8 (bys b) (HR.out.chg hc (fun _ _ _ _ h => h))
            rw [Nat.mul_one, Nat.mul_one, ← bys_drop] at this
            exact this
          have e5 : (b.drop (16 + 16 * k)).take 8 = cut b (16 + 16 * k) (24 + 16 * k) := by unfold cut; congr 1; omega
          have e6 : ((b.drop (16 + 16 * k)).drop 8).take 8 = cut b (24 + 16 * k) (32 + 16 * k) := by unfold cut; rw [List.drop_drop, show 16 + 16 * k + 8 = 24 + 16 * k by omega]; congr 1; omega
          obtain ⟨y1, hy1⟩ : ∃ y, y = num (cut b (16 + 16 * k) (24 + 16 * k)) := ⟨_, rfl⟩
          obtain ⟨y2, hy2⟩ : ∃ y, y = num (cut b (24 + 16 * k) (32 + 16 * k)) := ⟨_, rfl⟩
          have HN5 : ∀ W, Hid (Chg No w W → Calls Tryz.prog 94 #[.slice A5 8 c4] W fun e w' => e = .returned (.int .u64 y1) ∧ W = w') := fun W => fun hc => by
            rw [hy1]
            refine tnumber_calls A5 8 _ _ W ?_ (by omega)
            have := hd5 W tU8 _ (by rw [Nat.mul_one]; exact hr4 W hc) (by omega)
            rw [← bys_take, e5] at this
            exact this
          have HN6 : ∀ W, Hid (Chg No w W → Calls Tryz.prog 94 #[.slice A6 8 (c4 - 8)] W fun e w' => e = .returned (.int .u64 y2) ∧ W = w') := fun W => fun hc => by
            rw [hy2]
            refine tnumber_calls A6 8 _ _ W ?_ (by omega)
            have := hd6 W tU8 _ (by rw [Nat.mul_one]; exact hr4 W hc) (by omega)
            rw [Nat.mul_one, Nat.mul_one, ← bys_drop, ← bys_take] at this
            exact e6 ▸ this
          have HMK : Hid (mks (jnMarks b (k + 1)) = mks (jnMarks b k) ++ mkc (y1, y2)) := by
            show _ = _
            rw [← mks_one, ← mks_append]
            unfold jnMarks
            rw [List.range_succ, List.map_append]
            congr 2
            simp only [List.map_cons, List.map_nil, jnMark, hy1, hy2]
          have HWZ : Hid (w.heap.size ≤ wr.heap.size) := H.out.2.size
          clear hd4 hd5 hd6 hr4 e5 e6 hy1 hy2 et hn4 hc4
          go_wp2_with fail
          have HH := Lib.hid H.out.1
          have HCW := Lib.hid H.out.2
          have h02 : 0 < 2 := by omega
          have h63 : k + 1 ≤ maxLen := by simp only [maxLen]; omega
          have hby : (k + 1) * 16 ≤ 140737488355328 := by omega
          have HHD : Hid ((wr.alloc (.cells #[.int .u64 y1, .int .u64 y2] tMark)).drew.ownsRow w.heap.size tMark 2 v9 k (mks (jnMarks b k))) := HH.out.alloc _
          have HRD : Hid (Rd (wr.alloc (.cells #[.int .u64 y1, .int .u64 y2] tMark)).drew tMark (some ⟨wr.heap.size, 0, none⟩) (1 * 2) (mkc (y1, y2))) := (rd_mark wr (y1, y2)).drew
          have HCD : Hid (Chg No w (wr.alloc (.cells #[.int .u64 y1, .int .u64 y2] tMark)).drew) := (HCW.out.alloc _).drew
          clear H
          go_region_held3 (fun _ => True) (exact trivial)
            ((first
              | (go_at_call 94
                 first
                   | (with_reducible refine Calls.mono ((HN5 _).out ?_) ?_
                      · exact HCW.out.trans (by (repeat (first | (with_reducible exact Chg.refl _ _) | (with_reducible assumption) | (with_reducible refine Chg.drewN ?_ _) | (with_reducible refine Chg.drew ?_) | (with_reducible refine Chg.alloc ?_ _) | (with_reducible refine Chg.setCell ?_ (by first | (left; simp [DevH.foot]; done) | (right; simp; done) | (right; simp; omega)) _))))
                      rintro e w3 ⟨rfl, rfl⟩)
                   | (with_reducible refine Calls.mono ((HN6 _).out ?_) ?_
                      · exact HCW.out.trans (by (repeat (first | (with_reducible exact Chg.refl _ _) | (with_reducible assumption) | (with_reducible refine Chg.drewN ?_ _) | (with_reducible refine Chg.drew ?_) | (with_reducible refine Chg.alloc ?_ _) | (with_reducible refine Chg.setCell ?_ (by first | (left; simp [DevH.foot]; done) | (right; simp; done) | (right; simp; omega)) _))))
                      rintro e w3 ⟨rfl, rfl⟩))
              | ((refine step_app _ rfl (.tmp 39) (.tmp 47) tMarks rfl tMark Tryz.underlying100 ti_mark rfl h02 w.heap.size _ k _ rfl HHD.out tMark _ 1 1 (mkc (y1, y2)) rfl HRD.out (mkc_one_cell (y1, y2)) h63 hby HCD.out.size ?_); intro v6 w6 ho6 hg6 hb6; have HO6 : Hid (w6.ownsRow w.heap.size tMark 2 v6 (k + 1) (mks (jnMarks b (k + 1)))) := (by show World.ownsRow _ _ _ _ _ _ _; rw [HMK.out]; exact ho6); have HC6 : Hid (Chg No w w6) := Chg.grown HCD.out hg6 (fun j hj => .inr (own_new HH.out j hj)); clear ho6 hg6 hb6)))
          all_goals
            go_wp2
            go_roundg (q4 - (k + 1))
            case measure => omega
            case rel => exact ⟨k + 1, _, rfl, rfl, by omega, by go_num, HO6.out, HC6.out⟩
        · obtain rfl : k = q4 := by omega
          go_wp2
          go_ret2
          refine ⟨_, rfl, ?_, H.out.2⟩
          rw [HJ2.out]
          have : (jnMarks b k).length = k := by simp [jnMarks]
          rw [this]
          exact H.out.1
end Go.Proofs.YtplpbbdakihnfaaGreat
end
