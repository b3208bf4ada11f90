/- slices.Clone, IndexFunc, DeleteFunc on items; bucket.without. -/
import Derived.Test.YtinofdfjaopdcaaItems
import Derived.Test.YtinofdfjaopdcaaConv
import Derived.Test.YtinofdfjaopdcaaZeros
namespace Go.Proofs.Ytinofdfjaopdcaa
open Go.RowKit
set_option linter.unusedSimpArgs false
set_option linter.unusedVariables false

def keyed (key : ByteArray) (x : Item) : Bool := decide (x.key = key)
theorem str_eq (a b : ByteArray) : (a.toList == b.toList) = decide (a = b) := by
  rw [ByteArray.toList_eq, ByteArray.toList_eq, Bool.eq_iff_iff]
  simp only [beq_iff_eq, decide_eq_true_eq]
  exact ⟨fun h => ByteArray.ext (Array.toList_inj.1 h), fun h => by rw [h]⟩
def rid (l : List Item) (key : ByteArray) : List Item := l.filter fun x => !keyed key x

-- the closure of bucket.without: the key lies in block kb
set_option maxRecDepth 100000 in
theorem test_calls (kb : Nat) (key : ByteArray) (x : Item) (w : World) (hk : Blk w kb 9 #[.string key]) :
    Calls Try.prog 94 #[.agg #[.string x.key, .string x.val, .int .u32 x.flags.toNat, .int .i64 x.exp.toInt, .int .u64 x.ver.toNat], .pointer (some ⟨kb, 0, none⟩)] w fun e w' => e = .returned (.bool (keyed key x)) ∧ Chg No w w' := by
  have c := hk.cell 0
  simp at c
  have hl := hk.lt
  go_enter Try.func94, Try.ntmps94
  go_wp2
  go_ret
  exact ⟨congrArg (fun b => Ending.returned (.bool b)) (str_eq _ _), (Chg.refl _ _).alloc _⟩

theorem own_slice2 {w : World} {base e size n : Nat} {v : Value} {xs : List Value} (h : w.ownsRow base e size v n xs) : ∃ A c, v = .slice A n c ∧ n ≤ c ∧ Rd w e A (n * size) xs ∧ (A = none → c = 0) := by
  rcases h.2 with ⟨rfl, rfl⟩ | ⟨g, cap, cur, rfl, hb, hg, hnc, rest⟩
  · exact ⟨none, 0, rfl, Nat.le_refl _, Rd.ofOwn h, fun _ => rfl⟩
  · exact ⟨_, cap, rfl, hnc, Rd.ofOwn h, fun h => by cases h⟩

set_option maxRecDepth 100000 in
theorem clone_calls (A : Option Addr) (c : Nat) (l : List Item) (w : World) (hr : Rd w tItem A (l.length * 5) (its l)) (hn : l.length ≤ 10000000) (h0 : A = none → c = 0) :
    Calls Try.prog 93 #[.slice A l.length c] w fun e w' => ∃ v, e = .returned v ∧ w'.ownsRow w.heap.size tItem 5 v l.length (its l) ∧ Chg No w w' := by
  rcases A with _ | a
  · have : l = [] := by
      cases l with
      | nil => rfl
      | cons x r =>
        obtain ⟨g, off, cur, fz, h, _⟩ := hr.2 (by simp)
        cases h
    subst this
    have := h0 rfl
    subst this
    have he : ∀ w : World, (binOp .eql 33 (.slice none 0 0) (.slice none 0 0)).run Try.prog w = .ok (.bool true) w := fun _ => rfl
    clear hr hn h0
    simp only [List.length_nil]
    go_enter Try.func93, Try.ntmps93
    go_wp2
    go_ret
    exact ⟨_, rfl, World.ownsRow_nil _ _ _ _, Chg.refl _ _⟩
  · have HR := Lib.hid hr
    have he : ∀ w : World, (binOp .eql 33 (.slice (some a) l.length c) (.slice none 0 0)).run Try.prog w = .ok (.bool false) w := fun _ => rfl
    clear hr h0
    go_enter Try.func93, Try.ntmps93
    go_wp2_with (first
      | (at_builtin; go_loud (refine wpList_app _ rfl (.tmp 5) (.tmp 6) 33 rfl tItem Try.underlying33 ti_item rfl (by omega) w.heap.size _ 0 [] rfl (own_empty w tItem 5) tItem _ l.length c (its l) rfl (HR.out.alloc _) its_one_cell (by simp only [maxLen]; omega) (by omega) (by simp) ?_; intro v2 w2 ho2 hg2 hb2; have HO2 := Lib.hid ho2; have HG2 := Lib.hid hg2; clear ho2 hg2 hb2)))
    go_ret
    refine ⟨_, rfl, ?_, ((Chg.refl _ _).alloc _).grown HG2.out (fun k' hk' => ?_)⟩
    · simpa using HO2.out
    · exact .inr (own_new (own_empty w tItem 5) k' hk')

theorem zero_one {n : Nat} : ∀ u ∈ (Builtin.zeroCells (itemV Item.zero).cells n).toList, u.oneCell' = true := by
  intro u hu
  have hc : (itemV Item.zero).cells = #[.string ByteArray.empty, .string ByteArray.empty, .int .u32 0, .int .i64 0, .int .u64 0] := rfl
  simp only [Builtin.zeroCells, hc, Array.mem_toList_iff, Array.mem_map] at hu
  obtain ⟨i, _, rfl⟩ := hu
  have hi : i % 5 < 5 := Nat.mod_lt _ (by decide)
  show (#[Value.string ByteArray.empty, .string ByteArray.empty, .int .u32 0, .int .i64 0, .int .u64 0][i % 5]!).oneCell' = true
  generalize i % 5 = k at hi
  match k, hi with
  | 0, _ => rfl
  | 1, _ => rfl
  | 2, _ => rfl
  | 3, _ => rfl
  | 4, _ => rfl
theorem drop_get {α : Type} {m l : List α} {b : Nat} {y : α} (h : m.drop b = l.drop b) (hy : m[b]? = some y) : l[b]? = some y := by
  have h1 : (m.drop b)[0]? = (l.drop b)[0]? := by rw [h]
  simpa [hy] using h1.symm
theorem drop_succ {α : Type} {m l : List α} {b : Nat} (h : m.drop b = l.drop b) : m.drop (b + 1) = l.drop (b + 1) := by
  rw [← List.drop_drop, ← List.drop_drop, h]
theorem run_clr {P : Program} (W : World) {t e ty : TypeId} {z : Value} {size bytes : Nat} (ht : P.underlying t = some (.slice e)) (hi : TI P e z size bytes) (hzs : z.cells.size = size)
    (g o n c : Nat) {e' : TypeId} {cur : Array Value} (hg : Blk W g e' cur) (hfit : o + n * size ≤ cur.size) (h1 : ∀ u ∈ (Builtin.zeroCells z.cells n).toList, u.oneCell' = true) :
    ∃ W', (Builtin.clear_ #[t] ty #[.slice (some ⟨g, o, none⟩) n c]).run P W = .ok (.tuple #[]) W' ∧ Chg (fun i => i = g) W W' ∧ ∃ cur', Blk W' g e' cur' ∧ cur'.size = cur.size ∧ cur'.toList.take o = cur.toList.take o := by
  obtain ⟨i, hi', hz, hs, hby⟩ := info_parts hi
  cases n with
  | zero => exact ⟨W, by simp [Builtin.clear_, run_underlying ht], Chg.refl _ _, cur, hg, rfl, rfl⟩
  | succ n =>
    obtain ⟨news, hnews⟩ : ∃ news, news = (Builtin.zeroCells z.cells (n + 1)).toList := ⟨_, rfl⟩
    have hl : news.length = (n + 1) * size := by rw [hnews, Array.length_toList, size_zeroCells, hzs]
    rw [← hnews] at h1
    obtain ⟨cur', h3, h4, h5⟩ := Zs.setCells_row news o W cur hg (by rw [hl]; exact hfit)
    obtain ⟨s1, s2, s3, s4⟩ := Zs.setCells_same g news o W
    have hst := run_storeCells_cells (P := P) g o news 0 W (fun j hj => by rw [cell_of_row W g _ cur e' (0, 0) hg]; simp; omega) (fun j _ => Zs.blk_frozen hg _) h1
    simp only [Nat.add_zero] at hst
    refine ⟨W.setCells g o news, ?_, ⟨s1, s2, s3, by rw [s4]; exact Nat.le_refl _, fun k _ hk => Zs.setCells_far news _ k hk⟩, cur', h3, h4, ?_⟩
    · simp [Builtin.clear_, run_underlying ht, zeroValue, typeInfo, hi', hz, ← hnews]
      simp only [hst]
      rfl
    · rw [h5, List.append_assoc, List.take_append_of_le_length (by rw [List.length_take, Array.length_toList]; omega), List.take_take, Nat.min_self]

theorem its_set (m : List Item) (a : Nat) (y : Item) (ha : a < m.length) : its (m.set a y) = (((((its m).set (a * 5) (.string y.key)).set (a * 5 + 1) (.string y.val)).set (a * 5 + 2) (.int .u32 y.flags.toNat)).set (a * 5 + 3) (.int .i64 y.exp.toInt)).set (a * 5 + 4) (.int .u64 y.ver.toNat) := by
  induction m generalizing a with
  | nil => simp at ha
  | cons x r ih =>
    cases a with
    | zero => simp [its_cons, itc]
    | succ a =>
      have e : (itc x).length = 5 := by simp [itc]
      have ha' : a < r.length := by simpa using ha
      rw [List.set_cons_succ, its_cons, its_cons, ih a ha']
      have e0 : (a + 1) * 5 = (itc x).length + a * 5 := by omega
      have es : ∀ (t : List Value) (j : Nat) (u : Value), (itc x ++ t).set ((itc x).length + j) u = itc x ++ t.set j u := by
        intro t j u
        rw [List.set_append_right _ _ (Nat.le_add_right _ _), Nat.add_sub_cancel_left]
      rw [e0, es, Nat.add_assoc, Nat.add_assoc, Nat.add_assoc, Nat.add_assoc, es, es, es, es]

def Idx (key : ByteArray) (l : List Item) (i : Int) : Prop := (i = -1 ∧ ∀ x ∈ l, keyed key x = false) ∨ ∃ k : Nat, i = k ∧ k < l.length ∧ (∀ x ∈ l.take k, keyed key x = false) ∧ ∃ x, l[k]? = some x ∧ keyed key x = true

set_option maxRecDepth 100000 in
theorem index_calls (A : Option Addr) (c kb : Nat) (key : ByteArray) (l : List Item) (w : World) (hr : Rd w tItem A (l.length * 5) (its l)) (hn : l.length ≤ 10000000) (hk : Blk w kb 9 #[.string key]) :
    Calls Try.prog 103 #[.slice A l.length c, .func (.func 94) #[] #[.pointer (some ⟨kb, 0, none⟩)]] w
      fun e w' => ∃ i : Int, e = .returned (.int .i64 i) ∧ Idx key l i ∧ Chg No w w' := by
  have HR := Lib.hid hr
  have HK := Lib.hid hk
  clear hr hk
  go_enter Try.func103, Try.ntmps103
  go_wp2
  go_loopg [8] l.length (fun g v8 wr => ∃ k : Nat, v8 = .int .i64 k ∧ k ≤ l.length ∧ g = l.length - k ∧ Hid (Chg No w wr ∧ ∀ x ∈ l.take k, keyed key x = false))
  case atStart => exact ⟨0, rfl, by omega, rfl, ⟨Chg.refl _ _, by simp⟩⟩
  case round =>
    obtain ⟨k, rfl, hk, rfl, H⟩ := hrel
    by_cases h0 : k < l.length
    · obtain ⟨x, hx⟩ : ∃ x, l[k]? = some x := ⟨_, List.getElem?_eq_getElem h0⟩
      have hr1 : Rd wr tItem A (l.length * 5) (its l) := HR.out.chg H.out.1 (fun _ _ _ _ h => h)
      have hk1 : Blk wr kb 9 #[.string key] := HK.out.chg H.out.1 (fun h => h)
      obtain ⟨g, off, rfl, hg, hc⟩ := hr1.at_ (j := k * 5) (by omega)
      have c0 := hc (k * 5 + 0) _ (its_get l k 0 x hx (by omega))
      have c1 := hc (k * 5 + 1) _ (its_get l k 1 x hx (by omega))
      have c2 := hc (k * 5 + 2) _ (its_get l k 2 x hx (by omega))
      have c3 := hc (k * 5 + 3) _ (its_get l k 3 x hx (by omega))
      have c4 := hc (k * 5 + 4) _ (its_get l k 4 x hx (by omega))
      simp only [itc, List.getElem_cons_zero, List.getElem_cons_succ, ← Nat.add_assoc, Nat.add_zero] at c0 c1 c2 c3 c4
      have HX := Lib.hid hx
      have HT := Lib.hid (test_calls kb key x wr hk1)
      clear hx hr1 hk1 hc
      cases hb : keyed key x with
      | true =>
        rw [hb] at HT
        have HB := Lib.hid hb
        clear hb
        go_wp2_with fail
        refine HT.out.mono ?_
        rintro e w1 ⟨rfl, hc1⟩
        have HC1 := Lib.hid hc1
        clear hc1
        go_wp2
        go_ret
        exact ⟨(k : Int), rfl, .inr ⟨k, rfl, h0, H.out.2, x, HX.out, HB.out⟩, H.out.1.trans HC1.out⟩
      | false =>
        rw [hb] at HT
        have HB := Lib.hid hb
        clear hb
        go_wp2_with fail
        refine HT.out.mono ?_
        rintro e w1 ⟨rfl, hc1⟩
        have HC1 := Lib.hid hc1
        clear hc1
        go_wp2
        go_roundg (l.length - (k + 1))
        case measure => omega
        case rel =>
          refine ⟨k + 1, rfl, by omega, rfl, H.out.1.trans HC1.out, ?_⟩
          intro y hy
          rw [List.take_add_one, HX.out] at hy
          rcases List.mem_append.1 hy with hy | hy
          · exact H.out.2 y hy
          · simp at hy
            rw [hy]; exact HB.out
    · have e3 : k = l.length := by omega
      have := H.out
      rw [e3, List.take_length] at this
      have HH := Lib.hid this
      clear this H
      go_wp2
      go_ret
      exact ⟨-1, rfl, .inl ⟨rfl, HH.out.2⟩, HH.out.1⟩

set_option maxRecDepth 100000 in
theorem delete_calls (g cap kb : Nat) (key : ByteArray) (l : List Item) (w : World) (base : Nat) (hown : w.ownsRow base tItem 5 (.slice (some ⟨g, 0, none⟩) l.length cap) l.length (its l)) (hn : l.length ≤ 10000000) (hk : Blk w kb 9 #[.string key]) :
    Calls Try.prog 92 #[.slice (some ⟨g, 0, none⟩) l.length cap, .func (.func 94) #[] #[.pointer (some ⟨kb, 0, none⟩)]] w
      fun e w' => e = .returned (.slice (some ⟨g, 0, none⟩) (rid l key).length cap) ∧ w'.ownsRow base tItem 5 (.slice (some ⟨g, 0, none⟩) (rid l key).length cap) (rid l key).length (its (rid l key)) ∧ Chg (fun i => i = g) w w' := by
  have HI := Lib.hid (index_calls (some ⟨g, 0, none⟩) cap kb key l w (Rd.ofOwn hown) hn hk)
  have HO := Lib.hid hown
  have HK := Lib.hid hk
  clear hown hk
  go_enter Try.func92, Try.ntmps92
  go_wp2_with fail
  refine HI.out.mono ?_
  rintro e w1 ⟨i, rfl, hi, hc1⟩
  have HC1 := Lib.hid hc1
  clear hc1
  rcases hi with ⟨rfl, hno⟩ | ⟨k, rfl, hkl, hno, x, hx, hbx⟩
  · go_wp2
    go_ret
    have e : rid l key = l := List.filter_eq_self.2 (fun x hx => by rw [hno x hx]; rfl)
    rw [e]
    exact ⟨rfl, own_chg HO.out HC1.out (fun _ _ h => h), HC1.out.mono (fun _ _ h => h.elim)⟩
  · go_wp2
    go_loopg [5, 6] (l.length - (k + 1)) (fun gh v5 v6 wr => ∃ (a b : Nat) (m : List Item), v5 = .int .i64 a ∧ v6 = .int .i64 b ∧ a < b ∧ b ≤ l.length ∧ gh = l.length - b ∧ m.length = l.length ∧
      Hid (wr.ownsRow base tItem 5 (.slice (some ⟨g, 0, none⟩) l.length cap) l.length (its m) ∧ Chg (fun i => i = g) w wr ∧ m.take a = rid (l.take b) key ∧ m.drop b = l.drop b))
    case atStart => 
      refine ⟨k, k + 1, l, rfl, rfl, by omega, by omega, rfl, rfl, ?_, ?_, ?_, rfl⟩
      · exact own_chg HO.out HC1.out (fun _ _ h => h)
      · exact HC1.out.mono (fun _ _ h => h.elim)
      · rw [List.take_add_one, hx]
        have e : rid (l.take k) key = l.take k := List.filter_eq_self.2 (fun x hx => by rw [hno x hx]; rfl)
        show l.take k = rid (l.take k ++ [x]) key
        unfold rid at e ⊢
        rw [List.filter_append, e]
        simp [hbx]
    case round =>
      obtain ⟨a, b, m, rfl, rfl, hab, hbl, rfl, hml, H⟩ := hrel
      by_cases h0 : b < l.length
      · obtain ⟨y, hy⟩ : ∃ y, m[b]? = some y := ⟨_, List.getElem?_eq_getElem (by omega)⟩
        have hr1 : Rd wr tItem (some ⟨g, 0, none⟩) (l.length * 5) (its m) := Rd.ofOwn H.out.1
        have hk1 : Blk wr kb 9 #[.string key] := HK.out.chg H.out.2.1 (by
          rintro rfl
          exact own_other HO.out HK.out (by decide) rfl)
        obtain ⟨g', off, hgg, hg, hc⟩ := hr1.at_ (j := b * 5) (by omega)
        injection hgg with hgg
        injection hgg with hgg hoff _
        subst hgg; subst hoff
        have c0 := hc (b * 5 + 0) _ (its_get m b 0 y hy (by omega))
        have c1 := hc (b * 5 + 1) _ (its_get m b 1 y hy (by omega))
        have c2 := hc (b * 5 + 2) _ (its_get m b 2 y hy (by omega))
        have c3 := hc (b * 5 + 3) _ (its_get m b 3 y hy (by omega))
        have c4 := hc (b * 5 + 4) _ (its_get m b 4 y hy (by omega))
        simp only [itc, List.getElem_cons_zero, List.getElem_cons_succ, ← Nat.add_assoc, Nat.add_zero, Nat.zero_add] at c0 c1 c2 c3 c4
        have HY := Lib.hid hy
        have HT := fun o => Lib.hid (test_calls kb key y (wr.alloc o) (hk1.alloc o))
        clear hy hr1 hk1 hc
        cases hb : keyed key y with
        | true =>
          rw [hb] at HT
          have HB := Lib.hid hb
          clear hb
          go_wp2_with fail
          refine (HT _).out.mono ?_
          rintro e w2 ⟨rfl, hc2⟩
          have HC2 := Lib.hid hc2
          clear hc2
          go_wp2
          go_roundg (l.length - (b + 1))
          case measure => omega
          case rel =>
            refine ⟨a, b + 1, m, rfl, rfl, by omega, by omega, rfl, hml, ?_, ?_, ?_, ?_⟩
            · exact own_chg H.out.1 (((Chg.refl No wr).alloc _).trans HC2.out) (fun _ _ h => h)
            · exact (H.out.2.1.alloc _).trans (HC2.out.mono (fun _ _ h => h.elim))
            · have hlb := drop_get H.out.2.2.2 HY.out
              rw [H.out.2.2.1, List.take_add_one, hlb]
              simp [rid, HB.out]
            · exact drop_succ H.out.2.2.2
        | false =>
          rw [hb] at HT
          have HB := Lib.hid hb
          clear hb
          go_wp2_with fail
          refine (HT _).out.mono ?_
          rintro e w2 ⟨rfl, hc2⟩
          have nb := Blk.new wr tItem #[.string y.key, .string y.val, .int .u32 y.flags.toNat, .int .i64 y.exp.toInt, .int .u64 y.ver.toNat]
          have nb2 := nb.chg hc2 (fun h => h)
          have d0 := nb2.cell 0
          have d1 := nb2.cell 1
          have d2 := nb2.cell 2
          have d3 := nb2.cell 3
          have d4 := nb2.cell 4
          simp at d0 d1 d2 d3 d4
          have ho2 := own_chg H.out.1 (((Chg.refl No wr).alloc _).trans hc2) (fun _ _ h => h)
          have HCC := Lib.hid ((H.out.2.1.alloc _).trans (hc2.mono (fun _ _ h => h.elim)))
          rcases ho2.2 with ⟨h, _⟩ | ⟨g2, cap2, cur, hv2, hbb, hgb, hnc, hcm, hcs, htake⟩
          · cases h
          injection hv2 with hv2 _ hv3
          injection hv2 with hv2
          injection hv2 with hv2 _ _
          subst hv2; subst hv3
          have hgb : Blk w2 g tItem cur := hgb
          have en : ∀ j, j < cap * 5 → ∃ u, w2.cell? ⟨g, j, none⟩ = some u := fun j hj => ⟨_, (hgb.cell j).trans (Array.getElem?_eq_getElem (by rw [hcs]; exact hj))⟩
          obtain ⟨u0, e0⟩ := en (a * 5) (by omega)
          obtain ⟨u1, e1⟩ := en (a * 5 + 1) (by omega)
          obtain ⟨u2, e2⟩ := en (a * 5 + 2) (by omega)
          obtain ⟨u3, e3⟩ := en (a * 5 + 3) (by omega)
          obtain ⟨u4, e4⟩ := en (a * 5 + 4) (by omega)
          have f0 := hgb.frozen (a * 5)
          have f1 := hgb.frozen (a * 5 + 1)
          have f2 := hgb.frozen (a * 5 + 2)
          have f3 := hgb.frozen (a * 5 + 3)
          have f4 := hgb.frozen (a * 5 + 4)
          have HGB := Lib.hid hgb
          have HTK := Lib.hid htake
          have HCS := Lib.hid hcs
          clear nb nb2 hgb htake hcs ho2 hc2 en
          go_wp2
          go_roundg (l.length - (b + 1))
          case measure => omega
          case rel =>
            refine ⟨a + 1, b + 1, m.set a y, rfl, rfl, by omega, by omega, rfl, by simpa using hml, ?_, ?_, ?_, ?_⟩
            · refine ⟨by rw [its_length, List.length_set, hml], .inr ⟨g, cap, _, rfl, hbb, ((((HGB.out.set_ _ _).set_ _ _).set_ _ _).set_ _ _).set_ _ _, hnc, hcm, by simpa using HCS.out, ?_⟩⟩
              simp only [Array.toList_setIfInBounds, List.take_set, HTK.out]
              exact (its_set m a y (by omega)).symm
            · exact ((((HCC.out.setCell (.inl rfl) _).setCell (.inl rfl) _).setCell (.inl rfl) _).setCell (.inl rfl) _).setCell (.inl rfl) _
            · have hlb := drop_get H.out.2.2.2 HY.out
              have e : (m.set a y).take (a + 1) = m.take a ++ [y] := by
                rw [List.take_add_one, List.getElem?_set_self (by omega), List.take_set_of_le (Nat.le_refl _)]
                rfl
              rw [e, H.out.2.2.1, List.take_add_one, hlb]
              simp [rid, HB.out]
            · rw [List.drop_set_of_lt (by omega)]
              exact drop_succ H.out.2.2.2
      · have hbe : b = l.length := by omega
        subst hbe
        rcases H.out.1.2 with ⟨h, _⟩ | ⟨g2, cap2, cur, hv2, hbb, hgb, hnc, hcm, hcs, htake⟩
        · cases h
        injection hv2 with hv2 _ hv3
        injection hv2 with hv2
        injection hv2 with hv2 _ _
        subst hv2; subst hv3
        have hna : ¬ cap = a := by omega
        obtain ⟨w3, hrun, hc3, cur', hg3, hcs3, ht3⟩ := run_clr (P := Try.prog) (ty := 0) wr Try.underlying33 ti_item (by rfl) g (a * 5) (l.length - a) (cap - a) hgb (by rw [hcs]; omega) zero_one
        have HC3 := Lib.hid hc3
        have HG3 := Lib.hid hg3
        have HT3 := Lib.hid ht3
        have HTK := Lib.hid htake
        clear hgb hc3 hg3 ht3 htake
        go_wp2
        have ha : m.take a = rid l key := by rw [H.out.2.2.1, List.take_length]
        have hal : (rid l key).length = a := by rw [← ha, List.length_take]; omega
        go_ret
        rw [hal]
        refine ⟨rfl, ⟨by rw [its_length, hal], .inr ⟨g, cap, cur', rfl, hbb, HG3.out, by omega, hcm, by rw [hcs3, hcs], ?_⟩⟩, H.out.2.1.trans HC3.out⟩
        rw [HT3.out, ← ha, its_take, ← HTK.out, List.take_take, Nat.min_eq_left (by omega)]

theorem delete_nil (kb : Nat) (key : ByteArray) (w : World) (hk : Blk w kb 9 #[.string key]) :
    Calls Try.prog 92 #[.slice none 0 0, .func (.func 94) #[] #[.pointer (some ⟨kb, 0, none⟩)]] w
      fun e w' => e = .returned (.slice none 0 0) ∧ Chg No w w' := by
  have HI := Lib.hid (index_calls none 0 kb key [] w (Rd.nil _ _ _) (by simp) hk)
  simp only [List.length_nil] at HI
  clear hk
  go_enter Try.func92, Try.ntmps92
  go_wp2_with fail
  refine HI.out.mono ?_
  rintro e w1 ⟨i, rfl, hi, hc1⟩
  have HC1 := Lib.hid hc1
  clear hc1
  rcases hi with ⟨rfl, hno⟩ | ⟨k, rfl, hkl, hno, x, hx, hbx⟩
  · go_wp2
    go_ret
    exact ⟨rfl, HC1.out⟩
  · simp at hkl

theorem delete_any (v : Value) (kb : Nat) (key : ByteArray) (l : List Item) (w : World) (base : Nat) (hown : w.ownsRow base tItem 5 v l.length (its l)) (hn : l.length ≤ 10000000) (hk : Blk w kb 9 #[.string key]) :
    Calls Try.prog 92 #[v, .func (.func 94) #[] #[.pointer (some ⟨kb, 0, none⟩)]] w
      fun e w' => ∃ v', e = .returned v' ∧ w'.ownsRow base tItem 5 v' (rid l key).length (its (rid l key)) ∧ Chg (fun i => v.ownBlock = some i) w w' := by
  rcases hown.2 with ⟨rfl, h0⟩ | ⟨g, cap, cur, rfl, rest⟩
  · have hl : l = [] := List.eq_nil_of_length_eq_zero h0
    subst hl
    refine (delete_nil kb key w hk).mono ?_
    rintro e w' ⟨rfl, hc⟩
    exact ⟨_, rfl, by simpa [rid, its] using World.ownsRow_nil w' base tItem 5, hc.mono (fun _ _ h => h.elim)⟩
  · refine (delete_calls g cap kb key l w base hown hn hk).mono ?_
    rintro e w' ⟨rfl, ho, hc⟩
    exact ⟨_, rfl, ho, hc.mono (fun _ _ h => by subst h; simp [Value.ownBlock])⟩

set_option maxRecDepth 100000 in
theorem without_calls (A : Option Addr) (c : Nat) (key : ByteArray) (l : List Item) (w : World) (hr : Rd w tItem A (l.length * 5) (its l)) (hn : l.length ≤ 10000000) (h0 : A = none → c = 0) :
    Calls Try.prog 68 #[.slice A l.length c, .string key] w
      fun e w' => ∃ v', e = .returned v' ∧ w'.ownsRow w.heap.size tItem 5 v' (rid l key).length (its (rid l key)) ∧ Chg No w w' := by
  have HC := fun o => Lib.hid (clone_calls A c l (w.alloc o) (hr.alloc o) hn h0)
  have hmf : ∀ (fn : Fn) (first cap : Array Value) (w : World), (Instr.makeFunc fn first cap).run Try.prog w = .ok (.func fn first cap) w := fun _ _ _ _ => rfl
  clear hr h0
  go_enter Try.func68, Try.ntmps68
  go_wp2_with fail
  refine (HC _).out.mono ?_
  rintro e w1 ⟨v, rfl, ho1, hc1⟩
  have hk := (Blk.new w 9 #[.string key]).chg hc1 (fun h => h)
  have HD := Lib.hid (delete_any v w.heap.size key l w1 (w.alloc (.cells #[.string key] 9)).heap.size ho1 hn hk)
  have HV := Lib.hid (own_new ho1)
  have HC1 := Lib.hid (((Chg.refl No w).alloc _).trans hc1)
  clear hc1 ho1 hk
  go_wp2_with fail
  refine HD.out.mono ?_
  rintro e w2 ⟨v', rfl, ho2, hc2⟩
  have HO2 := Lib.hid (own_base ho2 (by simp : w.heap.size ≤ _))
  have HC2 := Lib.hid (HC1.out.then (hc2) (fun i hi hT => by have := HV.out i hT; simp at this; omega))
  clear ho2 hc2
  go_wp2
  go_ret
  exact ⟨_, rfl, HO2.out, HC2.out⟩
end Go.Proofs.Ytinofdfjaopdcaa
