/- Packed texts: Clone, BuckA, SupC. -/
import Derived.Test.YtplpbbdakihnfaaGreatPq04
import Derived.Test.YtplpbbdakihnfaaGreatPq02
import Derived.Test.YtplpbbdakihnfaaGreatPq07
import Derived.Test.YtplpbbdakihnfaaGreatPq13
import Derived.Test.YtplpbbdakihnfaaGreatPq08
import Derived.Test.YtplpbbdakihnfaaGreatPq10
set_option linter.unusedSimpArgs false
set_option linter.unusedVariables false
section
namespace Go.Proofs.YtplpbbdakihnfaaGreat
open Go.RowKit
def keyed (key : ByteArray) (x : Item) : Bool := decide (x.key = key)
theorem str_eq (a b : ByteArray) : (a.toList == b.toList) = decide (a = b) := by
  rw [ByteArray.toList_eq, ByteArray.toList_eq, Bool.eq_iff_iff]
  simp only [beq_iff_eq, decide_eq_true_eq]
  exact ⟨fun h => ByteArray.ext (Array.toList_inj.1 h), fun h => by rw [h]⟩
def rid (l : List Item) (key : ByteArray) : List Item := l.filter fun x => !keyed key x
-- the closure of bucket.without: the key lies in block kb
set_option maxRecDepth 100000 in
theorem test_calls (kb : Nat) (key : ByteArray) (x : Item) (w : World) (hk : Blk w kb 9 #[.string key]) :
    Calls Tryz.prog 106 #[.agg #[.string x.key, .string x.val, .int .u32 x.flags.toNat, .int .i64 x.exp.toInt, .int .u64 x.ver.toNat], .pointer (some ⟨kb, 0, none⟩)] w fun e w' => e = .returned (.bool (keyed key x)) ∧ Chg No w w' := by
  have c := hk.cell 0
  simp at c
  have hl := hk.lt
  go_enter Tryz.func106, Tryz.ntmps106
  go_wp2
  go_ret
  exact ⟨congrArg (fun b => Ending.returned (.bool b)) (str_eq _ _), (Chg.refl _ _).alloc _⟩
theorem own_slice2 {w : World} {base e size n : Nat} {v : Value} {xs : List Value} (h : w.ownsRow base e size v n xs) : ∃ A c, v = .slice A n c ∧ n ≤ c ∧ Rd w e A (n * size) xs ∧ (A = none → c = 0) := by
  rcases h.2 with ⟨rfl, rfl⟩ | ⟨g, cap, cur, rfl, hb, hg, hnc, rest⟩
  · exact ⟨none, 0, rfl, Nat.le_refl _, Rd.ofOwn h, fun _ => rfl⟩
  · exact ⟨_, cap, rfl, hnc, Rd.ofOwn h, fun h => by cases h⟩
set_option maxRecDepth 100000 in
theorem clone_calls (A : Option Addr) (c : Nat) (l : List Item) (w : World) (hr : Rd w tItem A (l.length * 5) (its l)) (hn : l.length ≤ 10000000) (h0 : A = none → c = 0) :
    Calls Tryz.prog 105 #[.slice A l.length c] w fun e w' => ∃ v, e = .returned v ∧ w'.ownsRow w.heap.size tItem 5 v l.length (its l) ∧ Chg No w w' := by
  rcases A with _ | a
  · have : l = [] := by
      cases l with
      | nil => rfl
      | cons x r =>
        obtain ⟨g, off, cur, fz, h, _⟩ := hr.2 (by simp)
        cases h
    subst this
    have := h0 rfl
    subst this
    have he : ∀ w : World, (binOp .eql 46 (.slice none 0 0) (.slice none 0 0)).run Tryz.prog w = .ok (.bool true) w := fun _ => rfl
    clear hr hn h0
    simp only [List.length_nil]
    go_enter Tryz.func105, Tryz.ntmps105
    go_wp2
    go_ret
    exact ⟨_, rfl, World.ownsRow_nil _ _ _ _, Chg.refl _ _⟩
  · have HR := Lib.hid hr
    have he : ∀ w : World, (binOp .eql 46 (.slice (some a) l.length c) (.slice none 0 0)).run Tryz.prog w = .ok (.bool false) w := fun _ => rfl
    clear hr h0
    go_enter Tryz.func105, Tryz.ntmps105
    go_wp2_with (first
      | (at_builtin; go_loud (refine wpList_app _ rfl (.tmp 5) (.tmp 6) 46 rfl tItem Tryz.underlying46 ti_item rfl (by omega) w.heap.size _ 0 [] rfl (own_empty w tItem 5) tItem _ l.length c (its l) rfl (HR.out.alloc _) its_one_cell (by simp only [maxLen]; omega) (by omega) (by simp) ?_; intro v2 w2 ho2 hg2 hb2; have HO2 := Lib.hid ho2; have HG2 := Lib.hid hg2; clear ho2 hg2 hb2)))
    go_ret
    refine ⟨_, rfl, ?_, ((Chg.refl _ _).alloc _).grown HG2.out (fun k' hk' => ?_)⟩
    · simpa using HO2.out
    · exact .inr (own_new (own_empty w tItem 5) k' hk')
theorem zero_one {n : Nat} : ∀ u ∈ (Builtin.zeroCells (itemV Item.zero).cells n).toList, u.oneCell' = true := by
  intro u hu
  have hc : (itemV Item.zero).cells = #[.string ByteArray.empty, .string ByteArray.empty, .int .u32 0, .int .i64 0, .int .u64 0] := rfl
  simp only [Builtin.zeroCells, hc, Array.mem_toList_iff, Array.mem_map] at hu
  obtain ⟨i, _, rfl⟩ := hu
  have hi : i % 5 < 5 := Nat.mod_lt _ (by decide)
  show (#[Value.string ByteArray.empty, .string ByteArray.empty, .int .u32 0, .int .i64 0, .int .u64 0][i % 5]!).oneCell' = true
  generalize i % 5 = k at hi
  match k, hi with
  | 0, _ => rfl
  | 1, _ => rfl
  | 2, _ => rfl
  | 3, _ => rfl
  | 4, _ => rfl
theorem drop_get {α : Type} {m l : List α} {b : Nat} {y : α} (h : m.drop b = l.drop b) (hy : m[b]? = some y) : l[b]? = some y := by
  have h1 : (m.drop b)[0]? = (l.drop b)[0]? := by rw [h]
  simpa [hy] using h1.symm
theorem drop_succ {α : Type} {m l : List α} {b : Nat} (h : m.drop b = l.drop b) : m.drop (b + 1) = l.drop (b + 1) := by
  rw [← List.drop_drop, ← List.drop_drop, h]
theorem run_clr {P : Program} (W : World) {t e ty : TypeId} {z : Value} {size bytes : Nat} (ht : P.underlying t = some (.slice e)) (hi : TI P e z size bytes) (hzs : z.cells.size = size)
    (g o n c : Nat) {e' : TypeId} {cur : Array Value} (hg : Blk W g e' cur) (hfit : o + n * size ≤ cur.size) (h1 : ∀ u ∈ (Builtin.zeroCells z.cells n).toList, u.oneCell' = true) :
    ∃ W', (Builtin.clear_ #[t] ty #[.slice (some ⟨g, o, none⟩) n c]).run P W = .ok (.tuple #[]) W' ∧ Chg (fun i => i = g) W W' ∧ ∃ cur', Blk W' g e' cur' ∧ cur'.size = cur.size ∧ cur'.toList.take o = cur.toList.take o := by
  obtain ⟨i, hi', hz, hs, hby⟩ := info_parts hi
  cases n with
  | zero => exact ⟨W, by simp [Builtin.clear_, run_underlying ht], Chg.refl _ _, cur, hg, rfl, rfl⟩
  | succ n =>
    obtain ⟨news, hnews⟩ : ∃ news, news = (Builtin.zeroCells z.cells (n + 1)).toList := ⟨_, rfl⟩
    have hl : news.length = (n + 1) * size := by rw [hnews, Array.length_toList, size_zeroCells, hzs]
    rw [← hnews] at h1
    obtain ⟨cur', h3, h4, h5⟩ := Zs.setCells_row news o W cur hg (by rw [hl]; exact hfit)
    obtain ⟨s1, s2, s3, s4⟩ := Zs.setCells_same g news o W
    have hst := run_storeCells_cells (P := P) g o news 0 W (fun j hj => by rw [cell_of_row W g _ cur e' (0, 0) hg]; simp; omega) (fun j _ => Zs.blk_frozen hg _) h1
    simp only [Nat.add_zero] at hst
    refine ⟨W.setCells g o news, ?_, ⟨s1, s2, s3, by rw [s4]; exact Nat.le_refl _, fun k _ hk => Zs.setCells_far news _ k hk⟩, cur', h3, h4, ?_⟩
    · simp [Builtin.clear_, run_underlying ht, zeroValue, typeInfo, hi', hz, ← hnews]
      simp only [hst]
      rfl
    · rw [h5, List.append_assoc, List.take_append_of_le_length (by rw [List.length_take, Array.length_toList]; omega), List.take_take, Nat.min_self]
theorem its_set (m : List Item) (a : Nat) (y : Item) (ha : a < m.length) : its (m.set a y) = (((((its m).set (a * 5) (.string y.key)).set (a * 5 + 1) (.string y.val)).set (a * 5 + 2) (.int .u32 y.flags.toNat)).set (a * 5 + 3) (.int .i64 y.exp.toInt)).set (a * 5 + 4) (.int .u64 y.ver.toNat) := by
  induction m generalizing a with
  | nil => simp at ha
  | cons x r ih =>
    cases a with
    | zero => simp [its_cons, itc]
    | succ a =>
      have e : (itc x).length = 5 := by simp [itc]
      have ha' : a < r.length := by simpa using ha
      rw [List.set_cons_succ, its_cons, its_cons, ih a ha']
      have e0 : (a + 1) * 5 = (itc x).length + a * 5 := by omega
      have es : ∀ (t : List Value) (j : Nat) (u : Value), (itc x ++ t).set ((itc x).length + j) u = itc x ++ t.set j u := by
        intro t j u
        rw [List.set_append_right _ _ (Nat.le_add_right _ _), Nat.add_sub_cancel_left]
      rw [e0, es, Nat.add_assoc, Nat.add_assoc, Nat.add_assoc, Nat.add_assoc, es, es, es, es]
def Idx (key : ByteArray) (l : List Item) (i : Int) : Prop := (i = -1 ∧ ∀ x ∈ l, keyed key x = false) ∨ ∃ k : Nat, i = k ∧ k < l.length ∧ (∀ x ∈ l.take k, keyed key x = false) ∧ ∃ x, l[k]? = some x ∧ keyed key x = true
set_option maxRecDepth 100000 in
theorem index_calls (A : Option Addr) (c kb : Nat) (key : ByteArray) (l : List Item) (w : World) (hr : Rd w tItem A (l.length * 5) (its l)) (hn : l.length ≤ 10000000) (hk : Blk w kb 9 #[.string key]) :
    Calls Tryz.prog 121 #[.slice A l.length c, .func (.func 106) #[] #[.pointer (some ⟨kb, 0, none⟩)]] w
      fun e w' => ∃ i : Int, e = .returned (.int .i64 i) ∧ Idx key l i ∧ Chg No w w' := by
  have HR := Lib.hid hr
  have HK := Lib.hid hk
  clear hr hk
  go_enter Tryz.func121, Tryz.ntmps121
  go_wp2
  go_loopg [8] l.length (fun g v8 wr => ∃ k : Nat, v8 = .int .i64 k ∧ k ≤ l.length ∧ g = l.length - k ∧ Hid (Chg No w wr ∧ ∀ x ∈ l.take k, keyed key x = false))
  case atStart => exact ⟨0, rfl, by omega, rfl, ⟨Chg.refl _ _, by simp⟩⟩
  case round =>
    obtain ⟨k, rfl, hk, rfl, H⟩ := hrel
    by_cases h0 : k < l.length
    · obtain ⟨x, hx⟩ : ∃ x, l[k]? = some x := ⟨_, List.getElem?_eq_getElem h0⟩
      have hr1 : Rd wr tItem A (l.length * 5) (its l) := HR.out.chg H.out.1 (fun _ _ _ _ h => h)
      have hk1 : Blk wr kb 9 #[.string key] := HK.out.chg H.out.1 (fun h => h)
      obtain ⟨g, off, rfl, hg, hc⟩ := hr1.at_ (j := k * 5) (by omega)
      have c0 := hc (k * 5 + 0) _ (its_get l k 0 x hx (by omega))
      have c1 := hc (k * 5 + 1) _ (its_get l k 1 x hx (by omega))
      have c2 := hc (k * 5 + 2) _ (its_get l k 2 x hx (by omega))
      have c3 := hc (k * 5 + 3) _ (its_get l k 3 x hx (by omega))
      have c4 := hc (k * 5 + 4) _ (its_get l k 4 x hx (by omega))
      simp only [itc, List.getElem_cons_zero, List.getElem_cons_succ, ← Nat.add_assoc, Nat.add_zero] at c0 c1 c2 c3 c4
      have HX := Lib.hid hx
      have HT := Lib.hid (test_calls kb key x wr hk1)
      clear hx hr1 hk1 hc
      cases hb : keyed key x with
      | true =>
        rw [hb] at HT
        have HB := Lib.hid hb
        clear hb
        go_wp2_with fail
        refine HT.out.mono ?_
        rintro e w1 ⟨rfl, hc1⟩
        have HC1 := Lib.hid hc1
        clear hc1
        go_wp2
        go_ret
        exact ⟨(k : Int), rfl, .inr ⟨k, rfl, h0, H.out.2, x, HX.out, HB.out⟩, H.out.1.trans HC1.out⟩
      | false =>
        rw [hb] at HT
        have HB := Lib.hid hb
        clear hb
        go_wp2_with fail
        refine HT.out.mono ?_
        rintro e w1 ⟨rfl, hc1⟩
        have HC1 := Lib.hid hc1
        clear hc1
        go_wp2
        go_roundg (l.length - (k + 1))
        case measure => omega
        case rel =>
          refine ⟨k + 1, rfl, by omega, rfl, H.out.1.trans HC1.out, ?_⟩
          intro y hy
          rw [List.take_add_one, HX.out] at hy
          rcases List.mem_append.1 hy with hy | hy
          · exact H.out.2 y hy
          · simp at hy
            rw [hy]; exact HB.out
    · have e3 : k = l.length := by omega
      have := H.out
      rw [e3, List.take_length] at this
      have HH := Lib.hid this
      clear this H
      go_wp2
      go_ret
      exact ⟨-1, rfl, .inl ⟨rfl, HH.out.2⟩, HH.out.1⟩
set_option maxRecDepth 100000 in
theorem delete_calls (g cap kb : Nat) (key : ByteArray) (l : List Item) (w : World) (base : Nat) (hown : w.ownsRow base tItem 5 (.slice (some ⟨g, 0, none⟩) l.length cap) l.length (its l)) (hn : l.length ≤ 10000000) (hk : Blk w kb 9 #[.string key]) :
    Calls Tryz.prog 104 #[.slice (some ⟨g, 0, none⟩) l.length cap, .func (.func 106) #[] #[.pointer (some ⟨kb, 0, none⟩)]] w
      fun e w' => e = .returned (.slice (some ⟨g, 0, none⟩) (rid l key).length cap) ∧ w'.ownsRow base tItem 5 (.slice (some ⟨g, 0, none⟩) (rid l key).length cap) (rid l key).length (its (rid l key)) ∧ Chg (fun i => i = g) w w' := by
  have HI := Lib.hid (index_calls (some ⟨g, 0, none⟩) cap kb key l w (Rd.ofOwn hown) hn hk)
  have HO := Lib.hid hown
  have HK := Lib.hid hk
  clear hown hk
  go_enter Tryz.func104, Tryz.ntmps104
  go_wp2_with fail
  refine HI.out.mono ?_
  rintro e w1 ⟨i, rfl, hi, hc1⟩
  have HC1 := Lib.hid hc1
  clear hc1
  rcases hi with ⟨rfl, hno⟩ | ⟨k, rfl, hkl, hno, x, hx, hbx⟩
  · go_wp2
    go_ret
    have e : rid l key = l := List.filter_eq_self.2 (fun x hx => by rw [hno x hx]; rfl)
    rw [e]
    exact ⟨rfl, own_chg HO.out HC1.out (fun _ _ h => h), HC1.out.mono (fun _ _ h => h.elim)⟩
  · go_wp2
    go_loopg [5, 6] (l.length - (k + 1)) (fun gh v5 v6 wr => ∃ (a b : Nat) (m : List Item), v5 = .int .i64 a ∧ v6 = .int .i64 b ∧ a < b ∧ b ≤ l.length ∧ gh = l.length - b ∧ m.length = l.length ∧
      Hid (wr.ownsRow base tItem 5 (.slice (some ⟨g, 0, none⟩) l.length cap) l.length (its m) ∧ Chg (fun i => i = g) w wr ∧ m.take a = rid (l.take b) key ∧ m.drop b = l.drop b))
    case atStart => 
      refine ⟨k, k + 1, l, rfl, rfl, by omega, by omega, rfl, rfl, ?_, ?_, ?_, rfl⟩
      · exact own_chg HO.out HC1.out (fun _ _ h => h)
      · exact HC1.out.mono (fun _ _ h => h.elim)
      · rw [List.take_add_one, hx]
        have e : rid (l.take k) key = l.take k := List.filter_eq_self.2 (fun x hx => by rw [hno x hx]; rfl)
        show l.take k = rid (l.take k ++ [x]) key
        unfold rid at e ⊢
        rw [List.filter_append, e]
        simp [hbx]
    case round =>
      obtain ⟨a, b, m, rfl, rfl, hab, hbl, rfl, hml, H⟩ := hrel
      by_cases h0 : b < l.length
      · obtain ⟨y, hy⟩ : ∃ y, m[b]? = some y := ⟨_, List.getElem?_eq_getElem (by omega)⟩
        have hr1 : Rd wr tItem (some ⟨g, 0, none⟩) (l.length * 5) (its m) := Rd.ofOwn H.out.1
        have hk1 : Blk wr kb 9 #[.string key] := HK.out.chg H.out.2.1 (by
          rintro rfl
          exact own_other HO.out HK.out (by decide) rfl)
        obtain ⟨g', off, hgg, hg, hc⟩ := hr1.at_ (j := b * 5) (by omega)
        injection hgg with hgg
        injection hgg with hgg hoff _
        subst hgg; subst hoff
        have c0 := hc (b * 5 + 0) _ (its_get m b 0 y hy (by omega))
        have c1 := hc (b * 5 + 1) _ (its_get m b 1 y hy (by omega))
        have c2 := hc (b * 5 + 2) _ (its_get m b 2 y hy (by omega))
        have c3 := hc (b * 5 + 3) _ (its_get m b 3 y hy (by omega))
        have c4 := hc (b * 5 + 4) _ (its_get m b 4 y hy (by omega))
        simp only [itc, List.getElem_cons_zero, List.getElem_cons_succ, ← Nat.add_assoc, Nat.add_zero, Nat.zero_add] at c0 c1 c2 c3 c4
        have HY := Lib.hid hy
        have HT := fun o => Lib.hid (test_calls kb key y (wr.alloc o) (hk1.alloc o))
        clear hy hr1 hk1 hc
        cases hb : keyed key y with
        | true =>
          rw [hb] at HT
          have HB := Lib.hid hb
          clear hb
          go_wp2_with fail
          refine (HT _).out.mono ?_
          rintro e w2 ⟨rfl, hc2⟩
          have HC2 := Lib.hid hc2
          clear hc2
          go_wp2
          go_roundg (l.length - (b + 1))
          case measure => omega
          case rel =>
            refine ⟨a, b + 1, m, rfl, rfl, by omega, by omega, rfl, hml, ?_, ?_, ?_, ?_⟩
            · exact own_chg H.out.1 (((Chg.refl No wr).alloc _).trans HC2.out) (fun _ _ h => h)
            · exact (H.out.2.1.alloc _).trans (HC2.out.mono (fun _ _ h => h.elim))
            · have hlb := drop_get H.out.2.2.2 HY.out
              rw [H.out.2.2.1, List.take_add_one, hlb]
              simp [rid, HB.out]
            · exact drop_succ H.out.2.2.2
        | false =>
          rw [hb] at HT
          have HB := Lib.hid hb
          clear hb
          go_wp2_with fail
          refine (HT _).out.mono ?_
          rintro e w2 ⟨rfl, hc2⟩
          have nb := Blk.new wr tItem #[.string y.key, .string y.val, .int .u32 y.flags.toNat, .int .i64 y.exp.toInt, .int .u64 y.ver.toNat]
          have nb2 := nb.chg hc2 (fun h => h)
          have d0 := nb2.cell 0
          have d1 := nb2.cell 1
          have d2 := nb2.cell 2
          have d3 := nb2.cell 3
          have d4 := nb2.cell 4
          simp at d0 d1 d2 d3 d4
          have ho2 := own_chg H.out.1 (((Chg.refl No wr).alloc _).trans hc2) (fun _ _ h => h)
          have HCC := Lib.hid ((H.out.2.1.alloc _).trans (hc2.mono (fun _ _ h => h.elim)))
          rcases ho2.2 with ⟨h, _⟩ | ⟨g2, cap2, cur, hv2, hbb, hgb, hnc, hcm, hcs, htake⟩
          · cases h
          injection hv2 with hv2 _ hv3
          injection hv2 with hv2
          injection hv2 with hv2 _ _
          subst hv2; subst hv3
          have hgb : Blk w2 g tItem cur := hgb
          have en : ∀ j, j < cap * 5 → ∃ u, w2.cell? ⟨g, j, none⟩ = some u := fun j hj => ⟨_, (hgb.cell j).trans (Array.getElem?_eq_getElem (by rw [hcs]; exact hj))⟩
          obtain ⟨u0, e0⟩ := en (a * 5) (by omega)
          obtain ⟨u1, e1⟩ := en (a * 5 + 1) (by omega)
          obtain ⟨u2, e2⟩ := en (a * 5 + 2) (by omega)
          obtain ⟨u3, e3⟩ := en (a * 5 + 3) (by omega)
          obtain ⟨u4, e4⟩ := en (a * 5 + 4) (by omega)
          have f0 := hgb.frozen (a * 5)
          have f1 := hgb.frozen (a * 5 + 1)
          have f2 := hgb.frozen (a * 5 + 2)
          have f3 := hgb.frozen (a * 5 + 3)
          have f4 := hgb.frozen (a * 5 + 4)
          have HGB := Lib.hid hgb
          have HTK := Lib.hid htake
          have HCS := Lib.hid hcs
          clear nb nb2 hgb htake hcs ho2 hc2 en
          go_wp2
          go_roundg (l.length - (b + 1))
          case measure => omega
          case rel =>
            refine ⟨a + 1, b + 1, m.set a y, rfl, rfl, by omega, by omega, rfl, by simpa using hml, ?_, ?_, ?_, ?_⟩
            · refine ⟨by rw [its_length, List.length_set, hml], .inr ⟨g, cap, _, rfl, hbb, ((((HGB.out.set_ _ _).set_ _ _).set_ _ _).set_ _ _).set_ _ _, hnc, hcm, by simpa using HCS.out, ?_⟩⟩
              simp only [Array.toList_setIfInBounds, List.take_set, HTK.out]
              exact (its_set m a y (by omega)).symm
            · exact ((((HCC.out.setCell (.inl rfl) _).setCell (.inl rfl) _).setCell (.inl rfl) _).setCell (.inl rfl) _).setCell (.inl rfl) _
            · have hlb := drop_get H.out.2.2.2 HY.out
              have e : (m.set a y).take (a + 1) = m.take a ++ [y] := by
                rw [List.take_add_one, List.getElem?_set_self (by omega), List.take_set_of_le (Nat.le_refl _)]
                rfl
              rw [e, H.out.2.2.1, List.take_add_one, hlb]
              simp [rid, HB.out]
            · rw [List.drop_set_of_lt (by omega)]
              exact drop_succ H.out.2.2.2
      · have hbe : b = l.length := by omega
        subst hbe
        rcases H.out.1.2 with ⟨h, _⟩ | ⟨g2, cap2, cur, hv2, hbb, hgb, hnc, hcm, hcs, htake⟩
        · cases h
        injection hv2 with hv2 _ hv3
        injection hv2 with hv2
        injection hv2 with hv2 _ _
        subst hv2; subst hv3
        have hna : ¬ cap = a := by omega
        obtain ⟨w3, hrun, hc3, cur', hg3, hcs3, ht3⟩ := run_clr (P := Tryz.prog) (ty := 0) wr Tryz.underlying46 ti_item (by rfl) g (a * 5) (l.length - a) (cap - a) hgb (by rw [hcs]; omega) zero_one
        have HC3 := Lib.hid hc3
        have HG3 := Lib.hid hg3
        have HT3 := Lib.hid ht3
        have HTK := Lib.hid htake
        clear hgb hc3 hg3 ht3 htake
        go_wp2
        have ha : m.take a = rid l key := by rw [H.out.2.2.1, List.take_length]
        have hal : (rid l key).length = a := by rw [← ha, List.length_take]; omega
        go_ret
        rw [hal]
        refine ⟨rfl, ⟨by rw [its_length, hal], .inr ⟨g, cap, cur', rfl, hbb, HG3.out, by omega, hcm, by rw [hcs3, hcs], ?_⟩⟩, H.out.2.1.trans HC3.out⟩
        rw [HT3.out, ← ha, its_take, ← HTK.out, List.take_take, Nat.min_eq_left (by omega)]
theorem delete_nil (kb : Nat) (key : ByteArray) (w : World) (hk : Blk w kb 9 #[.string key]) :
    Calls Tryz.prog 104 #[.slice none 0 0, .func (.func 106) #[] #[.pointer (some ⟨kb, 0, none⟩)]] w
      fun e w' => e = .returned (.slice none 0 0) ∧ Chg No w w' := by
  have HI := Lib.hid (index_calls none 0 kb key [] w (Rd.nil _ _ _) (by simp) hk)
  simp only [List.length_nil] at HI
  clear hk
  go_enter Tryz.func104, Tryz.ntmps104
  go_wp2_with fail
  refine HI.out.mono ?_
  rintro e w1 ⟨i, rfl, hi, hc1⟩
  have HC1 := Lib.hid hc1
  clear hc1
  rcases hi with ⟨rfl, hno⟩ | ⟨k, rfl, hkl, hno, x, hx, hbx⟩
  · go_wp2
    go_ret
    exact ⟨rfl, HC1.out⟩
  · simp at hkl
theorem delete_any (v : Value) (kb : Nat) (key : ByteArray) (l : List Item) (w : World) (base : Nat) (hown : w.ownsRow base tItem 5 v l.length (its l)) (hn : l.length ≤ 10000000) (hk : Blk w kb 9 #[.string key]) :
    Calls Tryz.prog 104 #[v, .func (.func 106) #[] #[.pointer (some ⟨kb, 0, none⟩)]] w
      fun e w' => ∃ v', e = .returned v' ∧ w'.ownsRow base tItem 5 v' (rid l key).length (its (rid l key)) ∧ Chg (fun i => v.ownBlock = some i) w w' := by
  rcases hown.2 with ⟨rfl, h0⟩ | ⟨g, cap, cur, rfl, rest⟩
  · have hl : l = [] := List.eq_nil_of_length_eq_zero h0
    subst hl
    refine (delete_nil kb key w hk).mono ?_
    rintro e w' ⟨rfl, hc⟩
    exact ⟨_, rfl, by simpa [rid, its] using World.ownsRow_nil w' base tItem 5, hc.mono (fun _ _ h => h.elim)⟩
  · refine (delete_calls g cap kb key l w base hown hn hk).mono ?_
    rintro e w' ⟨rfl, ho, hc⟩
    exact ⟨_, rfl, ho, hc.mono (fun _ _ h => by subst h; simp [Value.ownBlock])⟩
set_option maxRecDepth 100000 in
theorem without_calls (A : Option Addr) (c : Nat) (key : ByteArray) (l : List Item) (w : World) (hr : Rd w tItem A (l.length * 5) (its l)) (hn : l.length ≤ 10000000) (h0 : A = none → c = 0) :
    Calls Tryz.prog 72 #[.slice A l.length c, .string key] w
      fun e w' => ∃ v', e = .returned v' ∧ w'.ownsRow w.heap.size tItem 5 v' (rid l key).length (its (rid l key)) ∧ Chg No w w' := by
  have HC := fun o => Lib.hid (clone_calls A c l (w.alloc o) (hr.alloc o) hn h0)
  have hmf : ∀ (fn : Fn) (first cap : Array Value) (w : World), (Instr.makeFunc fn first cap).run Tryz.prog w = .ok (.func fn first cap) w := fun _ _ _ _ => rfl
  clear hr h0
  go_enter Tryz.func72, Tryz.ntmps72
  go_wp2_with fail
  refine (HC _).out.mono ?_
  rintro e w1 ⟨v, rfl, ho1, hc1⟩
  have hk := (Blk.new w 9 #[.string key]).chg hc1 (fun h => h)
  have HD := Lib.hid (delete_any v w.heap.size key l w1 (w.alloc (.cells #[.string key] 9)).heap.size ho1 hn hk)
  have HV := Lib.hid (own_new ho1)
  have HC1 := Lib.hid (((Chg.refl No w).alloc _).trans hc1)
  clear hc1 ho1 hk
  go_wp2_with fail
  refine HD.out.mono ?_
  rintro e w2 ⟨v', rfl, ho2, hc2⟩
  have HO2 := Lib.hid (own_base ho2 (by simp : w.heap.size ≤ _))
  have HC2 := Lib.hid (HC1.out.then (hc2) (fun i hi hT => by have := HV.out i hT; simp at this; omega))
  clear ho2 hc2
  go_wp2
  go_ret
  exact ⟨_, rfl, HO2.out, HC2.out⟩
end Go.Proofs.YtplpbbdakihnfaaGreat
end

section
namespace Go.Proofs.YtplpbbdakihnfaaGreat
open Go.RowKit
abbrev tStore : TypeId := 123
abbrev tPF : TypeId := 124
structure Sto where
  losses : Int
  first : Int
  fs : List (List Bool)
namespace Sto
def no (B : Sto) (key : ByteArray) : Nat := khash key.data.toList % B.fs.length
def lE (B : Sto) (D : Dev) (i : Int) : Int := if B.losses = D.losses then (if D.readE (B.first + i) = 0 ∨ D.readE (B.first + i) = 5 ∨ D.readE (B.first + i) = 6 then 0 else D.readE (B.first + i)) else 4
def lL (B : Sto) (D : Dev) (i : Int) : List Item := if B.losses = D.losses ∧ D.readE (B.first + i) = 0 then listL (D.read (B.first + i)) else []
end Sto
structure StoH where
  s : Nat
  G : Nat
  cap : Nat
  ps : List (Nat × Nat)
structure StoAt (w : World) (h : DevH) (t : StoH) (B : Sto) : Prop where
  box : Blk w t.s tStore #[.pointer (some ⟨h.d, 0, none⟩), .int .i64 B.losses, .int .i64 B.first, .slice (some ⟨t.G, 0, none⟩) B.fs.length t.cap]
  row : ∃ cur : Array Value, Blk w t.G tPF cur ∧ ∀ (i : Nat) (p : Nat × Nat), t.ps[i]? = some p → cur[i]? = some (Value.pointer (some ⟨p.1, 0, none⟩))
  len : t.ps.length = B.fs.length
  flt : ∀ (i : Nat) (p : Nat × Nat) (bs : List Bool), t.ps[i]? = some p → B.fs[i]? = some bs → Flt w p.1 p.2 bs
  apart : (t.ps.map (·.2)).Nodup
  most : B.fs.length ≤ 256
  fit : 0 ≤ B.first ∧ B.first ≤ 4096
theorem StoAt.chg {S : Nat → Prop} {w w' : World} {h : DevH} {t : StoH} {B : Sto} (hs : StoAt w h t B) (hc : Chg S w w')
    (hn : ∀ g cs T, (T = tStore ∨ T = tPF ∨ T = tFilter ∨ T = tBool) → Blk w g T cs → ¬ S g) : StoAt w' h t B :=
  { hs with
    box := hs.box.chg hc (hn _ _ _ (.inl rfl) hs.box)
    row := by obtain ⟨cur, h1, h2⟩ := hs.row; exact ⟨cur, h1.chg hc (hn _ _ _ (.inr (.inl rfl)) h1), h2⟩
    flt := fun i p bs hp hb => by
      have hf := hs.flt i p bs hp hb
      exact hf.chg hc (hn _ _ _ (.inr (.inr (.inl rfl))) hf.head) (hn _ _ _ (.inr (.inr (.inr rfl))) hf.bits) }
theorem StoAt.chgNo {w w' : World} {h : DevH} {t : StoH} {B : Sto} (hs : StoAt w h t B) (hc : Chg No w w') : StoAt w' h t B := hs.chg hc (fun _ _ _ _ _ h => h)
theorem StoAt.foot {N : Nat} {w w' : World} {h : DevH} {D : Dev} {t : StoH} {B : Sto} (hs : StoAt w h t B) (hd : DevN N w h D) (hc : Chg h.foot w w') : StoAt w' h t B :=
  hs.chg hc (fun g cs T hT hb => hd.not_foot hb (by rcases hT with rfl | rfl | rfl | rfl <;> decide) (by rcases hT with rfl | rfl | rfl | rfl <;> decide))
set_option maxRecDepth 100000 in
theorem of_calls {w : World} {h : DevH} {t : StoH} {B : Sto} (hs : StoAt w h t B) (hp : 0 < B.fs.length) (key : ByteArray) (hk : key.size ≤ 140737488351232) :
    Calls Tryz.prog 71 #[.pointer (some ⟨t.s, 0, none⟩), .string key] w fun e w' => e = .returned (.int .i64 (B.no key)) ∧ Chg No w w' := by
  have c3 := hs.box.cell 3
  simp at c3
  have hl := hs.box.lt
  have hm := hs.most
  obtain ⟨n, hn⟩ : ∃ n, n = B.fs.length := ⟨_, rfl⟩
  obtain ⟨z, hz⟩ : ∃ z, z = khash key.data.toList := ⟨_, rfl⟩
  have hzl : z < 18446744073709551616 := by rw [hz]; exact khash_lt _
  have HN : Hid (B.no key = z % n) := by show _ = _; rw [hn, hz]; rfl
  have hh := fun W => Lib.hid (hash_calls key W hk)
  rw [← hz] at hh
  rw [← hn] at c3 hp hm
  have hzn : z % n < n := Nat.mod_lt _ hp
  have hnz : ((n : Int) == 0) = false := by simp; omega
  have hwn : IntKind.u64.wrap (n : Int) = n := wraps_u64 _ (by omega) (by omega)
  have hwz : IntKind.i64.wrap ((z : Int) % (n : Int)) = (z : Int) % (n : Int) := IntWalk.i64_in _ (by omega)
  clear hn hz
  go_enter Tryz.func71, Tryz.ntmps71
  go_wp2_with fail
  go_quiet ((first | (go_at_call 52; exact quiet_left (hh _).out)))
  go_wp2
  go_ret
  refine ⟨?_, (Chg.refl _ _).drewN _⟩
  rw [HN.out]
  simp
theorem read_le {D : Dev} {N : Nat} {w : World} {h : DevH} (hd : DevN N w h D) (k : Int) : (D.read k).length ≤ 384 := by
  unfold Dev.read
  split
  · split
    · simp
    · rename_i h1 h2
      unfold Dev.page
      have hk : 0 ≤ k ∧ k < D.n := by simpa [Dev.has] using h1
      cases hw : D.wt k.toNat with
      | some pg =>
        obtain ⟨es, _, h3, h4⟩ := hd.map
        obtain ⟨v, hv⟩ := h4 _ _ hw
        obtain ⟨i, pg', e1, e2, e3, e4⟩ := h3 _ _ (aget_mem hv)
        have : i = k.toNat := by omega
        subst this
        rw [hw] at e3
        injection e3 with e3
        subst e3
        cases pg with
        | full b => obtain ⟨p, q, _, _, _, _, _, hl⟩ := e4; simp [Pg.data, hl]
        | _ => simp [Pg.data]
      | none =>
        obtain ⟨ps, _, h3, h4⟩ := hd.row
        have hlt : k.toNat < ps.length := by omega
        have := h4 k.toNat _ (List.getElem?_eq_getElem hlt)
        simp only [Option.getD_none]
        cases hf : D.fl k.toNat with
        | full b => rw [hf] at this; obtain ⟨p, q, _, _, _, _, _, hl⟩ := this; simp [Pg.data, hl]
        | _ => simp [Pg.data]
  · simp
theorem readE_in (D : Dev) (k : Int) : D.readE k = 0 ∨ D.readE k = 1 ∨ D.readE k = 4 ∨ D.readE k = 5 ∨ D.readE k = 6 := by
  unfold Dev.readE
  split
  · split
    · simp
    · cases D.page k.toNat <;> simp [Pg.err]
  · simp
set_option maxRecDepth 100000 in
theorem blist0_calls {N : Nat} {w : World} {h : DevH} {D : Dev} {s : Nat} {vf : Value} {B : Sto} (hd : DevN N w h D) (hs : Blk w s tStore #[.pointer (some ⟨h.d, 0, none⟩), .int .i64 B.losses, .int .i64 B.first, vf]) (hfit : 0 ≤ B.first ∧ B.first ≤ 4096) (i : Nat) (hi : i ≤ 256) :
    Calls Tryz.prog 67 #[.pointer (some ⟨s, 0, none⟩), .int .i64 i] w fun e w' => ∃ v, e = .returned (.tuple #[v, .int .i64 (B.lE D i)]) ∧ w'.ownsRow w.heap.size tItem 5 v (B.lL D i).length (its (B.lL D i)) ∧ DevN N w' h D ∧ Chg h.foot w w' := by
  have c0 := hs.cell 0
  have c1 := hs.cell 1
  have c2 := hs.cell 2
  simp at c0 c1 c2
  have hl := hs.lt
  have HL := fun W => Lib.hid (fun hc : Chg No w W => losses_calls (hd.chgNo hc))
  have HR := fun W => Lib.hid (fun hc : Chg No w W => read_calls (hd.chgNo hc) (B.first + i))
  obtain ⟨hf1, hf2⟩ := hfit
  have HD := Lib.hid hd
  have HS := Lib.hid hs
  clear hd hs
  by_cases hlo : B.losses = D.losses
  · have hne : (B.losses != D.losses) = false := by simp [hlo]
    have hadd : IntKind.i64.wrap (B.first + (i : Int)) = B.first + (i : Int) := IntWalk.i64_in _ (by omega)
    have HLO := Lib.hid hlo
    clear hlo
    go_enter Tryz.func67, Tryz.ntmps67
    go_wp2_with fail
    go_quiet ((first | (go_at_call 35; exact quiet_left ((HL _).out (by (repeat (first | (with_reducible exact Chg.refl _ _) | (with_reducible assumption) | (with_reducible refine Chg.drewN ?_ _) | (with_reducible refine Chg.drew ?_) | (with_reducible refine Chg.alloc ?_ _) | (with_reducible refine Chg.setCell ?_ (by first | (left; simp [DevH.foot]; done) | (right; simp; done) | (right; simp; omega)) _))))))))
    go_wp2_with fail
    go_region_held3 (fun w' => w'.cell? ⟨s, 0, none⟩ = some (.pointer (some ⟨h.d, 0, none⟩)) ∧ w'.cell? ⟨s, 2, none⟩ = some (.int .i64 B.first)) (first | go_keep)
      ((go_at_call 62
        refine ((HR _).out (by (repeat (first | (with_reducible exact Chg.refl _ _) | (with_reducible assumption) | (with_reducible refine Chg.drewN ?_ _) | (with_reducible refine Chg.drew ?_) | (with_reducible refine Chg.alloc ?_ _) | (with_reducible refine Chg.setCell ?_ (by first | (left; simp [DevH.foot]; done) | (right; simp; done) | (right; simp; omega)) _))))).mono ?_
        rintro e w1 ⟨v, rfl, ho1, hd1, hc1⟩
        have HO1 := Lib.hid ho1
        have HD1 := Lib.hid hd1
        have HC1 := Lib.hid hc1
        have HS1 := Lib.hid (HS.out.chg ((by (repeat (first | (with_reducible exact Chg.refl _ _) | (with_reducible assumption) | (with_reducible refine Chg.drewN ?_ _) | (with_reducible refine Chg.drew ?_) | (with_reducible refine Chg.alloc ?_ _) | (with_reducible refine Chg.setCell ?_ (by first | (left; simp [DevH.foot]; done) | (right; simp; done) | (right; simp; omega)) _))) : Chg h.foot w _).trans hc1) (HD.out.not_foot HS.out (by decide) (by decide)))
        clear ho1 hd1 hc1
        have c01 := HS1.out.cell 0
        have c21 := HS1.out.cell 2
        simp at c01 c21))
    have HRL := read_le HD.out (B.first + (i : Int))
    obtain ⟨A, c, rfl, hnc, hrd⟩ := own_slice HO1.out
    have HCC : Hid (Chg h.foot w w1) := (((Chg.refl _ _).drewN _).trans HC1.out)
    have hsz : w.heap.size ≤ w1.heap.size := HCC.out.size
    have HRD := Lib.hid hrd
    clear hrd
    obtain ⟨z, hz⟩ : ∃ z, z = D.readE (B.first + (i : Int)) := ⟨_, rfl⟩
    have hzi := readE_in D (B.first + (i : Int))
    have HZ := Lib.hid hz
    rw [← hz] at hzi ⊢
    clear hz
    have HE : Hid (B.lE D i = if z = 0 ∨ z = 5 ∨ z = 6 then 0 else z) := by
      show _ = _
      unfold Sto.lE
      rw [if_pos HLO.out, ← HZ.out]
    have HLL : Hid (B.lL D i = if z = 0 then listL (D.read (B.first + i)) else []) := by
      show _ = _
      unfold Sto.lL
      rw [← HZ.out]
      simp [HLO.out]
    rcases hzi with rfl | rfl | rfl | rfl | rfl
    · have HT := Lib.hid (list_calls A _ c (D.read (B.first + (i : Int))) w1 (by simpa using HRD.out) (by omega) hnc)
      go_wp2_with fail
      refine HT.out.mono ?_
      rintro e w2 ⟨v2, rfl, ho2, hc2⟩
      have HO2 := Lib.hid ho2
      have HC2 := Lib.hid hc2
      clear ho2 hc2
      go_wp2
      go_ret2
      refine ⟨_, by rw [HE.out]; rfl, ?_, HD1.out.chgNo HC2.out, HCC.out.trans (HC2.out.mono (fun _ _ h => h.elim))⟩
      have hx : B.lL D i = listL (D.read (B.first + (i : Int))) := by rw [HLL.out]; simp
      rw [hx]
      exact own_base HO2.out hsz
    all_goals
      go_wp2
      go_ret2
      refine ⟨_, by rw [HE.out]; rfl, ?_, HD1.out, HCC.out⟩
      have hx : B.lL D i = [] := by rw [HLL.out]; simp
      rw [hx]
      exact World.ownsRow_nil _ _ _ _
  · have hne : (B.losses != D.losses) = true := by simp [hlo]
    have HE : Hid (B.lE D i = 4 ∧ B.lL D i = []) := by
      refine ⟨by unfold Sto.lE; rw [if_neg hlo], by unfold Sto.lL; simp [hlo]⟩
    clear hlo
    go_enter Tryz.func67, Tryz.ntmps67
    go_wp2_with fail
    go_quiet ((first | (go_at_call 35; exact quiet_left ((HL _).out (by (repeat (first | (with_reducible exact Chg.refl _ _) | (with_reducible assumption) | (with_reducible refine Chg.drewN ?_ _) | (with_reducible refine Chg.drew ?_) | (with_reducible refine Chg.alloc ?_ _) | (with_reducible refine Chg.setCell ?_ (by first | (left; simp [DevH.foot]; done) | (right; simp; done) | (right; simp; omega)) _))))))))
    go_wp2
    go_ret2
    refine ⟨_, by rw [HE.out.1]; rfl, ?_, HD.out.chgNo (by (repeat (first | (with_reducible exact Chg.refl _ _) | (with_reducible assumption) | (with_reducible refine Chg.drewN ?_ _) | (with_reducible refine Chg.drew ?_) | (with_reducible refine Chg.alloc ?_ _) | (with_reducible refine Chg.setCell ?_ (by first | (left; simp [DevH.foot]; done) | (right; simp; done) | (right; simp; omega)) _)))), by (repeat (first | (with_reducible exact Chg.refl _ _) | (with_reducible assumption) | (with_reducible refine Chg.drewN ?_ _) | (with_reducible refine Chg.drew ?_) | (with_reducible refine Chg.alloc ?_ _) | (with_reducible refine Chg.setCell ?_ (by first | (left; simp [DevH.foot]; done) | (right; simp; done) | (right; simp; omega)) _)))⟩
    rw [HE.out.2]
    exact World.ownsRow_nil _ _ _ _
theorem blist_calls {N : Nat} {w : World} {h : DevH} {D : Dev} {t : StoH} {B : Sto} (hd : DevN N w h D) (hs : StoAt w h t B) (i : Nat) (hi : i ≤ 256) :
    Calls Tryz.prog 67 #[.pointer (some ⟨t.s, 0, none⟩), .int .i64 i] w fun e w' => ∃ v, e = .returned (.tuple #[v, .int .i64 (B.lE D i)]) ∧ w'.ownsRow w.heap.size tItem 5 v (B.lL D i).length (its (B.lL D i)) ∧ DevN N w' h D ∧ Chg h.foot w w' :=
  blist0_calls hd hs.box hs.fit i hi
end Go.Proofs.YtplpbbdakihnfaaGreat
end

section
namespace Go.Proofs.YtplpbbdakihnfaaGreat
open Go.RowKit
attribute [local go_sem ↓] Go.wp_at_zero Go.wp_at_succ
def Dev.sbsE (D : Dev) : Int := if (D.sbs 2).isSome then 0 else 5
theorem sbs_succ (D : Dev) (k : Nat) : D.sbs (k + 1) = sbPick (D.sbs k) (D.read (k : Int)) (D.readE (k : Int)) := rfl
theorem blk7 {w : World} {g : Nat} {T : TypeId} {a0 a1 a2 a3 a4 a5 a6 : Value} (h : Blk w g T #[a0, a1, a2, a3, a4, a5, a6]) (b0 b1 b2 b3 b4 b5 b6 : Value) :
    Blk (((((((w.setCell ⟨g, 0, none⟩ b0).setCell ⟨g, 1, none⟩ b1).setCell ⟨g, 2, none⟩ b2).setCell ⟨g, 3, none⟩ b3).setCell ⟨g, 4, none⟩ b4).setCell ⟨g, 5, none⟩ b5).setCell ⟨g, 6, none⟩ b6) g T #[b0, b1, b2, b3, b4, b5, b6] := by
  have h0 : Blk (w.setCell ⟨g, 0, none⟩ b0) g T #[b0, a1, a2, a3, a4, a5, a6] := by have := h.set_ 0 b0; simpa using this
  have h1 : Blk ((w.setCell ⟨g, 0, none⟩ b0).setCell ⟨g, 1, none⟩ b1) g T #[b0, b1, a2, a3, a4, a5, a6] := by have := h0.set_ 1 b1; simpa using this
  have h2 : Blk (((w.setCell ⟨g, 0, none⟩ b0).setCell ⟨g, 1, none⟩ b1).setCell ⟨g, 2, none⟩ b2) g T #[b0, b1, b2, a3, a4, a5, a6] := by have := h1.set_ 2 b2; simpa using this
  have h3 : Blk ((((w.setCell ⟨g, 0, none⟩ b0).setCell ⟨g, 1, none⟩ b1).setCell ⟨g, 2, none⟩ b2).setCell ⟨g, 3, none⟩ b3) g T #[b0, b1, b2, b3, a4, a5, a6] := by have := h2.set_ 3 b3; simpa using this
  have h4 : Blk (((((w.setCell ⟨g, 0, none⟩ b0).setCell ⟨g, 1, none⟩ b1).setCell ⟨g, 2, none⟩ b2).setCell ⟨g, 3, none⟩ b3).setCell ⟨g, 4, none⟩ b4) g T #[b0, b1, b2, b3, b4, a5, a6] := by have := h3.set_ 4 b4; simpa using this
  have h5 : Blk ((((((w.setCell ⟨g, 0, none⟩ b0).setCell ⟨g, 1, none⟩ b1).setCell ⟨g, 2, none⟩ b2).setCell ⟨g, 3, none⟩ b3).setCell ⟨g, 4, none⟩ b4).setCell ⟨g, 5, none⟩ b5) g T #[b0, b1, b2, b3, b4, b5, a6] := by have := h4.set_ 5 b5; simpa using this
  have := h5.set_ 6 b6
  simpa using this
def set7 (w : World) (g : Nat) (b0 b1 b2 b3 b4 b5 b6 : Value) : World := ((((((w.setCell ⟨g, 0, none⟩ b0).setCell ⟨g, 1, none⟩ b1).setCell ⟨g, 2, none⟩ b2).setCell ⟨g, 3, none⟩ b3).setCell ⟨g, 4, none⟩ b4).setCell ⟨g, 5, none⟩ b5).setCell ⟨g, 6, none⟩ b6
theorem set7_chg (w : World) (g : Nat) (b0 b1 b2 b3 b4 b5 b6 : Value) : Chg (fun k => k = g) w (set7 w g b0 b1 b2 b3 b4 b5 b6) := by
  unfold set7
  have h0 : Chg (fun k => k = g) w (w.setCell ⟨g, 0, none⟩ b0) := chg_setCell w ⟨g, 0, none⟩ b0
  have h1 := Chg.setCell h0 (p := ⟨g, 1, none⟩) (.inl rfl) b1
  have h2 := Chg.setCell h1 (p := ⟨g, 2, none⟩) (.inl rfl) b2
  have h3 := Chg.setCell h2 (p := ⟨g, 3, none⟩) (.inl rfl) b3
  have h4 := Chg.setCell h3 (p := ⟨g, 4, none⟩) (.inl rfl) b4
  have h5 := Chg.setCell h4 (p := ⟨g, 5, none⟩) (.inl rfl) b5
  exact Chg.setCell h5 (p := ⟨g, 6, none⟩) (.inl rfl) b6
def sbBest (best : Option Sb) (b : Sb) : Option Sb := match best with
  | none => some b
  | some c => if c.seq < b.seq then some b else some c
theorem sbPick_some {best : Option Sb} {p : List UInt8} {b : Sb} (h : Sb.dec p = some b) : sbPick best p 0 = sbBest best b := by
  unfold sbPick sbBest
  rw [h]
  cases best <;> rfl
theorem sbPick_none {best : Option Sb} {p : List UInt8} {e : Int} (h : Sb.dec p = none) : sbPick best p e = best := by
  unfold sbPick
  rw [h]
theorem on_read {D : Dev} (h : D.off = false) {k : Nat} (hk : k < D.n) : (D.readE (k : Int) = 0 ∨ D.readE (k : Int) = 5 ∨ D.readE (k : Int) = 6) ∧ (D.readE (k : Int) ≠ 0 → D.read (k : Int) = []) := by
  have hh : D.has (k : Int) = true := by simp [Dev.has]; omega
  unfold Dev.readE Dev.read
  rw [hh, h]
  cases D.page (k : Int).toNat <;> simp [Pg.err, Pg.data]
theorem dec_nil : Sb.dec [] = none := by unfold Sb.dec; rw [if_neg (by simp)]
theorem sbV_eq (b : Sb) : sbV b = .agg #[.int .u64 b.seq, .int .u64 b.epoch, .int .u64 b.reserved, .int .u64 b.horizon, .int .u64 b.gen, .bool b.clean, .int .i64 b.image] := rfl
set_option maxRecDepth 100000 in
set_option maxHeartbeats 4000000 in
theorem load_calls7 {w : World} {h : DevH} {D : Dev} (hd : DevAt w h D) (hoff : D.off = false) (hn : 2 ≤ D.n) :
    Calls Tryz.prog 36 #[.pointer (some ⟨h.d, 0, none⟩)] w fun e w' => e = .returned (.tuple #[sbV D.sload, .int .i64 D.sbsE]) ∧ DevAt w' h D ∧ Chg h.foot w w' := by
  have HPG := fun W => Lib.hid (fun hc : Chg No w W => pages_calls (hd.chgNo hc))
  obtain ⟨n, hnn⟩ : ∃ n, n = D.n := ⟨_, rfl⟩
  rw [← hnn] at HPG
  have hn2 : ¬ (n : Int) < 2 := by omega
  have HN := Lib.hid hn
  have HOF := Lib.hid hoff
  have HD := Lib.hid hd
  clear hd hnn hn hoff
  go_enter Tryz.func36, Tryz.ntmps36
  go_wp2_with fail
  refine ((HPG _).out (by (repeat (first | (with_reducible exact Chg.refl _ _) | (with_reducible assumption) | (with_reducible refine Chg.drewN ?_ _) | (with_reducible refine Chg.drew ?_) | (with_reducible refine Chg.alloc ?_ _) | (with_reducible refine Chg.setCell ?_ (by first | (left; simp [DevH.foot]; done) | (right; simp; done) | (right; simp; omega)) _))))).mono ?_
  rintro e w0 ⟨rfl, rfl⟩
  go_wp2
  obtain ⟨w1, hw1⟩ : ∃ w1 : World, w1 = (w.alloc (.cells #[.int .u64 0, .int .u64 0, .int .u64 0, .int .u64 0, .int .u64 0, .bool false, .int .i64 0] tSb)).alloc (.cells #[.int .u64 0, .int .u64 0, .int .u64 0, .int .u64 0, .int .u64 0, .bool false, .int .i64 0] tSb) := ⟨_, rfl⟩
  have HRB : Hid (Blk w1 w.heap.size tSb #[.int .u64 0, .int .u64 0, .int .u64 0, .int .u64 0, .int .u64 0, .bool false, .int .i64 0]) := by show Blk _ _ _ _; rw [hw1]; exact (Blk.new w _ _).alloc _
  have HBB : Hid (Blk w1 (w.heap.size + 1) tSb #[.int .u64 0, .int .u64 0, .int .u64 0, .int .u64 0, .int .u64 0, .bool false, .int .i64 0]) := by
    show Blk _ _ _ _
    rw [hw1]
    have := Blk.new (w.alloc (.cells #[.int .u64 0, .int .u64 0, .int .u64 0, .int .u64 0, .int .u64 0, .bool false, .int .i64 0] tSb)) tSb #[.int .u64 0, .int .u64 0, .int .u64 0, .int .u64 0, .int .u64 0, .bool false, .int .i64 0]
    simp only [World.size_alloc] at this
    exact this
  have HC1 : Hid (Chg No w w1) := by show Chg No w w1; rw [hw1]; (repeat (first | (with_reducible exact Chg.refl _ _) | (with_reducible assumption) | (with_reducible refine Chg.drewN ?_ _) | (with_reducible refine Chg.drew ?_) | (with_reducible refine Chg.alloc ?_ _) | (with_reducible refine Chg.setCell ?_ (by first | (left; simp [DevH.foot]; done) | (right; simp; done) | (right; simp; omega)) _)))
  rw [← hw1]
  clear hw1 HPG
  go_loopg [5, 15] 2 (fun gk vf vi wr => ∃ (k : Nat) (best : Option Sb), gk = 2 - k ∧ k ≤ 2 ∧ vi = .int .i64 k ∧ vf = .bool best.isSome ∧ Hid (best = D.sbs k) ∧
    Hid (Blk wr (w.heap.size + 1) tSb #[.int .u64 (best.getD .zero).seq, .int .u64 (best.getD .zero).epoch, .int .u64 (best.getD .zero).reserved, .int .u64 (best.getD .zero).horizon, .int .u64 (best.getD .zero).gen, .bool (best.getD .zero).clean, .int .i64 (best.getD .zero).image] ∧ Blk wr w.heap.size tSb #[.int .u64 0, .int .u64 0, .int .u64 0, .int .u64 0, .int .u64 0, .bool false, .int .i64 0] ∧ Chg h.foot w wr ∧ DevAt wr h D))
  case atStart => exact ⟨0, none, rfl, Nat.zero_le _, rfl, rfl, rfl, HBB.out, HRB.out, HC1.out.mono (fun _ _ h => h.elim), (HD.out.chgNo HC1.out).at_⟩
  case round =>
    obtain ⟨k, best, rfl, hk, rfl, rfl, hbs, H⟩ := hrel
    by_cases hlt : k < 2
    · have hkk : (k : Int) < 2 := by omega
      have HD1 := Lib.hid (show DevN wr.heap.size wr h D from H.out.2.2.2)
      have HRD := Lib.hid (read_calls HD1.out (k : Int))
      have hrl : (D.read (k : Int)).length ≤ 1000000 := by have := read_le H.out.2.2.2 (k : Int); omega
      obtain ⟨hor, hnil⟩ := on_read HOF.out (k := k) (by have := HN.out; omega)
      have HSU := Lib.hid (sbs_succ D k)
      rw [← hbs] at HSU
      have HNX : Hid (Sb.dec (D.read (k : Int)) = none ∧ D.sbs (k + 1) = best ∨ ∃ b, Sb.dec (D.read (k : Int)) = some b ∧ D.readE (k : Int) = 0 ∧ D.sbs (k + 1) = sbBest best b) := by
        show _ ∨ _
        have e := HSU.out
        cases hdc : Sb.dec (D.read (k : Int)) with
        | none => left; exact ⟨rfl, by rw [e]; exact sbPick_none hdc⟩
        | some b =>
          right
          have he : D.readE (k : Int) = 0 := by
            rcases Classical.em (D.readE (k : Int) = 0) with h0 | h0
            · exact h0
            · rw [hnil h0, dec_nil] at hdc; cases hdc
          exact ⟨b, rfl, he, by rw [e, he]; exact sbPick_some hdc⟩
      obtain ⟨re, hre⟩ : ∃ re, re = D.readE (k : Int) := ⟨_, rfl⟩
      rw [← hre] at HRD hor HNX
      clear hnil hre HSU hbs
      have r4 : (re == 4) = false := by rcases hor with h | h | h <;> rw [h] <;> rfl
      go_wp2_with fail
      refine HRD.out.mono ?_
      rintro e w3 ⟨v3, rfl, ho3, hd3, hc3⟩
      have HD3 := Lib.hid hd3
      have HC3 := Lib.hid (H.out.2.2.1.trans hc3)
      have HB3 := Lib.hid (H.out.1.chg hc3 (fun hf => HD1.out.not_foot H.out.1 (by decide) (by decide) hf))
      have HR3 := Lib.hid (H.out.2.1.chg hc3 (fun hf => HD1.out.not_foot H.out.2.1 (by decide) (by decide) hf))
      obtain ⟨A3, c3, rfl, hnc3, hr3⟩ := own_slice ho3
      have HDE := Lib.hid (decode_calls A3 _ c3 (D.read (k : Int)) w3 (by rw [Nat.mul_one] at hr3; exact hr3) hrl hnc3)
      clear ho3 hd3 hc3 hr3 HRD
      rcases HNX.out with ⟨hdc, hs⟩ | ⟨b, hdc, rfl, hs⟩
      · rw [hdc] at HDE
        have HS := Lib.hid hs
        simp only [sbD, sbE, Option.getD_none] at HDE
        clear hdc hs HNX
        go_wp2_with fail
        refine HDE.out.mono ?_
        rintro e w4 ⟨rfl, hc4⟩
        have HD4 := Lib.hid (HD3.out.chgNo hc4).at_
        have HC4 : Hid (Chg h.foot w w4) := HC3.out.trans (hc4.mono (fun _ _ h => h.elim))
        have HB4 := Lib.hid (HB3.out.chg hc4 (fun h => h))
        have HR4 := Lib.hid (HR3.out.chg hc4 (fun h => h))
        clear hc4 HDE
        have hfin : Chg No w4 (w4.alloc (.cells #[.int .u64 0, .int .u64 0, .int .u64 0, .int .u64 0, .int .u64 0, .bool false, .int .i64 0] tSb)) := by (repeat (first | (with_reducible exact Chg.refl _ _) | (with_reducible assumption) | (with_reducible refine Chg.drewN ?_ _) | (with_reducible refine Chg.drew ?_) | (with_reducible refine Chg.alloc ?_ _) | (with_reducible refine Chg.setCell ?_ (by first | (left; simp [DevH.foot]; done) | (right; simp; done) | (right; simp; omega)) _)))
        have HFIN := Lib.hid hfin
        rw [sbV_eq]
        simp only [Sb.zero]
        clear hfin
        by_cases h0 : re = 0
        · subst h0
          go_wp2
          go_roundg (2 - (k + 1))
          case measure => omega
          case rel => exact ⟨k + 1, best, rfl, by omega, by go_num, rfl, HS.out.symm, HB4.out.alloc _, HR4.out.alloc _, HC4.out.alloc _, (HD4.out.chgNo HFIN.out).at_⟩
        · have q0 : (re == 0) = false := by simpa using h0
          go_wp2
          go_roundg (2 - (k + 1))
          case measure => omega
          case rel => exact ⟨k + 1, best, rfl, by omega, by go_num, rfl, HS.out.symm, HB4.out.alloc _, HR4.out.alloc _, HC4.out.alloc _, (HD4.out.chgNo HFIN.out).at_⟩
      · rw [hdc] at HDE
        have HS := Lib.hid hs
        simp only [sbD, sbE, Option.getD_some, sbV_eq] at HDE
        clear hdc hs HNX
        go_wp2_with fail
        refine HDE.out.mono ?_
        rintro e w4 ⟨rfl, hc4⟩
        have HD4 := Lib.hid (HD3.out.chgNo hc4).at_
        have HC4 : Hid (Chg h.foot w w4) := HC3.out.trans (hc4.mono (fun _ _ h => h.elim))
        have HB4 := Lib.hid (HB3.out.chg hc4 (fun h => h))
        have HR4 := Lib.hid (HR3.out.chg hc4 (fun h => h))
        clear hc4 HDE
        obtain ⟨s, ep, rs, hz, gn, cl, im⟩ := b
        have HB4W := HB4
        have HST : Hid (Blk (set7 w4 (w.heap.size + 1) (.int .u64 s) (.int .u64 ep) (.int .u64 rs) (.int .u64 hz) (.int .u64 gn) (.bool cl) (.int .i64 im)) (w.heap.size + 1) tSb #[.int .u64 s, .int .u64 ep, .int .u64 rs, .int .u64 hz, .int .u64 gn, .bool cl, .int .i64 im] ∧ Blk (set7 w4 (w.heap.size + 1) (.int .u64 s) (.int .u64 ep) (.int .u64 rs) (.int .u64 hz) (.int .u64 gn) (.bool cl) (.int .i64 im)) w.heap.size tSb #[.int .u64 0, .int .u64 0, .int .u64 0, .int .u64 0, .int .u64 0, .bool false, .int .i64 0] ∧ Chg h.foot w (set7 w4 (w.heap.size + 1) (.int .u64 s) (.int .u64 ep) (.int .u64 rs) (.int .u64 hz) (.int .u64 gn) (.bool cl) (.int .i64 im)) ∧ DevAt (set7 w4 (w.heap.size + 1) (.int .u64 s) (.int .u64 ep) (.int .u64 rs) (.int .u64 hz) (.int .u64 gn) (.bool cl) (.int .i64 im)) h D) := by
          have hst := set7_chg w4 (w.heap.size + 1) (.int .u64 s) (.int .u64 ep) (.int .u64 rs) (.int .u64 hz) (.int .u64 gn) (.bool cl) (.int .i64 im)
          refine ⟨blk7 HB4.out _ _ _ _ _ _ _, HR4.out.chg hst (by show ¬ w.heap.size = w.heap.size + 1; omega), HC4.out.then hst (fun i hi h => by omega), (dev_ty HD4.out hst (fun k hk e => ?_)).at_⟩
          subst e
          exact ⟨_, tSb, (0, 0), HB4.out, by decide, by decide, by decide, by decide⟩
        cases best with
        | none =>
          simp only [Option.getD_none, Sb.zero, Option.isSome_none, Int.natCast_zero] at HB4 ⊢
          have bl4 : w.heap.size + 1 < w4.heap.size := HB4.out.lt
          have k0 := HB4.out.cell 0
          have k1 := HB4.out.cell 1
          have k2 := HB4.out.cell 2
          have k3 := HB4.out.cell 3
          have k4 := HB4.out.cell 4
          have k5 := HB4.out.cell 5
          have k6 := HB4.out.cell 6
          have f0 := HB4.out.frozen 0
          have f1 := HB4.out.frozen 1
          have f2 := HB4.out.frozen 2
          have f3 := HB4.out.frozen 3
          have f4 := HB4.out.frozen 4
          have f5 := HB4.out.frozen 5
          have f6 := HB4.out.frozen 6
          simp at k0 k1 k2 k3 k4 k5 k6
          go_wp2
          go_roundg (2 - (k + 1))
          case measure => omega
          case rel => exact ⟨k + 1, some ⟨s, ep, rs, hz, gn, cl, im⟩, rfl, by omega, by go_num, rfl, HS.out.symm, HST.out.1.alloc _, HST.out.2.1.alloc _, HST.out.2.2.1.alloc _, (HST.out.2.2.2.chgNo (Chg.alloc (Chg.refl No _) _)).at_⟩
        | some c =>
          simp only [Option.getD_some, Option.isSome_some] at HB4 ⊢
          obtain ⟨sc, epc, rsc, hzc, gnc, clc, imc⟩ := c
          simp only at HB4
          have bl4 : w.heap.size + 1 < w4.heap.size := HB4.out.lt
          have k0 := HB4.out.cell 0
          have k1 := HB4.out.cell 1
          have k2 := HB4.out.cell 2
          have k3 := HB4.out.cell 3
          have k4 := HB4.out.cell 4
          have k5 := HB4.out.cell 5
          have k6 := HB4.out.cell 6
          have f0 := HB4.out.frozen 0
          have f1 := HB4.out.frozen 1
          have f2 := HB4.out.frozen 2
          have f3 := HB4.out.frozen 3
          have f4 := HB4.out.frozen 4
          have f5 := HB4.out.frozen 5
          have f6 := HB4.out.frozen 6
          simp at k0 k1 k2 k3 k4 k5 k6
          by_cases hcs : sc < s
          · have hci : (sc : Int) < (s : Int) := by omega
            have HS2 : Hid (D.sbs (k + 1) = some ⟨s, ep, rs, hz, gn, cl, im⟩) := by show _ = _; rw [HS.out]; unfold sbBest; simp only; rw [if_pos hcs]
            go_wp2
            go_roundg (2 - (k + 1))
            case measure => omega
            case rel => exact ⟨k + 1, some ⟨s, ep, rs, hz, gn, cl, im⟩, rfl, by omega, by go_num, rfl, HS2.out.symm, HST.out.1.alloc _, HST.out.2.1.alloc _, HST.out.2.2.1.alloc _, (HST.out.2.2.2.chgNo (Chg.alloc (Chg.refl No _) _)).at_⟩
          · have hci : ¬ (sc : Int) < (s : Int) := by omega
            have HS2 : Hid (D.sbs (k + 1) = some ⟨sc, epc, rsc, hzc, gnc, clc, imc⟩) := by show _ = _; rw [HS.out]; unfold sbBest; simp only; rw [if_neg hcs]
            go_wp2
            go_roundg (2 - (k + 1))
            case measure => omega
            case rel => exact ⟨k + 1, some ⟨sc, epc, rsc, hzc, gnc, clc, imc⟩, rfl, by omega, by go_num, rfl, HS2.out.symm, HB4.out.alloc _, HR4.out.alloc _, HC4.out.alloc _, (HD4.out.chgNo (Chg.alloc (Chg.refl No _) _)).at_⟩
    · obtain rfl : k = 2 := by omega
      have HBR := Lib.hid H.out.2.1
      have HBB2 := Lib.hid H.out.1
      have HCH := Lib.hid H.out.2.2.1
      have HDV := Lib.hid H.out.2.2.2
      have r0 := HBR.out.cell 0
      have r1 := HBR.out.cell 1
      have r2 := HBR.out.cell 2
      have r3 := HBR.out.cell 3
      have r4 := HBR.out.cell 4
      have r5 := HBR.out.cell 5
      have r6 := HBR.out.cell 6
      have f0 := HBR.out.frozen 0
      have f1 := HBR.out.frozen 1
      have f2 := HBR.out.frozen 2
      have f3 := HBR.out.frozen 3
      have f4 := HBR.out.frozen 4
      have f5 := HBR.out.frozen 5
      have f6 := HBR.out.frozen 6
      simp at r0 r1 r2 r3 r4 r5 r6
      have hst : ∀ b0 b1 b2 b3 b4 b5 b6, Chg h.foot w (set7 wr w.heap.size b0 b1 b2 b3 b4 b5 b6) ∧ DevAt (set7 wr w.heap.size b0 b1 b2 b3 b4 b5 b6) h D := fun b0 b1 b2 b3 b4 b5 b6 => by
        have hs := set7_chg wr w.heap.size b0 b1 b2 b3 b4 b5 b6
        refine ⟨HCH.out.then hs (fun i hi h => by omega), (dev_ty HDV.out hs (fun k hk e => ?_)).at_⟩
        subst e
        exact ⟨_, tSb, (0, 0), HBR.out, by decide, by decide, by decide, by decide⟩
      have HST := Lib.hid hst
      have HBS := Lib.hid hbs
      clear hst hbs H
      cases best with
      | none =>
        go_wp2
        refine bodyPost_ret (v := .tuple #[sbV Sb.zero, .int .i64 5]) (by simp [results, Tryz.results36, go_sem, sbV, sbc, Sb.zero, r0, r1, r2, r3, r4, r5, r6]) rfl ⟨?_, (HST.out _ _ _ _ _ _ _).2, (HST.out _ _ _ _ _ _ _).1⟩
        unfold Dev.sload Dev.sbsE
        rw [← HBS.out]
        rfl
      | some c =>
        obtain ⟨sc, epc, rsc, hzc, gnc, clc, imc⟩ := c
        simp only [Option.getD_some] at HBB2
        have k0 := HBB2.out.cell 0
        have k1 := HBB2.out.cell 1
        have k2 := HBB2.out.cell 2
        have k3 := HBB2.out.cell 3
        have k4 := HBB2.out.cell 4
        have k5 := HBB2.out.cell 5
        have k6 := HBB2.out.cell 6
        simp at k0 k1 k2 k3 k4 k5 k6
        go_wp2
        refine bodyPost_ret (v := .tuple #[sbV ⟨sc, epc, rsc, hzc, gnc, clc, imc⟩, .int .i64 0]) (by simp [results, Tryz.results36, go_sem, sbV, sbc, r0, r1, r2, r3, r4, r5, r6]) rfl ⟨?_, (HST.out _ _ _ _ _ _ _).2, (HST.out _ _ _ _ _ _ _).1⟩
        unfold Dev.sload Dev.sbsE
        rw [← HBS.out]
        rfl
end Go.Proofs.YtplpbbdakihnfaaGreat
end
