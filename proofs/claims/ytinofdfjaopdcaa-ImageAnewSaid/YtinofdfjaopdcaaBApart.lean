/- BucketApart: the walk. -/
import Derived.Test.YtinofdfjaopdcaaLawK
import Derived.Test.YtinofdfjaopdcaaLawD
namespace Go.Proofs.Ytinofdfjaopdcaa
open Go.RowKit
attribute [local go_sem ↓] Go.wp_at_zero Go.wp_at_succ
set_option linter.unusedSimpArgs false
set_option linter.unusedVariables false

theorem goods_len {l : List Item} (h : goods l = true) : 33 * l.length ≤ (records l).length := by
  induction l with
  | nil => simp [records]
  | cons x r ih =>
    simp only [goods, List.all_cons, Bool.and_eq_true] at h
    have h1 := ih h.2
    have h2 := h.1
    simp only [Item.good, Bool.and_eq_true, decide_eq_true_eq] at h2
    simp only [records, List.flatMap_cons, List.length_append, record_length, Item.size, List.length_cons] at h1 ⊢
    omega
theorem OkSt.goods_ {D : Dev} {B : Sto} {ls : List (List Item)} (h : OkSt D B ls) : goods ls.flatten = true := by
  unfold goods
  rw [List.all_eq_true]
  intro x hx
  obtain ⟨i, l, hi, hy⟩ := mem_flat.1 hx
  exact List.all_eq_true.1 ((h.pg i l hi).good) x hy
theorem flat_len : ∀ (ls : List (List Item)), (∀ l ∈ ls, l.length ≤ 12) → ls.flatten.length ≤ 12 * ls.length := by
  intro ls
  induction ls with
  | nil => intro _; simp
  | cons a r ih =>
    intro h
    have h1 := h a List.mem_cons_self
    have h2 := ih (fun l hl => h l (List.mem_cons_of_mem _ hl))
    simp only [List.flatten_cons, List.length_append, List.length_cons]
    omega
theorem OkSt.few {D : Dev} {B : Sto} {ls : List (List Item)} (h : OkSt D B ls) : ls.flatten.length ≤ 12 * B.fs.length := by
  rw [← h.len]
  apply flat_len
  intro l hl
  obtain ⟨i, hi⟩ := List.mem_iff_getElem?.1 hl
  have h1 := (h.pg i l hi).le
  have h2 := goods_len (h.pg i l hi).good
  omega

theorem ap_new (w : World) : Calls Try.prog 16 #[.int .i64 4] w fun e w' => ∃ h : DevH, e = .returned (.tuple #[.pointer (some ⟨h.d, 0, none⟩), .int .i64 0]) ∧ DevAt w' h (Dev.new 4) ∧ Chg No w w' ∧ ∀ k, h.foot k → w.heap.size ≤ k := new_calls 4 w (by decide) (by decide)
def apB : Sto := Sto.open_ (Dev.new 4) ((0 : Nat) : Int) 4
theorem ap_open {w : World} {h : DevH} (hd : DevAt w h (Dev.new 4)) : Calls Try.prog 25 #[.pointer (some ⟨h.d, 0, none⟩), .int .i64 0, .int .i64 4] w fun e w' => ∃ t : StoH, e = .returned (.tuple #[.pointer (some ⟨t.s, 0, none⟩), .int .i64 0]) ∧
      Han w' h t (Dev.new 4) apB [[], [], [], []] ∧ Chg h.foot w w' ∧ (∀ p ∈ t.ps, w.heap.size ≤ p.2) := hopen 4 4 hd (by decide) (by decide) (by decide)

/-- what Drop makes of the buckets: no more, and nothing of another bucket's -/
theorem hdrop_any {w : World} {h : DevH} {t : StoH} {D : Dev} {B : Sto} {ls : List (List Item)} (H : Han w h t D B ls) (hf : Fine B ls) (key : ByteArray) (hk : key.size ≤ 140737488351232) :
    Calls Try.prog 27 #[.pointer (some ⟨t.s, 0, none⟩), .string key] w fun e w' => ∃ (er : Int) (D' : Dev) (l : List Item), e = .returned (.int .i64 er) ∧
      Han w' h t D' B (ls.set (B.no key) (rid l key)) ∧ Chg (Own h t) w w' ∧ Fine B (ls.set (B.no key) (rid l key)) ∧ ls[B.no key]? = some l := by
  obtain ⟨l, hl⟩ : ∃ l, ls[B.no key]? = some l := ⟨_, List.getElem?_eq_getElem (H.ok.no_ key)⟩
  refine (hdrop H key hk hl).mono ?_
  rintro e w' ⟨rfl, hh, hc⟩
  exact ⟨_, _, l, rfl, hh, hc, hf.drop key hl, hl⟩

/-- a set of one bucket leaves the others -/
theorem oth_set {B : Sto} {ls : List (List Item)} (hf : Fine B ls) (h4 : B.fs.length = 4) {i : Nat} {l l' : List Item} (hl : ls[i]? = some l) (hl' : ∀ x ∈ l', B.no x.key = i) : oth (ls.set i l').flatten i = oth ls.flatten i := by
  apply oth_flat_set
  intro l0 h0
  have hno : ∀ x : Item, khash x.key.data.toList % 4 = B.no x.key := fun x => by unfold Sto.no; rw [h4]
  rw [oth_none (fun x hx => (hno x).trans (hf.home i l0 h0 x hx)), oth_none (fun x hx => (hno x).trans (hl' x hx))]

/-- the law, plain -/
theorem apart_law {B B1 : Sto} {ls ls1 : List (List Item)} (hf : Fine B ls) (h4 : B.fs.length = 4) (x : Item) {er : Int} {out : List Item} (hs : Stepped x B ls er out B1 ls1) {l : List Item} (hl : ls1[B1.no x.key]? = some l) :
    oth ls.flatten (B.no x.key) = oth (ls1.set (B1.no x.key) (rid l x.key)).flatten (B.no x.key) ∧ (er = 0 ∨ (ls1.set (B1.no x.key) (rid l x.key)).flatten.length ≤ ls.flatten.length) := by
  have hf1 := hs.fine hf
  have h41 : B1.fs.length = 4 := by rw [hs.len]; exact h4
  have hno : B1.no x.key = B.no x.key := by unfold Sto.no; rw [h41, h4]
  have e2 := oth_set hf1 h41 hl (l' := rid l x.key) (fun y hy => hf1.home _ _ hl y (mem_rid.1 hy).1)
  rw [hno] at e2 hl ⊢
  rw [e2]
  cases hs with
  | bad _ => exact ⟨rfl, .inr (rid_flat_len _ _ _ _ hl (rid_len _ _))⟩
  | put l0 hx h0 =>
    refine ⟨?_, .inl rfl⟩
    rw [oth_set hf h4 h0 (fun y hy => ?_)]
    rcases pleft_sub hy with rfl | ⟨h1, _⟩
    · rfl
    · exact hf.home _ _ h0 y h1

set_option maxRecDepth 100000 in
set_option maxHeartbeats 4000000 in
theorem apart_calls (A : Option Addr) (n c : Nat) (l : List Item) (T : TypeId) (x : Item) (w : World) (hn : l.length = n) (hr : Rd w T A (n * 5) (its l)) (hx : x.key.size ≤ 140737488351232) :
    Calls Try.prog 9 #[.slice A n c, itemV x] w fun e w' => e = .returned (.bool true) ∧ Chg No w w' := by
  have HAW := fun W => Lib.hid (awake_calls W)
  have HN := fun W => Lib.hid (ap_new W)
  have HR := Lib.hid hr
  have HLN := Lib.hid hn
  clear hr hn
  by_cases hbig : 40 < n
  · have hb : decide ((40 : Int) < n) = true := by simp; omega
    go_enter Try.func9, Try.ntmps9
    go_wp2_with fail
    refine (HAW _).out.mono ?_
    rintro e w0 ⟨rfl, hc0⟩
    have HC0 : Hid (Chg No w w0) := ((Chg.refl _ _).alloc _).trans hc0
    clear hc0 HAW HN
    go_wp2
    go_ret
    exact ⟨rfl, HC0.out⟩
  · have hle : n ≤ 40 := by omega
    have hb : decide ((40 : Int) < n) = false := by simp; omega
    go_enter Try.func9, Try.ntmps9
    go_wp2_with fail
    refine (HAW _).out.mono ?_
    rintro e w0 ⟨rfl, hc0⟩
    have HC0 : Hid (Chg No w w0) := ((Chg.refl _ _).alloc _).trans hc0
    have HX0 : Hid (Blk w0 w.heap.size tItem (itc x).toArray) := (Blk.new w tItem (itc x).toArray).chg hc0 (fun h => h)
    clear hc0 HAW
    go_wp2_with fail
    refine (HN _).out.mono ?_
    rintro e w1 ⟨h, rfl, hd1, hc1, hf1⟩
    have HD1 := Lib.hid hd1
    have HC1 := Lib.hid (HC0.out.trans hc1)
    have HX1 := Lib.hid (HX0.out.chg hc1 (fun h => h))
    have HF1 : Hid (∀ k, h.foot k → w.heap.size ≤ k) := fun k hk => Nat.le_trans HC0.out.size (hf1 k hk)
    clear hd1 hc1 hf1 HN
    go_wp2_with fail
    refine (ap_open HD1.out).mono ?_
    rintro e w4 ⟨t, rfl, hh4, hc4, hq4⟩
    have HH4 := Lib.hid hh4
    have HOW : Hid (∀ k, Own h t k → w.heap.size ≤ k) := by
      rintro k (hk | ⟨p, hp, rfl⟩)
      · exact HF1.out k hk
      · exact Nat.le_trans HC1.out.size (hq4 p hp)
    have HC4 : Hid (Chg No w w4) := HC1.out.then hc4 (fun i hi hT => by have := HF1.out i hT; omega)
    have HX4 : Hid (Blk w4 w.heap.size tItem (itc x).toArray) := HX1.out.chg hc4 (HD1.out.not_foot HX1.out (by decide) (by decide))
    clear hh4 hc4 hq4
    go_wp2
    go_loopg [9] n (fun g v9 wr => ∃ (k : Nat), v9 = .int .i64 k ∧ k ≤ n ∧ n - k = g ∧ Hid (∃ (D : Dev) (B : Sto) (ls : List (List Item)), Han wr h t D B ls ∧ Fine B ls ∧ B.fs.length = 4 ∧ Chg No w wr ∧ Blk wr w.heap.size tItem (itc x).toArray))
    case atStart => exact ⟨0, rfl, by omega, by omega, ⟨_, _, _, HH4.out, new_fine 4 4, rfl, HC4.out, HX4.out⟩⟩
    case round =>
      obtain ⟨k, rfl, hk, hg, H⟩ := hrel
      subst hg
      obtain ⟨D, B, ls, H⟩ := H.out
      have H := Lib.hid H
      clear HH4 HC4 HX4 HD1 HC1 HX1 HC0 HX0
      by_cases h0 : k < n
      · obtain ⟨y, hy⟩ : ∃ y, l[k]? = some y := ⟨_, List.getElem?_eq_getElem (by have := HLN.out; omega)⟩
        obtain ⟨g, off, rfl, hg, hc⟩ := (HR.out.chg H.out.2.2.2.1 (fun _ _ _ _ h => h)).at_ (j := k * 5) (by omega)
        have c0 := hc (k * 5 + 0) _ (its_get l k 0 y hy (by omega))
        have c1 := hc (k * 5 + 1) _ (its_get l k 1 y hy (by omega))
        have c2 := hc (k * 5 + 2) _ (its_get l k 2 y hy (by omega))
        have c3 := hc (k * 5 + 3) _ (its_get l k 3 y hy (by omega))
        have c4 := hc (k * 5 + 4) _ (its_get l k 4 y hy (by omega))
        simp only [itc, List.getElem_cons_zero, List.getElem_cons_succ, ← Nat.add_assoc, Nat.add_zero] at c0 c1 c2 c3 c4
        have hki : (0 : Int) ≤ (k : Int) := by omega
        have hkn : (k : Int) < (n : Int) := by omega
        have HP := Lib.hid (hput_any H.out.1 y)
        clear hc hy
        go_wp2_with fail
        refine HP.out.mono ?_
        rintro e w5 ⟨v, er, out, D', B', ls', rfl, _, hh5, hc5, hst⟩
        have HH5 := Lib.hid hh5
        have HST := Lib.hid hst
        have HC5 := Lib.hid hc5
        clear hh5 hst hc5
        go_wp2
        go_roundg (n - (k + 1))
        case measure => omega
        case rel =>
          exact ⟨k + 1, rfl, by omega, rfl, ⟨D', B', ls', HH5.out, HST.out.fine H.out.2.1, HST.out.len.trans H.out.2.2.1, H.out.2.2.2.1.then HC5.out (fun i hi hT => by have := HOW.out i hT; omega),
            H.out.2.2.2.2.chg HC5.out (H.out.1.far H.out.2.2.2.2 (by decide) (by decide) (by decide))⟩⟩
      · have HI := Lib.hid (hitems H.out.1)
        have hwr : w.heap.size ≤ wr.heap.size := H.out.2.2.2.1.size
        go_wp2_with fail
        refine HI.out.mono ?_
        rintro e w5 ⟨v5, rfl, ho5, hh5, hc5⟩
        have HO5 := Lib.hid ho5
        have HH5 := Lib.hid hh5
        have HC5 : Hid (Chg No w w5) := H.out.2.2.2.1.then hc5 (fun i hi hT => by have := HOW.out i hT; omega)
        have HX5 : Hid (Blk w5 w.heap.size tItem (itc x).toArray) := H.out.2.2.2.2.chg hc5 (H.out.1.far H.out.2.2.2.2 (by decide) (by decide) (by decide))
        clear ho5 hh5 hc5
        have x0 := HX5.out.cell 0
        have x1 := HX5.out.cell 1
        have x2 := HX5.out.cell 2
        have x3 := HX5.out.cell 3
        have x4 := HX5.out.cell 4
        simp [itc] at x0 x1 x2 x3 x4
        have HP := Lib.hid (hput_any HH5.out x)
        go_wp2_with fail
        refine HP.out.mono ?_
        rintro e w6 ⟨v6, er, out, D6, B6, ls6, rfl, _, hh6, hc6, hst⟩
        have HH6 := Lib.hid hh6
        have HST := Lib.hid hst
        have HO6 := Lib.hid (own_chg HO5.out hc6 (fun k hk hT => by have h1 := own_new HO5.out k hk; have h2 := H.out.1.lt hT; omega))
        have HC6 : Hid (Chg No w w6) := HC5.out.then hc6 (fun i hi hT => by have := HOW.out i hT; omega)
        have HX6 : Hid (Blk w6 w.heap.size tItem (itc x).toArray) := HX5.out.chg hc6 (HH5.out.far HX5.out (by decide) (by decide) (by decide))
        clear hh6 hst hc6 x0 x1 x2 x3 x4
        have y0 := HX6.out.cell 0
        have y1 := HX6.out.cell 1
        have y2 := HX6.out.cell 2
        have y3 := HX6.out.cell 3
        have y4 := HX6.out.cell 4
        simp [itc] at y0 y1 y2 y3 y4
        have HD6 := Lib.hid (hdrop_any HH6.out (HST.out.fine H.out.2.1) x.key hx)
        go_wp2_with fail
        refine HD6.out.mono ?_
        rintro e w7 ⟨er7, D7, l7, rfl, hh7, hc7, hf7, hl7⟩
        have HH7 := Lib.hid hh7
        have HLW := Lib.hid (apart_law H.out.2.1 H.out.2.2.1 x HST.out hl7)
        have HO7 := Lib.hid (own_chg HO6.out hc7 (fun k hk hT => by have h1 := own_new HO5.out k hk; have h2 := H.out.1.lt hT; omega))
        have HC7 : Hid (Chg No w w7) := HC6.out.then hc7 (fun i hi hT => by have := HOW.out i hT; omega)
        have HX7 : Hid (Blk w7 w.heap.size tItem (itc x).toArray) := HX6.out.chg hc7 (HH6.out.far HX6.out (by decide) (by decide) (by decide))
        clear hh7 hf7 hl7 hc7 y0 y1 y2 y3 y4
        obtain ⟨m7, hm7⟩ : ∃ m7, m7 = ls6.set (B6.no x.key) (rid l7 x.key) := ⟨_, rfl⟩
        rw [← hm7] at HH7 HLW
        clear hm7
        have HI7 := Lib.hid (hitems HH7.out)
        go_wp2_with fail
        refine HI7.out.mono ?_
        rintro e w8 ⟨v8, rfl, ho8, hh8, hc8⟩
        have HH8 := Lib.hid hh8
        have HP8 := Lib.hid ho8
        have HO8 := Lib.hid (own_chg HO7.out hc8 (fun k hk hT => by have h1 := own_new HO5.out k hk; have h2 := H.out.1.lt hT; omega))
        have HC8 : Hid (Chg No w w8) := HC7.out.then hc8 (fun i hi hT => by have := HOW.out i hT; omega)
        have HX8 : Hid (Blk w8 w.heap.size tItem (itc x).toArray) := HX7.out.chg hc8 (HH7.out.far HX7.out (by decide) (by decide) (by decide))
        clear ho8 hh8 hc8
        have z0 := HX8.out.cell 0
        have z1 := HX8.out.cell 1
        have z2 := HX8.out.cell 2
        have z3 := HX8.out.cell 3
        have z4 := HX8.out.cell 4
        simp [itc] at z0 z1 z2 z3 z4
        have hfe1 : ls.flatten.length ≤ 1000000 := by have := H.out.1.ok.few; rw [H.out.2.2.1] at this; omega
        have hfe2 : m7.flatten.length ≤ 1000000 := by have h1 := HH8.out.ok.few; have h2 := HST.out.len; have h3 := H.out.2.2.1; omega
        have hg1 := H.out.1.ok.goods_
        have hg2 := HH8.out.ok.goods_
        obtain ⟨la, hla⟩ : ∃ la, la = ls.flatten := ⟨_, rfl⟩
        obtain ⟨lb, hlb⟩ : ∃ lb, lb = m7.flatten := ⟨_, rfl⟩
        rw [← hla] at HO8 HLW hfe1 hg1
        rw [← hlb] at HP8 HLW hfe2 hg2
        clear hla hlb
        obtain ⟨A5, c5, rfl, hnc5, hrd5⟩ := own_slice HO8.out
        obtain ⟨A8, c8, rfl, hnc8, hrd8⟩ := own_slice HP8.out
        obtain ⟨hv, hhv⟩ : ∃ hv, hv = khash x.key.data.toList := ⟨_, rfl⟩
        have hhl : hv < 18446744073709551616 := by rw [hhv]; exact khash_lt _
        have hcall := rhash_calls x.key w8 hx
        rw [← hhv] at hcall
        have HHC := Lib.hid hcall
        have hno : B.no x.key = hv % 4 := by unfold Sto.no; rw [H.out.2.2.1, hhv]
        rw [hno] at HLW
        obtain ⟨hv4, hhv4⟩ : ∃ hv4, hv4 = hv % 4 := ⟨_, rfl⟩
        have hmod : IntKind.u64.wrap ((hv : Int) % 4) = ((hv4 : Nat) : Int) := by rw [hhv4, wraps_u64 _ (by omega) (by omega)]; omega
        have hmod2 : ((hv : Int) % 4) = ((hv4 : Nat) : Int) := by omega
        rw [← hhv4] at HLW
        have hv4l : hv4 < 4 := by omega
        have HA1 := fun W => Lib.hid (fun hc : Chg No w8 W => others_calls A5 c5 la hv4 W (hrd5.chg hc (fun _ _ _ _ h => h)) hfe1 hg1 hv4l)
        have HA2 := fun W => Lib.hid (fun hc : Chg No w8 W => others_calls A8 c8 lb hv4 W (hrd8.chg hc (fun _ _ _ _ h => h)) hfe2 hg2 hv4l)
        clear hcall hhv hno hhv4 hrd5 hrd8 hg1 hg2
        go_wp2_with fail
        refine HHC.out.mono ?_
        rintro e w9 ⟨rfl, rfl⟩
        go_wp2_with fail
        refine ((HA1 _).out (by (repeat (first | (with_reducible exact Chg.refl _ _) | (with_reducible assumption) | (with_reducible refine Chg.drewN ?_ _) | (with_reducible refine Chg.drew ?_) | (with_reducible refine Chg.alloc ?_ _) | (with_reducible refine Chg.setCell ?_ (by first | (left; simp [DevH.foot]; done) | (right; simp; done) | (right; simp; omega)) _))))).mono ?_
        rintro e w10 ⟨v10, rfl, ho10, hc10⟩
        have HO10 := Lib.hid ho10
        have HC10 := Lib.hid hc10
        clear ho10 hc10
        go_wp2_with fail
        refine ((HA2 _).out HC10.out).mono ?_
        rintro e w11 ⟨v11, rfl, ho11, hc11⟩
        have hoB := own_chg HO10.out hc11 (fun _ _ h => h)
        obtain ⟨A10, c10, rfl, hnc10, hrd10⟩ := own_slice hoB
        obtain ⟨A11, c11, rfl, hnc11, hrd11⟩ := own_slice ho11
        have HLI := Lib.hid (lists_calls A10 A11 c10 c11 _ _ w11 hrd10 hrd11 (Nat.le_trans (List.length_filter_le _ _) (by omega)) (Nat.le_trans (List.length_filter_le _ _) (by omega)))
        have HC11 := Lib.hid ((HC8.out.trans HC10.out).trans hc11)
        clear ho11 hc11 hoB hrd10 hrd11 hnc10 hnc11
        go_wp2_with fail
        refine HLI.out.mono ?_
        rintro e w12 ⟨rfl, hc12⟩
        have HC12 := Lib.hid (HC11.out.trans hc12)
        clear hc12
        rw [decide_eq_true HLW.out.1]
        have her := HST.out.er01
        have hle2 := HLW.out.2
        obtain ⟨na, hna⟩ : ∃ na, na = la.length := ⟨_, rfl⟩
        obtain ⟨nb, hnb⟩ : ∃ nb, nb = lb.length := ⟨_, rfl⟩
        rw [← hna, ← hnb] at hle2
        rw [← hna, ← hnb]
        clear hna hnb
        rcases her with rfl | rfl
        · clear hle2
          go_wp2
          go_ret
          exact ⟨rfl, HC12.out⟩
        · have hle3 : nb ≤ na := by omega
          have hb3 : decide ((nb : Int) ≤ na) = true := by simp; omega
          clear hle2
          go_wp2
          go_ret
          exact ⟨rfl, HC12.out⟩
end Go.Proofs.Ytinofdfjaopdcaa
