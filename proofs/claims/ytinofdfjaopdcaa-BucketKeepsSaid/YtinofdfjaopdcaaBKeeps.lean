/- BucketKeeps: the walk. -/
import Derived.Test.YtinofdfjaopdcaaBFirst
namespace Go.Proofs.Ytinofdfjaopdcaa
open Go.RowKit
attribute [local go_sem ↓] Go.wp_at_zero Go.wp_at_succ
set_option linter.unusedSimpArgs false
set_option linter.unusedVariables false

theorem ke_new (w : World) : Calls Try.prog 16 #[.int .i64 5] w fun e w' => ∃ h : DevH, e = .returned (.tuple #[.pointer (some ⟨h.d, 0, none⟩), .int .i64 0]) ∧ DevAt w' h (Dev.new 5) ∧ Chg No w w' ∧ ∀ k, h.foot k → w.heap.size ≤ k := new_calls 5 w (by decide) (by decide)
theorem ke_open {w : World} {h : DevH} (pages : Nat) (hp : 1 ≤ pages) (hp2 : pages ≤ 5) (hd : DevAt w h (Dev.new 5)) : Calls Try.prog 25 #[.pointer (some ⟨h.d, 0, none⟩), .int .i64 0, .int .i64 pages] w fun e w' => ∃ t : StoH, e = .returned (.tuple #[.pointer (some ⟨t.s, 0, none⟩), .int .i64 0]) ∧
      Han w' h t (Dev.new 5) (Sto.open_ (Dev.new 5) ((0 : Nat) : Int) pages) (List.replicate pages []) ∧ Chg h.foot w w' ∧ (∀ p ∈ t.ps, w.heap.size ≤ p.2) := hopen 5 pages hd hp (by omega) hp2
theorem open_len (n pages : Nat) : (Sto.open_ (Dev.new n) ((0 : Nat) : Int) pages).fs.length = pages := by unfold Sto.open_; rw [List.length_map, List.length_range]

theorem Han.own_far {w : World} {h : DevH} {t : StoH} {D : Dev} {B : Sto} {ls : List (List Item)} (H : Han w h t D B ls) {base n size : Nat} {v : Value} {xs : List Value} (ho : w.ownsRow base tItem size v n xs) : ∀ k, v.ownBlock = some k → ¬ Own h t k := by
  intro k hk
  rcases ho.2 with ⟨rfl, _⟩ | ⟨g, cap, cur, rfl, _, hh, _⟩
  · simp [Value.ownBlock] at hk
  · have : g = k := by simpa [Value.ownBlock] using hk
    subst this
    exact H.far hh (by decide) (by decide) (by decide)

theorem own_items {w : World} {base n size : Nat} {v : Value} {xs : List Value} (ho : w.ownsRow base tItem size v n xs) : ∀ k, v.ownBlock = some k → ∃ cs fz, w.heap[k]? = some (.cells cs tItem fz) := by
  intro k hk
  rcases ho.2 with ⟨rfl, _⟩ | ⟨g, cap, cur, rfl, _, hh, _⟩
  · simp [Value.ownBlock] at hk
  · have : g = k := by simpa [Value.ownBlock] using hk
    subst this
    exact ⟨_, _, hh⟩
/-- what is changed are rows of items -/
theorem Han.chgItem {S : Nat → Prop} {w w' : World} {h : DevH} {t : StoH} {D : Dev} {B : Sto} {ls : List (List Item)} (H : Han w h t D B ls) (hc : Chg S w w') (hS : ∀ k, S k → ∃ cs fz, w.heap[k]? = some (.cells cs tItem fz)) : Han w' h t D B ls := by
  have hty : ∀ (g : Nat) (cs : Array Value) (T : TypeId), T ≠ tItem → Blk w g T cs → ¬ S g := by
    intro g cs T hT hb hs
    obtain ⟨cs', fz, h2⟩ := hS g hs
    unfold Blk at hb
    rw [hb] at h2
    cases h2
    exact hT rfl
  have hft : ∀ k, h.foot k → ¬ S k := by
    intro k hk hs
    obtain ⟨cs', fz, h2⟩ := hS k hs
    exact DevN.not_foot H.dev h2 (by decide) (by decide) hk
  refine ⟨(DevN.chg H.dev hc (hft _ (.inl rfl)) (hft _ (.inr (.inl rfl))) (hft _ (.inr (.inr rfl))) (fun g cs T _ hT hb => hty g cs T (by rcases hT with rfl | rfl <;> decide) hb)).at_, H.sto.chg hc (fun g cs T hT hb => hty g cs T (by rcases hT with rfl | rfl | rfl | rfl <;> decide) hb), H.ok⟩

/-- an item's cells in a row that is read, in whatever world that has the same block -/
theorem rd_at6 {w : World} {t : TypeId} {A : Option Addr} {n k : Nat} {l : List Item} {x : Item} (h : Rd w t A (n * 5) (its l)) (hk : k < n) (hx : l[k]? = some x) :
    ∃ g off cur fz, A = some ⟨g, off, none⟩ ∧ w.heap[g]? = some (.cells cur t fz) ∧ ∀ W : World, W.heap[g]? = w.heap[g]? → W.cell? ⟨g, off + k * 5, none⟩ = some (.string x.key) ∧ W.cell? ⟨g, off + k * 5 + 1, none⟩ = some (.string x.val) ∧
      W.cell? ⟨g, off + k * 5 + 2, none⟩ = some (.int .u32 x.flags.toNat) ∧ W.cell? ⟨g, off + k * 5 + 3, none⟩ = some (.int .i64 x.exp.toInt) ∧ W.cell? ⟨g, off + k * 5 + 4, none⟩ = some (.int .u64 x.ver.toNat) := by
  obtain ⟨g, off, cur, fz, rfl, hg, hc⟩ := h.2 (by omega)
  refine ⟨g, off, cur, fz, rfl, hg, fun W hW => ?_⟩
  have hc' : ∀ j u, (its l)[j]? = some u → W.cell? ⟨g, off + j, none⟩ = some u := fun j u hu => (cell_of_row W g _ cur t fz (hW.trans hg)).trans (hc j u hu)
  have c0 := hc' (k * 5 + 0) _ (its_get l k 0 x hx (by omega))
  have c1 := hc' (k * 5 + 1) _ (its_get l k 1 x hx (by omega))
  have c2 := hc' (k * 5 + 2) _ (its_get l k 2 x hx (by omega))
  have c3 := hc' (k * 5 + 3) _ (its_get l k 3 x hx (by omega))
  have c4 := hc' (k * 5 + 4) _ (its_get l k 4 x hx (by omega))
  simp only [itc, List.getElem_cons_zero, List.getElem_cons_succ, ← Nat.add_assoc, Nat.add_zero] at c0 c1 c2 c3 c4
  exact ⟨c0, c1, c2, c3, c4⟩

/-- Put, as the law counts -/
theorem ke_put {w : World} {h : DevH} {t : StoH} {D : Dev} {B : Sto} {ls : List (List Item)} {now : List Item} (H : Han w h t D B ls) (K : Keeps B ls now) (x : Item) :
    Calls Try.prog 26 #[.pointer (some ⟨t.s, 0, none⟩), itemV x] w fun e w' => ∃ (v : Value) (er : Int) (D' : Dev) (B' : Sto) (ls' : List (List Item)), e = .returned (.tuple #[v, .int .i64 er]) ∧ B'.fs.length = B.fs.length ∧ Chg (Own h t) w w' ∧ Han w' h t D' B' ls' ∧
      ((er = 1 ∧ x.small = false ∧ Keeps B' ls' now) ∨ (er = 0 ∧ x.small = true ∧ ∃ out : List Item, w'.ownsRow w.heap.size tItem 5 v out.length (its out) ∧ out.length ≤ 12 ∧ Keeps B' ls' (ridAll (rid now x.key) out ++ [x]) ∧
        ∀ (k : Nat) (y : Item), out[k]? = some y → (rid (ridAll (rid now x.key) (out.take k)) y.key).length < (ridAll (rid now x.key) (out.take k)).length)) := by
  refine (hput_any H x).mono ?_
  rintro e w' ⟨v, er, out, D', B', ls', rfl, ho, hh, hc, hs⟩
  refine ⟨v, er, D', B', ls', rfl, hs.len, hc, hh, ?_⟩
  cases hs with
  | bad hx => exact .inl ⟨rfl, hx, K⟩
  | put l1 hx hl1 =>
    have hx' := hx
    simp only [Item.small, Bool.and_eq_true, decide_eq_true_eq] at hx'
    refine .inr ⟨rfl, hx, pout l1 x, ho, ?_, K.put x (by omega) hl1, fun k y hy => K.less x (by omega) hl1 hy⟩
    rw [pout_eq l1 x (by omega), List.length_take]
    have h1 := rid_len l1 x.key
    have h2 := goods_len (H.ok.pg _ _ hl1).good
    have h3 := (H.ok.pg _ _ hl1).le
    omega

theorem ke_get {w : World} {h : DevH} {t : StoH} {D : Dev} {B : Sto} {ls : List (List Item)} {now : List Item} (H : Han w h t D B ls) (K : Keeps B ls now) {y : Item} (hy : y ∈ now) :
    Calls Try.prog 29 #[.pointer (some ⟨t.s, 0, none⟩), .string y.key] w fun e w' => e = .returned (.tuple #[itemV y, .int .i64 0]) ∧ Han w' h t D B ls ∧ Chg (Own h t) w w' := by
  obtain ⟨l, hl, hf, hm⟩ := K.get H.ok.len hy
  have hg := List.all_eq_true.1 H.ok.goods_ y ((K.mem y).1 hy)
  simp only [Item.good, Bool.and_eq_true, decide_eq_true_eq] at hg
  have h1 := hget H y.key (by omega) hl hm
  rw [hf] at h1
  exact h1
theorem ke_may {w : World} {h : DevH} {t : StoH} {D : Dev} {B : Sto} {ls : List (List Item)} {now : List Item} (H : Han w h t D B ls) (K : Keeps B ls now) {y : Item} (hy : y ∈ now) :
    Calls Try.prog 30 #[.pointer (some ⟨t.s, 0, none⟩), .string y.key] w fun e w' => e = .returned (.bool true) ∧ Chg No w w' := by
  obtain ⟨l, hl, hf, hm⟩ := K.get H.ok.len hy
  have hg := List.all_eq_true.1 H.ok.goods_ y ((K.mem y).1 hy)
  simp only [Item.good, Bool.and_eq_true, decide_eq_true_eq] at hg
  have h1 := hmay H y.key (by omega)
  rw [hm] at h1
  exact h1

set_option maxRecDepth 100000 in
set_option maxHeartbeats 8000000 in
theorem keeps_calls (z : Int) (A : Option Addr) (n c : Nat) (l : List Item) (T : TypeId) (w : World) (hz : -9223372036854775808 ≤ z ∧ z ≤ 9223372036854775807) (hn : l.length = n) (hr : Rd w T A (n * 5) (its l)) :
    Calls Try.prog 8 #[.int .i64 z, .slice A n c] w fun e w' => e = .returned (.bool true) ∧ Chg No w w' := by
  have HAW := fun W => Lib.hid (awake_calls W)
  have HN := fun W => Lib.hid (ke_new W)
  have HR := Lib.hid hr
  have HLN := Lib.hid hn
  obtain ⟨hz1, hz2⟩ := hz
  clear hr hn
  by_cases hbig : 1 ≤ z ∧ z ≤ 5 ∧ n ≤ 60
  · obtain ⟨hp1, hp2, hle⟩ := hbig
    obtain ⟨pages, rfl⟩ : ∃ pages : Nat, z = pages := ⟨z.toNat, by omega⟩
    have b1 : decide ((pages : Int) < 1) = false := by simp; omega
    have b2 : decide ((5 : Int) < pages) = false := by simp; omega
    have b3 : decide ((60 : Int) < n) = false := by simp; omega
    have HPG : 1 ≤ pages ∧ pages ≤ 5 := by omega
    go_enter Try.func8, Try.ntmps8
    go_wp2_with fail
    refine (HAW _).out.mono ?_
    rintro e w0 ⟨rfl, hc0⟩
    have HC0 : Hid (Chg No w w0) := hc0
    clear hc0 HAW
    go_wp2_with fail
    refine (HN _).out.mono ?_
    rintro e w1 ⟨h, rfl, hd1, hc1, hf1⟩
    have HD1 := Lib.hid hd1
    have HC1 := Lib.hid (HC0.out.trans hc1)
    have HF1 : Hid (∀ k, h.foot k → w.heap.size ≤ k) := fun k hk => Nat.le_trans HC0.out.size (hf1 k hk)
    clear hd1 hc1 hf1 HN
    go_wp2_with fail
    refine (ke_open pages HPG.1 HPG.2 HD1.out).mono ?_
    rintro e w4 ⟨t, rfl, hh4, hc4, hq4⟩
    have HH4 := Lib.hid hh4
    have HOW : Hid (∀ k, Own h t k → w.heap.size ≤ k) := by
      rintro k (hk | ⟨p, hp, rfl⟩)
      · exact HF1.out k hk
      · exact Nat.le_trans HC1.out.size (hq4 p hp)
    have HC4 : Hid (Chg No w w4) := HC1.out.then hc4 (fun i hi hT => by have := HF1.out i hT; omega)
    clear hh4 hc4 hq4
    go_wp2
    go_loopg [9, 10] n (fun g v9 v10 wr => ∃ (k : Nat), v10 = .int .i64 k ∧ k ≤ n ∧ n - k = g ∧ Hid (∃ (D : Dev) (B : Sto) (ls : List (List Item)) (now : List Item), Han wr h t D B ls ∧ Keeps B ls now ∧ B.fs.length = pages ∧ Chg No w wr ∧ wr.ownsRow w.heap.size tItem 5 v9 now.length (its now) ∧ now.length ≤ k))
    case atStart => exact ⟨0, rfl, by omega, by omega, ⟨_, _, _, [], HH4.out, new_keeps 5 pages, open_len 5 pages, HC4.out, World.ownsRow_nil _ _ _ _, Nat.le_refl _⟩⟩
    case round =>
      obtain ⟨k, rfl, hk, hg, H⟩ := hrel
      subst hg
      obtain ⟨D, B, ls, now, H⟩ := H.out
      have H := Lib.hid H
      clear HH4 HC4 HD1 HC1 HC0
      have hnow : now.length ≤ 60 := by have := H.out.2.2.2.2.2; omega
      by_cases h0 : k < n
      · obtain ⟨x, hx⟩ : ∃ x, l[k]? = some x := ⟨_, List.getElem?_eq_getElem (by have := HLN.out; omega)⟩
        obtain ⟨g, off, rfl, hg, hc⟩ := rd_at5 HR.out h0 hx
        have HCY := fun W => Lib.hid (hc W)
        have hki : (0 : Int) ≤ (k : Int) := by omega
        have hkn : (k : Int) < (n : Int) := by omega
        obtain ⟨a0, a1, a2, a3, a4⟩ := (HCY wr).out H.out.2.2.2.1
        have HP := Lib.hid (ke_put H.out.1 H.out.2.1 x)
        clear hc hx
        go_wp2_with fail
        refine HP.out.mono ?_
        rintro e w5 ⟨v5, er, D5, B5, ls5, rfl, hb5, hc5, hh5, hcase⟩
        have HH5 := Lib.hid hh5
        have HB5 := Lib.hid (hb5.trans H.out.2.2.1)
        have HCW5 : Hid (Chg No w w5) := H.out.2.2.2.1.then hc5 (fun i hi hT => by have := HOW.out i hT; omega)
        have HNW := Lib.hid (own_chg H.out.2.2.2.2.1 hc5 (H.out.1.own_far H.out.2.2.2.2.1))
        clear hh5 hb5 hc5 a0 a1 a2 a3 a4 HP
        obtain ⟨a0, a1, a2, a3, a4⟩ := (HCY w5).out HCW5.out
        rcases hcase with ⟨rfl, hsm, hk5⟩ | ⟨rfl, hsm, out, hcase⟩
        · have HK5 := Lib.hid hk5
          clear hk5
          cases hgx : x.good with
          | false =>
            have HGC : ∀ W, Hid (Calls Try.prog 19 #[itemV x] W fun e w' => e = .returned (.bool false) ∧ Chg No W w') := fun W => by have := rgood_calls x W; rw [hgx] at this; exact this
            clear hgx hsm
            go_wp2_with fail
            refine (HGC _).out.mono ?_
            rintro e w6 ⟨rfl, hc6⟩
            have HCW6 := Lib.hid (HCW5.out.trans hc6)
            have HH6 := Lib.hid (HH5.out.chgNo hc6)
            have HN6 := Lib.hid (own_chg HNW.out hc6 (fun _ _ h => h))
            clear hc6
            go_wp2
            go_roundg (n - (k + 1))
            case measure => omega
            case rel => exact ⟨k + 1, rfl, by omega, rfl, ⟨D5, B5, ls5, now, HH6.out, HK5.out, HB5.out, HCW6.out, HN6.out, by have := H.out.2.2.2.2.2; omega⟩⟩
          | true =>
            have HGC : ∀ W, Hid (Calls Try.prog 19 #[itemV x] W fun e w' => e = .returned (.bool true) ∧ Chg No W w') := fun W => by have := rgood_calls x W; rw [hgx] at this; exact this
            have hgx2 := hgx
            simp only [Item.good, Bool.and_eq_true, decide_eq_true_eq] at hgx2
            have hns : ¬ x.size ≤ 120 := by
              intro hle
              have : x.small = true := by simp [Item.small, hgx, hle]
              rw [this] at hsm
              cases hsm
            obtain ⟨sz, hsz⟩ : ∃ sz, sz = x.size := ⟨_, rfl⟩
            have HSC : ∀ W, Hid (Calls Try.prog 20 #[itemV x] W fun e w' => e = .returned (.int .i64 sz) ∧ Chg No W w') := fun W => by have := rsize_calls x W (by omega) (by omega); rw [← hsz] at this; exact this
            rw [← hsz] at hns
            have bsz : decide ((sz : Int) ≤ 120) = false := by simp; omega
            clear hgx hsm hgx2 hsz
            go_wp2_with fail
            refine (HGC _).out.mono ?_
            rintro e w6 ⟨rfl, hc6⟩
            have HCW6 := Lib.hid (HCW5.out.trans hc6)
            have HH6 := Lib.hid (HH5.out.chgNo hc6)
            have HN6 := Lib.hid (own_chg HNW.out hc6 (fun _ _ h => h))
            clear hc6 a0 a1 a2 a3 a4
            obtain ⟨a0, a1, a2, a3, a4⟩ := (HCY w6).out HCW6.out
            go_wp2_with fail
            refine (HSC _).out.mono ?_
            rintro e w7 ⟨rfl, hc7⟩
            have HCW7 := Lib.hid (HCW6.out.trans hc7)
            have HH7 := Lib.hid (HH6.out.chgNo hc7)
            have HN7 := Lib.hid (own_chg HN6.out hc7 (fun _ _ h => h))
            clear hc7
            go_wp2
            go_roundg (n - (k + 1))
            case measure => omega
            case rel => exact ⟨k + 1, rfl, by omega, rfl, ⟨D5, B5, ls5, now, HH7.out, HK5.out, HB5.out, HCW7.out, HN7.out, by have := H.out.2.2.2.2.2; omega⟩⟩
        · obtain ⟨ho5, hol, hk5, hless⟩ := hcase
          have HK5 := Lib.hid hk5
          have HLS := Lib.hid hless
          obtain ⟨A9, c9, rfl, hnc9, hrd9⟩ := own_slice HNW.out
          have HWO := Lib.hid (lwithout_calls A9 c9 now x.key w5 hrd9 (by omega))
          have HO5 := Lib.hid ho5
          clear hk5 hless hrd9 ho5 hsm
          go_wp2_with fail
          refine HWO.out.mono ?_
          rintro e w6 ⟨v6, rfl, ho6, hc6⟩
          have HN6 := Lib.hid (own_base ho6 HCW5.out.size)
          have HCW6 := Lib.hid (HCW5.out.trans hc6)
          have HH6 := Lib.hid (HH5.out.chgNo hc6)
          have HO6 := Lib.hid (own_chg HO5.out hc6 (fun _ _ h => h))
          clear ho6 hc6 HWO a0 a1 a2 a3 a4
          obtain ⟨no, hno⟩ : ∃ no, no = out.length := ⟨_, rfl⟩
          obtain ⟨A5, c5, rfl, hnc5, hrd5⟩ := own_slice HO6.out
          have HRO := Lib.hid hrd5
          have HNO := Lib.hid hno
          rw [← hno] at hol HRO ⊢
          clear hrd5 hno hnc5
          obtain ⟨nowk, hnowk⟩ : ∃ nowk, nowk = rid now x.key := ⟨_, rfl⟩
          have hnkl : nowk.length ≤ k := by rw [hnowk]; exact Nat.le_trans (rid_len _ _) H.out.2.2.2.2.2
          rw [← hnowk] at HK5 HLS HN6
          clear hnowk
          go_wp2
          go_loopg [9, 13] no (fun g v9 v13 wr2 => ∃ (j : Nat), v13 = .int .i64 j ∧ j ≤ no ∧ no - j = g ∧ Hid (Chg No w wr2 ∧ Chg No w6 wr2 ∧ wr2.ownsRow w.heap.size tItem 5 v9 (ridAll nowk (out.take j)).length (its (ridAll nowk (out.take j)))))
          case atStart => exact ⟨0, rfl, by omega, by omega, ⟨HCW6.out, Chg.refl _ _, HN6.out⟩⟩
          case round =>
            obtain ⟨j, rfl, hj, hg2, H2⟩ := hrel
            subst hg2
            by_cases hj0 : j < no
            · obtain ⟨y, hy⟩ : ∃ y, out[j]? = some y := ⟨_, List.getElem?_eq_getElem (by have := HNO.out; omega)⟩
              obtain ⟨go, offo, rfl, hgo, hco⟩ := rd_at5 HRO.out hj0 hy
              obtain ⟨p0, p1, p2, p3, p4⟩ := hco _ H2.out.2.1
              have HT := Lib.hid (ridAll_take (l := nowk) hy)
              have hlt := HLS.out j y hy
              have hra : (ridAll nowk (out.take j)).length ≤ nowk.length := ridAll_len _ _
              obtain ⟨A10, c10, rfl, hnc10, hrd10⟩ := own_slice H2.out.2.2
              have HWO := Lib.hid (lwithout_calls A10 c10 (ridAll nowk (out.take j)) y.key _ hrd10 (by omega))
              obtain ⟨la, hla⟩ : ∃ la, la = (ridAll nowk (out.take j)).length := ⟨_, rfl⟩
              rw [← hla] at HWO hlt hra
              rw [← hla]
              obtain ⟨lb, hlb⟩ : ∃ lb, lb = (rid (ridAll nowk (out.take j)) y.key).length := ⟨_, rfl⟩
              rw [← hlb] at HWO hlt
              have HLB := Lib.hid hlb
              have bne : ((lb : Int) == (la : Int)) = false := by simp; omega
              have hji : (0 : Int) ≤ (j : Int) := by omega
              have hjn : (j : Int) < (no : Int) := by omega
              clear hy hco hla hrd10 hlb
              go_wp2_with fail
              refine HWO.out.mono ?_
              rintro e w7 ⟨v7, rfl, ho7, hc7⟩
              have HN7 := Lib.hid (own_base ho7 H2.out.1.size)
              have HC7 := Lib.hid hc7
              obtain ⟨A11, c11, rfl, hnc11, _⟩ := own_slice ho7
              clear ho7 hc7 HWO p0 p1 p2 p3 p4
              go_wp2
              go_roundg (no - (j + 1))
              case measure => omega
              case rel => exact ⟨j + 1, rfl, by omega, rfl, H2.out.1.trans HC7.out, H2.out.2.1.trans HC7.out, by rw [HT.out, ← HLB.out]; exact HN7.out⟩
            · obtain rfl : j = no := by omega
              have HTT : Hid (out.take j = out) := List.take_of_length_le (by have := HNO.out; omega)
              have hoF := H2.out.2.2
              rw [HTT.out] at hoF
              have HOF := Lib.hid hoF
              have hlenF := ridAll_len out nowk
              obtain ⟨a0, a1, a2, a3, a4⟩ := (HCY _).out H2.out.1
              obtain ⟨b0, b1', b2', b3', b4'⟩ := (HCY _).out (H2.out.1.alloc (.cells #[.string x.key, .string x.val, .int .u32 x.flags.toNat, .int .i64 x.exp.toInt, .int .u64 x.ver.toNat] tItem))
              have hbs : w.heap.size ≤ _ := H2.out.1.size
              clear hoF
              go_wp2_with (first
                | (at_builtin; go_loud (refine wpList_app _ rfl (.tmp 100) (.tmp 105) 33 rfl tItem Try.underlying33 ti_item rfl (by omega) w.heap.size _ _ _ rfl (HOF.out.alloc _) tItem _ 1 1 (itc x) rfl (rd_item _ x) (itc_one_cell x) (by simp only [maxLen]; omega) (by omega) (by simp; omega) ?_); intro v8 w8 ho8 hg8 hb8; have HO8 := Lib.hid ho8; have HG8 := Lib.hid hg8; clear ho8 hg8 hb8))
              have HH8 : Hid (Han w8 h t D5 B5 ls5) := ((HH6.out.chgNo H2.out.2.1).chgNo ((Chg.refl _ _).alloc _)).chgItem (Chg.grown (Chg.refl _ _) HG8.out (fun k' hk' => .inl hk')) (own_items (HOF.out.alloc _))
              have HCW8 : Hid (Chg No w w8) := (H2.out.1.alloc _).grown HG8.out (fun k' hk' => .inr (own_new HOF.out k' hk'))
              go_roundg (n - (k + 1))
              case measure => omega
              case rel =>
                refine ⟨k + 1, rfl, by omega, rfl, ⟨D5, B5, ls5, ridAll nowk out ++ [x], HH8.out, HK5.out, HB5.out, HCW8.out, ?_, by rw [List.length_append]; simp only [List.length_cons, List.length_nil]; omega⟩⟩
                rw [List.length_append, its_append, its_one]
                exact HO8.out
      · obtain rfl : k = n := by omega
        obtain ⟨A9, c9, rfl, hnc9, hrd9⟩ := own_slice H.out.2.2.2.2.1
        obtain ⟨nn, hnn⟩ : ∃ nn, nn = now.length := ⟨_, rfl⟩
        have HRN := Lib.hid (H.out.2.2.2.2.1)
        rw [← hnn] at HRN hnow ⊢
        have HNN := Lib.hid hnn
        clear hrd9 hnc9 hnn h0
        go_wp2
        go_loopg [15] nn (fun g v15 w2 => ∃ (j : Nat), v15 = .int .i64 j ∧ j ≤ nn ∧ nn - j = g ∧ Hid (Han w2 h t D B ls ∧ Chg No w w2 ∧ w2.ownsRow w.heap.size tItem 5 (.slice A9 nn c9) nn (its now)))
        case atStart => exact ⟨0, rfl, by omega, by omega, ⟨H.out.1, H.out.2.2.2.1, HRN.out⟩⟩
        case round =>
          obtain ⟨j, rfl, hj, hg2, H2⟩ := hrel
          subst hg2
          by_cases hj0 : j < nn
          · obtain ⟨y, hy⟩ : ∃ y, now[j]? = some y := ⟨_, List.getElem?_eq_getElem (by have := HNN.out; omega)⟩
            obtain ⟨g, off2, cur, fz, rfl, hgh, hco⟩ := rd_at6 (Rd.ofOwn H2.out.2.2) hj0 hy
            have HCO := fun W => Lib.hid (hco W)
            have hnf := H2.out.1.far hgh (by decide) (by decide) (by decide)
            have hgl := (Array.getElem?_eq_some_iff.1 hgh).1
            have HG := Lib.hid (ke_get H2.out.1 H.out.2.1 (List.mem_of_getElem? hy))
            have HY := Lib.hid hy
            have hji : (0 : Int) ≤ (j : Int) := by omega
            have hjn : (j : Int) < (nn : Int) := by omega
            obtain ⟨p0, p1, p2, p3, p4⟩ := hco _ rfl
            clear hco hy
            go_wp2_with fail
            refine HG.out.mono ?_
            rintro e w3 ⟨rfl, hh3, hc3⟩
            have HH3 := Lib.hid hh3
            have HGH := Lib.hid (hc3.block g hgl hnf)
            have HCW3 : Hid (Chg No w w3) := H2.out.2.1.then hc3 (fun i hi hT => by have := HOW.out i hT; omega)
            have HN3 := Lib.hid (own_chg H2.out.2.2 hc3 (H2.out.1.own_far H2.out.2.2))
            have hg3 : g < w3.heap.size := Nat.lt_of_lt_of_le hgl hc3.size
            clear hh3 hc3 p0 p1 p2 p3 p4 HG hnf hgh
            have HM := fun W => Lib.hid (fun hc : Chg No w3 W => ke_may (HH3.out.chgNo hc) H.out.2.1 (List.mem_of_getElem? HY.out))
            have HCN := fun W => Lib.hid (fun hc : Chg No w3 W => (HCO W).out ((hc.block g hg3 (fun h => h)).trans HGH.out))
            have HBN := fun W => Lib.hid (fun hc : Chg No (w3.alloc (.cells #[.string y.key, .string y.val, .int .u32 y.flags.toNat, .int .i64 y.exp.toInt, .int .u64 y.ver.toNat] tItem)) W => (Blk.new w3 tItem #[.string y.key, .string y.val, .int .u32 y.flags.toNat, .int .i64 y.exp.toInt, .int .u64 y.ver.toNat]).chg hc (fun h => h))
            obtain ⟨p0, p1, p2, p3, p4⟩ := (HCN (w3.alloc (.cells #[.string y.key, .string y.val, .int .u32 y.flags.toNat, .int .i64 y.exp.toInt, .int .u64 y.ver.toNat] tItem))).out (by (repeat (first | (with_reducible exact Chg.refl _ _) | (with_reducible assumption) | (with_reducible refine Chg.drewN ?_ _) | (with_reducible refine Chg.drew ?_) | (with_reducible refine Chg.alloc ?_ _) | (with_reducible refine Chg.setCell ?_ (by first | (left; simp [DevH.foot]; done) | (right; simp; done) | (right; simp; omega)) _))))
            have heq : ∀ W : World, (binOp .neq tItem (itemV y) (itemV y)).run Try.prog W = .ok (.bool false) W := fun W => by rw [run_neq_item]; simp
            go_wp2_with fail
            go_region_held3 (fun w' => w'.cell? ⟨w3.heap.size, 0, none⟩ = some (.string y.key) ∧ w'.cell? ⟨w3.heap.size, 1, none⟩ = some (.string y.val) ∧ w'.cell? ⟨w3.heap.size, 2, none⟩ = some (.int .u32 y.flags.toNat) ∧ w'.cell? ⟨w3.heap.size, 3, none⟩ = some (.int .i64 y.exp.toInt) ∧ w'.cell? ⟨w3.heap.size, 4, none⟩ = some (.int .u64 y.ver.toNat) ∧
                w'.cell? ⟨g, off2 + j * 5, none⟩ = some (.string y.key) ∧ w'.cell? ⟨g, off2 + j * 5 + 1, none⟩ = some (.string y.val) ∧ w'.cell? ⟨g, off2 + j * 5 + 2, none⟩ = some (.int .u32 y.flags.toNat) ∧ w'.cell? ⟨g, off2 + j * 5 + 3, none⟩ = some (.int .i64 y.exp.toInt) ∧ w'.cell? ⟨g, off2 + j * 5 + 4, none⟩ = some (.int .u64 y.ver.toNat)) (first | go_keep)
              ((go_at_call 30
                refine ((HM _).out (by (repeat (first | (with_reducible exact Chg.refl _ _) | (with_reducible assumption) | (with_reducible refine Chg.drewN ?_ _) | (with_reducible refine Chg.drew ?_) | (with_reducible refine Chg.alloc ?_ _) | (with_reducible refine Chg.setCell ?_ (by first | (left; simp [DevH.foot]; done) | (right; simp; done) | (right; simp; omega)) _))))).mono ?_
                rintro e w9 ⟨rfl, hc9⟩
                have HC9 : Chg No (w3.alloc (.cells #[.string y.key, .string y.val, .int .u32 y.flags.toNat, .int .i64 y.exp.toInt, .int .u64 y.ver.toNat] tItem)) w9 := (by (repeat (first | (with_reducible exact Chg.refl _ _) | (with_reducible assumption) | (with_reducible refine Chg.drewN ?_ _) | (with_reducible refine Chg.drew ?_) | (with_reducible refine Chg.alloc ?_ _) | (with_reducible refine Chg.setCell ?_ (by first | (left; simp [DevH.foot]; done) | (right; simp; done) | (right; simp; omega)) _))) : Chg No _ _).trans hc9
                clear hc9
                obtain ⟨r0, r1, r2, r3, r4⟩ := (HCN w9).out (((Chg.refl _ _).alloc _).trans HC9)
                have hbn := (HBN w9).out HC9
                have s0 := hbn.cell 0
                have s1 := hbn.cell 1
                have s2 := hbn.cell 2
                have s3 := hbn.cell 3
                have s4 := hbn.cell 4
                clear hbn
                simp at s0 s1 s2 s3 s4))
            have HX9 := Lib.hid (HH3.out.chgNo (((Chg.refl _ _).alloc _).trans HC9))
            have HCX9 : Hid (Chg No w w9) := (HCW3.out.alloc _).trans HC9
            have HNX9 := Lib.hid (own_chg HN3.out (((Chg.refl _ _).alloc _).trans HC9) (fun _ _ h => h))
            clear HC9 r0 r1 r2 r3 r4 s0 s1 s2 s3 s4
            go_wp2
            go_roundg (nn - (j + 1))
            case measure => omega
            case rel => exact ⟨j + 1, rfl, by omega, rfl, HX9.out, HCX9.out, HNX9.out⟩
          · have HI := Lib.hid (hitems H2.out.1)
            have hle := H.out.2.1.len
            go_wp2_with fail
            refine HI.out.mono ?_
            rintro e w3 ⟨v3, rfl, ho3, hh3, hc3⟩
            have HCW3 : Hid (Chg No w w3) := H2.out.2.1.then hc3 (fun i hi hT => by have := HOW.out i hT; omega)
            rw [← hle, ← HNN.out] at ho3
            obtain ⟨A3, c3, rfl, _, _⟩ := own_slice ho3
            clear ho3 hh3 hc3 hle
            go_wp2
            go_ret
            exact ⟨rfl, HCW3.out⟩
  · go_enter Try.func8, Try.ntmps8
    go_wp2_with fail
    refine (HAW _).out.mono ?_
    rintro e w0 ⟨rfl, hc0⟩
    have HC0 : Hid (Chg No w w0) := hc0
    clear hc0 HAW HN HR HLN
    by_cases hb1 : z < 1
    · have b1 : decide (z < 1) = true := by simpa using hb1
      go_wp2
      go_ret
      exact ⟨rfl, HC0.out⟩
    · have b1 : decide (z < 1) = false := by simpa using hb1
      by_cases hb2 : 5 < z
      · have b2 : decide (5 < z) = true := by simpa using hb2
        go_wp2
        go_ret
        exact ⟨rfl, HC0.out⟩
      · have b2 : decide (5 < z) = false := by simpa using hb2
        have b3 : decide ((60 : Int) < n) = true := by simp; omega
        go_wp2
        go_ret
        exact ⟨rfl, HC0.out⟩
end Go.Proofs.Ytinofdfjaopdcaa
