/- BucketFirst: the walk. -/
import Derived.Test.YtinofdfjaopdcaaBApart
namespace Go.Proofs.Ytinofdfjaopdcaa
open Go.RowKit
attribute [local go_sem ↓] Go.wp_at_zero Go.wp_at_succ
set_option linter.unusedSimpArgs false
set_option linter.unusedVariables false

/-- x[:hi] -/
theorem sub_slice_h {P : Program} {T e : TypeId} {z : Value} {size bytes : Nat} (hT : P.underlying T = some (.slice e)) (hi : TI P e z size bytes) (A : Option Addr) (n c h : Nat) (h2 : h ≤ c) :
    ∃ A', (∀ W : World, (Instr.slice T (.slice A n c) none (some (.int .i64 h)) none).run P W = .ok (.slice A' h c) W) ∧
      ∀ (W : World) (t : TypeId) (xs : List Value), Rd W t A (n * size) xs → h ≤ n → Rd W t A' (h * size) (xs.take (h * size)) := by
  obtain ⟨i, hi', hz, hs, hby⟩ := info_parts hi
  refine ⟨if c = 0 then A else A.map (·.add (0 * size)), fun W => ?_, fun W t xs hr hn => ?_⟩
  · have hsz : (sizeOf e).run P W = .ok size W := by simp [sizeOf, typeInfo, hi', hs]
    simp only [Instr.slice, Sem.run_bind, run_underlying hT, Result.andThen, Instr.sliceBounds, Sem.run_pure]
    rw [run_sliceBound _ _ _ _ _ (by omega) (by omega)]
    simp only [hsz, Option.isSome_none, Bool.false_eq_true, if_false]
    simp
  · have ht := hr.take (m := h * size) (Nat.mul_le_mul_right _ hn)
    have e : (if c = 0 then A else A.map (·.add (0 * size))) = A := if_add_zero _ A size 0 rfl
    rw [e]
    exact ht

/-- an item's cells in a row that is read, in whatever world that keeps them -/
theorem rd_at5 {w : World} {t : TypeId} {A : Option Addr} {n k : Nat} {l : List Item} {x : Item} (h : Rd w t A (n * 5) (its l)) (hk : k < n) (hx : l[k]? = some x) :
    ∃ g off, A = some ⟨g, off, none⟩ ∧ g < w.heap.size ∧ ∀ W, Chg No w W → W.cell? ⟨g, off + k * 5, none⟩ = some (.string x.key) ∧ W.cell? ⟨g, off + k * 5 + 1, none⟩ = some (.string x.val) ∧
      W.cell? ⟨g, off + k * 5 + 2, none⟩ = some (.int .u32 x.flags.toNat) ∧ W.cell? ⟨g, off + k * 5 + 3, none⟩ = some (.int .i64 x.exp.toInt) ∧ W.cell? ⟨g, off + k * 5 + 4, none⟩ = some (.int .u64 x.ver.toNat) := by
  obtain ⟨g, off, cur, fz, rfl, hg, hc⟩ := h.2 (by omega)
  refine ⟨g, off, rfl, (Array.getElem?_eq_some_iff.1 hg).1, fun W hW => ?_⟩
  have hc' : ∀ j u, (its l)[j]? = some u → W.cell? ⟨g, off + j, none⟩ = some u := fun j u hu => (cell_of_row W g _ cur t fz (hW.at_ hg (fun h => h))).trans (hc j u hu)
  have c0 := hc' (k * 5 + 0) _ (its_get l k 0 x hx (by omega))
  have c1 := hc' (k * 5 + 1) _ (its_get l k 1 x hx (by omega))
  have c2 := hc' (k * 5 + 2) _ (its_get l k 2 x hx (by omega))
  have c3 := hc' (k * 5 + 3) _ (its_get l k 3 x hx (by omega))
  have c4 := hc' (k * 5 + 4) _ (its_get l k 4 x hx (by omega))
  simp only [itc, List.getElem_cons_zero, List.getElem_cons_succ, ← Nat.add_assoc, Nat.add_zero] at c0 c1 c2 c3 c4
  exact ⟨c0, c1, c2, c3, c4⟩

/-- the law, plain -/
theorem first_law {l0 : List Item} (x : Item) (hx : x.small = true) (hg : goods l0 = true) :
    (pout l0 x).length + (pleft l0 x).length = (rid l0 x.key).length + 1 ∧ pout l0 x = (rid l0 x.key).take (pout l0 x).length ∧ (pout l0 x).length ≤ (rid l0 x.key).length ∧
      0 < (pleft l0 x).length ∧ (pleft l0 x)[(pleft l0 x).length - 1]? = some x ∧ tot (pleft l0 x) ≤ 384 ∧ goods (pleft l0 x) = true ∧
      (0 < (pout l0 x).length → ∃ z, (pout l0 x)[(pout l0 x).length - 1]? = some z ∧ z.good = true ∧ 384 < tot (pleft l0 x) + z.size) := by
  simp only [Item.small, Bool.and_eq_true, decide_eq_true_eq] at hx
  have h384 : x.size ≤ 384 := by omega
  have hf := fitN_last (rid l0 x.key) x h384
  have hfe : fitN (pnew l0 x) = fitN (rid l0 x.key ++ [x]) := rfl
  have hol : (pout l0 x).length = fitN (pnew l0 x) := by
    rw [pout_eq l0 x h384, List.length_take, hfe]; omega
  have hgn := goods_pnew hg hx.1
  have hpl : (pleft l0 x).length = (rid l0 x.key).length - fitN (pnew l0 x) + 1 := by
    rw [pleft_eq l0 x h384, List.length_append, List.length_drop]; rfl
  refine ⟨?_, ?_, ?_, ?_, ?_, ?_, ?_, ?_⟩
  · rw [hol, hpl, hfe]; omega
  · rw [hol]; exact pout_eq l0 x h384
  · rw [hol, hfe]; exact hf
  · rw [hpl]; omega
  · rw [hpl, pleft_eq l0 x h384, Nat.add_sub_cancel, List.getElem?_append_right (by rw [List.length_drop]; omega), List.length_drop]
    simp
  · rw [← tot_records]; exact fitN_fits _
  · exact goods_drop hgn _
  · intro hpos
    rw [hol] at hpos ⊢
    have hn := fitN_need (pnew l0 x) hpos
    have hlt : fitN (pnew l0 x) - 1 < (pnew l0 x).length := by
      unfold pnew
      rw [List.length_append]
      have := hf
      rw [← hfe] at this
      unfold pnew at this hpos
      simp only [List.length_cons, List.length_nil]
      omega
    obtain ⟨z, hz⟩ : ∃ z, (pnew l0 x)[fitN (pnew l0 x) - 1]? = some z := ⟨_, List.getElem?_eq_getElem hlt⟩
    refine ⟨z, ?_, List.all_eq_true.1 hgn z (List.mem_of_getElem? hz), ?_⟩
    · unfold pout
      rw [List.getElem?_take, if_pos (by omega)]
      exact hz
    · have hd : (pnew l0 x).drop (fitN (pnew l0 x) - 1) = z :: (pnew l0 x).drop (fitN (pnew l0 x) - 1 + 1) := by
        rw [List.drop_eq_getElem_cons hlt]
        congr 1
        have := (List.getElem?_eq_some_iff.1 hz).2
        exact this
      rw [hd, tot_records] at hn
      rw [show fitN (pnew l0 x) - 1 + 1 = fitN (pnew l0 x) from by omega] at hn
      unfold tot at hn ⊢
      rw [List.map_cons, List.sum_cons] at hn
      unfold pleft
      omega

theorem fi_new (w : World) : Calls Try.prog 16 #[.int .i64 1] w fun e w' => ∃ h : DevH, e = .returned (.tuple #[.pointer (some ⟨h.d, 0, none⟩), .int .i64 0]) ∧ DevAt w' h (Dev.new 1) ∧ Chg No w w' ∧ ∀ k, h.foot k → w.heap.size ≤ k := new_calls 1 w (by decide) (by decide)
theorem fi_items {w : World} {h : DevH} {t : StoH} {D : Dev} {B : Sto} {l : List Item} (H : Han w h t D B [l]) :
    Calls Try.prog 31 #[.pointer (some ⟨t.s, 0, none⟩)] w fun e w' => ∃ v, e = .returned (.tuple #[v, .int .i64 0]) ∧ w'.ownsRow w.heap.size tItem 5 v l.length (its l) ∧ Han w' h t D B [l] ∧ Chg (Own h t) w w' := by
  have h1 := hitems H
  simpa using h1
theorem fi_put {w : World} {h : DevH} {t : StoH} {D : Dev} {B : Sto} {l : List Item} (H : Han w h t D B [l]) (h1 : B.fs.length = 1) (x : Item) :
    Calls Try.prog 26 #[.pointer (some ⟨t.s, 0, none⟩), itemV x] w fun e w' => ∃ (v : Value) (er : Int) (D' : Dev) (B' : Sto), e = .returned (.tuple #[v, .int .i64 er]) ∧ B'.fs.length = 1 ∧ Chg (Own h t) w w' ∧
      ((er = 1 ∧ Han w' h t D' B' [l]) ∨ (er = 0 ∧ x.small = true ∧ w'.ownsRow w.heap.size tItem 5 v (pout l x).length (its (pout l x)) ∧ Han w' h t D' B' [pleft l x])) := by
  refine (hput_any H x).mono ?_
  rintro e w' ⟨v, er, out, D', B', ls', rfl, ho, hh, hc, hs⟩
  refine ⟨v, er, D', B', rfl, by rw [hs.len]; exact h1, hc, ?_⟩
  cases hs with
  | bad _ => exact .inl ⟨rfl, hh⟩
  | put l1 hx hl1 =>
    rw [no_one h1] at hl1 hh
    injection hl1 with hl1
    subst hl1
    exact .inr ⟨rfl, hx, ho, hh⟩
set_option maxRecDepth 100000 in
set_option maxHeartbeats 4000000 in
theorem first_calls (A : Option Addr) (n c : Nat) (l : List Item) (T : TypeId) (w : World) (hn : l.length = n) (hr : Rd w T A (n * 5) (its l)) :
    Calls Try.prog 10 #[.slice A n c] w fun e w' => e = .returned (.bool true) ∧ Chg No w w' := by
  have HAW := fun W => Lib.hid (awake_calls W)
  have HN := fun W => Lib.hid (fi_new W)
  have HR := Lib.hid hr
  have HLN := Lib.hid hn
  clear hr hn
  by_cases hbig : 40 < n
  · have hb : decide ((40 : Int) < n) = true := by simp; omega
    go_enter Try.func10, Try.ntmps10
    go_wp2_with fail
    refine (HAW _).out.mono ?_
    rintro e w0 ⟨rfl, hc0⟩
    have HC0 : Hid (Chg No w w0) := hc0
    clear hc0 HAW HN
    go_wp2
    go_ret
    exact ⟨rfl, HC0.out⟩
  · have hle : n ≤ 40 := by omega
    have hb : decide ((40 : Int) < n) = false := by simp; omega
    go_enter Try.func10, Try.ntmps10
    go_wp2_with fail
    refine (HAW _).out.mono ?_
    rintro e w0 ⟨rfl, hc0⟩
    have HC0 : Hid (Chg No w w0) := hc0
    clear hc0 HAW
    go_wp2_with fail
    refine (HN _).out.mono ?_
    rintro e w1 ⟨h, rfl, hd1, hc1, hf1⟩
    have HD1 := Lib.hid hd1
    have HC1 := Lib.hid (HC0.out.trans hc1)
    have HF1 : Hid (∀ k, h.foot k → w.heap.size ≤ k) := fun k hk => Nat.le_trans HC0.out.size (hf1 k hk)
    clear hd1 hc1 hf1 HN
    go_wp2_with fail
    refine (aw_open HD1.out).mono ?_
    rintro e w4 ⟨t, rfl, hh4, hc4, hq4⟩
    have HH4 := Lib.hid hh4
    have HOW : Hid (∀ k, Own h t k → w.heap.size ≤ k) := by
      rintro k (hk | ⟨p, hp, rfl⟩)
      · exact HF1.out k hk
      · exact Nat.le_trans HC1.out.size (hq4 p hp)
    have HC4 : Hid (Chg No w w4) := HC1.out.then hc4 (fun i hi hT => by have := HF1.out i hT; omega)
    clear hh4 hc4 hq4
    go_wp2
    go_loopg [7] n (fun g v7 wr => ∃ (k : Nat), v7 = .int .i64 k ∧ k ≤ n ∧ n - k = g ∧ Hid (∃ (D : Dev) (B : Sto) (l0 : List Item), Han wr h t D B [l0] ∧ B.fs.length = 1 ∧ Chg No w wr))
    case atStart => exact ⟨0, rfl, by omega, by omega, ⟨_, _, _, HH4.out, sB_len.1, HC4.out⟩⟩
    case round =>
      obtain ⟨k, rfl, hk, hg, H⟩ := hrel
      subst hg
      obtain ⟨D, B, l0, H⟩ := H.out
      have H := Lib.hid H
      clear HH4 HC4 HD1 HC1 HC0
      by_cases h0 : k < n
      · obtain ⟨y, hy⟩ : ∃ y, l[k]? = some y := ⟨_, List.getElem?_eq_getElem (by have := HLN.out; omega)⟩
        obtain ⟨g, off, rfl, hg, hc⟩ := rd_at5 HR.out h0 hy
        have HCY := fun W => Lib.hid (hc W)
        have hki : (0 : Int) ≤ (k : Int) := by omega
        have hkn : (k : Int) < (n : Int) := by omega
        have HI := Lib.hid (fi_items H.out.1)
        have hg0 : goods l0 = true := by have := H.out.1.ok.goods_; simpa using this
        have hl0 : l0.length ≤ 12 := by have := H.out.1.ok.few; rw [H.out.2.1] at this; simpa using this
        have HG0 := Lib.hid hg0
        clear hc hy hg0
        go_wp2_with fail
        refine HI.out.mono ?_
        rintro e w5 ⟨v5, rfl, ho5, hh5, hc5⟩
        have HH5 := Lib.hid hh5
        have HC5 := Lib.hid hc5
        obtain ⟨A5, c5, rfl, hnc5, hrd5⟩ := own_slice ho5
        have HWO := Lib.hid (lwithout_calls A5 c5 l0 y.key w5 hrd5 (by omega))
        have HCW5 : Hid (Chg No w w5) := H.out.2.2.then hc5 (fun i hi hT => by have := HOW.out i hT; omega)
        clear ho5 hh5 hc5 hrd5 hnc5
        obtain ⟨a0, a1, a2, a3, a4⟩ := (HCY w5).out HCW5.out
        go_wp2_with fail
        refine HWO.out.mono ?_
        rintro e w6 ⟨v6, rfl, ho6, hc6⟩
        have HO6 := Lib.hid ho6
        have HH6 := Lib.hid (HH5.out.chgNo hc6)
        have HCW6 := Lib.hid (HCW5.out.trans hc6)
        clear ho6 hc6 a0 a1 a2 a3 a4 HWO
        obtain ⟨a0, a1, a2, a3, a4⟩ := (HCY w6).out HCW6.out
        have HP := Lib.hid (fi_put HH6.out H.out.2.1 y)
        go_wp2_with fail
        refine HP.out.mono ?_
        rintro e w7 ⟨v7, er, D7, B7, rfl, hb7, hc7, hcase⟩
        have HB7 := Lib.hid hb7
        have HCW7 : Hid (Chg No w w7) := HCW6.out.then hc7 (fun i hi hT => by have := HOW.out i hT; omega)
        have HO7 := Lib.hid (own_chg HO6.out hc7 (fun k hk hT => by have h1 := own_new HO6.out k hk; have h2 := HH5.out.lt hT; omega))
        clear hb7 hc7 a0 a1 a2 a3 a4 HP
        rcases hcase with ⟨rfl, hh7⟩ | ⟨rfl, hsm, ho7, hh7⟩
        · have HH7 := Lib.hid hh7
          clear hh7
          go_wp2
          go_roundg (n - (k + 1))
          case measure => omega
          case rel => exact ⟨k + 1, rfl, by omega, rfl, ⟨D7, B7, l0, HH7.out, HB7.out, HCW7.out⟩⟩
        · have HLAW := Lib.hid (first_law y hsm HG0.out)
          have hfew : (pleft l0 y).length ≤ 12 := by have := hh7.ok.few; rw [HB7.out] at this; simpa using this
          obtain ⟨lo, hlo⟩ : ∃ lo, lo = pout l0 y := ⟨_, rfl⟩
          obtain ⟨ln, hln⟩ : ∃ ln, ln = pleft l0 y := ⟨_, rfl⟩
          obtain ⟨lw, hlw⟩ : ∃ lw, lw = rid l0 y.key := ⟨_, rfl⟩
          rw [← hlo] at ho7 HLAW
          rw [← hln] at hh7 HLAW hfew
          rw [← hlw] at HO7 HLAW
          have hlwl : lw.length ≤ 12 := by rw [hlw]; exact Nat.le_trans (rid_len _ _) hl0
          have HH7 := Lib.hid hh7
          have HP7 := Lib.hid ho7
          have HI7 := Lib.hid (fi_items hh7)
          clear hh7 ho7 hlo hln hlw hsm HG0 HO6
          go_wp2_with fail
          refine HI7.out.mono ?_
          rintro e w8 ⟨v8, rfl, ho8, hh8, hc8⟩
          have HH8 := Lib.hid hh8
          have HCW8 : Hid (Chg No w w8) := HCW7.out.then hc8 (fun i hi hT => by have := HOW.out i hT; omega)
          have HO8 := Lib.hid (own_chg HO7.out hc8 (fun k hk hT => by have h1 := own_new HO7.out k hk; have h2 := HH5.out.lt hT; omega))
          have HP8 := Lib.hid (own_chg HP7.out hc8 (fun k hk hT => by have h1 := own_new HP7.out k hk; have h2 := HH6.out.lt hT; omega))
          obtain ⟨nw, hnw⟩ : ∃ nw, nw = lw.length := ⟨_, rfl⟩
          obtain ⟨no, hno⟩ : ∃ no, no = lo.length := ⟨_, rfl⟩
          obtain ⟨nn, hnn⟩ : ∃ nn, nn = ln.length := ⟨_, rfl⟩
          obtain ⟨A6, c6, rfl, hnc6, hrd6⟩ := own_slice HO8.out
          obtain ⟨A7, c7, rfl, hnc7, hrd7⟩ := own_slice HP8.out
          obtain ⟨A8, c8, rfl, hnc8, hrd8⟩ := own_slice ho8
          obtain ⟨q1, q2, q3, q4, q5, q6, q7, q8⟩ := HLAW.out
          rw [← hnw] at q1 q3 hnc6 hrd6 hlwl ⊢
          rw [← hno] at q1 q2 q3 q8 hnc7 hrd7 ⊢
          rw [← hnn] at q1 q4 q5 hnc8 hrd8 hfew ⊢
          have HQ2 := Lib.hid q2
          have HRD6 := Lib.hid hrd6
          have HRD7 := Lib.hid hrd7
          have HRD8 := Lib.hid hrd8
          have HNO := Lib.hid hno
          have HNN := Lib.hid hnn
          have HQ5 := Lib.hid q5
          have HQ6 := Lib.hid q6
          have HQ7 := Lib.hid q7
          have HQ8 := Lib.hid q8
          have HCW8' := HCW8.out
          obtain ⟨gn, offn, rfl, hgn, hcn⟩ := rd_at5 hrd8 (k := nn - 1) (by omega) q5
          obtain ⟨m, hm⟩ : ∃ m, m = nn - 1 := ⟨_, rfl⟩
          rw [← hm] at hcn
          have HCN := fun W => Lib.hid (hcn W)
          have HCYN := fun W => Lib.hid (fun hc : Chg No w8 W => (HCY W).out (HCW8.out.trans hc))
          obtain ⟨A9, hs9, hd9⟩ := sub_slice_h (P := Try.prog) Try.underlying33 ti_item A6 nw c6 no (by omega)
          have hs9' : ∀ W : World, (Instr.sliceAt 33 (.slice A6 nw c6) none (some (.int .i64 no)) none).run Try.prog W = _ := fun W => (run_sliceAt_slice W _ _ _ _ _ Try.underlying33).trans (hs9 W)
          have HLI := fun W => Lib.hid (fun hc : Chg No w8 W => lists_calls A7 A9 c7 c6 lo (lw.take no) W (by rw [← hno]; exact hrd7.chg hc (fun _ _ _ _ h => h)) (by rw [its_take, List.length_take]; have := hd9 W tItem (its lw) (hrd6.chg hc (fun _ _ _ _ h => h)) (by omega); rwa [Nat.min_eq_left (by omega)]) (by omega) (by rw [List.length_take]; omega))
          have hlt : (lw.take no).length = no := by rw [List.length_take]; omega
          rw [hlt, ← hno, decide_eq_true q2] at HLI
          have hnob : no ≤ 12 := by omega
          have e1 : IntKind.i64.wrap ((no : Int) + (nn : Int)) = (no : Int) + (nn : Int) := IntWalk.i64_in _ (by omega)
          have e2 : IntKind.i64.wrap ((nw : Int) + 1) = (nw : Int) + 1 := IntWalk.i64_in _ (by omega)
          have e3 : IntKind.i64.wrap ((nn : Int) - 1) = (m : Int) := by rw [IntWalk.i64_in _ (by omega)]; omega
          have b1 : ((no : Int) + (nn : Int) != (nw : Int) + 1) = false := by simp; omega
          have z1 : (0 : Int) ≤ (no : Int) := by omega
          have z2 : (no : Int) ≤ (c6 : Int) := by omega
          have z3 : (0 : Int) ≤ (m : Int) := by omega
          have z4 : (m : Int) < (nn : Int) := by omega
          have heq : ∀ W : World, (binOp .neq tItem (itemV y) (itemV y)).run Try.prog W = .ok (.bool false) W := fun W => by rw [run_neq_item]; simp
          obtain ⟨m0, m1, m2, m3, m4⟩ := hcn w8 (Chg.refl _ _)
          obtain ⟨y0, y1, y2, y3, y4⟩ := (HCYN w8).out (Chg.refl _ _)
          clear q1 q2 q3 q4 q5 q6 q7 q8 ho8 hh8 hc8 hlt hno hnn hnw hm hcn hrd6 hrd7 hrd8 hd9 HCW8'
          go_wp2_with fail
          go_region_held3 (fun w' => w'.cell? ⟨gn, offn + m * 5, none⟩ = some (.string y.key) ∧ w'.cell? ⟨gn, offn + m * 5 + 1, none⟩ = some (.string y.val) ∧ w'.cell? ⟨gn, offn + m * 5 + 2, none⟩ = some (.int .u32 y.flags.toNat) ∧ w'.cell? ⟨gn, offn + m * 5 + 3, none⟩ = some (.int .i64 y.exp.toInt) ∧ w'.cell? ⟨gn, offn + m * 5 + 4, none⟩ = some (.int .u64 y.ver.toNat) ∧
              w'.cell? ⟨g, off + k * 5, none⟩ = some (.string y.key) ∧ w'.cell? ⟨g, off + k * 5 + 1, none⟩ = some (.string y.val) ∧ w'.cell? ⟨g, off + k * 5 + 2, none⟩ = some (.int .u32 y.flags.toNat) ∧ w'.cell? ⟨g, off + k * 5 + 3, none⟩ = some (.int .i64 y.exp.toInt) ∧ w'.cell? ⟨g, off + k * 5 + 4, none⟩ = some (.int .u64 y.ver.toNat)) (first | go_keep)
            ((go_at_call 33
              refine ((HLI _).out (by (repeat (first | (with_reducible exact Chg.refl _ _) | (with_reducible assumption) | (with_reducible refine Chg.drewN ?_ _) | (with_reducible refine Chg.drew ?_) | (with_reducible refine Chg.alloc ?_ _) | (with_reducible refine Chg.setCell ?_ (by first | (left; simp [DevH.foot]; done) | (right; simp; done) | (right; simp; omega)) _))))).mono ?_
              rintro e w9 ⟨rfl, hc9⟩
              have HC9 : Chg No w8 w9 := (by (repeat (first | (with_reducible exact Chg.refl _ _) | (with_reducible assumption) | (with_reducible refine Chg.drewN ?_ _) | (with_reducible refine Chg.drew ?_) | (with_reducible refine Chg.alloc ?_ _) | (with_reducible refine Chg.setCell ?_ (by first | (left; simp [DevH.foot]; done) | (right; simp; done) | (right; simp; omega)) _))) : Chg No w8 _).trans hc9
              clear hc9
              obtain ⟨r0, r1, r2, r3, r4⟩ := (HCN w9).out HC9
              obtain ⟨s0, s1, s2, s3, s4⟩ := (HCYN w9).out HC9))
          go_wp2_with fail
          have HCW9 := Lib.hid (HCW8.out.trans HC9)
          have HH9 := Lib.hid (HH8.out.chgNo HC9)
          refine wp_forget (F := fun W => Han W h t D7 B7 [ln] ∧ Chg No w W ∧ Rd W tItem A7 (no * 5) (its lo) ∧ Rd W tItem (some ⟨gn, offn, none⟩) (nn * 5) (its ln)) ⟨HH9.out, HCW9.out, HRD7.out.chg HC9 (fun _ _ _ _ h => h), HRD8.out.chg HC9 (fun _ _ _ _ h => h)⟩ ?_
          clear HCW9 HH9 HC9 r0 r1 r2 r3 r4 s0 s1 s2 s3 s4 m0 m1 m2 m3 m4 y0 y1 y2 y3 y4 HLI hs9 hs9' HCN HCYN HRD6 HRD7 HRD8 heq
          rintro W ⟨hhW, hcW, hr7, hr8⟩
          have HHW := Lib.hid hhW
          have HCW := Lib.hid hcW
          clear hhW hcW
          by_cases hpo : 0 < no
          · have hb0 : decide ((0 : Int) < (no : Int)) = true := by simp; omega
            obtain ⟨z, hz, hzg, hz3⟩ := HQ8.out hpo
            simp only [Item.good, Bool.and_eq_true, decide_eq_true_eq, Item.size] at hzg hz3
            obtain ⟨⟨⟨hz4, hz5⟩, hz6⟩, _⟩ := hzg
            obtain ⟨go, offo, rfl, hgo, hco⟩ := rd_at5 hr7 (k := no - 1) (by omega) hz
            obtain ⟨m2, hm2⟩ : ∃ m2, m2 = no - 1 := ⟨_, rfl⟩
            rw [← hm2] at hco
            have HT := fun W' => Lib.hid (fun hc : Chg No W W' => total_calls (some ⟨gn, offn, none⟩) c8 ln W' (by have := hr8.chg hc (fun _ _ _ _ h => h); rwa [HNN.out] at this) (by have := HNN.out; omega) HQ7.out)
            rw [← HNN.out] at HT
            obtain ⟨tt, htt⟩ : ∃ tt, tt = tot ln := ⟨_, rfl⟩
            have htl := HQ6.out
            rw [← htt] at HT hz3 htl
            obtain ⟨p0, p1, p2, p3, p4⟩ := hco W (Chg.refl _ _)
            have HCO := fun W' => Lib.hid (hco W')
            have f1 : IntKind.i64.wrap ((no : Int) - 1) = (m2 : Int) := by rw [IntWalk.i64_in _ (by omega)]; omega
            have f2 : IntKind.i64.wrap ((tt : Int) + 32) = (tt : Int) + 32 := IntWalk.i64_in _ (by omega)
            have f3 : IntKind.i64.wrap ((tt : Int) + 32 + (z.key.size : Int)) = (tt : Int) + 32 + (z.key.size : Int) := IntWalk.i64_in _ (by omega)
            have f4 : IntKind.i64.wrap ((tt : Int) + 32 + (z.key.size : Int) + (z.val.size : Int)) = (tt : Int) + 32 + (z.key.size : Int) + (z.val.size : Int) := IntWalk.i64_in _ (by omega)
            have b2 : decide ((tt : Int) + 32 + (z.key.size : Int) + (z.val.size : Int) ≤ 384) = false := by simp; omega
            have z5 : (0 : Int) ≤ (m2 : Int) := by omega
            have z6 : (m2 : Int) < (no : Int) := by omega
            have hpo2 : (0 : Int) < (no : Int) := by omega
            clear hm2 htt htl hz hz3 hz4 hz5 hz6 hco hr7 hr8 p2 p3 p4 hb0
            go_region_held3 (fun w' => w'.cell? ⟨go, offo + m2 * 5, none⟩ = some (.string z.key) ∧ w'.cell? ⟨go, offo + m2 * 5 + 1, none⟩ = some (.string z.val)) (first | go_keep)
              ((go_at_call 35
                refine ((HT _).out (by (repeat (first | (with_reducible exact Chg.refl _ _) | (with_reducible assumption) | (with_reducible refine Chg.drewN ?_ _) | (with_reducible refine Chg.drew ?_) | (with_reducible refine Chg.alloc ?_ _) | (with_reducible refine Chg.setCell ?_ (by first | (left; simp [DevH.foot]; done) | (right; simp; done) | (right; simp; omega)) _))))).mono ?_
                rintro e w9 ⟨rfl, hc9⟩
                have HC9 : Chg No W w9 := (by (repeat (first | (with_reducible exact Chg.refl _ _) | (with_reducible assumption) | (with_reducible refine Chg.drewN ?_ _) | (with_reducible refine Chg.drew ?_) | (with_reducible refine Chg.alloc ?_ _) | (with_reducible refine Chg.setCell ?_ (by first | (left; simp [DevH.foot]; done) | (right; simp; done) | (right; simp; omega)) _))) : Chg No W _).trans hc9
                clear hc9
                obtain ⟨r0, r1, r2, r3, r4⟩ := (HCO w9).out HC9))
            have HX9 := Lib.hid (HHW.out.chgNo HC9)
            have HCX9 := Lib.hid (HCW.out.trans HC9)
            clear HC9 r0 r1 r2 r3 r4
            go_wp2
            go_roundg (n - (k + 1))
            case measure => omega
            case rel => exact ⟨k + 1, rfl, by omega, rfl, ⟨D7, B7, ln, HX9.out, HB7.out, HCX9.out⟩⟩
          · have hb0 : decide ((0 : Int) < (no : Int)) = false := by simp; omega
            have hb2 : decide (0 < no) = false := by simp; omega
            clear hr7 hr8
            go_quiet (fail)
            go_wp2
            go_roundg (n - (k + 1))
            case measure => omega
            case rel => exact ⟨k + 1, rfl, by omega, rfl, ⟨D7, B7, ln, HHW.out.chgNo (by (repeat (first | (with_reducible exact Chg.refl _ _) | (with_reducible assumption) | (with_reducible refine Chg.drewN ?_ _) | (with_reducible refine Chg.drew ?_) | (with_reducible refine Chg.alloc ?_ _) | (with_reducible refine Chg.setCell ?_ (by first | (left; simp [DevH.foot]; done) | (right; simp; done) | (right; simp; omega)) _)))), HB7.out, by have := HCW.out; (repeat (first | (with_reducible exact Chg.refl _ _) | (with_reducible assumption) | (with_reducible refine Chg.drewN ?_ _) | (with_reducible refine Chg.drew ?_) | (with_reducible refine Chg.alloc ?_ _) | (with_reducible refine Chg.setCell ?_ (by first | (left; simp [DevH.foot]; done) | (right; simp; done) | (right; simp; omega)) _)))⟩⟩
      · go_wp2
        go_ret
        exact ⟨rfl, H.out.2.2⟩
end Go.Proofs.Ytinofdfjaopdcaa
