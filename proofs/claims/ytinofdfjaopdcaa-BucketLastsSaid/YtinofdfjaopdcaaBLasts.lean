/- BucketLasts: the walk. -/
import Derived.Test.YtinofdfjaopdcaaLawK
import Derived.Test.YtinofdfjaopdcaaBuckF
import Derived.Test.YtinofdfjaopdcaaInvL
import Derived.Test.YtinofdfjaopdcaaFlashG
namespace Go.Proofs.Ytinofdfjaopdcaa
open Go.RowKit
attribute [local go_sem ↓] Go.wp_at_zero Go.wp_at_succ
set_option linter.unusedSimpArgs false
set_option linter.unusedVariables false

theorem Han.own_far2 {w : World} {h : DevH} {t : StoH} {D : Dev} {B : Sto} {ls : List (List Item)} (H : Han w h t D B ls) {base n : Nat} {v : Value} {xs : List Value} (ho : w.ownsRow base tItem 5 v n xs) : ∀ k, v.ownBlock = some k → ¬ Own h t k := by
  rcases ho.2 with ⟨rfl, _⟩ | ⟨g', cap, cur, rfl, _, hh, _⟩
  · intro k hk; simp [Value.ownBlock] at hk
  · intro k hk
    have : g' = k := by simpa [Value.ownBlock] using hk
    subst this
    exact H.far hh (by decide) (by decide) (by decide)
theorem DevN.own_far2 {N : Nat} {w : World} {h : DevH} {D : Dev} (hd : DevN N w h D) {base n : Nat} {v : Value} {xs : List Value} (ho : w.ownsRow base tItem 5 v n xs) : ∀ k, v.ownBlock = some k → ¬ h.foot k := own_foot hd ho (by decide) (by decide)
theorem goods_len2 {l : List Item} (h : goods l = true) : 33 * l.length ≤ (records l).length := by
  induction l with
  | nil => simp [records]
  | cons x r ih =>
    simp only [goods, List.all_cons, Bool.and_eq_true] at h
    have h1 := ih h.2
    have h2 := h.1
    simp only [Item.good, Bool.and_eq_true, decide_eq_true_eq] at h2
    simp only [records, List.flatMap_cons, List.length_append, record_length, Item.size, List.length_cons] at h1 ⊢
    omega
theorem flat_len2 : ∀ (ls : List (List Item)), (∀ l ∈ ls, l.length ≤ 12) → ls.flatten.length ≤ 12 * ls.length := by
  intro ls
  induction ls with
  | nil => intro _; simp
  | cons a r ih =>
    intro h
    have h1 := h a List.mem_cons_self
    have h2 := ih (fun l hl => h l (List.mem_cons_of_mem _ hl))
    simp only [List.flatten_cons, List.length_append, List.length_cons]
    omega
theorem OkSt.few2 {D : Dev} {B : Sto} {ls : List (List Item)} (h : OkSt D B ls) : ls.flatten.length ≤ 12 * B.fs.length := by
  rw [← h.len]
  apply flat_len2
  intro l hl
  obtain ⟨i, hi⟩ := List.mem_iff_getElem?.1 hl
  have h1 := (h.pg i l hi).le
  have h2 := goods_len2 (h.pg i l hi).good
  omega

theorem stepped_len {x : Item} {B B' : Sto} {ls ls' : List (List Item)} {er : Int} {out : List Item} (h : Stepped x B ls er out B' ls') : ls'.length = ls.length := by
  cases h <;> simp
def kX : ByteArray := ⟨#[120]⟩
theorem bl_it (w : World) : Calls Try.prog 46 #[.string ⟨#[120]⟩, .int .u64 1] w fun e w' => e = .returned (itemV (itI kX 1)) ∧ Chg No w w' := it_calls kX 1 w
theorem bl_good : (itI kX 1).good = true := by decide +kernel
theorem bl_size : (itI kX 1).size ≤ 120 := by decide +kernel
theorem bl_new (w : World) : Calls Try.prog 16 #[.int .i64 5] w fun e w' => ∃ h : DevH, e = .returned (.tuple #[.pointer (some ⟨h.d, 0, none⟩), .int .i64 0]) ∧ DevAt w' h (Dev.new 5) ∧ Chg No w w' ∧ ∀ k, h.foot k → w.heap.size ≤ k := new_calls 5 w (by decide) (by decide)

set_option maxRecDepth 100000 in
set_option maxHeartbeats 4000000 in
theorem blasts_calls (pages : Int) (A A2 : Option Addr) (n c n2 c2 : Nat) (l : List Item) (picks : List UInt8) (t1 t2 : TypeId) (w : World) (hpb : -9223372036854775808 ≤ pages ∧ pages ≤ 9223372036854775807) (hn : l.length = n) (hr : Rd w t1 A (n * 5) (its l)) (hn2 : picks.length = n2) (hr2 : Rd w t2 A2 n2 (bys picks)) :
    Calls Try.prog 14 #[.int .i64 pages, .slice A n c, .slice A2 n2 c2] w fun e w' => e = .returned (.bool true) ∧ Chg No w w' := by
  have HAW := Lib.hid (awake_calls w)
  have HN := fun W => Lib.hid (bl_new W)
  have HR := Lib.hid hr
  have HR2 := Lib.hid hr2
  have HLN := Lib.hid hn
  have HLN2 := Lib.hid hn2
  clear hr hn hr2 hn2
  by_cases h1 : pages < 1
  · have b1 : decide (pages < 1) = true := by simpa using h1
    clear HN
    go_enter Try.func14, Try.ntmps14
    go_wp2_with fail
    refine HAW.out.mono ?_
    rintro e w0 ⟨rfl, hc0⟩
    go_wp2
    go_ret
    exact ⟨rfl, hc0⟩
  have b1 : decide (pages < 1) = false := by simpa using h1
  by_cases h2 : 5 < pages
  · have b2 : decide (5 < pages) = true := by simpa using h2
    clear HN
    go_enter Try.func14, Try.ntmps14
    go_wp2_with fail
    refine HAW.out.mono ?_
    rintro e w0 ⟨rfl, hc0⟩
    go_wp2
    go_ret
    exact ⟨rfl, hc0⟩
  have b2 : decide (5 < pages) = false := by simpa using h2
  by_cases h3 : 40 < n
  · have b3 : decide ((40 : Int) < (n : Int)) = true := by simp; omega
    have g3 : (40 : Int) < (n : Int) := by omega
    clear HN h3
    go_enter Try.func14, Try.ntmps14
    go_wp2_with fail
    refine HAW.out.mono ?_
    rintro e w0 ⟨rfl, hc0⟩
    go_wp2
    go_ret
    exact ⟨rfl, hc0⟩
  have b3 : decide ((40 : Int) < (n : Int)) = false := by simp; omega
  have g3 : ¬ (40 : Int) < (n : Int) := by omega
  obtain ⟨pg, rfl⟩ : ∃ pg : Nat, pages = pg := ⟨pages.toNat, by omega⟩
  have hp1 : 1 ≤ pg := by omega
  have hp5 : pg ≤ 5 := by omega
  have hn40 : n ≤ 40 := by omega
  clear h3 hpb
  go_enter Try.func14, Try.ntmps14
  go_wp2_with fail
  refine HAW.out.mono ?_
  rintro e w0 ⟨rfl, hc0⟩
  have HC0 := Lib.hid hc0
  clear hc0 HAW
  go_wp2_with fail
  refine (HN _).out.mono ?_
  rintro e w1 ⟨h, rfl, hd1, hc1, hf1⟩
  have HC1 := Lib.hid (HC0.out.trans hc1)
  have HF1 : Hid (∀ k, h.foot k → w.heap.size ≤ k) := fun k hk => Nat.le_trans HC0.out.size (hf1 k hk)
  have HOP : Hid (Calls Try.prog 25 #[.pointer (some ⟨h.d, 0, none⟩), .int .i64 0, .int .i64 pg] w1 fun e w' => ∃ t : StoH, e = .returned (.tuple #[.pointer (some ⟨t.s, 0, none⟩), .int .i64 0]) ∧
      Han w' h t (Dev.new 5) (Sto.open_ (Dev.new 5) 0 pg) (List.replicate pg []) ∧ Chg h.foot w1 w' ∧ (∀ p ∈ t.ps, w1.heap.size ≤ p.2)) := hopen 5 pg hd1 hp1 (by omega) (by omega)
  clear hd1 hc1 hf1 HN
  go_wp2_with fail
  refine HOP.out.mono ?_
  rintro e w2 ⟨t, rfl, hh2, hc2, hq2⟩
  have HOW : Hid (∀ k, Own h t k → w.heap.size ≤ k) := by
    rintro k (hk | ⟨p, hp, rfl⟩)
    · exact HF1.out k hk
    · exact Nat.le_trans HC1.out.size (hq2 p hp)
  have HFA : ∀ W, Hid (Chg No w W → ∀ W', Chg h.foot W W' → Chg No w W') := fun W => fun h1 W' h2 => h1.then h2 (fun i hi hT => by have := HF1.out i hT; omega)
  have HC2 := Lib.hid ((HFA _).out HC1.out _ hc2)
  have HH2 := Lib.hid hh2
  clear hh2 hc2 hq2 HOP
  go_wp2
  go_loopg [11] n (fun g v11 wr => ∃ k : Nat, v11 = .int .i64 k ∧ k ≤ n ∧ n - k = g ∧ Hid (∃ D B ls, Han wr h t D B ls ∧ ls.length = pg ∧ Chg No w wr))
  case atStart => exact ⟨0, rfl, by omega, by omega, ⟨_, _, _, HH2.out, by simp, HC2.out⟩⟩
  case round =>
    obtain ⟨k, rfl, hk, hg, H⟩ := hrel
    subst hg
    by_cases h0 : k < n
    · obtain ⟨x, hx⟩ : ∃ x, l[k]? = some x := ⟨_, List.getElem?_eq_getElem (by have := HLN.out; omega)⟩
      obtain ⟨D, B, ls, hh, hls, hcw⟩ := H.out
      obtain ⟨g, off, rfl, hc⟩ := rd_at6 HR.out h0 hx
      obtain ⟨a0, a1, a2, a3, a4⟩ := hc wr hcw
      have hki : (0 : Int) ≤ (k : Int) := by omega
      have hkn : (k : Int) < (n : Int) := by omega
      have HP := Lib.hid (hput_any hh x)
      have HLS := Lib.hid hls
      have HCW := Lib.hid hcw
      clear hc hx hh hls hcw H
      go_wp2_with fail
      refine HP.out.mono ?_
      rintro e w5 ⟨v5, er, out, D5, B5, ls5, rfl, _, hh5, hc5, hst⟩
      have F : Hid (∃ D B ls, Han w5 h t D B ls ∧ ls.length = pg ∧ Chg No w w5) := ⟨D5, B5, ls5, hh5, (stepped_len hst).trans HLS.out, HCW.out.then hc5 (fun i hi hT => by have := HOW.out i hT; omega)⟩
      clear hh5 hc5 hst HP
      go_wp2
      go_roundg (n - (k + 1))
      case measure => omega
      case rel => exact ⟨k + 1, by go_num, by omega, rfl, F⟩
    · obtain rfl : n = k := by omega
      obtain ⟨D, B, ls, hh, hls, hcw⟩ := H.out
      obtain ⟨k1, k2, k3⟩ := hh.ok.flushed
      have hpos := hh.ok.pos
      have HLS := Lib.hid hls
      have HCW := Lib.hid hcw
      have HH := Lib.hid hh
      have HK1 := Lib.hid k1
      have HK2 := Lib.hid k2
      have HFL := Lib.hid (flush_calls hh.dev)
      have HPOS := Lib.hid hpos
      clear hh hls hcw H k1 k2 k3 hpos h0 hk HH2 HC2
      go_wp2_with fail
      refine HFL.out.mono ?_
      rintro e w3 ⟨rfl, hd3, hc3⟩
      have HC3 := Lib.hid ((HFA _).out HCW.out _ hc3)
      have HH3 : Hid (Han w3 h t D.flush B ls) := ⟨hd3, HH.out.sto.foot HH.out.dev hc3, HK1.out⟩
      have HIT := Lib.hid (hitems HH3.out)
      clear hd3 hc3 HFL
      go_wp2_with fail
      refine HIT.out.mono ?_
      rintro e w4 ⟨v4, rfl, ho4, hh4, hc4⟩
      have HC4 : Hid (Chg No w w4) := HC3.out.then hc4 (fun i hi hT => by have := HOW.out i hT; omega)
      have HH4 := Lib.hid hh4
      have HO4 := Lib.hid ho4
      have HCRA := Lib.hid (crash_calls hh4.dev A2 n2 c2 picks t2 HLN2.out (fun W hc => HR2.out.chg ((HFA _).out HC4.out _ hc) (fun _ _ _ _ h => h)))
      clear ho4 hh4 hc4 HIT
      go_wp2_with fail
      refine HCRA.out.mono ?_
      rintro e w5 ⟨rfl, hd5, hc5⟩
      have HC5 := Lib.hid ((HFA _).out HC4.out _ hc5)
      have HD5 := Lib.hid hd5
      have HS5 := Lib.hid (HH4.out.sto.foot HH4.out.dev hc5)
      have HO5 := Lib.hid (own_chg HO4.out hc5 (DevN.own_far2 HH4.out.dev HO4.out))
      have HOFF := Lib.hid (HK1.out.off_E picks)
      have HI5 := Lib.hid (sitems_off hd5 HS5.out HPOS.out (HOFF.out _).1)
      clear hd5 hc5 HCRA HO4 HH4
      go_wp2_with fail
      refine HI5.out.mono ?_
      rintro e w6 ⟨rfl, hd6, hc6⟩
      have HC6 := Lib.hid ((HFA _).out HC5.out _ hc6)
      have HD6 := Lib.hid hd6
      have HS6 := Lib.hid (HS5.out.foot HD5.out hc6)
      have HO6 := Lib.hid (own_chg HO5.out hc6 (DevN.own_far2 HD5.out HO5.out))
      clear hd6 hc6 HI5 HO5 HS5
      have HITX := fun W => Lib.hid (bl_it W)
      go_wp2_with fail
      refine (HITX _).out.mono ?_
      rintro e w7 ⟨rfl, hc7⟩
      have HP7 := Lib.hid (sput_off (HD6.out.chgNo hc7) (HS6.out.chgNo hc7) HPOS.out (itI kX 1) bl_good bl_size (HOFF.out _).1)
      have HC7 := Lib.hid (HC6.out.trans hc7)
      have HD7 := Lib.hid (HD6.out.chgNo hc7)
      have HS7 := Lib.hid (HS6.out.chgNo hc7)
      have HO7 := Lib.hid (own_chg HO6.out hc7 (fun _ _ h => h))
      clear hc7 HD6 HS6 HO6
      go_wp2_with fail
      refine HP7.out.mono ?_
      rintro e w8 ⟨rfl, hd8, hc8⟩
      have HC8 := Lib.hid ((HFA _).out HC7.out _ hc8)
      have HD8 := Lib.hid hd8
      have HS8 := Lib.hid (HS7.out.foot HD7.out hc8)
      have HO8 := Lib.hid (own_chg HO7.out hc8 (DevN.own_far2 HD7.out HO7.out))
      have HON := Lib.hid (on_calls hd8.at_)
      clear hd8 hc8 HP7 HO7 HS7 HD7
      go_wp2_with fail
      refine HON.out.mono ?_
      rintro e w9 ⟨rfl, hd9, hc9⟩
      have HC9 := Lib.hid ((HFA _).out HC8.out _ hc9)
      have HD9 := Lib.hid hd9
      have HS9 := Lib.hid (HS8.out.foot HD8.out hc9)
      have HO9 := Lib.hid (own_chg HO8.out hc9 (DevN.own_far2 HD8.out HO8.out))
      clear hd9 hc9 HON HO8 HS8 HD8
      go_wp2_with fail
      refine (HITX _).out.mono ?_
      rintro e w10 ⟨rfl, hc10⟩
      have HP10 := Lib.hid (sput_off (HD9.out.chgNo hc10) (HS9.out.chgNo hc10) HPOS.out (itI kX 1) bl_good bl_size (HOFF.out _).2)
      have HC10 := Lib.hid (HC9.out.trans hc10)
      have HD10 := Lib.hid (HD9.out.chgNo hc10)
      have HO10 := Lib.hid (own_chg HO9.out hc10 (fun _ _ h => h))
      clear hc10 HD9 HS9 HO9 HITX
      go_wp2_with fail
      refine HP10.out.mono ?_
      rintro e w11 ⟨rfl, hd11, hc11⟩
      have HC11 := Lib.hid ((HFA _).out HC10.out _ hc11)
      have HD11 := Lib.hid hd11
      have HO11 := Lib.hid (own_chg HO10.out hc11 (DevN.own_far2 HD10.out HO10.out))
      have hanew := HK1.out.anew HK2.out picks HLS.out
      have HAN := Lib.hid hanew
      have HOP2 : Hid (Calls Try.prog 25 #[.pointer (some ⟨h.d, 0, none⟩), .int .i64 0, .int .i64 pg] w11 fun e w' => ∃ t : StoH, e = .returned (.tuple #[.pointer (some ⟨t.s, 0, none⟩), .int .i64 0]) ∧
          DevN w11.heap.size w' h ((D.flush.crash picks).on) ∧ StoAt w' h t (Sto.open_ ((D.flush.crash picks).on) ((0 : Nat) : Int) pg) ∧ Chg h.foot w11 w' ∧ (∀ p ∈ t.ps, w11.heap.size ≤ p.2)) :=
        open_calls hd11.at_ 0 pg hp1 (by omega) (by have := hanew.fits; have hl := hanew.len; have hl2 := HLS.out; omega) hanew.off (fun i hi => HK1.out.anew_lE HK2.out picks HLS.out i hi)
      clear hd11 hc11 HP10 HO10 HD10 hanew
      go_wp2_with fail
      refine HOP2.out.mono ?_
      rintro e w12 ⟨t9, rfl, hd12, hs12, hc12, hq12⟩
      have HC12 := Lib.hid ((HFA _).out HC11.out _ hc12)
      have HO12 := Lib.hid (own_chg HO11.out hc12 (DevN.own_far2 HD11.out HO11.out))
      have HH12 : Hid (Han w12 h t9 ((D.flush.crash picks).on) (Sto.open_ ((D.flush.crash picks).on) 0 pg) ls) := ⟨hd12.at_, hs12, HAN.out⟩
      have HOW9 : Hid (∀ k, Own h t9 k → w.heap.size ≤ k) := by
        rintro k (hk | ⟨p, hp, rfl⟩)
        · exact HF1.out k hk
        · exact Nat.le_trans HC11.out.size (hq12 p hp)
      have HI12 := Lib.hid (hitems HH12.out)
      clear hd12 hs12 hc12 hq12 HOP2 HO11
      go_wp2_with fail
      refine HI12.out.mono ?_
      rintro e w13 ⟨v13, rfl, ho13, hh13, hc13⟩
      have HC13 : Hid (Chg No w w13) := HC12.out.then hc13 (fun i hi hT => by have := HOW9.out i hT; omega)
      have HO13 := Lib.hid (own_chg HO12.out hc13 (HH12.out.own_far2 HO12.out))
      obtain ⟨fl, hfl⟩ : ∃ fl, fl = ls.flatten := ⟨_, rfl⟩
      rw [← hfl] at HO13 ho13
      obtain ⟨Aa, ca, rfl, _, hra⟩ := own_slice HO13.out
      obtain ⟨Ab, cb, rfl, _, hrb⟩ := own_slice ho13
      have hfm : fl.length ≤ 10000000 := by
        have h1 := hh13.ok.few2
        have h2 := hh13.ok.len
        have h3 := HLS.out
        rw [hfl]
        omega
      have HEQ := Lib.hid (lists_calls Aa Ab ca cb fl fl w13 hra hrb hfm hfm)
      rw [decide_eq_true rfl] at HEQ
      clear ho13 hh13 hc13 hra hrb hfl hfm HI12 HO12
      go_wp2_with fail
      refine HEQ.out.mono ?_
      rintro e w14 ⟨rfl, hc14⟩
      have HC14 := Lib.hid (HC13.out.trans hc14)
      clear hc14
      go_wp2
      go_ret
      exact ⟨rfl, HC14.out⟩
end Go.Proofs.Ytinofdfjaopdcaa
