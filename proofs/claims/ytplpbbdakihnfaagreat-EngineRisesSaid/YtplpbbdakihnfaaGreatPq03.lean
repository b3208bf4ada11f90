/- Packed texts: SupS, Equal, TombA, RecD, RecE. -/
import Derived.Test.YtplpbbdakihnfaaGreatPq02
import Derived.Test.YtplpbbdakihnfaaGreatPq01
import Derived.Deep.LoopGhost
import Derived.Deep.DrawnRows
import Derived.Deep.QuietTactic
import Derived.BigQuiet
import Derived.StillTailTactics
import Derived.Deep.DeepCutAuto
set_option linter.unusedSimpArgs false
set_option linter.unusedVariables false
section
namespace Go.Proofs.YtplpbbdakihnfaaGreat
open Go.RowKit
structure Sb where
  seq : Nat
  epoch : Nat
  reserved : Nat
  horizon : Nat
  gen : Nat
  clean : Bool
  image : Int
  deriving DecidableEq
def Sb.zero : Sb := ⟨0, 0, 0, 0, 0, false, 0⟩
structure Sb.Ok (b : Sb) : Prop where
  seq : b.seq < 18446744073709551616
  epoch : b.epoch < 18446744073709551616
  reserved : b.reserved < 18446744073709551616
  horizon : b.horizon < 18446744073709551616
  gen : b.gen < 18446744073709551616
  image : -9223372036854775808 ≤ b.image ∧ b.image ≤ 9223372036854775807
theorem Sb.zero_ok : Sb.zero.Ok := ⟨by decide, by decide, by decide, by decide, by decide, by decide⟩
namespace Sb
def img (b : Sb) : Nat := if 0 ≤ b.image ∧ b.image ≤ 2147483647 then b.image.toNat else 0
def norm (b : Sb) : Sb := { b with image := b.img }
def enc0 (b : Sb) : List UInt8 := [83, 85, 80, 69] ++ (le 8 b.seq ++ (le 8 b.epoch ++ (le 8 b.reserved ++ (le 8 b.horizon ++ (le 8 b.gen ++ ([if b.clean then 1 else 0] ++ ([0, 0, 0] ++ (le 4 b.img ++ List.replicate 8 0))))))))
def enc (b : Sb) : List UInt8 := b.enc0 ++ le 4 (crc b.enc0)
def dec0 (p : List UInt8) : Sb := ⟨num (cut p 4 12), num (cut p 12 20), num (cut p 20 28), num (cut p 28 36), num (cut p 36 44), p.getD 44 0 == 1, num (cut p 48 52)⟩
def dec (p : List UInt8) : Option Sb := if 64 ≤ p.length ∧ (dec0 p).enc = p.take 64 then some (dec0 p) else none
end Sb
theorem Sb.img_lt (b : Sb) : b.img ≤ 2147483647 := by
  unfold Sb.img
  split <;> omega
theorem Sb.enc0_len (b : Sb) : b.enc0.length = 60 := by simp [Sb.enc0, le_length]
theorem Sb.enc_len (b : Sb) : b.enc.length = 64 := by simp [Sb.enc, Sb.enc0_len, le_length]
theorem cut_at (a b c : List UInt8) (i j : Nat) (hi : a.length = i) (hj : b.length = j - i) : cut (a ++ (b ++ c)) i j = b := by
  unfold cut
  subst hi
  rw [List.drop_left, ← hj, List.take_left]
theorem Sb.dec0_enc (b : Sb) (h : b.Ok) (z : List UInt8) : Sb.dec0 (b.enc ++ z) = b.norm := by
  have e : b.enc ++ z = [83, 85, 80, 69] ++ (le 8 b.seq ++ (le 8 b.epoch ++ (le 8 b.reserved ++ (le 8 b.horizon ++ (le 8 b.gen ++ ([if b.clean then 1 else 0] ++ ([0, 0, 0] ++ (le 4 b.img ++ (List.replicate 8 0 ++ (le 4 (crc b.enc0) ++ z)))))))))) := by
    simp only [Sb.enc, Sb.enc0, List.append_assoc]
  have e2 : ∀ a b c : List UInt8, a ++ (b ++ c) = (a ++ b) ++ c := fun a b c => (List.append_assoc a b c).symm
  have c1 : cut (b.enc ++ z) 4 12 = le 8 b.seq := by rw [e]; exact cut_at _ _ _ _ _ rfl (by rw [le_length])
  have c2 : cut (b.enc ++ z) 12 20 = le 8 b.epoch := by
    rw [e, e2]; exact cut_at _ _ _ _ _ (by simp [le_length]) (by rw [le_length])
  have c3 : cut (b.enc ++ z) 20 28 = le 8 b.reserved := by
    rw [e, e2, e2]; exact cut_at _ _ _ _ _ (by simp [le_length]) (by rw [le_length])
  have c4 : cut (b.enc ++ z) 28 36 = le 8 b.horizon := by
    rw [e, e2, e2, e2]; exact cut_at _ _ _ _ _ (by simp [le_length]) (by rw [le_length])
  have c5 : cut (b.enc ++ z) 36 44 = le 8 b.gen := by
    rw [e, e2, e2, e2, e2]; exact cut_at _ _ _ _ _ (by simp [le_length]) (by rw [le_length])
  have c6 : cut (b.enc ++ z) 48 52 = le 4 b.img := by
    rw [e, e2, e2, e2, e2, e2, e2, e2]; exact cut_at _ _ _ _ _ (by simp [le_length]) (by rw [le_length])
  have c7 : (b.enc ++ z).getD 44 0 = if b.clean then 1 else 0 := by
    rw [e, e2, e2, e2, e2, e2, List.getD_eq_getElem?_getD, List.getElem?_append_right (by simp [le_length])]
    simp [le_length]
  have hi := b.img_lt
  unfold Sb.dec0 Sb.norm
  rw [c1, c2, c3, c4, c5, c6, c7, num_le_of_lt (by simpa using h.seq), num_le_of_lt (by simpa using h.epoch), num_le_of_lt (by simpa using h.reserved), num_le_of_lt (by simpa using h.horizon), num_le_of_lt (by simpa using h.gen), num_le_of_lt (by omega)]
  cases b.clean <;> rfl
theorem Sb.norm_img (b : Sb) : b.norm.img = b.img := by
  have hl := b.img_lt
  obtain ⟨n, hn⟩ : ∃ n, n = b.img := ⟨_, rfl⟩
  have e : b.norm.image = (n : Int) := by rw [hn]; rfl
  rw [← hn] at hl ⊢
  show (if 0 ≤ b.norm.image ∧ b.norm.image ≤ 2147483647 then b.norm.image.toNat else 0) = n
  rw [e, if_pos ⟨by omega, by omega⟩]
  omega
theorem Sb.norm_enc (b : Sb) : b.norm.enc = b.enc := by
  have h0 : b.norm.enc0 = b.enc0 := by
    unfold Sb.enc0
    rw [Sb.norm_img]
    rfl
  unfold Sb.enc
  rw [h0]
theorem Sb.dec_enc (b : Sb) (h : b.Ok) (z : List UInt8) : Sb.dec (b.enc ++ z) = some b.norm := by
  unfold Sb.dec
  rw [Sb.dec0_enc b h z, Sb.norm_enc, if_pos]
  refine ⟨by rw [List.length_append, Sb.enc_len]; omega, ?_⟩
  rw [← Sb.enc_len b, List.take_left]
theorem Sb.norm_ok {b : Sb} (h : b.Ok) : b.norm.Ok := ⟨h.seq, h.epoch, h.reserved, h.horizon, h.gen, by
  have := b.img_lt
  show -9223372036854775808 ≤ (b.img : Int) ∧ (b.img : Int) ≤ _
  omega⟩
theorem cut_len_le (p : List UInt8) (i j : Nat) : (cut p i j).length ≤ j - i := by unfold cut; rw [List.length_take]; omega
theorem num_lt8 {p : List UInt8} (h : p.length ≤ 8) : num p < 18446744073709551616 := by
  have h1 := num_lt p
  have h2 : 256 ^ p.length ≤ 256 ^ 8 := Nat.pow_le_pow_right (by omega) h
  have : (256 : Nat) ^ 8 = 18446744073709551616 := by decide
  omega
theorem num_lt4 {p : List UInt8} (h : p.length ≤ 4) : num p < 4294967296 := by
  have h1 := num_lt p
  have h2 : 256 ^ p.length ≤ 256 ^ 4 := Nat.pow_le_pow_right (by omega) h
  have : (256 : Nat) ^ 4 = 4294967296 := by decide
  omega
theorem Sb.dec0_ok (p : List UInt8) : (Sb.dec0 p).Ok :=
  ⟨num_lt8 (cut_len_le p 4 12), num_lt8 (cut_len_le p 12 20), num_lt8 (cut_len_le p 20 28), num_lt8 (cut_len_le p 28 36), num_lt8 (cut_len_le p 36 44), by
    have := num_lt4 (cut_len_le p 48 52)
    show -9223372036854775808 ≤ (num (cut p 48 52) : Int) ∧ (num (cut p 48 52) : Int) ≤ _
    omega⟩
theorem Sb.dec_ok {p : List UInt8} {b : Sb} (h : Sb.dec p = some b) : b.Ok := by
  unfold Sb.dec at h
  split at h
  · injection h with h; rw [← h]; exact Sb.dec0_ok p
  · cases h
def sbPick (best : Option Sb) (p : List UInt8) (e : Int) : Option Sb :=
  match Sb.dec p with
  | some b => if e = 0 then (match best with
    | none => some b
    | some c => if c.seq < b.seq then some b else some c) else best
  | none => best
def Dev.sbs (D : Dev) : Nat → Option Sb
  | 0 => none
  | k + 1 => sbPick (D.sbs k) (D.read (k : Int)) (D.readE (k : Int))
def Dev.sload (D : Dev) : Sb := (D.sbs 2).getD Sb.zero
def Sb.next (b was : Sb) : Sb := { b with seq := was.seq + 1 }
def Sb.slot (b : Sb) : Nat := b.seq % 2
abbrev Marks := List (Int × Nat)
structure Jn where
  losses : Int
  first : Nat
  pages : Nat
  gen : Nat
  used : Nat
  marks : Marks
abbrev Mk := Nat × Nat
def mkBytes (m : Mk) : List UInt8 := le 8 m.1 ++ le 8 m.2
def mksBytes (l : List Mk) : List UInt8 := l.flatMap mkBytes
def jnPage (gen : Nat) (l : List Mk) : List UInt8 := [84, 79, 77, 66] ++ (le 4 l.length ++ (le 8 gen ++ mksBytes l))
def jnMark (p : List UInt8) (i : Nat) : Mk := (num (cut p (16 + 16 * i) (24 + 16 * i)), num (cut p (24 + 16 * i) (32 + 16 * i)))
def jnMarks (p : List UInt8) (n : Nat) : List Mk := (List.range n).map (jnMark p)
def jnForm (p : List UInt8) (gen : Nat) : Bool := decide (p.take 4 = [84, 79, 77, 66]) && (decide (num (cut p 4 8) ≤ 23) && decide (num (cut p 8 16) = gen))
def jnRead (p : List UInt8) (gen : Nat) : Option (List Mk) := if jnForm p gen then some (jnMarks p (num (cut p 4 8))) else none
def note1 (ms : Marks) (m : Mk) : Marks := match aget ms (m.1 : Int) with
  | some v => if v < m.2 then aset ms (m.1 : Int) m.2 else ms
  | none => aset ms (m.1 : Int) m.2
def note (ms : Marks) (l : List Mk) : Marks := l.foldl note1 ms
def jnGo (D : Dev) (first gen : Nat) : Nat → Nat → Marks → Nat × Marks
  | 0, u, ms => (u, ms)
  | f + 1, u, ms =>
    if D.readE ((first + u : Nat) : Int) = 5 then (u, ms)
    else if D.readE ((first + u : Nat) : Int) = 0 then (match jnRead (D.read ((first + u : Nat) : Int)) gen with
      | none => (u, ms)
      | some l => jnGo D first gen f (u + 1) (note ms l))
    else jnGo D first gen f (u + 1) ms
def Jn.opened (D : Dev) (first pages gen : Nat) : Jn := { losses := D.losses, first, pages, gen, used := (jnGo D first gen pages 0 []).1, marks := (jnGo D first gen pages 0 []).2 }
def Jn.gone (J : Jn) (key ver : Nat) : Bool := match aget J.marks (key : Int) with
  | some v => decide (ver ≤ v)
  | none => false
def Jn.room (J : Jn) : Nat := J.pages - J.used
theorem mkBytes_len (m : Mk) : (mkBytes m).length = 16 := by simp [mkBytes, le_length]
theorem mksBytes_len (l : List Mk) : (mksBytes l).length = 16 * l.length := by
  induction l with
  | nil => rfl
  | cons m r ih => simp only [mksBytes, List.flatMap_cons, List.length_append, mkBytes_len, List.length_cons] at ih ⊢; omega
theorem jnPage_len (gen : Nat) (l : List Mk) : (jnPage gen l).length = 16 + 16 * l.length := by simp [jnPage, le_length, mksBytes_len]; omega
theorem note_append (ms : Marks) (a b : List Mk) : note ms (a ++ b) = note (note ms a) b := by unfold note; rw [List.foldl_append]
theorem note1_get (ms : Marks) (m : Mk) (k : Int) : aget (note1 ms m) k = if (m.1 : Int) = k then some (match aget ms k with
    | some v => max v m.2
    | none => m.2) else aget ms k := by
  unfold note1
  by_cases hk : (m.1 : Int) = k
  · subst hk
    rw [if_pos rfl]
    cases h : aget ms (m.1 : Int) with
    | none => simp only; rw [aget_aset, if_pos rfl]
    | some v =>
      simp only
      split
      · rename_i hlt
        rw [aget_aset, if_pos rfl, Nat.max_eq_right (by omega)]
      · rename_i hge
        rw [h, Nat.max_eq_left (by omega)]
  · rw [if_neg hk]
    cases h : aget ms (m.1 : Int) with
    | none => simp only; rw [aget_aset, if_neg hk]
    | some v =>
      simp only
      split
      · rw [aget_aset, if_neg hk]
      · rfl
theorem jnRead_page (gen : Nat) (l : List Mk) (hg : gen < 18446744073709551616) (hl : l.length ≤ 23) (hm : ∀ m ∈ l, m.1 < 18446744073709551616 ∧ m.2 < 18446744073709551616) (z : List UInt8) : jnRead (jnPage gen l ++ z) gen = some l := by
  have e : jnPage gen l ++ z = [84, 79, 77, 66] ++ (le 4 l.length ++ (le 8 gen ++ (mksBytes l ++ z))) := by simp only [jnPage, List.append_assoc]
  have e2 : ∀ a b c : List UInt8, a ++ (b ++ c) = (a ++ b) ++ c := fun a b c => (List.append_assoc a b c).symm
  have c1 : cut (jnPage gen l ++ z) 4 8 = le 4 l.length := by rw [e]; exact cut_at _ _ _ _ _ rfl (by rw [le_length])
  have c2 : cut (jnPage gen l ++ z) 8 16 = le 8 gen := by rw [e, e2]; exact cut_at _ _ _ _ _ (by simp [le_length]) (by rw [le_length])
  have hn : num (cut (jnPage gen l ++ z) 4 8) = l.length := by rw [c1, num_le_of_lt (by omega)]
  unfold jnRead
  have hf : jnForm (jnPage gen l ++ z) gen = true := by
    unfold jnForm
    rw [hn, c2, num_le_of_lt (by simpa using hg), e]
    simp [hl]
  rw [if_pos hf, hn]
  refine congrArg some (List.ext_getElem? (fun i => ?_))
  unfold jnMarks
  rw [List.getElem?_map]
  rcases Nat.lt_or_ge i l.length with hi | hi
  · rw [List.getElem?_range hi, List.getElem?_eq_getElem hi]
    simp only [Option.map_some, Option.some.injEq]
    have hsplit : mksBytes l = mksBytes (l.take i) ++ (mkBytes l[i] ++ mksBytes (l.drop (i + 1))) := by
      have := List.take_append_drop i l
      rw [List.drop_eq_getElem_cons hi] at this
      unfold mksBytes
      rw [← List.flatMap_cons, ← List.flatMap_append, this]
    have hpre : ([84, 79, 77, 66] ++ (le 4 l.length ++ (le 8 gen ++ mksBytes (l.take i)))).length = 16 + 16 * i := by
      simp only [List.length_append, le_length, mksBytes_len, List.length_take, List.length_cons, List.length_nil]
      omega
    have e3 : jnPage gen l ++ z = ([84, 79, 77, 66] ++ (le 4 l.length ++ (le 8 gen ++ mksBytes (l.take i)))) ++ (le 8 l[i].1 ++ (le 8 l[i].2 ++ (mksBytes (l.drop (i + 1)) ++ z))) := by
      rw [e, hsplit]; simp only [mkBytes, List.append_assoc]
    have hmi := hm l[i] (List.getElem_mem hi)
    have d1 : cut (jnPage gen l ++ z) (16 + 16 * i) (24 + 16 * i) = le 8 l[i].1 := by rw [e3]; exact cut_at _ _ _ _ _ hpre (by rw [le_length]; omega)
    have d2 : cut (jnPage gen l ++ z) (24 + 16 * i) (32 + 16 * i) = le 8 l[i].2 := by
      rw [e3, e2]; exact cut_at _ _ _ _ _ (by rw [List.length_append, hpre, le_length]; omega) (by rw [le_length]; omega)
    unfold jnMark
    rw [d1, d2, num_le_of_lt (by simpa using hmi.1), num_le_of_lt (by simpa using hmi.2)]
  · rw [List.getElem?_eq_none (by simpa using hi), List.getElem?_eq_none hi]; rfl
end Go.Proofs.YtplpbbdakihnfaaGreat
end

section
namespace Go.Proofs.YtplpbbdakihnfaaGreat
open Go.RowKit
attribute [local go_sem ↓] Go.wp_at_zero Go.wp_at_succ
set_option maxRecDepth 100000 in
theorem eqb_calls (A A2 : Option Addr) (n m c c2 : Nat) (b d : List UInt8) (w : World) (hr : Rd w tU8 A n (bys b)) (hr2 : Rd w tU8 A2 m (bys d)) (hn : n ≤ 1000000) (hm : m ≤ 1000000) :
    Calls Tryz.prog 93 #[.slice A n c, .slice A2 m c2] w fun e w' => e = .returned (.bool (decide (b = d))) ∧ Chg No w w' := by
  have hbl : b.length = n := by rw [← bys_length]; exact hr.1
  have hdl : d.length = m := by rw [← bys_length]; exact hr2.1
  have HR := Lib.hid hr
  have HR2 := Lib.hid hr2
  have HBL := Lib.hid hbl
  have HDL := Lib.hid hdl
  clear hr hr2 hbl hdl
  by_cases hl : n = m
  · subst hl
    go_enter Tryz.func93, Tryz.ntmps93
    go_wp2
    go_loopg [5, 13] n (fun g v5 v13 wr => ∃ k : Nat, v13 = .int .i64 k ∧ k ≤ n ∧ n - k = g ∧ Hid (Chg No w wr ∧ b.take k = d.take k))
    case atStart => exact ⟨0, rfl, by omega, by omega, ⟨Chg.refl _ _, rfl⟩⟩
    case round =>
      obtain ⟨k, rfl, hk, hgn, H⟩ := hrel
      subst hgn
      by_cases h0 : k < n
      · obtain ⟨x, hx⟩ : ∃ x, b[k]? = some x := ⟨_, List.getElem?_eq_getElem (by have := HBL.out; omega)⟩
        obtain ⟨y, hy⟩ : ∃ y, d[k]? = some y := ⟨_, List.getElem?_eq_getElem (by have := HDL.out; omega)⟩
        obtain ⟨g, off, rfl, hg, hc⟩ := (HR.out.chg H.out.1 (fun _ _ _ _ h => h)).at_ h0
        obtain ⟨g2, off2, rfl, hg2, hd⟩ := (HR2.out.chg H.out.1 (fun _ _ _ _ h => h)).at_ h0
        have c0 := hc k _ (by simp only [bys, List.getElem?_map, hx]; rfl)
        have d0 := hd k _ (by simp only [bys, List.getElem?_map, hy]; rfl)
        have hki : (0 : Int) ≤ (k : Int) := by omega
        have hkn : (k : Int) < (n : Int) := by omega
        have HX := Lib.hid hx
        have HY := Lib.hid hy
        clear hx hy hc hd
        by_cases hxy : x = y
        · subst hxy
          have hb : ((x.toNat : Int) != (x.toNat : Int)) = false := by simp
          go_wp2_with fail
          go_quiet (fail)
          go_wp2
          go_roundg (n - (k + 1))
          case measure => omega
          case rel =>
            refine ⟨k + 1, rfl, by omega, rfl, by have := H.out.1; (repeat (first | (with_reducible exact Chg.refl _ _) | (with_reducible assumption) | (with_reducible refine Chg.drewN ?_ _) | (with_reducible refine Chg.drew ?_) | (with_reducible refine Chg.alloc ?_ _) | (with_reducible refine Chg.setCell ?_ (by first | (left; simp [DevH.foot]; done) | (right; simp; done) | (right; simp; omega)) _))), ?_⟩
            rw [List.take_add_one, List.take_add_one, HX.out, HY.out, H.out.2]
        · have hne : ¬ (x.toNat : Int) = (y.toNat : Int) := fun h => hxy (UInt8.toNat_inj.1 (Int.ofNat.inj h))
          have hb : ((x.toNat : Int) != (y.toNat : Int)) = true := by simpa using hne
          have HXY := Lib.hid hxy
          clear hxy hne
          go_wp2_with fail
          go_quiet (fail)
          go_wp2
          go_ret
          refine ⟨?_, by have := H.out.1; (repeat (first | (with_reducible exact Chg.refl _ _) | (with_reducible assumption) | (with_reducible refine Chg.drewN ?_ _) | (with_reducible refine Chg.drew ?_) | (with_reducible refine Chg.alloc ?_ _) | (with_reducible refine Chg.setCell ?_ (by first | (left; simp [DevH.foot]; done) | (right; simp; done) | (right; simp; omega)) _)))⟩
          have : ¬ b = d := by
            intro h
            have h1 := HX.out
            rw [h, HY.out] at h1
            injection h1 with h1
            exact HXY.out h1.symm
          rw [decide_eq_false this]; rfl
      · obtain rfl : k = n := by omega
        have hlm : b = d := by
          have := H.out.2
          rwa [List.take_of_length_le (by have := HBL.out; omega), List.take_of_length_le (by have := HDL.out; omega)] at this
        have HLM := Lib.hid hlm
        clear hlm h0
        go_wp2
        go_ret
        exact ⟨by rw [decide_eq_true HLM.out]; rfl, H.out.1⟩
  · have hb : ((n : Int) != (m : Int)) = true := by simp; omega
    have hne : ¬ b = d := fun h => hl (by rw [← HBL.out, ← HDL.out, h])
    have HNE := Lib.hid hne
    clear hl hne
    go_enter Tryz.func93, Tryz.ntmps93
    go_wp2
    go_ret
    exact ⟨by rw [decide_eq_false HNE.out]; rfl, Chg.refl _ _⟩
end Go.Proofs.YtplpbbdakihnfaaGreat
end

section
namespace Go.Proofs.YtplpbbdakihnfaaGreat
open Go.RowKit
theorem tnumber_calls (A : Option Addr) (n c : Nat) (b : List UInt8) (w : World) (hr : Rd w tU8 A n (bys b)) (hn : n ≤ 8) :
    Calls Tryz.prog 94 #[.slice A n c] w fun e w' => e = .returned (.int .u64 (num b)) ∧ w = w' := by
  have hbl : b.length = n := by rw [← bys_length]; exact hr.1
  rcases Nat.eq_zero_or_pos n with rfl | hpos
  · have hb : b = [] := List.eq_nil_of_length_eq_zero hbl
    subst hb
    clear hr hbl
    go_enter Tryz.func94, Tryz.ntmps94
    go_wp2
    go_loopg [3, 4] 0 (fun k v i wr => w = wr ∧ i = .int .i64 (-1) ∧ v = .int .u64 0)
    case atStart => exact ⟨rfl, rfl, rfl⟩
    case round =>
      obtain ⟨rfl, rfl, rfl⟩ := hrel
      go_wp2
      go_ret
      exact ⟨rfl, rfl⟩
  · obtain ⟨g, off, rfl, hg, hx⟩ := hr.at_ hpos
    have HX := Lib.hid hx
    have HBL := Lib.hid hbl
    clear hr hx hbl hg
    go_enter Tryz.func94, Tryz.ntmps94
    go_wp2
    go_loopg [3, 4] n (fun k v i wr => ∃ j : Nat, k = j ∧ j ≤ n ∧ w = wr ∧ i = .int .i64 ((j : Int) - 1) ∧ v = .int .u64 ((num (b.drop j) : Nat) : Int))
    case atStart => exact ⟨n, rfl, Nat.le_refl _, rfl, by go_num, by rw [List.drop_of_length_le (by rw [HBL.out]; exact Nat.le_refl _)]; rfl⟩
    case round =>
      obtain ⟨j, rfl, hj, rfl, rfl, rfl⟩ := hrel
      rcases Nat.eq_zero_or_pos gk with rfl | h0
      · rw [show (((0 : Nat) : Int) - 1) = -1 from rfl]
        go_wp2
        go_ret
        exact ⟨by simp, rfl⟩
      · obtain ⟨m, rfl⟩ : ∃ m, gk = m + 1 := ⟨gk - 1, by omega⟩
        have e1 : ((m + 1 : Nat) : Int) - 1 = (m : Int) := by omega
        rw [e1]
        have hlt : (m : Int) < (n : Int) := by omega
        have hml : m < b.length := by rw [HBL.out]; omega
        obtain ⟨x, hxe⟩ : ∃ x, x = b[m] := ⟨_, rfl⟩
        have hc : w.cell? ⟨g, off + m, none⟩ = some (.int .u8 x.toNat) := HX.out m _ (by simp [bys, hxe, List.getElem?_eq_getElem hml])
        obtain ⟨q, hq⟩ : ∃ q, q = num (b.drop (m + 1)) := ⟨_, rfl⟩
        rw [← hq]
        have hqs : q < 72057594037927936 := by rw [hq]; exact num_small b m (by rw [HBL.out]; exact hn) hml
        have HV : Hid (num (b.drop m) = x.toNat + 256 * q) := by rw [hq, hxe]; exact num_drop b m hml
        have HO := Lib.hid (bits_or_byte q x hqs)
        clear hq hxe hml
        go_wp2
        go_roundg m
        case measure => omega
        case rel => exact ⟨m, rfl, by omega, rfl, rfl, by rw [HO.out, HV.out]⟩
theorem tadd_calls (v : Value) (base m : Nat) (xs : List Value) (k n : Nat) (w : World) (hown : w.ownsRow base tU8 1 v m xs) (hb : base ≤ w.heap.size) (hk : k < 18446744073709551616) (hn : n ≤ 8) (hm : m ≤ 140737488351232) :
    Calls Tryz.prog 82 #[v, .int .u64 k, .int .i64 n] w fun e w' => ∃ v', e = .returned v' ∧ w'.ownsRow base tU8 1 v' (m + n) (xs ++ bys (le n k)) ∧ Chg (rowOf v) w w' ∧ (v'.ownBlock = v.ownBlock ∨ ∀ j, v'.ownBlock = some j → w.heap.size ≤ j) := by
  have HO := Lib.hid hown
  clear hown
  go_enter Tryz.func82, Tryz.ntmps82
  go_wp2
  go_loopg [0, 9] n (fun g v0 i wr => ∃ q : Nat, g = n - q ∧ q ≤ n ∧ i = .int .i64 q ∧ Hid (wr.ownsRow base tU8 1 v0 (m + q) (xs ++ bys (le q k)) ∧ Chg (rowOf v) w wr ∧ (v0.ownBlock = v.ownBlock ∨ ∀ j, v0.ownBlock = some j → w.heap.size ≤ j)))
  case atStart => exact ⟨0, rfl, Nat.zero_le _, rfl, ⟨by simpa [le, bys] using HO.out, Chg.refl _ _, .inl rfl⟩⟩
  case round =>
    obtain ⟨q, rfl, hq, rfl, HQ⟩ := hrel
    by_cases h0 : q < n
    · have HW : Hid (base ≤ wr.heap.size) := Nat.le_trans hb HQ.out.2.1.size
      rename_i v0
      go_wp2_with (first
        | (at_builtin; refine wpList_app _ rfl (.tmp 12) (.tmp 18) tBytes rfl tU8 Tryz.underlying40 ti_u8 rfl (by omega) base _ (m + q) (xs ++ bys (le q k)) rfl (HQ.out.1.alloc _) tU8 _ 1 1 _ rfl (rd_one _ _ _) (by simp [Value.oneCell']) (by simp only [maxLen]; omega) (by omega) (by have := HW.out; simp; omega) ?_; intro v1 w1 ho1 hg1 hb1; have HO1 := Lib.hid ho1; have HG1 := Lib.hid hg1; have HB1 := Lib.hid hb1; clear ho1 hg1 hb1))
      go_roundg (n - (q + 1))
      case measure => omega
      case rel =>
        refine ⟨q + 1, rfl, by omega, by go_num, ?_, ?_, ?_⟩
        · have h := HO1.out
          rw [List.append_assoc] at h
          have e : bys (le (q + 1) k) = bys (le q k) ++ [.int .u8 ((k : Int) / 2 ^ (8 * q) % 256)] := by
            rw [le_snoc, bys_append]
            simp only [bys, List.map_cons, List.map_nil, le_byte]
          rw [e]
          exact h
        · refine ((HQ.out.2.1.alloc _).grown HG1.out ?_)
          intro j hj
          rcases HQ.out.2.2 with h | h
          · left; unfold rowOf; rw [← h]; exact hj
          · right; exact h j hj
        · rcases HB1.out with h | h
          · rw [h]; exact HQ.out.2.2
          · right
            intro j hj
            rw [h] at hj
            have := HQ.out.2.1.size
            simp at hj
            omega
    · have e : q = n := by omega
      subst e
      go_wp2
      go_ret
      exact ⟨_, rfl, HQ.out⟩
theorem tadd_callsI (v : Value) (base m : Nat) (xs : List Value) (k n : Int) (w : World) (hown : w.ownsRow base tU8 1 v m xs) (hb : base ≤ w.heap.size) (hk0 : 0 ≤ k) (hk : k < 18446744073709551616) (hn0 : 0 ≤ n) (hn : n ≤ 8) (hm : m ≤ 140737488351232) :
    Calls Tryz.prog 82 #[v, .int .u64 k, .int .i64 n] w fun e w' => ∃ v', e = .returned v' ∧ w'.ownsRow base tU8 1 v' (m + n.toNat) (xs ++ bys (le n.toNat k.toNat)) ∧ Chg (fun i => base ≤ i) w w' := by
  obtain ⟨k, rfl⟩ := Int.eq_ofNat_of_zero_le hk0
  obtain ⟨n, rfl⟩ := Int.eq_ofNat_of_zero_le hn0
  refine (tadd_calls v base m xs k n w hown hb (by omega) (by omega) hm).mono ?_
  rintro e w' ⟨v', rfl, h1, h2, _⟩
  exact ⟨v', rfl, by simpa using h1, h2.mono (fun i _ hi => own_new hown i hi)⟩
theorem tmagic_calls (w : World) : Calls Tryz.prog 83 #[] w fun e w' => e = .returned (.slice (some ⟨w.heap.size, 0, none⟩) 4 4) ∧ w' = w.alloc (.cells #[.int .u8 84, .int .u8 79, .int .u8 77, .int .u8 66] tU8) := by
  go_enter Tryz.func83, Tryz.ntmps83
  go_wp2
  go_ret
  exact ⟨rfl, rfl⟩
theorem rd_tmagic (W : World) : Rd (W.alloc (.cells #[.int .u8 84, .int .u8 79, .int .u8 77, .int .u8 66] tU8)) tU8 (some ⟨W.heap.size, 0, none⟩) 4 (bys [84, 79, 77, 66]) := by
  have := Rd.ofBlk (k := 4) (Blk.new W tU8 #[.int .u8 84, .int .u8 79, .int .u8 77, .int .u8 66]) (by simp)
  simpa [bys] using this
theorem snumber_calls (A : Option Addr) (n c : Nat) (b : List UInt8) (w : World) (hr : Rd w tU8 A n (bys b)) (hn : n ≤ 8) :
    Calls Tryz.prog 92 #[.slice A n c] w fun e w' => e = .returned (.int .u64 (num b)) ∧ w = w' := by
  have hbl : b.length = n := by rw [← bys_length]; exact hr.1
  rcases Nat.eq_zero_or_pos n with rfl | hpos
  · have hb : b = [] := List.eq_nil_of_length_eq_zero hbl
    subst hb
    clear hr hbl
    go_enter Tryz.func92, Tryz.ntmps92
    go_wp2
    go_loopg [3, 4] 0 (fun k v i wr => w = wr ∧ i = .int .i64 (-1) ∧ v = .int .u64 0)
    case atStart => exact ⟨rfl, rfl, rfl⟩
    case round =>
      obtain ⟨rfl, rfl, rfl⟩ := hrel
      go_wp2
      go_ret
      exact ⟨rfl, rfl⟩
  · obtain ⟨g, off, rfl, hg, hx⟩ := hr.at_ hpos
    have HX := Lib.hid hx
    have HBL := Lib.hid hbl
    clear hr hx hbl hg
    go_enter Tryz.func92, Tryz.ntmps92
    go_wp2
    go_loopg [3, 4] n (fun k v i wr => ∃ j : Nat, k = j ∧ j ≤ n ∧ w = wr ∧ i = .int .i64 ((j : Int) - 1) ∧ v = .int .u64 ((num (b.drop j) : Nat) : Int))
    case atStart => exact ⟨n, rfl, Nat.le_refl _, rfl, by go_num, by rw [List.drop_of_length_le (by rw [HBL.out]; exact Nat.le_refl _)]; rfl⟩
    case round =>
      obtain ⟨j, rfl, hj, rfl, rfl, rfl⟩ := hrel
      rcases Nat.eq_zero_or_pos gk with rfl | h0
      · rw [show (((0 : Nat) : Int) - 1) = -1 from rfl]
        go_wp2
        go_ret
        exact ⟨by simp, rfl⟩
      · obtain ⟨m, rfl⟩ : ∃ m, gk = m + 1 := ⟨gk - 1, by omega⟩
        have e1 : ((m + 1 : Nat) : Int) - 1 = (m : Int) := by omega
        rw [e1]
        have hlt : (m : Int) < (n : Int) := by omega
        have hml : m < b.length := by rw [HBL.out]; omega
        obtain ⟨x, hxe⟩ : ∃ x, x = b[m] := ⟨_, rfl⟩
        have hc : w.cell? ⟨g, off + m, none⟩ = some (.int .u8 x.toNat) := HX.out m _ (by simp [bys, hxe, List.getElem?_eq_getElem hml])
        obtain ⟨q, hq⟩ : ∃ q, q = num (b.drop (m + 1)) := ⟨_, rfl⟩
        rw [← hq]
        have hqs : q < 72057594037927936 := by rw [hq]; exact num_small b m (by rw [HBL.out]; exact hn) hml
        have HV : Hid (num (b.drop m) = x.toNat + 256 * q) := by rw [hq, hxe]; exact num_drop b m hml
        have HO := Lib.hid (bits_or_byte q x hqs)
        clear hq hxe hml
        go_wp2
        go_roundg m
        case measure => omega
        case rel => exact ⟨m, rfl, by omega, rfl, rfl, by rw [HO.out, HV.out]⟩
theorem smagic_calls (w : World) : Calls Tryz.prog 113 #[] w fun e w' => e = .returned (.slice (some ⟨w.heap.size, 0, none⟩) 4 4) ∧ w' = w.alloc (.cells #[.int .u8 83, .int .u8 85, .int .u8 80, .int .u8 69] tU8) := by
  go_enter Tryz.func113, Tryz.ntmps113
  go_wp2
  go_ret
  exact ⟨rfl, rfl⟩
theorem rd_smagic (W : World) : Rd (W.alloc (.cells #[.int .u8 83, .int .u8 85, .int .u8 80, .int .u8 69] tU8)) tU8 (some ⟨W.heap.size, 0, none⟩) 4 (bys [83, 85, 80, 69]) := by
  have := Rd.ofBlk (k := 4) (Blk.new W tU8 #[.int .u8 83, .int .u8 85, .int .u8 80, .int .u8 69]) (by simp)
  simpa [bys] using this
end Go.Proofs.YtplpbbdakihnfaaGreat
end

section
namespace Go.Proofs.YtplpbbdakihnfaaGreat
open Go.RowKit
theorem quiet_left {P : Program} {f : FuncId} {args : Array Value} {w : World} {n : Nat} {v : Value}
    (h : Calls P f args (w.drewN n) fun e w' => e = .returned v ∧ w.drewN n = w') : Calls P f args (w.drewN n) fun e w' => e = .returned v ∧ ∃ m, w' = w.drewN m :=
  h.mono fun _ _ ⟨he, hm⟩ => ⟨he, n, hm.symm⟩
theorem quiet_add_left {P : Program} {f : FuncId} {args : Array Value} {w : World} {a n : Nat} {v : Value}
    (h : Calls P f args (w.drewN (a + n)) fun e w' => e = .returned v ∧ w.drewN (a + n) = w') :
    Calls P f args (w.drewN (a + n)) fun e w'' => e = .returned v ∧ ∃ m, w'' = w.drewN (a + m) :=
  h.mono fun _ _ ⟨he, hm⟩ => ⟨he, n, hm.symm⟩
abbrev itemV (x : Item) : Value := .agg #[.string x.key, .string x.val, .int .u32 x.flags.toNat, .int .i64 x.exp.toInt, .int .u64 x.ver.toNat]
theorem Rd.window {w : World} {t : TypeId} {g off k : Nat} {b : List UInt8} (h : Rd w t (some ⟨g, off, none⟩) k (bys b)) (i j : Nat) (hi : i ≤ j) (hj : j ≤ k) : Rd w t (some ⟨g, off + i, none⟩) (j - i) (bys (cut b i j)) := by
  have h1 := (h.drop (m := i) (by omega) False (fun h => h.elim)).take (m := j - i) (by omega)
  simp only [if_false, Option.map_some] at h1
  have e : (⟨g, off, none⟩ : Addr).add i = ⟨g, off + i, none⟩ := by unfold Addr.add; split <;> simp_all
  rw [e] at h1
  simpa [cut, bys_take, bys_drop] using h1
set_option maxRecDepth 100000 in
theorem num_cut_lt (b : List UInt8) (i j : Nat) : num (cut b i j) < 256 ^ (j - i) := by
  have h1 := num_lt (cut b i j)
  have h2 : (cut b i j).length ≤ j - i := by simp [cut]; omega
  have h3 : 256 ^ (cut b i j).length ≤ 256 ^ (j - i) := Nat.pow_le_pow_right (by decide) h2
  omega
theorem flags_wrap (q : Nat) (h : q < 256 ^ (8 - 4)) : IntKind.u32.wrap (q : Int) = ((UInt32.ofNat q).toNat : Int) := by
  have e : (256 : Nat) ^ (8 - 4) = 4294967296 := by decide
  rw [e] at h
  rw [wraps_u32 _ (by omega) (by omega), UInt32.toNat_ofNat_of_lt' (by exact h)]
theorem ver_wrap (q : Nat) (h : q < 256 ^ (24 - 16)) : (q : Int) = ((UInt64.ofNat q).toNat : Int) := by
  have e : (256 : Nat) ^ (24 - 16) = 18446744073709551616 := by decide
  rw [e] at h
  rw [UInt64.toNat_ofNat_of_lt' (by exact h)]
theorem exp_unwrap (q : Nat) (h : q < 256 ^ (16 - 8)) : IntKind.i64.wrap (q : Int) = ((UInt64.ofNat q).toInt64).toInt := by
  have e : (256 : Nat) ^ (16 - 8) = 18446744073709551616 := by decide
  rw [e] at h
  have h3 : ((UInt64.ofNat q).toInt64).toInt = ((UInt64.ofNat q).toBitVec).toInt := rfl
  rw [h3, BitVec.toInt_eq_toNat_bmod]
  have h4 : (UInt64.ofNat q).toBitVec.toNat = q := UInt64.toNat_ofNat_of_lt' (by exact h)
  rw [h4, IntKind.wrap_i64, Int.bmod_def]
  split <;> omega
theorem take_tail (b : List UInt8) (n : Nat) (x0 : UInt8) (hl : b.length = n) (h0 : b[0]? = some x0) (hx : 0 < x0.toNat) (h32 : 32 ≤ n) (h3 : b[3]? = some 82) (hc1 : num (cut b 24 28) = crc (cut b 0 24)) (he : endOf b ≤ n) (hc2 : num (cut b 28 32) = crc (cut b 32 (endOf b)))
    (it : Item) (hit : it = itemOf b) : take b = if it.good then Tk.ok it (endOf b) else .bad := by
  have e0 : b.getD 0 0 = x0 := by rw [List.getD_eq_getElem?_getD, h0]; rfl
  have e3 : b.getD 3 0 = 82 := by rw [List.getD_eq_getElem?_getD, h3]; rfl
  have e3' : b[3]?.getD 0 = 82 := by rw [h3]; rfl
  have hne : ¬ (b.length = 0 ∨ b.getD 0 0 = 0) := by
    rw [e0]
    rintro (h | h)
    · omega
    · rw [h] at hx; simp at hx
  subst hit
  unfold take
  rw [if_neg hne]
  have hh : headOk b = true := by simp [headOk, e3', hc1, hl, h32]
  have hb : bodyOk b = true := by simp [bodyOk, hc2, hl, he]
  rw [hh, hb]
  simp
theorem take_x0 (b : List UInt8) (n : Nat) (x0 : UInt8) (hl : b.length = n) (h0 : b[0]? = some x0) (hx : 0 < x0.toNat) : ¬ (b.length = 0 ∨ b.getD 0 0 = 0) := by
  have e0 : b.getD 0 0 = x0 := by rw [List.getD_eq_getElem?_getD, h0]; rfl
  have : 0 < b.length := (List.getElem?_eq_some_iff.1 h0).1
  rw [e0]
  rintro (h | h)
  · omega
  · rw [h] at hx; simp at hx
theorem take_head (b : List UInt8) (n : Nat) (x0 : UInt8) (hl : b.length = n) (h0 : b[0]? = some x0) (hx : 0 < x0.toNat) (hc : ¬ num (cut b 24 28) = crc (cut b 0 24)) : take b = .bad := by
  unfold take
  rw [if_neg (take_x0 b n x0 hl h0 hx)]
  have : headOk b = false := by simp [headOk, hc]
  rw [this]; simp
theorem take_body (b : List UInt8) (n : Nat) (x0 : UInt8) (hl : b.length = n) (h0 : b[0]? = some x0) (hx : 0 < x0.toNat) (hc : ¬ num (cut b 28 32) = crc (cut b 32 (endOf b))) : take b = .bad := by
  unfold take
  rw [if_neg (take_x0 b n x0 hl h0 hx)]
  have : bodyOk b = false := by simp [bodyOk, hc]
  rw [this]; simp
theorem take_end (b : List UInt8) (n : Nat) (x0 : UInt8) (hl : b.length = n) (h0 : b[0]? = some x0) (hx : 0 < x0.toNat) (hc : ¬ endOf b ≤ n) : take b = .bad := by
  unfold take
  rw [if_neg (take_x0 b n x0 hl h0 hx)]
  have : bodyOk b = false := by simp [bodyOk, hl]; intro h; omega
  rw [this]; simp
theorem take_b3 (b : List UInt8) (n : Nat) (x0 : UInt8) (hl : b.length = n) (h0 : b[0]? = some x0) (hx : 0 < x0.toNat) (hc : n < 32 ∨ ¬ b.getD 3 0 = 82) : take b = .bad := by
  unfold take
  rw [if_neg (take_x0 b n x0 hl h0 hx)]
  have : headOk b = false := by
    simp only [headOk, hl]
    rcases hc with h | h
    · simp; omega
    · simp at h; simp [h]
  rw [this]; simp
set_option maxRecDepth 100000 in
set_option maxHeartbeats 8000000 in
theorem take_long (g off n c : Nat) (b : List UInt8) (w : World) (hr : Rd w tU8 (some ⟨g, off, none⟩) n (bys b)) (hn : n ≤ 140737488351232) (hcap : n ≤ c) (x0 : UInt8) (hx0 : b[0]? = some x0) (h0 : ((x0.toNat : Int) == 0) = false)
    (h32 : 32 ≤ n) (hx3 : b[3]? = some 82) (hend : endOf b ≤ n) :
    Calls Tryz.prog 116 #[.slice (some ⟨g, off, none⟩) n c] w fun e w' => e = .returned (.tuple #[itemV (take b).item, .int .i64 (take b).len, .int .i64 (take b).err]) ∧ Chg No w w' := by
  have hcell : ∀ (j : Nat) (x : UInt8), b[j]? = some x → w.cell? ⟨g, off + j, none⟩ = some (.int .u8 x.toNat) := by
    intro j x hj
    have hk : 0 < n := by omega
    obtain ⟨g', off', e, hlt, hx⟩ := hr.at_ hk
    simp only [Option.some.injEq, Addr.mk.injEq, and_true] at e
    obtain ⟨rfl, rfl⟩ := e
    exact hx j _ (by simp [bys, hj])
  have hg : g < w.heap.size := by
    obtain ⟨g', off', cur, fz, e, hb, _⟩ := hr.2 (by omega)
    simp only [Option.some.injEq, Addr.mk.injEq, and_true] at e
    rw [e.1]
    exact (Array.getElem?_eq_some_iff.1 hb).1
  have hbl : b.length = n := by rw [← bys_length]; exact hr.1
  have hk0 : keyLen b = x0.toNat := by unfold keyLen; rw [List.getD_eq_getElem?_getD, hx0]; rfl
  obtain ⟨v, hv⟩ : ∃ v, v = valLen b := ⟨_, rfl⟩
  have hv16 : v < 65536 := by
    rw [hv]
    have h1 := num_lt (cut b 1 3)
    have h2 : (cut b 1 3).length ≤ 2 := by simp [cut]; omega
    have h3 : 256 ^ (cut b 1 3).length ≤ 256 ^ 2 := Nat.pow_le_pow_right (by decide) h2
    unfold valLen
    omega
  have hendv : endOf b = 32 + x0.toNat + v := by unfold endOf; rw [hk0, hv]
  have hen : 32 + x0.toNat + v ≤ n := by omega
  have c0 := hcell 0 x0 hx0
  have c3 := hcell 3 82 hx3
  simp at c0 c3
  have n24 : ¬ c = 24 := by omega
  have n28 : ¬ c = 28 := by omega
  have n1 : ¬ c = 1 := by omega
  have n32n : decide ((n : Int) < 32) = false := by simp; omega
  have HR := Lib.hid hr
  obtain ⟨q1, hq1⟩ : ∃ q, q = num (cut b 24 28) := ⟨_, rfl⟩
  obtain ⟨k1, hk1⟩ : ∃ k, k = crc (cut b 0 24) := ⟨_, rfl⟩
  have wk1 : IntKind.u64.wrap (k1 : Int) = k1 := wraps_u64 _ (by omega) (by have := crc_lt (cut b 0 24); omega)
  have H1 := fun W k => Lib.hid (number_calls (some ⟨g, off + 24, none⟩) 4 (c - 24) (cut b 24 28) ((w.alloc W).drewN k) ((hr.window 24 28 (by omega) (by omega)).alloc W) (by omega))
  have H2 := fun W k => Lib.hid (crc_calls (some ⟨g, off, none⟩) 24 c (cut b 0 24) ((w.alloc W).drewN k) ((hr.window 0 24 (by omega) (by omega)).alloc W) (by omega))
  have H3 := fun W k => Lib.hid (number_calls (some ⟨g, off + 1, none⟩) 2 (c - 1) (cut b 1 3) ((w.alloc W).drewN k) ((hr.window 1 3 (by omega) (by omega)).alloc W) (by omega))
  rw [← hq1] at H1
  rw [← hk1] at H2
  have e3 : num (cut b 1 3) = v := hv.symm
  rw [e3] at H3
  have HQ1 := Lib.hid hq1
  have HX0 := Lib.hid hx0
  have HX3 := Lib.hid hx3
  have HL := Lib.hid hbl
  have HK0 := Lib.hid hk0
  have HK1 := Lib.hid hk1
  have HV := Lib.hid hv
  have HE := Lib.hid hendv
  have n0 : ((n : Int) == 0) = false := by simp; omega
  have x0p : 0 < x0.toNat := by simp at h0; omega
  have n32 : ¬ c = 32 := by omega
  have nend : decide ((n : Int) < 32 + (x0.toNat : Int) + (v : Int)) = false := by simp; omega
  have hendI : (32 : Int) + (x0.toNat : Int) + (v : Int) ≤ (c : Int) := by omega
  have en : ((32 : Int) + (x0.toNat : Int) + (v : Int)).toNat = 32 + x0.toNat + v := by omega
  obtain ⟨q2, hq2⟩ : ∃ q, q = num (cut b 28 32) := ⟨_, rfl⟩
  obtain ⟨k2, hk2⟩ : ∃ k, k = crc (cut b 32 (32 + x0.toNat + v)) := ⟨_, rfl⟩
  have wk2 : IntKind.u64.wrap (k2 : Int) = k2 := wraps_u64 _ (by omega) (by have := crc_lt (cut b 32 (32 + x0.toNat + v)); omega)
  have H4 := fun W k => Lib.hid (number_calls (some ⟨g, off + 28, none⟩) 4 (c - 28) (cut b 28 32) ((w.alloc W).drewN k) ((hr.window 28 32 (by omega) (by omega)).alloc W) (by omega))
  have H5 := fun W k => Lib.hid (crc_calls (some ⟨g, off + 32, none⟩) (32 + x0.toNat + v - 32) (c - 32) (cut b 32 (32 + x0.toNat + v)) ((w.alloc W).drewN k) ((hr.window 32 (32 + x0.toNat + v) (by omega) (by omega)).alloc W) (by omega))
  rw [← hq2] at H4
  rw [← hk2] at H5
  have HQ2 := Lib.hid hq2
  have HK2 := Lib.hid hk2
  clear hr hcell hx0 hx3 hq1 hk1 hv hendv hend hk0 e3 hbl hq2 hk2
  go_enter Tryz.func116, Tryz.ntmps116
  go_wp2_with fail
  go_quiet ((first | (go_at_call 127; exact quiet_left (H1 _ _).out) | (go_at_call 115; exact quiet_left (H2 _ _).out)))
  go_wp2_with fail
  · go_wp2
    refine bodyPost_ret (v := .tuple #[itemV Item.zero, .int .i64 0, .int .i64 3]) (by simp [results, Tryz.results116, go_sem]; exact ⟨rfl, rfl, rfl, rfl, rfl⟩) rfl ⟨?_, by (repeat (first | (with_reducible exact Chg.refl _ _) | (with_reducible assumption) | (with_reducible refine Chg.drewN ?_ _) | (with_reducible refine Chg.drew ?_) | (with_reducible refine Chg.alloc ?_ _) | (with_reducible refine Chg.setCell ?_ (by first | (left; simp [DevH.foot]; done) | (right; simp; done) | (right; simp; omega)) _)))⟩
    rw [take_head b n x0 HL.out HX0.out x0p (by rw [← HQ1.out, ← HK1.out]; have := ‹((q1 : Int) != (k1 : Int)) = true›; simp at this; omega)]
    rfl
  · go_quiet ((first | (go_at_call 127; exact quiet_add_left (H3 _ _).out)))
    go_wp2_with fail
    go_quiet ((first | (go_at_call 127; exact quiet_add_left (H4 _ _).out) | (go_at_call 115; exact quiet_add_left (H5 _ _).out)))
    go_wp2_with fail
    · go_wp2
      refine bodyPost_ret (v := .tuple #[itemV Item.zero, .int .i64 0, .int .i64 3]) (by simp [results, Tryz.results116, go_sem]; exact ⟨rfl, rfl, rfl, rfl, rfl⟩) rfl ⟨?_, by (repeat (first | (with_reducible exact Chg.refl _ _) | (with_reducible assumption) | (with_reducible refine Chg.drewN ?_ _) | (with_reducible refine Chg.drew ?_) | (with_reducible refine Chg.alloc ?_ _) | (with_reducible refine Chg.setCell ?_ (by first | (left; simp [DevH.foot]; done) | (right; simp; done) | (right; simp; omega)) _)))⟩
      rw [take_body b n x0 HL.out HX0.out x0p (by rw [HE.out, ← HQ2.out, ← HK2.out]; have := ‹((q2 : Int) != (k2 : Int)) = true›; simp at this; omega)]
      rfl
    · refine wp_forget (fun W => Rd W tU8 (some ⟨g, off, none⟩) n (bys b) ∧ Blk W w.heap.size 39 #[.string ⟨#[]⟩, .string ⟨#[]⟩, .int .u32 0, .int .i64 0, .int .u64 0] ∧ Chg No w W) ?_ ?_
      · simp only [World.drewN_drewN]
        exact ⟨(HR.out.alloc _).drewN _, (Blk.new w _ _).drewN _, by (repeat (first | (with_reducible exact Chg.refl _ _) | (with_reducible assumption) | (with_reducible refine Chg.drewN ?_ _) | (with_reducible refine Chg.drew ?_) | (with_reducible refine Chg.alloc ?_ _) | (with_reducible refine Chg.setCell ?_ (by first | (left; simp [DevH.foot]; done) | (right; simp; done) | (right; simp; omega)) _)))⟩
      rintro W9 ⟨hr9, hb9, hc9⟩
      have HR9 := Lib.hid hr9
      have HB9 := Lib.hid hb9
      have HC9 := Lib.hid hc9
      obtain ⟨A1, hs1, hd1⟩ := sub_slice (P := Tryz.prog) Tryz.underlying40 ti_u8 (some ⟨g, off, none⟩) n c 32 (32 + (x0.toNat : Int)) (by omega) (by omega) (by omega)
      obtain ⟨A2, hs2, hd2⟩ := sub_slice (P := Tryz.prog) Tryz.underlying40 ti_u8 (some ⟨g, off, none⟩) n c (32 + (x0.toNat : Int)) (32 + (x0.toNat : Int) + (v : Int)) (by omega) (by omega) (by omega)
      have e10 : ((32 : Int)).toNat = 32 := rfl
      have e11 : (32 + (x0.toNat : Int)).toNat = 32 + x0.toNat := by omega
      have e12 : 32 + x0.toNat - 32 = x0.toNat := by omega
      have e13 : 32 + x0.toNat + v - (32 + x0.toNat) = v := by omega
      rw [e10, e11, e12] at hs1
      rw [e11, en, e13] at hs2
      have hcv1 : ∀ W : World, Rd W tU8 (some ⟨g, off, none⟩) n (bys b) → (convert tBytes 9 (.slice A1 x0.toNat (c - 32))).run Tryz.prog W = .ok (.string ⟨(cut b 32 (32 + x0.toNat)).toArray⟩) W := fun W hW => run_b2s W A1 _ _ _ Tryz.underlying40 Tryz.underlying5 Tryz.underlying9 tU8 (by
        have := hd1 W tU8 (bys b) (by simpa using hW) (by omega)
        rw [e10, e11, e12] at this
        simpa only [cut, bys_take, bys_drop, Nat.mul_one, e12] using this)
      have hcv2 : ∀ W : World, Rd W tU8 (some ⟨g, off, none⟩) n (bys b) → (convert tBytes 9 (.slice A2 v (c - (32 + x0.toNat)))).run Tryz.prog W = .ok (.string ⟨(cut b (32 + x0.toNat) (32 + x0.toNat + v)).toArray⟩) W := fun W hW => run_b2s W A2 _ _ _ Tryz.underlying40 Tryz.underlying5 Tryz.underlying9 tU8 (by
        have := hd2 W tU8 (bys b) (by simpa using hW) (by omega)
        rw [e11, en, e13] at this
        simpa only [cut, bys_take, bys_drop, Nat.mul_one, e13] using this)
      have HN : ∀ (i l c' : Nat) (W : World), Rd W tU8 (some ⟨g, off, none⟩) n (bys b) → i + l ≤ n → l ≤ 8 → Calls Tryz.prog 127 #[.slice (some ⟨g, off + i, none⟩) l c'] W fun e w' => e = .returned (.int .u64 (num (cut b i (i + l)))) ∧ W = w' := fun i l c' W hW h1 h2 =>
        number_calls (some ⟨g, off + i, none⟩) l c' (cut b i (i + l)) W (by have := hW.window i (i + l) (by omega) h1; rw [show i + l - i = l from by omega] at this; exact this) h2
      have HNN := Lib.hid HN
      clear HN
      obtain ⟨it, hit⟩ : ∃ it, it = itemOf b := ⟨_, rfl⟩
      have hfl : IntKind.u32.wrap ((num (cut b 4 8) : Nat) : Int) = (it.flags.toNat : Int) := by rw [hit]; exact flags_wrap _ (num_cut_lt b 4 8)
      have hex : IntKind.i64.wrap ((num (cut b 8 16) : Nat) : Int) = it.exp.toInt := by rw [hit]; exact exp_unwrap _ (num_cut_lt b 8 16)
      have hvr : ((num (cut b 16 24) : Nat) : Int) = (it.ver.toNat : Int) := by rw [hit]; exact ver_wrap _ (num_cut_lt b 16 24)
      have hky : (⟨(cut b 32 (32 + x0.toNat)).toArray⟩ : ByteArray) = it.key := by rw [hit]; simp only [itemOf]; rw [HK0.out]
      have hvl : (⟨(cut b (32 + x0.toNat) (32 + x0.toNat + v)).toArray⟩ : ByteArray) = it.val := by rw [hit]; simp only [itemOf]; rw [HK0.out, HE.out]
      have HIT := Lib.hid hit
      clear hit
      have hwr : IntKind.i64.wrap (32 + (x0.toNat : Int)) = 32 + (x0.toNat : Int) := IntWalk.i64_in _ (by have := x0.toNat_lt; omega)
      have n4 : ¬ c = 4 := by omega
      have i8 : (8 : Int) ≤ (c : Int) := by omega
      have i16 : (16 : Int) ≤ (c : Int) := by omega
      have i24 : (24 : Int) ≤ (c : Int) := by omega
      have hs1' : ∀ W : World, (Instr.sliceAt tBytes (.slice (some ⟨g, off, none⟩) n c) (some (.int .i64 32)) (some (.int .i64 (32 + (x0.toNat : Int)))) none).run Tryz.prog W = _ := fun W => (run_sliceAt_slice W tBytes _ _ _ _ Tryz.underlying40).trans (hs1 W)
      have hs2' : ∀ W : World, (Instr.sliceAt tBytes (.slice (some ⟨g, off, none⟩) n c) (some (.int .i64 (32 + (x0.toNat : Int)))) (some (.int .i64 (32 + (x0.toNat : Int) + (v : Int)))) none).run Tryz.prog W = _ := fun W => (run_sliceAt_slice W tBytes _ _ _ _ Tryz.underlying40).trans (hs2 W)
      have n8 : ¬ c = 8 := by omega
      have n16 : ¬ c = 16 := by omega
      clear hr9 hb9 hc9 hd1 hd2 H1 H2 H3 H4 H5 en e10 e11 e12 e13
      go_region_held3 (fun w' => Rd w' tU8 (some ⟨g, off, none⟩) n (bys b)) (first | assumption | exact HR9.out | exact HR9.out.drew | exact Rd.alloc ‹_› _)
        ((go_at_call 127; refine (HNN.out _ _ _ _ ‹_› (by omega) (by omega)).mono ?_; rintro e w' ⟨rfl, rfl⟩))
      all_goals
        clear hfl hex hvr hky hvl hcv1 hcv2 hs1 hs2 hs1' hs2' HNN hwr n4 n8 n16 i8 i16 i24
        have hz9 : w.heap.size < W9.heap.size := HB9.out.lt
        have HG := fun W => Lib.hid (good_calls it W)
        have HTK : Hid (take b = if it.good then Tk.ok it (endOf b) else .bad) := take_tail b n x0 HL.out HX0.out x0p h32 HX3.out (by rw [← HQ1.out, ← HK1.out]; have := ‹((q1 : Int) != (k1 : Int)) = false›; simp at this; omega) (by rw [HE.out]; exact hen) (by rw [HE.out, ← HQ2.out, ← HK2.out]; have := ‹((q2 : Int) != (k2 : Int)) = false›; simp at this; omega) it HIT.out
        have b0 : W9.cell? ⟨w.heap.size, 0, none⟩ = some (.string ⟨#[]⟩) := by have := HB9.out.cell 0; simpa using this
        have hfz := HB9.out.frozen
        have HF : ∀ w10, Chg No (W9.alloc (.cells #[.string it.key, .string it.val, .int .u32 it.flags.toNat, .int .i64 it.exp.toInt, .int .u64 it.ver.toNat] 39)).drew w10 → Hid (Chg No w w10 ∧ Blk w10 w.heap.size 39 #[.string ⟨#[]⟩, .string ⟨#[]⟩, .int .u32 0, .int .i64 0, .int .u64 0] ∧ Blk w10 W9.heap.size 39 #[.string it.key, .string it.val, .int .u32 it.flags.toNat, .int .i64 it.exp.toInt, .int .u64 it.ver.toNat]) := by
          intro w10 hc
          refine ⟨(((HC9.out).alloc _).drew).trans hc, (((HB9.out.alloc _).drew).chg hc (fun h => h)), ((Blk.new W9 _ _).drew).chg hc (fun h => h)⟩
        cases hgood : it.good
        all_goals
          rw [hgood] at HG
          have HGD := Lib.hid hgood
          clear hgood b0 hfz
          go_wp2_with fail
          refine (HG _).out.mono ?_
          rintro e w10 ⟨rfl, hc10⟩
          have H10 := HF w10 hc10
          have z0 := H10.out.2.1.cell 0
          have z1 := H10.out.2.1.cell 1
          have z2 := H10.out.2.1.cell 2
          have z3 := H10.out.2.1.cell 3
          have z4 := H10.out.2.1.cell 4
          have f0 := H10.out.2.1.frozen 0
          have f1 := H10.out.2.1.frozen 1
          have f2 := H10.out.2.1.frozen 2
          have f3 := H10.out.2.1.frozen 3
          have f4 := H10.out.2.1.frozen 4
          have y0 := H10.out.2.2.cell 0
          have y1 := H10.out.2.2.cell 1
          have y2 := H10.out.2.2.cell 2
          have y3 := H10.out.2.2.cell 3
          have y4 := H10.out.2.2.cell 4
          simp at z0 z1 z2 z3 z4 y0 y1 y2 y3 y4
          clear HF hc10 HG
          have hcc := H10.out.1
          go_wp2
        · refine bodyPost_ret (v := .tuple #[itemV Item.zero, .int .i64 0, .int .i64 3]) (by simp [results, Tryz.results116, go_sem, z0, z1, z2, z3, z4]; exact ⟨rfl, rfl, rfl, rfl, rfl⟩) rfl ⟨?_, by (repeat (first | (with_reducible exact Chg.refl _ _) | (with_reducible assumption) | (with_reducible refine Chg.drewN ?_ _) | (with_reducible refine Chg.drew ?_) | (with_reducible refine Chg.alloc ?_ _) | (with_reducible refine Chg.setCell ?_ (by first | (left; simp [DevH.foot]; done) | (right; simp; done) | (right; simp; omega)) _)))⟩
          rw [HTK.out, HGD.out]
          rfl
        · refine bodyPost_ret (v := .tuple #[itemV it, .int .i64 (32 + (x0.toNat : Int) + (v : Int)), .int .i64 0]) (by simp [results, Tryz.results116, go_sem, z0, z1, z2, z3, z4]) rfl ⟨?_, by (repeat (first | (with_reducible exact Chg.refl _ _) | (with_reducible assumption) | (with_reducible refine Chg.drewN ?_ _) | (with_reducible refine Chg.drew ?_) | (with_reducible refine Chg.alloc ?_ _) | (with_reducible refine Chg.setCell ?_ (by first | (left; simp [DevH.foot]; done) | (right; simp; done) | (right; simp; omega)) _)))⟩
          rw [HTK.out, HGD.out, if_pos rfl]
          simp [Tk.item, Tk.len, Tk.err, HE.out]
end Go.Proofs.YtplpbbdakihnfaaGreat
end

section
namespace Go.Proofs.YtplpbbdakihnfaaGreat
open Go.RowKit
theorem take_nil (A : Option Addr) (c : Nat) (w : World) :
    Calls Tryz.prog 116 #[.slice A 0 c] w fun e w' => e = .returned (.tuple #[itemV Item.zero, .int .i64 0, .int .i64 5]) ∧ Chg No w w' := by
  go_enter Tryz.func116, Tryz.ntmps116
  go_wp2
  exact bodyPost_ret (v := .tuple #[itemV Item.zero, .int .i64 0, .int .i64 5]) (by simp [results, Tryz.results116, go_sem]; exact ⟨rfl, rfl, rfl, rfl, rfl⟩) rfl ⟨rfl, by (repeat (first | (with_reducible exact Chg.refl _ _) | (with_reducible assumption) | (with_reducible refine Chg.drewN ?_ _) | (with_reducible refine Chg.drew ?_) | (with_reducible refine Chg.alloc ?_ _) | (with_reducible refine Chg.setCell ?_ (by first | (left; simp [DevH.foot]; done) | (right; simp; done) | (right; simp; omega)) _)))⟩
theorem take_zero (g off n c : Nat) (w : World) (hn : 0 < n) (hnl : n ≤ 140737488351232) (c0 : w.cell? ⟨g, off, none⟩ = some (.int .u8 0)) (hg : g < w.heap.size) :
    Calls Tryz.prog 116 #[.slice (some ⟨g, off, none⟩) n c] w fun e w' => e = .returned (.tuple #[itemV Item.zero, .int .i64 0, .int .i64 5]) ∧ Chg No w w' := by
  have n0 : ((n : Int) == 0) = false := by simp; omega
  go_enter Tryz.func116, Tryz.ntmps116
  go_wp2
  exact bodyPost_ret (v := .tuple #[itemV Item.zero, .int .i64 0, .int .i64 5]) (by simp [results, Tryz.results116, go_sem]; exact ⟨rfl, rfl, rfl, rfl, rfl⟩) rfl ⟨rfl, by (repeat (first | (with_reducible exact Chg.refl _ _) | (with_reducible assumption) | (with_reducible refine Chg.drewN ?_ _) | (with_reducible refine Chg.drew ?_) | (with_reducible refine Chg.alloc ?_ _) | (with_reducible refine Chg.setCell ?_ (by first | (left; simp [DevH.foot]; done) | (right; simp; done) | (right; simp; omega)) _)))⟩
theorem take_short (g off n c : Nat) (x0 : UInt8) (w : World) (hn : 0 < n) (h32 : n < 32) (c0 : w.cell? ⟨g, off, none⟩ = some (.int .u8 x0.toNat)) (hg : g < w.heap.size) (h0 : ((x0.toNat : Int) == 0) = false) :
    Calls Tryz.prog 116 #[.slice (some ⟨g, off, none⟩) n c] w fun e w' => e = .returned (.tuple #[itemV Item.zero, .int .i64 0, .int .i64 3]) ∧ Chg No w w' := by
  have n0 : ((n : Int) == 0) = false := by simp; omega
  have n32 : decide ((n : Int) < 32) = true := by simp; omega
  go_enter Tryz.func116, Tryz.ntmps116
  go_wp2_with fail
  go_quiet (fail)
  go_wp2
  exact bodyPost_ret (v := .tuple #[itemV Item.zero, .int .i64 0, .int .i64 3]) (by simp [results, Tryz.results116, go_sem]; exact ⟨rfl, rfl, rfl, rfl, rfl⟩) rfl ⟨rfl, by (repeat (first | (with_reducible exact Chg.refl _ _) | (with_reducible assumption) | (with_reducible refine Chg.drewN ?_ _) | (with_reducible refine Chg.drew ?_) | (with_reducible refine Chg.alloc ?_ _) | (with_reducible refine Chg.setCell ?_ (by first | (left; simp [DevH.foot]; done) | (right; simp; done) | (right; simp; omega)) _)))⟩
theorem take_wrong3 (g off n c : Nat) (x0 x3 : UInt8) (w : World) (h32 : 32 ≤ n) (hnl : n ≤ 140737488351232) (c0 : w.cell? ⟨g, off, none⟩ = some (.int .u8 x0.toNat)) (c3 : w.cell? ⟨g, off + 3, none⟩ = some (.int .u8 x3.toNat)) (hg : g < w.heap.size) (h0 : ((x0.toNat : Int) == 0) = false) (h3 : ((x3.toNat : Int) != 82) = true) :
    Calls Tryz.prog 116 #[.slice (some ⟨g, off, none⟩) n c] w fun e w' => e = .returned (.tuple #[itemV Item.zero, .int .i64 0, .int .i64 3]) ∧ Chg No w w' := by
  have n0 : ((n : Int) == 0) = false := by simp; omega
  have n32 : decide ((n : Int) < 32) = false := by simp; omega
  go_enter Tryz.func116, Tryz.ntmps116
  go_wp2_with fail
  go_quiet (fail)
  go_wp2
  exact bodyPost_ret (v := .tuple #[itemV Item.zero, .int .i64 0, .int .i64 3]) (by simp [results, Tryz.results116, go_sem]; exact ⟨rfl, rfl, rfl, rfl, rfl⟩) rfl ⟨rfl, by (repeat (first | (with_reducible exact Chg.refl _ _) | (with_reducible assumption) | (with_reducible refine Chg.drewN ?_ _) | (with_reducible refine Chg.drew ?_) | (with_reducible refine Chg.alloc ?_ _) | (with_reducible refine Chg.setCell ?_ (by first | (left; simp [DevH.foot]; done) | (right; simp; done) | (right; simp; omega)) _)))⟩
set_option maxRecDepth 100000 in
set_option maxHeartbeats 1000000 in
theorem take_far (g off n c : Nat) (b : List UInt8) (w : World) (hr : Rd w tU8 (some ⟨g, off, none⟩) n (bys b)) (hn : n ≤ 140737488351232) (hcap : n ≤ c) (x0 : UInt8) (hx0 : b[0]? = some x0) (h0 : ((x0.toNat : Int) == 0) = false)
    (h32 : 32 ≤ n) (hx3 : b[3]? = some 82) (hend : ¬ endOf b ≤ n) :
    Calls Tryz.prog 116 #[.slice (some ⟨g, off, none⟩) n c] w fun e w' => e = .returned (.tuple #[itemV Item.zero, .int .i64 0, .int .i64 3]) ∧ Chg No w w' := by
  have hcell : ∀ (j : Nat) (x : UInt8), b[j]? = some x → w.cell? ⟨g, off + j, none⟩ = some (.int .u8 x.toNat) := by
    intro j x hj
    have hk : 0 < n := by omega
    obtain ⟨g', off', e, hlt, hx⟩ := hr.at_ hk
    simp only [Option.some.injEq, Addr.mk.injEq, and_true] at e
    obtain ⟨rfl, rfl⟩ := e
    exact hx j _ (by simp [bys, hj])
  have hg : g < w.heap.size := by
    obtain ⟨g', off', cur, fz, e, hb, _⟩ := hr.2 (by omega)
    simp only [Option.some.injEq, Addr.mk.injEq, and_true] at e
    rw [e.1]
    exact (Array.getElem?_eq_some_iff.1 hb).1
  have hbl : b.length = n := by rw [← bys_length]; exact hr.1
  have hk0 : keyLen b = x0.toNat := by unfold keyLen; rw [List.getD_eq_getElem?_getD, hx0]; rfl
  obtain ⟨v, hv⟩ : ∃ v, v = valLen b := ⟨_, rfl⟩
  have hv16 : v < 65536 := by
    rw [hv]
    have h1 := num_lt (cut b 1 3)
    have h2 : (cut b 1 3).length ≤ 2 := by simp [cut]; omega
    have h3 : 256 ^ (cut b 1 3).length ≤ 256 ^ 2 := Nat.pow_le_pow_right (by decide) h2
    unfold valLen
    omega
  have hendv : endOf b = 32 + x0.toNat + v := by unfold endOf; rw [hk0, hv]
  have hen : ¬ 32 + x0.toNat + v ≤ n := by omega
  have c0 := hcell 0 x0 hx0
  have c3 := hcell 3 82 hx3
  simp at c0 c3
  have n24 : ¬ c = 24 := by omega
  have n28 : ¬ c = 28 := by omega
  have n1 : ¬ c = 1 := by omega
  have n32n : decide ((n : Int) < 32) = false := by simp; omega
  have HR := Lib.hid hr
  obtain ⟨q1, hq1⟩ : ∃ q, q = num (cut b 24 28) := ⟨_, rfl⟩
  obtain ⟨k1, hk1⟩ : ∃ k, k = crc (cut b 0 24) := ⟨_, rfl⟩
  have wk1 : IntKind.u64.wrap (k1 : Int) = k1 := wraps_u64 _ (by omega) (by have := crc_lt (cut b 0 24); omega)
  have H1 := fun W k => Lib.hid (number_calls (some ⟨g, off + 24, none⟩) 4 (c - 24) (cut b 24 28) ((w.alloc W).drewN k) ((hr.window 24 28 (by omega) (by omega)).alloc W) (by omega))
  have H2 := fun W k => Lib.hid (crc_calls (some ⟨g, off, none⟩) 24 c (cut b 0 24) ((w.alloc W).drewN k) ((hr.window 0 24 (by omega) (by omega)).alloc W) (by omega))
  have H3 := fun W k => Lib.hid (number_calls (some ⟨g, off + 1, none⟩) 2 (c - 1) (cut b 1 3) ((w.alloc W).drewN k) ((hr.window 1 3 (by omega) (by omega)).alloc W) (by omega))
  rw [← hq1] at H1
  rw [← hk1] at H2
  have e3 : num (cut b 1 3) = v := hv.symm
  rw [e3] at H3
  have HQ1 := Lib.hid hq1
  have HX0 := Lib.hid hx0
  have HX3 := Lib.hid hx3
  have HL := Lib.hid hbl
  have HK0 := Lib.hid hk0
  have HK1 := Lib.hid hk1
  have HV := Lib.hid hv
  have HE := Lib.hid hendv
  have n0 : ((n : Int) == 0) = false := by simp; omega
  have x0p : 0 < x0.toNat := by simp at h0; omega
  have nend : decide ((n : Int) < 32 + (x0.toNat : Int) + (v : Int)) = true := by simp; omega
  have nend' : (n : Int) < 32 + (x0.toNat : Int) + (v : Int) := by omega
  have hx256 : (x0.toNat : Int) < 256 := by have := x0.toNat_lt; omega
  clear hr hcell hx0 hx3 hq1 hk1 hv hendv hend hk0 e3 hbl
  go_enter Tryz.func116, Tryz.ntmps116
  go_wp2_with fail
  go_quiet ((first | (go_at_call 127; exact quiet_left (H1 _ _).out) | (go_at_call 115; exact quiet_left (H2 _ _).out)))
  go_wp2_with fail
  · go_wp2
    exact bodyPost_ret (v := .tuple #[itemV Item.zero, .int .i64 0, .int .i64 3]) (by simp [results, Tryz.results116, go_sem]; exact ⟨rfl, rfl, rfl, rfl, rfl⟩) rfl ⟨rfl, by (repeat (first | (with_reducible exact Chg.refl _ _) | (with_reducible assumption) | (with_reducible refine Chg.drewN ?_ _) | (with_reducible refine Chg.drew ?_) | (with_reducible refine Chg.alloc ?_ _) | (with_reducible refine Chg.setCell ?_ (by first | (left; simp [DevH.foot]; done) | (right; simp; done) | (right; simp; omega)) _)))⟩
  · go_quiet ((first | (go_at_call 127; exact quiet_add_left (H3 _ _).out)))
    go_wp2_with fail
    go_quiet (fail)
    go_wp2
    exact bodyPost_ret (v := .tuple #[itemV Item.zero, .int .i64 0, .int .i64 3]) (by simp [results, Tryz.results116, go_sem]; exact ⟨rfl, rfl, rfl, rfl, rfl⟩) rfl ⟨rfl, by (repeat (first | (with_reducible exact Chg.refl _ _) | (with_reducible assumption) | (with_reducible refine Chg.drewN ?_ _) | (with_reducible refine Chg.drew ?_) | (with_reducible refine Chg.alloc ?_ _) | (with_reducible refine Chg.setCell ?_ (by first | (left; simp [DevH.foot]; done) | (right; simp; done) | (right; simp; omega)) _)))⟩
theorem take_calls (A : Option Addr) (n c : Nat) (b : List UInt8) (w : World) (hr : Rd w tU8 A n (bys b)) (hn : n ≤ 140737488351232) (hcap : n ≤ c) :
    Calls Tryz.prog 116 #[.slice A n c] w fun e w' => e = .returned (.tuple #[itemV (take b).item, .int .i64 (take b).len, .int .i64 (take b).err]) ∧ Chg No w w' := by
  have hbl : b.length = n := by rw [← bys_length]; exact hr.1
  rcases Nat.eq_zero_or_pos n with rfl | hpos
  · have : take b = .none := by unfold take; rw [if_pos (.inl hbl)]
    rw [this]
    exact take_nil A c w
  · obtain ⟨g, off, rfl, hg, hx⟩ := hr.at_ hpos
    have hcell : ∀ (j : Nat) (x : UInt8), b[j]? = some x → w.cell? ⟨g, off + j, none⟩ = some (.int .u8 x.toNat) := fun j x hj => hx j _ (by simp [bys, hj])
    obtain ⟨x0, h0⟩ : ∃ x0, b[0]? = some x0 := ⟨_, List.getElem?_eq_getElem (by omega)⟩
    have c0 := hcell 0 x0 h0
    simp at c0
    have e0 : b.getD 0 0 = x0 := by rw [List.getD_eq_getElem?_getD, h0]; rfl
    by_cases hz : x0 = 0
    · have : take b = .none := by unfold take; rw [if_pos (.inr (by rw [e0, hz]))]
      rw [this]
      subst hz
      exact take_zero g off n c w hpos hn c0 hg
    · have hxp : 0 < x0.toNat := by
        rcases Nat.eq_zero_or_pos x0.toNat with h | h
        · exact absurd (UInt8.toNat_inj.1 (by rw [h]; rfl)) hz
        · exact h
      have hb0 : ((x0.toNat : Int) == 0) = false := by simp; omega
      by_cases h32 : n < 32
      · rw [take_b3 b n x0 hbl h0 hxp (.inl h32)]
        exact take_short g off n c x0 w hpos h32 c0 hg hb0
      · obtain ⟨x3, h3⟩ : ∃ x3, b[3]? = some x3 := ⟨_, List.getElem?_eq_getElem (by omega)⟩
        by_cases hx3 : x3 = 82
        · subst hx3
          by_cases he : endOf b ≤ n
          · exact take_long g off n c b w hr hn hcap x0 h0 hb0 (by omega) h3 he
          · rw [take_end b n x0 hbl h0 hxp he]
            exact take_far g off n c b w hr hn hcap x0 h0 hb0 (by omega) h3 he
        · have e3 : b.getD 3 0 = x3 := by rw [List.getD_eq_getElem?_getD, h3]; rfl
          rw [take_b3 b n x0 hbl h0 hxp (.inr (by rw [e3]; exact hx3))]
          refine take_wrong3 g off n c x0 x3 w (by omega) hn c0 (hcell 3 x3 h3) hg hb0 ?_
          simp only [bne_iff_ne]
          intro h
          apply hx3
          have h82 : x3.toNat = (82 : UInt8).toNat := by simp; omega
          exact UInt8.toNat_inj.1 h82
end Go.Proofs.YtplpbbdakihnfaaGreat
end
