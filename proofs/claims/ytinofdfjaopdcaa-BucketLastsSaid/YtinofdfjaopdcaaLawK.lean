/- bucket.Open of what may not be; Put of whatever item. -/
import Derived.Test.YtinofdfjaopdcaaAwake2
import Derived.Test.YtinofdfjaopdcaaInv
namespace Go.Proofs.Ytinofdfjaopdcaa
open Go.RowKit
set_option linter.unusedSimpArgs false
set_option linter.unusedVariables false

theorem open_bad0 {N : Nat} {w : World} {h : DevH} {D : Dev} (hd : DevN N w h D) (first : Nat) (hf : first ≤ 1000000) :
    Calls Try.prog 25 #[.pointer (some ⟨h.d, 0, none⟩), .int .i64 first, .int .i64 0] w fun e w' => e = .returned (.tuple #[.pointer none, .int .i64 1]) ∧ Chg No w w' := by
  go_enter Try.func25, Try.ntmps25
  go_wp2
  go_ret2
  exact ⟨rfl, by (repeat (first | (with_reducible exact Chg.refl _ _) | (with_reducible assumption) | (with_reducible refine Chg.drewN ?_ _) | (with_reducible refine Chg.drew ?_) | (with_reducible refine Chg.alloc ?_ _) | (with_reducible refine Chg.setCell ?_ (by first | (left; simp [DevH.foot]; done) | (right; simp; done) | (right; simp; omega)) _)))⟩

theorem open_bad {N : Nat} {w : World} {h : DevH} {D : Dev} (hd : DevN N w h D) (first pages : Nat) (hp : 1 ≤ pages) (hp2 : pages ≤ 256) (hf : first ≤ D.n) (hfit : D.n < first + pages) :
    Calls Try.prog 25 #[.pointer (some ⟨h.d, 0, none⟩), .int .i64 first, .int .i64 pages] w fun e w' => e = .returned (.tuple #[.pointer none, .int .i64 1]) ∧ Chg No w w' := by
  have HP := fun W => Lib.hid (fun hc : Chg No w W => pages_calls (hd.chgNo hc))
  have hm := hd.nmost
  obtain ⟨n, hnn⟩ : ∃ n, n = D.n := ⟨_, rfl⟩
  rw [← hnn] at HP hfit hm hf
  have q1 : ¬ (first : Int) < 0 := by omega
  have q2 : ¬ (pages : Int) < 1 := by omega
  have q3 : ¬ (256 : Int) < pages := by omega
  have q4 : ¬ (n : Int) < first := by omega
  have q5 : (n : Int) - first < pages := by omega
  have q6 : IntKind.i64.wrap ((n : Int) - (first : Int)) = (n : Int) - (first : Int) := IntWalk.i64_in _ (by omega)
  have b1 : decide ((first : Int) < 0) = false := by simp
  have b2 : decide ((pages : Int) < 1) = false := by simp; omega
  have b3 : decide ((256 : Int) < pages) = false := by simp; omega
  have b4 : decide ((n : Int) < first) = false := by simp; omega
  have b5 : decide ((n : Int) - first < pages) = true := by simp; omega
  clear hd hnn
  go_enter Try.func25, Try.ntmps25
  go_wp2_with fail
  refine ((HP _).out (by (repeat (first | (with_reducible exact Chg.refl _ _) | (with_reducible assumption) | (with_reducible refine Chg.drewN ?_ _) | (with_reducible refine Chg.drew ?_) | (with_reducible refine Chg.alloc ?_ _) | (with_reducible refine Chg.setCell ?_ (by first | (left; simp [DevH.foot]; done) | (right; simp; done) | (right; simp; omega)) _))))).mono ?_
  rintro e w1 ⟨rfl, rfl⟩
  go_wp2_with fail
  refine ((HP _).out (by (repeat (first | (with_reducible exact Chg.refl _ _) | (with_reducible assumption) | (with_reducible refine Chg.drewN ?_ _) | (with_reducible refine Chg.drew ?_) | (with_reducible refine Chg.alloc ?_ _) | (with_reducible refine Chg.setCell ?_ (by first | (left; simp [DevH.foot]; done) | (right; simp; done) | (right; simp; omega)) _))))).mono ?_
  rintro e w1 ⟨rfl, rfl⟩
  go_wp2
  go_ret2
  exact ⟨rfl, by (repeat (first | (with_reducible exact Chg.refl _ _) | (with_reducible assumption) | (with_reducible refine Chg.drewN ?_ _) | (with_reducible refine Chg.drew ?_) | (with_reducible refine Chg.alloc ?_ _) | (with_reducible refine Chg.setCell ?_ (by first | (left; simp [DevH.foot]; done) | (right; simp; done) | (right; simp; omega)) _)))⟩

/-- what Put takes -/
def Item.small (x : Item) : Bool := x.good && decide (x.size ≤ 120)
/-- what Put makes of the buckets -/
inductive Stepped (x : Item) (B : Sto) (ls : List (List Item)) : Int → List Item → Sto → List (List Item) → Prop
  | bad : x.small = false → Stepped x B ls 1 [] B ls
  | put (l : List Item) : x.small = true → ls[B.no x.key]? = some l → Stepped x B ls 0 (pout l x) (B.add x) (ls.set (B.no x.key) (pleft l x))
theorem hput_any {w : World} {h : DevH} {t : StoH} {D : Dev} {B : Sto} {ls : List (List Item)} (H : Han w h t D B ls) (x : Item) :
    Calls Try.prog 26 #[.pointer (some ⟨t.s, 0, none⟩), itemV x] w fun e w' => ∃ (v : Value) (er : Int) (out : List Item) (D' : Dev) (B' : Sto) (ls' : List (List Item)), e = .returned (.tuple #[v, .int .i64 er]) ∧
      w'.ownsRow w.heap.size tItem 5 v out.length (its out) ∧ Han w' h t D' B' ls' ∧ Chg (Own h t) w w' ∧ Stepped x B ls er out B' ls' := by
  cases hx : x.small with
  | false =>
    refine (hput_bad H x hx).mono ?_
    rintro e w' ⟨rfl, hh, hc⟩
    exact ⟨_, 1, [], D, B, ls, rfl, World.ownsRow_nil _ _ _ _, hh, hc, .bad hx⟩
  | true =>
    have hx' := hx
    simp only [Item.small, Bool.and_eq_true, decide_eq_true_eq] at hx'
    obtain ⟨l, hl⟩ : ∃ l, ls[B.no x.key]? = some l := ⟨_, List.getElem?_eq_getElem (H.ok.no_ x.key)⟩
    refine (hput H x hx'.1 hx'.2 hl).mono ?_
    rintro e w' ⟨v, rfl, ho, hh, hc⟩
    exact ⟨v, 0, pout l x, _, _, _, rfl, ho, hh, hc, .put l hx hl⟩
theorem Stepped.er01 {x : Item} {B : Sto} {ls : List (List Item)} {er : Int} {out : List Item} {B' : Sto} {ls' : List (List Item)} (h : Stepped x B ls er out B' ls') : er = 0 ∨ er = 1 := by
  cases h
  · exact .inr rfl
  · exact .inl rfl
theorem Stepped.len {x : Item} {B : Sto} {ls : List (List Item)} {er : Int} {out : List Item} {B' : Sto} {ls' : List (List Item)} (h : Stepped x B ls er out B' ls') : B'.fs.length = B.fs.length := by
  cases h
  · rfl
  · exact add_len B x
theorem Stepped.fine {x : Item} {B : Sto} {ls : List (List Item)} {er : Int} {out : List Item} {B' : Sto} {ls' : List (List Item)} (h : Stepped x B ls er out B' ls') (hf : Fine B ls) : Fine B' ls' := by
  cases h with
  | bad _ => exact hf
  | put l hx hl =>
    simp only [Item.small, Bool.and_eq_true, decide_eq_true_eq] at hx
    exact hf.put x (by omega) hl

/-! BucketKnown -/
def xLong : Item := { key := ⟨#[97]⟩, val := ⟨(List.replicate 88 0).toArray⟩, flags := 0, exp := 0, ver := 1 }
theorem xLong_bad : xLong.small = false := by decide +kernel
theorem zero_bad : Item.zero.small = false := by decide +kernel
end Go.Proofs.Ytinofdfjaopdcaa
