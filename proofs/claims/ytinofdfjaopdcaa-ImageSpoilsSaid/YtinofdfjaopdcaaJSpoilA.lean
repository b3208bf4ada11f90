/- ImageSpoils in plain Lean. -/
import Derived.Test.YtinofdfjaopdcaaJShortA
import Derived.Test.YtinofdfjaopdcaaImgM
namespace Go.Proofs.Ytinofdfjaopdcaa
open Go.RowKit
set_option linter.unusedSimpArgs false
set_option linter.unusedVariables false

theorem Dev.ldB_three {D : Dev} {first : Int} {n : Nat} : ∀ {k : Nat} {e : Int}, D.ldB first n k = .error e → e = 3 := by
  intro k
  induction k with
  | zero => intro e h; simp [Dev.ldB] at h
  | succ k ih =>
    intro e h
    rw [Dev.ldB] at h
    cases h1 : D.ldB first n k with
    | error e1 => rw [h1] at h; simp only [Except.error.injEq] at h; rw [← h]; exact ih h1
    | ok b =>
      rw [h1] at h
      simp only at h
      split at h
      · split at h
        · cases h; rfl
        · cases h
      · cases h; rfl
/-- a page that is none of the image's -/
theorem Dev.load_bad {D : Dev} {f n j : Nat} (hm : D.may f n = true) (hoff : D.off = false) (hj : j < n) (hbad : D.readE ((f : Int) + (j : Int)) = 0 → ldPage (D.read ((f : Int) + (j : Int))) j n = none) : D.load f n = ([], 3) := by
  have h1 : ∃ e, D.ldB f n (j + 1) = .error e := by
    rw [Dev.ldB]
    cases h1 : D.ldB f n j with
    | error e => exact ⟨e, rfl⟩
    | ok b =>
      simp only
      by_cases h0 : D.readE ((f : Int) + (j : Int)) = 0
      · rw [if_pos h0, hbad h0]
        exact ⟨3, rfl⟩
      · rw [if_neg h0]
        exact ⟨3, rfl⟩
  obtain ⟨e, he⟩ := h1
  have he' := Dev.ldB_err he (j := n) (by omega)
  obtain rfl := Dev.ldB_three he'
  unfold Dev.load
  rw [hm, hoff]
  simp only [if_true, Bool.false_eq_true, if_false, Int.toNat_natCast, he']

theorem ldPage_magic {p : List UInt8} (j n : Nat) (h : p.getD 0 0 ≠ 73) : ldPage p j n = none := by
  unfold ldPage
  rw [if_neg (fun hh => ?_)]
  have := hh.1
  cases p with
  | nil => simp at this
  | cons a r => simp at this h; exact h this.1
theorem ldPage_place {p : List UInt8} (j n : Nat) (h : num (cut p 4 8) ≠ j) : ldPage p j n = none := by
  unfold ldPage
  rw [if_neg (fun hh => h hh.2.1)]
theorem num_cut_place {p : List UInt8} (hl : p.length = 384) : num (cut p 4 8) % 256 = (p.getD 4 0).toNat := by
  have e : cut p 4 8 = (p[4]'(by omega)) :: cut p 5 8 := by
    unfold cut
    rw [List.drop_eq_getElem_cons (by omega)]
    rfl
  rw [e, num, List.getD_eq_getElem?_getD, List.getElem?_eq_getElem (by omega : 4 < p.length)]
  have := (p[4]'(by omega)).toNat_lt
  simp only [Option.getD_some]
  omega

/-- what a spoiled image is: a page of it changed -/
theorem DumpR.pageOf {D D' : Dev} {l : List Item} {p m : Nat} {er : Int} (h : DumpR D 0 60 l p m er D') (hD : D.Ok) (hn : D.n = 70) (hg : goods l = true) :
    er = 0 ∧ p ≤ 60 ∧ D'.Ok ∧ D'.n = 70 ∧ D'.still ∧ ∀ j, j < p → ∃ c : List UInt8, c.length ≤ 376 ∧ D'.page j = .full (Dev.pad (pgOf c j)) := by
  have hm : D.may 0 60 = true := may_of (f := 0) (p := 60) (by omega)
  have h0 := h
  obtain ⟨e1, e2, e3, e4, e5, e6, e7⟩ := h0.good hD hm hg
  refine ⟨e1, by omega, e5, e6.trans hn, ?_, fun j hj => ⟨ck (records (l.take m)) j, by rw [ck_len]; omega, ?_⟩⟩
  · cases h with
    | arg h => rw [hm, hg] at h; cases h
    | cut k _ _ _ he => exact absurd e1 he
    | noflush _ _ he => exact absurd e1 he
    | ok _ _ he => exact (Dev.flush_still he).1
  · rw [e7, if_pos (by omega)]
    rfl

theorem spoil_load {D : Dev} {p j : Nat} (hD : D.Ok) (hn : D.n = 70) (hp : p ≤ 60) (hj : j < p) (h : (D.page j).err = 0 → ldPage (D.page j).data j p = none) : D.load 0 p = ([], 3) := by
  obtain ⟨r1, r2⟩ := hD.read_ (k := j) (by omega)
  refine Dev.load_bad (f := 0) (may_of (by omega)) hD.on hj ?_
  rw [show (((0 : Nat) : Int) + (j : Int)) = (j : Int) by omega, r1, r2]
  exact h
theorem whole_write {D : Dev} (hD : D.Ok) {j : Nat} (hj : j < D.n) {b : List UInt8} (hb : b.length = 384) : D.write j b = D.put j (.full b) := by
  obtain ⟨_, h⟩ := hD.write_ (k := j) hj (b := b) (by omega)
  rw [h]
  have : Dev.pad b = b := by unfold Dev.pad; rw [hb]; simp
  rw [this]
theorem spoil_erase {D : Dev} {p j : Nat} (hD : D.Ok) (hn : D.n = 70) (hp : p ≤ 60) (hj : j < p) : (D.erase j).load 0 p = ([], 3) := by
  obtain ⟨h1, h2⟩ := hD.spent_
  have he : D.erase j = D.put j .blank := by
    have hh : D.has (j : Int) = true := by simp [Dev.has]; omega
    unfold Dev.erase Dev.change
    rw [hh, h1, h2]; simp
  rw [he]
  refine spoil_load (hD.put_ _ _) hn hp hj (fun h => ?_)
  rw [Dev.put_page, if_pos rfl] at h
  cases h
theorem spoil_bytes {D : Dev} {p j : Nat} (hD : D.Ok) (hn : D.n = 70) (hp : p ≤ 60) (hj : j < p) {b : List UInt8} (hb : b.length = 384) (h : ldPage b j p = none) : (D.write j b).load 0 p = ([], 3) := by
  rw [whole_write hD (by omega) hb]
  refine spoil_load (hD.put_ _ _) hn hp hj (fun _ => ?_)
  rw [Dev.put_page, if_pos rfl]
  exact h
theorem spoil_torn {D : Dev} {p j : Nat} (hD : D.Ok) (hs : D.still) (hn : D.n = 70) (hp : p ≤ 60) (hj : j < p) {b : List UInt8} (hb : b.length = 384) : (((D.write j b).crash [2]).on).load 0 p = ([], 3) := by
  rw [whole_write hD (by omega) hb]
  have hw : ∀ i, (D.put j (.full b)).wt i = if i = j then some (.full b) else none := by
    intro i
    unfold Dev.put
    simp only
    by_cases hi : i = j
    · rw [if_pos hi, if_pos hi]
    · rw [if_neg hi, if_neg hi]; exact hs i
  have hr : (D.put j (.full b)).rank j = 0 := by
    unfold Dev.rank
    rw [List.length_eq_zero_iff, List.filter_eq_nil_iff]
    intro i hi
    rw [hw, if_neg (by have := List.mem_range.1 hi; omega)]
    simp
  have hst : ((D.put j (.full b)).crash [2]).still := fun i => rfl
  have hpg : (((D.put j (.full b)).crash [2]).on).page j = .torn := by
    have e1 : (((D.put j (.full b)).crash [2]).on).page j = (((D.put j (.full b)).crash [2]).settle []).page j := rfl
    rw [e1, (Dev.settle_still hst []).2, Dev.still_page hst]
    show (match (D.put j (.full b)).wt j with | none => _ | some p => Dev.fate _ p ([2] : List UInt8)[(D.put j (.full b)).rank j]?) = _
    rw [hw, if_pos rfl, hr]
    rfl
  refine spoil_load ⟨rfl, rfl⟩ hn hp hj (fun h => ?_)
  rw [hpg] at h
  cases h
/-- a page of an image, one of its bytes changed -/
theorem spoil_place {c : List UInt8} {j p : Nat} (hc : c.length ≤ 376) (hj : j < 4294967296) {x : UInt8} (hx : x ≠ (Dev.pad (pgOf c j)).getD 4 0) : ldPage ((Dev.pad (pgOf c j)).set 4 x) j p = none := by
  have hl : (Dev.pad (pgOf c j)).length = 384 := pad_len (by rw [pgOf_len]; omega)
  have c2 : cut (Dev.pad (pgOf c j)) 4 8 = le 4 j := cut_mid (A := [73, 77] ++ le 2 c.length) (C := c ++ List.replicate (384 - (pgOf c j).length) 0) (by simp [Dev.pad, pgOf, pgHead]) (by simp [le_length]) (by rw [le_length])
  have h1 := num_cut_place hl
  rw [c2, num_le_of_lt (by omega)] at h1
  have h2 := num_cut_place (p := (Dev.pad (pgOf c j)).set 4 x) (by rw [List.length_set]; exact hl)
  have e : ((Dev.pad (pgOf c j)).set 4 x).getD 4 0 = x := by
    rw [List.getD_eq_getElem?_getD, List.getElem?_set_self (by omega)]; rfl
  rw [e] at h2
  refine ldPage_place j p (fun hh => ?_)
  rw [hh, h1] at h2
  exact hx (UInt8.toNat_inj.1 h2).symm
theorem spoil_magic {c : List UInt8} {j p : Nat} (hc : c.length ≤ 376) : ldPage ((Dev.pad (pgOf c j)).set 0 0) j p = none := by
  refine ldPage_magic j p ?_
  have hl : (Dev.pad (pgOf c j)).length = 384 := pad_len (by rw [pgOf_len]; omega)
  rw [List.getD_eq_getElem?_getD, List.getElem?_set_self (by omega)]
  decide
end Go.Proofs.Ytinofdfjaopdcaa
