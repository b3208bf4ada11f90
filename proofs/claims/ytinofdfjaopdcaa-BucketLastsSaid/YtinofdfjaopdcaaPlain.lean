/- What the buckets hold, in plain Lean: the power is on, nothing is armed, the handle is not done. -/
import Derived.Test.YtinofdfjaopdcaaBuckE
import Derived.Test.YtinofdfjaopdcaaRound
namespace Go.Proofs.Ytinofdfjaopdcaa
open Go.RowKit
set_option linter.unusedSimpArgs false
set_option linter.unusedVariables false

/-- page i of the device D holds the items l -/
def PageIs (D : Dev) (i : Nat) (l : List Item) : Prop := (D.page i = .blank ∧ l = []) ∨ ∃ b, D.page i = .full b ∧ listOf b = some l ∧ b.length = 384
structure OkSt (D : Dev) (B : Sto) (ls : List (List Item)) : Prop where
  off : D.off = false
  armed : D.armed = 0
  los : B.losses = D.losses
  first : B.first = 0
  len : ls.length = B.fs.length
  pos : 0 < B.fs.length
  fits : B.fs.length ≤ D.n
  pg : ∀ (i : Nat) (l : List Item), ls[i]? = some l → PageIs D i l

section
variable {D : Dev} {B : Sto} {ls : List (List Item)}
theorem OkSt.lE_ (h : OkSt D B ls) {i : Nat} {l : List Item} (hi : ls[i]? = some l) : B.lE D i = 0 ∧ B.lL D i = l := by
  have hlt : i < D.n := by
    have := (List.getElem?_eq_some_iff.1 hi).1
    have := h.len
    have := h.fits
    omega
  have hhas : D.has (i : Int) = true := by simp [Dev.has]; omega
  have hrE : D.readE (i : Int) = (D.page i).err := by simp [Dev.readE, hhas, h.off]
  have hr : D.read (i : Int) = (D.page i).data := by simp [Dev.read, hhas, h.off]
  unfold Sto.lE Sto.lL
  rw [if_pos h.los, h.first, Int.zero_add, hrE, hr]
  rcases h.pg i l hi with ⟨hp, rfl⟩ | ⟨b, hp, hl, _⟩
  · rw [hp]; simp [Pg.err]
  · rw [hp]; simp [Pg.err, Pg.data, h.los, listL, hl]
theorem OkSt.spent_ (h : OkSt D B ls) : D.spent = true ∧ D.spend = D := by
  refine ⟨by simp [Dev.spent, h.off, h.armed], ?_⟩
  unfold Dev.spend
  rw [h.off, h.armed]
  simp
theorem OkSt.write_ (h : OkSt D B ls) {i : Nat} (hi : i < B.fs.length) {b : List UInt8} (hb : b.length = 384) : D.writeE (B.first + i) 384 = 0 ∧ D.write (B.first + i) b = D.put i (.full b) := by
  have hlt : i < D.n := by have := h.fits; omega
  have hhas : D.has (i : Int) = true := by simp [Dev.has]; omega
  rw [h.first, Int.zero_add]
  refine ⟨by simp [Dev.writeE, hhas, Dev.changeE, h.spent_.1], ?_⟩
  have hpad : Dev.pad b = b := by simp [Dev.pad, hb]
  simp [Dev.write, hhas, hb, Dev.change, h.spent_.1, h.spent_.2, hpad]

/-- a page is written anew -/
theorem OkSt.put_ (h : OkSt D B ls) {i : Nat} (hi : i < B.fs.length) {b : List UInt8} {l : List Item} (hl : listOf b = some l) (hb : b.length = 384) (fs : List (List Bool)) (hfs : fs.length = B.fs.length) :
    OkSt (D.put i (.full b)) { B with fs := fs } (ls.set i l) := by
  refine { off := h.off, armed := h.armed, los := h.los, first := h.first, len := by simp [h.len, hfs], pos := by show 0 < fs.length; rw [hfs]; exact h.pos, fits := by show fs.length ≤ D.n; rw [hfs]; exact h.fits, pg := ?_ }
  intro j l' hj
  by_cases hij : i = j
  · subst hij
    rw [List.getElem?_set_self (by rw [h.len]; exact hi)] at hj
    injection hj with hj
    subst hj
    exact .inr ⟨b, by simp [Dev.page, Dev.put], hl, hb⟩
  · rw [List.getElem?_set_ne hij] at hj
    have e : (D.put i (.full b)).page j = D.page j := by simp [Dev.page, Dev.put, Ne.symm hij]
    rcases h.pg j l' hj with ⟨h1, h2⟩ | ⟨b', h1, h2⟩
    · exact .inl ⟨e.trans h1, h2⟩
    · exact .inr ⟨b', e.trans h1, h2⟩

theorem fitN_fits (l : List Item) : (records (l.drop (fitN l))).length ≤ 384 := by
  induction l with
  | nil => simp [records, fitN]
  | cons x r ih =>
    rw [fitN]
    by_cases h : 384 < (records (x :: r)).length
    · rw [if_pos h, List.drop_succ_cons]; exact ih
    · rw [if_neg h, List.drop_zero]; omega
theorem listOf_good {b : List UInt8} {l : List Item} (h : listOf b = some l) : goods l = true := lst_good (k := b.length + 1) h
theorem PageIs.good {i : Nat} {l : List Item} (h : PageIs D i l) : goods l = true := by
  rcases h with ⟨_, rfl⟩ | ⟨b, _, hl, _⟩
  · rfl
  · exact listOf_good hl

def pnew (l : List Item) (x : Item) : List Item := rid l x.key ++ [x]
def pout (l : List Item) (x : Item) : List Item := (pnew l x).take (fitN (pnew l x))
def pleft (l : List Item) (x : Item) : List Item := (pnew l x).drop (fitN (pnew l x))
theorem goods_pnew {l : List Item} {x : Item} (hl : goods l = true) (hx : x.good = true) : goods (pnew l x) = true := by
  unfold pnew
  rw [goods_append, goods_rid hl]
  simp [goods, hx]

theorem OkSt.no_ (h : OkSt D B ls) (key : ByteArray) : B.no key < ls.length := by rw [h.len]; exact B.no_lt h.pos key
/-- Put -/
theorem OkSt.put (h : OkSt D B ls) {x : Item} (hx : x.good = true) {l : List Item} (hl : ls[B.no x.key]? = some l) :
    B.lE D (B.no x.key) = 0 ∧ B.putE D x = 0 ∧ B.out D x = pout l x ∧ OkSt (B.putD D x) (B.add x) (ls.set (B.no x.key) (pleft l x)) := by
  have hll := h.lE_ hl
  have hi : B.no x.key < B.fs.length := B.no_lt h.pos x.key
  have hnw : B.nw D x = pnew l x := by unfold Sto.nw pnew; rw [hll.2]
  have hg := goods_pnew ((h.pg _ l hl).good) hx
  have hlay := listOf_layB (pleft l x) 384 (by omega) (goods_drop hg _) (fitN_fits _)
  have hw := h.write_ hi hlay.2
  refine ⟨hll.1, hw.1, by unfold Sto.out pout; rw [hnw], ?_⟩
  have e : B.putD D x = D.put (B.no x.key) (.full (layB (pleft l x) ((384 : Nat) : Int))) := by
    unfold Sto.putD
    rw [hnw]
    exact hw.2
  rw [e]
  exact h.put_ hi hlay.1 hlay.2 _ (by simp)

theorem lst_records {k : Nat} : ∀ {b : List UInt8} {l : List Item}, lst k b = some l → (records l).length ≤ b.length := by
  induction k with
  | zero => intro b l h; cases h
  | succ k ih =>
    intro b l h
    rw [lst] at h
    cases ht : take b with
    | none => rw [ht] at h; simp at h; subst h; simp [records]
    | bad => rw [ht] at h; cases h
    | ok x n =>
      rw [ht] at h
      have h1 := take_ok_len ht
      simp only [Option.map_eq_some_iff] at h
      obtain ⟨r, hr, rfl⟩ := h
      have h2 := ih hr
      rw [List.length_drop] at h2
      simp only [records, List.flatMap_cons, List.length_append, record_length] at h2 ⊢
      omega
theorem PageIs.le {i : Nat} {l : List Item} (h : PageIs D i l) : (records l).length ≤ 384 := by
  rcases h with ⟨_, rfl⟩ | ⟨b, _, hl, hb⟩
  · simp [records]
  · rw [← hb]; exact lst_records (k := b.length + 1) hl
theorem records_rid (l : List Item) (key : ByteArray) : (records (rid l key)).length ≤ (records l).length := by
  induction l with
  | nil => simp [rid]
  | cons x r ih =>
    simp only [rid, records, List.filter_cons, List.flatMap_cons, List.length_append] at ih ⊢
    split
    · simp only [List.flatMap_cons, List.length_append]; omega
    · omega
theorem rid_same {l : List Item} {key : ByteArray} (h : (rid l key).length = l.length) : rid l key = l := List.filter_eq_self.2 (List.length_filter_eq_length_iff.1 h)

/-- Drop -/
theorem OkSt.drop (h : OkSt D B ls) (key : ByteArray) {l : List Item} (hl : ls[B.no key]? = some l) :
    B.lE D (B.no key) = 0 ∧ B.dropE D key = (if rid l key = l then 5 else 0) ∧ OkSt (B.dropD D key) B (ls.set (B.no key) (rid l key)) := by
  have hll := h.lE_ hl
  have hi : B.no key < B.fs.length := B.no_lt h.pos key
  have hre : B.rest D key = rid l key := by unfold Sto.rest; rw [hll.2]
  have hg := goods_rid ((h.pg _ l hl).good) key
  have hlay := listOf_layB (rid l key) 384 (by omega) hg (Nat.le_trans (records_rid l key) (h.pg _ l hl).le)
  have hw := h.write_ hi hlay.2
  refine ⟨hll.1, ?_, ?_⟩
  · unfold Sto.dropE
    rw [hre, hll.2]
    by_cases hs : rid l key = l
    · rw [if_pos (by rw [hs]), if_pos hs]
    · rw [if_neg (fun e => hs (rid_same e)), if_neg hs]
      have e : (layB (rid l key) 384).length = 384 := hlay.2
      rw [e]
      exact hw.1
  · unfold Sto.dropD
    rw [hre, hll.2]
    by_cases hs : rid l key = l
    · rw [if_pos (by rw [hs]), hs]
      have : ls.set (B.no key) l = ls := by
        apply List.ext_getElem?
        intro j
        by_cases hj : B.no key = j
        · subst hj; rw [List.getElem?_set_self (h.no_ key), hl]
        · rw [List.getElem?_set_ne hj]
      rw [this]
      exact h
    · rw [if_neg (fun e => hs (rid_same e))]
      have e : D.write (B.first + B.no key) (layB (rid l key) 384) = D.put (B.no key) (.full (layB (rid l key) ((384 : Nat) : Int))) := hw.2
      rw [e]
      exact h.put_ hi hlay.1 hlay.2 B.fs rfl

/-- Items -/
theorem OkSt.all (h : OkSt D B ls) : (∀ i : Nat, i < B.fs.length → B.lE D i = 0) ∧ B.allL D B.fs.length = ls.flatten := by
  have hget : ∀ i, i < B.fs.length → ∃ l, ls[i]? = some l := fun i hi => ⟨_, List.getElem?_eq_getElem (by rw [h.len]; exact hi)⟩
  refine ⟨fun i hi => by obtain ⟨l, hl⟩ := hget i hi; exact (h.lE_ hl).1, ?_⟩
  unfold Sto.allL
  rw [← h.len, List.flatten_eq_flatMap, List.flatMap_def, List.flatMap_def]
  congr 1
  apply List.ext_getElem?
  intro j
  by_cases hj : j < ls.length
  · have hl := List.getElem?_eq_getElem hj
    rw [List.getElem?_map, List.getElem?_range hj, List.getElem?_map, hl]
    simp only [Option.map_some, id_eq]
    rw [(h.lE_ hl).2]
  · rw [List.getElem?_eq_none (by simp; omega), List.getElem?_eq_none (by simp; omega)]

/-- Open of a new device -/
theorem new_ok (n pages : Nat) (hp : 1 ≤ pages) (hf : pages ≤ n) : OkSt (Dev.new n) (Sto.open_ (Dev.new n) 0 pages) (List.replicate pages []) := by
  have hl : (Sto.open_ (Dev.new n) 0 pages).fs.length = pages := by unfold Sto.open_; rw [List.length_map, List.length_range]
  refine { off := rfl, armed := rfl, los := rfl, first := rfl, len := by rw [hl, List.length_replicate], pos := by rw [hl]; exact hp, fits := by rw [hl]; exact hf, pg := ?_ }
  intro i l hi
  rw [List.getElem?_replicate] at hi
  split at hi
  · injection hi with hi
    exact .inl ⟨rfl, hi.symm⟩
  · cases hi
theorem new_lE (n pages : Nat) (hp : 1 ≤ pages) (hf : pages ≤ n) (i : Nat) (hi : i < pages) : ({ losses := (Dev.new n).losses, first := ((0 : Nat) : Int), fs := [] } : Sto).lE (Dev.new n) i = 0 :=
  ((new_ok n pages hp hf).lE_ (i := i) (l := []) (by rw [List.getElem?_replicate, if_pos hi])).1
end
end Go.Proofs.Ytinofdfjaopdcaa
