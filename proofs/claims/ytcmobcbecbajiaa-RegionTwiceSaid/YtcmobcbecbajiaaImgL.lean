/- image.Load in plain Lean; what Dump wrote is loaded again. -/
import Derived.Test.YtcmobcbecbajiaaImgS
namespace Go.Proofs.Ytcmobcbecbajiaa
open Go.RowKit
set_option linter.unusedSimpArgs false
set_option linter.unusedVariables false

/-- what a page holds as the i-th of n -/
def ldPage (p : List UInt8) (i n : Nat) : Option (List UInt8) :=
  if p.take 2 = [73, 77] ∧ num (cut p 4 8) = i ∧ num (cut p 2 4) ≤ 376 ∧ ¬ (num (cut p 2 4) < 376 ∧ i + 1 < n) then some (cut p 8 (8 + num (cut p 2 4))) else none
/-- the bytes of the first k pages, or the error -/
def Dev.ldB (D : Dev) (first : Int) (n : Nat) : Nat → Except Int (List UInt8)
  | 0 => .ok []
  | k + 1 => match D.ldB first n k with
    | .error e => .error e
    | .ok b => if D.readE (first + k) = 0 then (match ldPage (D.read (first + k)) k n with
      | none => .error 3
      | some c => .ok (b ++ c)) else .error 3
/-- the items of bytes that are records alone -/
def lsd : Nat → List UInt8 → Option (List Item)
  | 0, _ => none
  | k + 1, b => if b.length = 0 then some [] else match take b with
    | .ok x n => (lsd k (b.drop n)).map (x :: ·)
    | _ => none
def loadOf (b : List UInt8) : Option (List Item) := lsd (b.length + 1) b
theorem lsd_more {k : Nat} : ∀ {b : List UInt8}, b.length < k → lsd k b = lsd (k + 1) b := by
  induction k with
  | zero => intro b h; omega
  | succ k ih =>
    intro b h
    rw [lsd, lsd]
    by_cases h0 : b.length = 0
    · rw [if_pos h0, if_pos h0]
    · rw [if_neg h0, if_neg h0]
      cases ht : take b with
      | none => rfl
      | bad => rfl
      | ok x n =>
        have hl := take_ok_len ht
        simp only
        rw [ih (by rw [List.length_drop]; omega)]
theorem lsd_loadOf {k : Nat} {b : List UInt8} (h : b.length < k) : lsd k b = loadOf b := by
  unfold loadOf
  obtain ⟨d, rfl⟩ : ∃ d, k = b.length + 1 + d := ⟨k - (b.length + 1), by omega⟩
  clear h
  induction d with
  | zero => rfl
  | succ d ih => rw [← ih, ← Nat.add_assoc, ← lsd_more (by omega)]
theorem loadOf_step (b : List UInt8) : loadOf b = if b.length = 0 then some [] else match take b with
    | .ok x n => (loadOf (b.drop n)).map (x :: ·)
    | _ => none := by
  unfold loadOf
  rw [lsd]
  by_cases h0 : b.length = 0
  · rw [if_pos h0, if_pos h0]
  · rw [if_neg h0, if_neg h0]
    cases ht : take b with
    | none => rfl
    | bad => rfl
    | ok x n =>
      have hl := take_ok_len ht
      simp only
      rw [lsd_loadOf (by rw [List.length_drop]; omega), loadOf]
theorem loadOf_records (l : List Item) (hg : goods l = true) : loadOf (records l) = some l := by
  induction l with
  | nil => rfl
  | cons x r ih =>
    simp only [goods, List.all_cons, Bool.and_eq_true] at hg
    have e : records (x :: r) = record x ++ records r := by simp [records]
    have hl : (record x ++ records r).length ≠ 0 := by rw [List.length_append, record_length]; unfold Item.size; omega
    rw [loadOf_step, e, if_neg hl, take_record x _ hg.1]
    simp only
    rw [← record_length, List.drop_left, ih hg.2]
    rfl
/-- what Load answers: the items, the error -/
def Dev.load (D : Dev) (first n : Int) : List Item × Int :=
  if D.may first n then (if D.off then ([], 4) else match D.ldB first n.toNat n.toNat with
    | .error e => ([], e)
    | .ok b => match loadOf b with
      | some l => (l, 0)
      | none => ([], 3)) else ([], 1)
theorem Dev.ldB_err {D : Dev} {first : Int} {n k : Nat} {e : Int} (h : D.ldB first n k = .error e) {j : Nat} (hj : k ≤ j) : D.ldB first n j = .error e := by
  obtain ⟨d, rfl⟩ : ∃ d, j = k + d := ⟨j - k, by omega⟩
  clear hj
  induction d with
  | zero => exact h
  | succ d ih => rw [← Nat.add_assoc, Dev.ldB, ih]

theorem ldPage_pgOf (c : List UInt8) (j n : Nat) (hc : c.length ≤ 376) (hj : j < 4294967296) (hlast : c.length < 376 → n ≤ j + 1) : ldPage (Dev.pad (pgOf c j)) j n = some c := by
  obtain ⟨z, hz⟩ : ∃ z, Dev.pad (pgOf c j) = pgOf c j ++ z := ⟨_, rfl⟩
  have c1 : (pgOf c j ++ z).take 2 = [73, 77] := by simp [pgOf, pgHead]
  have c2 : cut (pgOf c j ++ z) 4 8 = le 4 j := cut_mid (A := [73, 77] ++ le 2 c.length) (C := c ++ z) (by simp [pgOf, pgHead]) (by simp [le_length]) (by rw [le_length])
  have c3 : cut (pgOf c j ++ z) 2 4 = le 2 c.length := cut_mid (A := [73, 77]) (C := le 4 j ++ (c ++ z)) (by simp [pgOf, pgHead]) rfl (by rw [le_length])
  have c4 : cut (pgOf c j ++ z) 8 (8 + c.length) = c := cut_mid (A := pgHead c.length j) (C := z) (by simp [pgOf]) (pgHead_len _ _) rfl
  rw [hz]
  unfold ldPage
  rw [c1, c2, c3, num_le_of_lt (by omega), num_le_of_lt (by omega), c4, if_pos ⟨rfl, rfl, hc, fun h => by have := hlast h.1; omega⟩]

theorem ckN_mul (len : Nat) : len ≤ ckN len * 376 := by unfold ckN; omega
theorem ck_full {b : List UInt8} {j : Nat} (h : (ck b j).length < 376) : ckN b.length ≤ j + 1 := by rw [ck_len] at h; unfold ckN; omega
theorem take_ck (b : List UInt8) (j : Nat) : b.take (j * 376) ++ ck b j = b.take ((j + 1) * 376) := by
  unfold ck
  rw [Nat.add_mul, Nat.one_mul, List.take_add]

theorem Dev.ldB_ok {D : Dev} {first : Int} {b : List UInt8} {n : Nat} (hn : n = ckN b.length) (hlim : n ≤ 4096)
    (h : ∀ j : Nat, j < n → D.readE (first + j) = 0 ∧ D.read (first + j) = Dev.pad (pgOf (ck b j) j)) : ∀ k, k ≤ n → D.ldB first n k = .ok (b.take (k * 376)) := by
  intro k
  induction k with
  | zero => intro _; simp [Dev.ldB]
  | succ k ih =>
    intro hk
    obtain ⟨h1, h2⟩ := h k (by omega)
    rw [Dev.ldB, ih (by omega)]
    simp only
    rw [if_pos h1, h2, ldPage_pgOf (ck b k) k n (by rw [ck_len]; omega) (by omega) (fun hh => by rw [hn]; exact ck_full hh)]
    simp only
    rw [take_ck]
theorem Dev.load_ok {D : Dev} {first : Int} {l : List Item} {n : Nat} (hg : goods l = true) (hm : D.may first n = true) (hoff : D.off = false) (hn : n = ckN (records l).length) (hlim : n ≤ 4096)
    (h : ∀ j : Nat, j < n → D.readE (first + j) = 0 ∧ D.read (first + j) = Dev.pad (pgOf (ck (records l) j) j)) : D.load first n = (l, 0) := by
  unfold Dev.load
  rw [hm, hoff, if_pos rfl, if_neg (by simp), Int.toNat_natCast, Dev.ldB_ok hn hlim h n (Nat.le_refl _)]
  simp only
  rw [List.take_of_length_le (by rw [hn]; exact ckN_mul _), loadOf_records l hg]

/-- a device with power and no trap -/
structure Dev.Ok (D : Dev) : Prop where
  on : D.off = false
  free : D.armed = 0
theorem Dev.Ok.spent_ {D : Dev} (h : D.Ok) : D.spent = true ∧ D.spend = D := by
  unfold Dev.spent Dev.spend
  rw [h.on, h.free]
  exact ⟨rfl, by simp⟩
theorem Dev.Ok.write_ {D : Dev} (h : D.Ok) {k : Nat} (hk : k < D.n) {b : List UInt8} (hb : b.length ≤ 384) : D.writeE k b.length = 0 ∧ D.write k b = D.put k (.full (Dev.pad b)) := by
  obtain ⟨h1, h2⟩ := h.spent_
  have hh : D.has (k : Int) = true := by simp [Dev.has]; omega
  unfold Dev.writeE Dev.write Dev.changeE Dev.change
  rw [hh, h1, h2, decide_eq_true hb]
  exact ⟨rfl, by simp⟩
theorem Dev.Ok.put_ {D : Dev} (h : D.Ok) (k : Nat) (p : Pg) : (D.put k p).Ok := ⟨h.on, h.free⟩
theorem Dev.put_page (D : Dev) (k : Nat) (p : Pg) (i : Nat) : (D.put k p).page i = if i = k then p else D.page i := by
  unfold Dev.put Dev.page
  simp only
  by_cases hi : i = k
  · rw [if_pos hi, if_pos hi]; rfl
  · rw [if_neg hi, if_neg hi]
theorem Dev.settled_page (D : Dev) (i : Nat) : D.settled.page i = D.page i := rfl
theorem Dev.Ok.flush_ {D : Dev} (h : D.Ok) : D.flush = D.settled ∧ D.settled.Ok ∧ D.changeE = 0 := by
  obtain ⟨h1, h2⟩ := h.spent_
  unfold Dev.flush Dev.changeE
  rw [h1, h2]
  exact ⟨by simp, ⟨h.on, h.free⟩, by simp⟩
theorem Dev.Ok.read_ {D : Dev} (h : D.Ok) {k : Nat} (hk : k < D.n) : D.readE k = (D.page k).err ∧ D.read k = (D.page k).data := by
  have hh : D.has (k : Int) = true := by simp [Dev.has]; omega
  unfold Dev.readE Dev.read
  rw [hh, h.on]
  exact ⟨by simp, by simp⟩

theorem pgOf_ck_le (b : List UInt8) (j : Nat) : (pgOf (ck b j) j).length ≤ 384 := by rw [pgOf_len, ck_len]; omega
theorem Dev.Ok.puts_ {D : Dev} (h : D.Ok) (f : Nat) (b : List UInt8) : ∀ k, f + k ≤ D.n → (D.puts f b k).Ok ∧ (D.puts f b k).n = D.n ∧
    (∀ j, j < k → D.putsE f b j = 0) ∧ (∀ i, (D.puts f b k).page i = if f ≤ i ∧ i < f + k then .full (Dev.pad (pgOf (ck b (i - f)) (i - f))) else D.page i) := by
  intro k
  induction k with
  | zero => intro _; exact ⟨h, rfl, fun j hj => absurd hj (by omega), fun i => by rw [if_neg (by omega)]; rfl⟩
  | succ k ih =>
    intro hk
    obtain ⟨i1, i2, i3, i4⟩ := ih (by omega)
    have hw := i1.write_ (k := f + k) (by omega) (pgOf_ck_le b k)
    have hE : D.putsE f b k = 0 := by
      rw [Dev.putsE_eq]
      exact hw.1
    have hW : D.puts f b (k + 1) = (D.puts f b k).put (f + k) (.full (Dev.pad (pgOf (ck b k) k))) := by
      rw [Dev.puts_succ]
      exact hw.2
    rw [hW]
    refine ⟨i1.put_ _ _, i2, fun j hj => ?_, fun i => ?_⟩
    · by_cases hjk : j = k
      · rw [hjk]; exact hE
      · exact i3 j (by omega)
    · rw [Dev.put_page, i4]
      by_cases hi : i = f + k
      · subst hi
        rw [if_pos rfl, if_pos (by omega), Nat.add_sub_cancel_left]
      · rw [if_neg hi]
        by_cases h2 : f ≤ i ∧ i < f + k
        · rw [if_pos h2, if_pos (by omega)]
        · rw [if_neg h2, if_neg (by omega)]

theorem ckN_fit {l : List Item} {pages : Nat} : ckN (records (l.take (fitI (376 * (pages : Int)) 0 l))).length ≤ pages := by
  rw [isum_records]
  by_cases h0 : 0 < fitI (376 * (pages : Int)) 0 l
  · have := fitI_room (376 * (pages : Int)) l 0 h0
    unfold ckN; omega
  · have : fitI (376 * (pages : Int)) 0 l = 0 := by omega
    rw [this]; simp [isum, ckN]
theorem goods_takeN {l : List Item} (h : goods l = true) (n : Nat) : goods (l.take n) = true := by
  unfold goods at h ⊢
  rw [List.all_eq_true] at h ⊢
  exact fun y hy => h y (List.mem_of_mem_take hy)
theorem may_nat {D : Dev} {first pages : Int} (h : D.may first pages = true) : ∃ f p : Nat, first = f ∧ pages = p ∧ f + p ≤ D.n := by
  simp only [Dev.may, Bool.and_eq_true, decide_eq_true_eq] at h
  obtain ⟨⟨⟨h1, h2⟩, h3⟩, h4⟩ := h
  exact ⟨first.toNat, pages.toNat, by omega, by omega, by omega⟩
theorem may_of {D : Dev} {f p : Nat} (h : f + p ≤ D.n) : D.may (f : Int) (p : Int) = true := by
  simp only [Dev.may, Bool.and_eq_true, decide_eq_true_eq]
  omega

/-- a dump on a device with power and no trap -/
theorem DumpR.good {D D' : Dev} {first pages : Int} {l : List Item} {p m : Nat} {er : Int} (h : DumpR D first pages l p m er D') (hD : D.Ok) (hm : D.may first pages = true) (hg : goods l = true) :
    er = 0 ∧ m = fitI (376 * pages) 0 l ∧ p = ckN (records (l.take m)).length ∧ p ≤ pages ∧ D'.Ok ∧ D'.n = D.n ∧
      ∀ i, D'.page i = if first ≤ i ∧ (i : Int) < first + p then .full (Dev.pad (pgOf (ck (records (l.take m)) (i - first.toNat)) (i - first.toNat))) else D.page i := by
  obtain ⟨f, pg, rfl, rfl, hfp⟩ := may_nat hm
  have hfit := ckN_fit (l := l) (pages := pg)
  obtain ⟨b, hb⟩ : ∃ b, b = records (l.take (fitI (376 * (pg : Int)) 0 l)) := ⟨_, rfl⟩
  rw [← hb] at hfit
  obtain ⟨i1, i2, i3, i4⟩ := hD.puts_ f b (ckN b.length) (by omega)
  obtain ⟨f1, f2, f3⟩ := i1.flush_
  cases h with
  | arg h => rw [hm, hg] at h; cases h
  | cut k _ hk _ he => rw [← hb] at hk he; exact absurd (i3 k hk) he
  | noflush _ _ he => rw [← hb] at he; exact absurd f3 he
  | ok _ _ _ =>
    rw [← hb]
    refine ⟨rfl, rfl, rfl, by omega, ?_, ?_, fun i => ?_⟩
    · rw [f1]; exact f2
    · rw [f1]; exact i2
    · rw [f1, Dev.settled_page, i4]
      have e : (f ≤ i ∧ i < f + ckN b.length) ↔ ((f : Int) ≤ i ∧ (i : Int) < f + (ckN b.length : Int)) := by omega
      simp only [e, Int.toNat_natCast]
theorem DumpR.bad {D D' : Dev} {first pages : Int} {l : List Item} {p m : Nat} {er : Int} (h : DumpR D first pages l p m er D') (hm : (D.may first pages && goods l) = false) : p = 0 ∧ m = 0 ∧ er = 1 ∧ D' = D := by
  cases h with
  | arg h => exact ⟨rfl, rfl, rfl, rfl⟩
  | cut k h _ _ _ => rw [hm] at h; cases h
  | noflush h _ _ => rw [hm] at h; cases h
  | ok h _ _ => rw [hm] at h; cases h
/-- pages that hold an image's bytes are loaded -/
theorem Dev.Ok.load_ {D : Dev} (hD : D.Ok) {f p : Nat} {l : List Item} (hg : goods l = true) (hfp : f + p ≤ D.n) (hp : p = ckN (records l).length) (hlim : p ≤ 4096)
    (h : ∀ j, j < p → D.page (f + j) = .full (Dev.pad (pgOf (ck (records l) j) j))) : D.load f p = (l, 0) := by
  refine Dev.load_ok hg (may_of hfp) hD.on hp hlim (fun j hj => ?_)
  obtain ⟨r1, r2⟩ := hD.read_ (k := f + j) (by omega)
  rw [h j hj] at r1 r2
  exact ⟨r1, r2⟩
end Go.Proofs.Ytcmobcbecbajiaa
