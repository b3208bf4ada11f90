/- image.Dump: its first loop; what is refused. -/
import Derived.Test.YtinofdfjaopdcaaImgB
import Derived.Test.YtinofdfjaopdcaaImgR
import Derived.Test.YtinofdfjaopdcaaLay
import Derived.Test.YtinofdfjaopdcaaComm
namespace Go.Proofs.Ytinofdfjaopdcaa
open Go.RowKit
attribute [local go_sem] Oper.semAt_some
attribute [local go_sem ↓] Go.wp_at_zero Go.wp_at_succ
set_option linter.unusedSimpArgs false
set_option linter.unusedVariables false

theorem goods_take {l : List Item} {k : Nat} {x : Item} (hx : l[k]? = some x) : goods (l.take (k + 1)) = (goods (l.take k) && x.good) := by
  unfold goods
  rw [List.take_add_one, hx, Option.toList, List.all_append]
  simp
theorem goods_of_bad {l : List Item} {k : Nat} {x : Item} (hx : l[k]? = some x) (hb : x.good = false) : goods l = false := by
  unfold goods
  rw [List.all_eq_false]
  exact ⟨x, List.mem_of_getElem? hx, by simp [hb]⟩
theorem isum_le {l : List Item} (h : goods l = true) : isum l ≤ 1306 * l.length := by
  rw [← isum_records]; exact records_le l h
theorem fit_take {l : List Item} {k : Nat} {x : Item} (room : Int) (hx : l[k]? = some x) (hk : k ≤ l.length) :
    fitI room 0 (l.take (k + 1)) = if fitI room 0 (l.take k) = k ∧ ((isum (l.take k) + x.size : Nat) : Int) ≤ room then k + 1 else fitI room 0 (l.take k) := by
  rw [List.take_add_one, hx, Option.toList, fitI_snoc, List.length_take, Nat.min_eq_left hk, Nat.zero_add]

/-- what was collected when k items were looked at -/
def Coll (room : Int) (l : List Item) (base k : Nat) (v : Value) (f : Nat) (wr : World) : Prop :=
  f = fitI room 0 (l.take k) ∧ goods (l.take k) = true ∧ wr.ownsRow base tU8 1 v (records (l.take f)).length (bys (records (l.take f)))

abbrev tInt0 : TypeId := 3
abbrev tPD : TypeId := 23
abbrev tErr : TypeId := 24
/-- Dump's boxes: the device, the first page, the three results -/
structure DBox (B : Nat) (h : DevH) (first : Int) (W : World) : Prop where
  d : Blk W B tPD #[.pointer (some ⟨h.d, 0, none⟩)]
  f : Blk W (B + 1) tInt0 #[.int .i64 first]
  r1 : ∃ u, Blk W (B + 1 + 1) tInt0 #[.int .i64 u]
  r2 : ∃ u, Blk W (B + 1 + 1 + 1) tInt0 #[.int .i64 u]
  r3 : ∃ u, Blk W (B + 1 + 1 + 1 + 1) tErr #[.int .i64 u]
theorem dbox_new (w : World) (h : DevH) (first : Int) : DBox w.heap.size h first (((((w.alloc (.cells #[.pointer (some ⟨h.d, 0, none⟩)] tPD)).alloc (.cells #[.int .i64 first] tInt0)).alloc (.cells #[.int .i64 0] tInt0)).alloc (.cells #[.int .i64 0] tInt0)).alloc (.cells #[.int .i64 0] tErr)) := by
  have h1 := Blk.new w tPD #[.pointer (some ⟨h.d, 0, none⟩)]
  have h2 := Blk.new (w.alloc (.cells #[.pointer (some ⟨h.d, 0, none⟩)] tPD)) tInt0 #[.int .i64 first]
  have h3 := Blk.new ((w.alloc (.cells #[.pointer (some ⟨h.d, 0, none⟩)] tPD)).alloc (.cells #[.int .i64 first] tInt0)) tInt0 #[.int .i64 0]
  have h4 := Blk.new (((w.alloc (.cells #[.pointer (some ⟨h.d, 0, none⟩)] tPD)).alloc (.cells #[.int .i64 first] tInt0)).alloc (.cells #[.int .i64 0] tInt0)) tInt0 #[.int .i64 0]
  have h5 := Blk.new ((((w.alloc (.cells #[.pointer (some ⟨h.d, 0, none⟩)] tPD)).alloc (.cells #[.int .i64 first] tInt0)).alloc (.cells #[.int .i64 0] tInt0)).alloc (.cells #[.int .i64 0] tInt0)) tErr #[.int .i64 0]
  simp only [World.size_alloc] at h2 h3 h4 h5
  exact ⟨(((h1.alloc _).alloc _).alloc _).alloc _, ((h2.alloc _).alloc _).alloc _, ⟨0, (h3.alloc _).alloc _⟩, ⟨0, h4.alloc _⟩, ⟨0, h5⟩⟩
theorem DBox.chgNo {B : Nat} {h : DevH} {first : Int} {W W' : World} (hb : DBox B h first W) (hc : Chg No W W') : DBox B h first W' := by
  obtain ⟨u1, h1⟩ := hb.r1
  obtain ⟨u2, h2⟩ := hb.r2
  obtain ⟨u3, h3⟩ := hb.r3
  exact ⟨hb.d.chg hc (fun h => h), hb.f.chg hc (fun h => h), ⟨u1, h1.chg hc (fun h => h)⟩, ⟨u2, h2.chg hc (fun h => h)⟩, ⟨u3, h3.chg hc (fun h => h)⟩⟩
theorem DBox.foot {B : Nat} {h : DevH} {first : Int} {N : Nat} {D : Dev} {W W' : World} (hb : DBox B h first W) (hd : DevN N W h D) (hc : Chg h.foot W W') : DBox B h first W' := by
  obtain ⟨u1, h1⟩ := hb.r1
  obtain ⟨u2, h2⟩ := hb.r2
  obtain ⟨u3, h3⟩ := hb.r3
  exact ⟨hb.d.chg hc (hd.not_foot hb.d (by decide) (by decide)), hb.f.chg hc (hd.not_foot hb.f (by decide) (by decide)), ⟨u1, h1.chg hc (hd.not_foot h1 (by decide) (by decide))⟩, ⟨u2, h2.chg hc (hd.not_foot h2 (by decide) (by decide))⟩, ⟨u3, h3.chg hc (hd.not_foot h3 (by decide) (by decide))⟩⟩
theorem DBox.keep {B : Nat} {h : DevH} {first : Int} {S : Nat → Prop} {W W' : World} (hb : DBox B h first W) (hc : Chg S W W') (hn : ∀ (g : Nat) (cs : Array Value) (T : TypeId), T ≠ tU8 → Blk W g T cs → ¬ S g) : DBox B h first W' := by
  obtain ⟨u1, h1⟩ := hb.r1
  obtain ⟨u2, h2⟩ := hb.r2
  obtain ⟨u3, h3⟩ := hb.r3
  exact ⟨hb.d.chg hc (hn _ _ _ (by decide) hb.d), hb.f.chg hc (hn _ _ _ (by decide) hb.f), ⟨u1, h1.chg hc (hn _ _ _ (by decide) h1)⟩, ⟨u2, h2.chg hc (hn _ _ _ (by decide) h2)⟩, ⟨u3, h3.chg hc (hn _ _ _ (by decide) h3)⟩⟩
/-- what the walk reads and writes of them -/
theorem DBox.cells {B : Nat} {h : DevH} {first : Int} {W : World} (hb : DBox B h first W) : W.cell? ⟨B, 0, none⟩ = some (.pointer (some ⟨h.d, 0, none⟩)) ∧ W.cell? ⟨B + 1, 0, none⟩ = some (.int .i64 first) ∧
    (∃ u, W.cell? ⟨B + 1 + 1, 0, none⟩ = some (.int .i64 u)) ∧ (∃ u, W.cell? ⟨B + 1 + 1 + 1, 0, none⟩ = some (.int .i64 u)) ∧ (∃ u, W.cell? ⟨B + 1 + 1 + 1 + 1, 0, none⟩ = some (.int .i64 u)) ∧
    W.frozen? ⟨B + 1 + 1, 0, none⟩ = false ∧ W.frozen? ⟨B + 1 + 1 + 1, 0, none⟩ = false ∧ W.frozen? ⟨B + 1 + 1 + 1 + 1, 0, none⟩ = false := by
  obtain ⟨u1, h1⟩ := hb.r1
  obtain ⟨u2, h2⟩ := hb.r2
  obtain ⟨u3, h3⟩ := hb.r3
  have c1 := hb.d.cell 0
  have c2 := hb.f.cell 0
  have c3 := h1.cell 0
  have c4 := h2.cell 0
  have c5 := h3.cell 0
  exact ⟨c1, c2, ⟨u1, c3⟩, ⟨u2, c4⟩, ⟨u3, c5⟩, h1.frozen 0, h2.frozen 0, h3.frozen 0⟩

theorem DBox.stored {B : Nat} {h : DevH} {first : Int} {W : World} (hb : DBox B h first W) (x y z : Int) :
    (((W.setCell ⟨B + 1 + 1, 0, none⟩ (.int .i64 x)).setCell ⟨B + 1 + 1 + 1, 0, none⟩ (.int .i64 y)).setCell ⟨B + 1 + 1 + 1 + 1, 0, none⟩ (.int .i64 z)).cell? ⟨B + 1 + 1, 0, none⟩ = some (.int .i64 x) ∧
    (((W.setCell ⟨B + 1 + 1, 0, none⟩ (.int .i64 x)).setCell ⟨B + 1 + 1 + 1, 0, none⟩ (.int .i64 y)).setCell ⟨B + 1 + 1 + 1 + 1, 0, none⟩ (.int .i64 z)).cell? ⟨B + 1 + 1 + 1, 0, none⟩ = some (.int .i64 y) ∧
    (((W.setCell ⟨B + 1 + 1, 0, none⟩ (.int .i64 x)).setCell ⟨B + 1 + 1 + 1, 0, none⟩ (.int .i64 y)).setCell ⟨B + 1 + 1 + 1 + 1, 0, none⟩ (.int .i64 z)).cell? ⟨B + 1 + 1 + 1 + 1, 0, none⟩ = some (.int .i64 z) ∧
    Chg (fun i => B ≤ i ∧ i ≤ B + 1 + 1 + 1 + 1) W (((W.setCell ⟨B + 1 + 1, 0, none⟩ (.int .i64 x)).setCell ⟨B + 1 + 1 + 1, 0, none⟩ (.int .i64 y)).setCell ⟨B + 1 + 1 + 1 + 1, 0, none⟩ (.int .i64 z)) := by
  obtain ⟨u1, h1⟩ := hb.r1
  obtain ⟨u2, h2⟩ := hb.r2
  obtain ⟨u3, h3⟩ := hb.r3
  have g1 := ((h1.set_ 0 (.int .i64 x)).far (p := ⟨B + 1 + 1 + 1, 0, none⟩) (by dsimp only; omega) (.int .i64 y)).far (p := ⟨B + 1 + 1 + 1 + 1, 0, none⟩) (by dsimp only; omega) (.int .i64 z)
  have g2 := ((h2.far (p := ⟨B + 1 + 1, 0, none⟩) (by dsimp only; omega) (.int .i64 x)).set_ 0 (.int .i64 y)).far (p := ⟨B + 1 + 1 + 1 + 1, 0, none⟩) (by dsimp only; omega) (.int .i64 z)
  have g3 := ((h3.far (p := ⟨B + 1 + 1, 0, none⟩) (by dsimp only; omega) (.int .i64 x)).far (p := ⟨B + 1 + 1 + 1, 0, none⟩) (by dsimp only; omega) (.int .i64 y)).set_ 0 (.int .i64 z)
  exact ⟨g1.cell 0, g2.cell 0, g3.cell 0, (((Chg.refl _ _).setCell (.inl (by dsimp only; omega)) _).setCell (.inl (by dsimp only; omega)) _).setCell (.inl (by dsimp only; omega)) _⟩

/-- the head of a page being made: which operations are done, what they gave -/
structure S19 (V : World) (cv : Value) (m j : Nat) (b0 b1 b2 b3 b4 b5 b6 b7 b8 : Bool) (x0 x1 x2 x3 x4 x5 x6 x7 x8 : Value) (w : World) : Prop where
  c : Chg No V w
  h0 : b0 = true → b4 = false → w.ownsRow V.heap.size tU8 1 x0 2 (bys [73, 77])
  h1 : b1 = true → x1 = cv
  h2 : b2 = true → x2 = .int .i64 m
  h3 : b3 = true → x3 = .int .u64 m
  h4 : b4 = true → b7 = false → w.ownsRow V.heap.size tU8 1 x4 4 (bys ([73, 77] ++ le 2 m))
  h5 : b5 = true → x5 = .int .i64 j
  h6 : b6 = true → x6 = .int .u64 j
  h7 : b7 = true → w.ownsRow V.heap.size tU8 1 x7 8 (bys (pgHead m j))
  h8 : b8 = true → x8 = x7 ∧ b7 = true
  e4 : b4 = true → b0 = true
  e7 : b7 = true → b4 = true
/-- a page being written -/
structure S20 (V : World) (h : DevH) (D : Dev) (first : Int) (xp cv : Value) (m j : Nat) (ch : List UInt8) (b0 b1 b2 b3 b4 b5 b6 b7 b8 : Bool) (x0 x1 x2 x3 x4 x5 x6 x7 x8 : Value) (w : World) : Prop where
  h0 : b0 = true → x0 = .pointer (some ⟨h.d, 0, none⟩)
  h1 : b1 = true → x1 = .int .i64 first
  h2 : b2 = true → x2 = .int .i64 j
  h3 : b3 = true → x3 = .int .i64 (first + j)
  h4 : b4 = true → x4 = xp
  h5 : b5 = true → x5 = cv
  hp : b6 = false → w.ownsRow V.heap.size tU8 1 xp 8 (bys (pgHead m j))
  h6 : b6 = true → b7 = false → w.ownsRow V.heap.size tU8 1 x6 (8 + m) (bys (pgHead m j ++ ch))
  n7 : b7 = false → Chg No V w
  h7 : b7 = true → x7 = .int .i64 (D.writeE (first + j) (8 + m)) ∧ DevAt w h (D.write (first + j) (pgHead m j ++ ch)) ∧ Chg h.foot V w
  h8 : b8 = true → x8 = x7 ∧ b7 = true
  e7 : b7 = true → b6 = true
  e70 : b7 = true → b0 = true
  e73 : b7 = true → b3 = true
  e31 : b3 = true → b1 = true
  e32 : b3 = true → b2 = true

/-- an activation's slots, by their names -/
theorem wp_slots {P : Program} {c : Code} {Q : Exit → Act → World → Prop} {a : Act} {w : World} (F : (Nat → Value) → Act) (R : World → Prop) (h1 : a = F (fun i => a.tmps.getD i undef)) (h : R w) (hh : ∀ Y w', R w' → c.wp P Q (F Y) w') : c.wp P Q a w := by
  rw [h1]
  exact hh _ _ h
def putOk (D : Dev) (first : Int) (b : List UInt8) (l : List Nat) : Prop := ∀ l1 x l2, l = l1 ++ x :: l2 → D.putLE first b l1 x = 0
theorem putOk_nil (D : Dev) (first : Int) (b : List UInt8) : putOk D first b [] := fun l1 x l2 h => by simp at h
theorem putOk_snoc {D : Dev} {first : Int} {b : List UInt8} {l : List Nat} {x : Nat} (h : putOk D first b l) (hx : D.putLE first b l x = 0) : putOk D first b (l ++ [x]) := by
  intro l1 y l2 e
  rcases List.eq_nil_or_concat l2 with rfl | ⟨l3, z, rfl⟩
  · obtain ⟨e1, e2⟩ := List.append_inj' e rfl
    injection e2 with e3
    rw [← e1, ← e3]
    exact hx
  · rw [List.concat_eq_append, ← List.cons_append, ← List.append_assoc] at e
    exact h l1 y l3 (List.append_inj' e rfl).1
theorem putOk_range {D : Dev} {first : Int} {b : List UInt8} {N : Nat} (h : putOk D first b (List.range N)) : ∀ j, j < N → D.putsE first b j = 0 := by
  intro j hj
  refine h (List.range j) j ((List.range N).drop (j + 1)) ?_
  have e := (List.take_append_drop j (List.range N)).symm
  rw [List.take_range, Nat.min_eq_left (Nat.le_of_lt hj), List.drop_eq_getElem_cons (by rw [List.length_range]; exact hj), List.getElem_range] at e
  exact e

/-- between two rounds of Dump's loop -/
structure DumpMid (D : Dev) (first : Int) (b : List UInt8) (h : DevH) (B G : Nat) (Ab : Option Addr) (nb cb : Nat) (w : World) (pre : List (CkIx nb)) (U : World) : Prop where
  dev : DevAt U h (D.putL first b (pre.map (·.1)))
  ok : putOk D first b (pre.map (·.1))
  box : DBox B h first U
  cnt : Blk U G tInt0 #[.int .i64 pre.length]
  b1 : Blk U (G + 1) tBytes #[.slice Ab nb cb]
  b2 : Blk U (G + 1 + 1) tInt0 #[.int .i64 376]
  rd : Rd U tU8 Ab nb (bys b)
  chg : Chg h.foot w U
/-- Dump's loop was cut off by an error -/
structure DumpCut (D : Dev) (first : Int) (b : List UInt8) (h : DevH) (B : Nat) {nb : Nat} (w : World) (cd : Code) (pre : List (CkIx nb)) (U : World) : Prop where
  ret : cd = .ret
  cut : ∃ l x, pre.map (·.1) = l ++ [x] ∧ putOk D first b l ∧ D.putLE first b l x ≠ 0 ∧ DevAt U h (D.putL first b (l ++ [x])) ∧
    Blk U (B + 1 + 1) tInt0 #[.int .i64 0] ∧ Blk U (B + 1 + 1 + 1) tInt0 #[.int .i64 0] ∧ Blk U (B + 1 + 1 + 1 + 1) tErr #[.int .i64 (D.putLE first b l x)]
  chg : Chg h.foot w U

theorem ckV_rd {U : World} {Ab : Option Addr} {nb : Nat} {b : List UInt8} (h : Rd U tU8 Ab nb (bys b)) (hb : b.length = nb) {j : Nat} (hj : j * 376 < nb) :
    ∃ (A' : Option Addr) (m : Nat), ckV Ab nb j = .slice A' m m ∧ m = (ck b j).length ∧ 0 < m ∧ Rd U tU8 A' m (bys (ck b j)) := by
  obtain ⟨g, off, cur, fz, rfl, hg, hx⟩ := h.2 (by omega)
  have hl : (ck b j).length = min 376 (nb - j * 376) := by rw [ck_len, hb]
  refine ⟨some ⟨g, off + j * 376, none⟩, min 376 (nb - j * 376), ?_, hl.symm, by omega, by rw [bys_length]; exact hl, fun _ => ⟨g, off + j * 376, cur, fz, rfl, hg, ?_⟩⟩
  · unfold ckV
    have : (⟨g, off, none⟩ : Addr).add (j * 376) = ⟨g, off + j * 376, none⟩ := by unfold Addr.add; split <;> simp_all
    rw [Option.map_some, this]
  · intro i u hu
    rw [Nat.add_assoc]
    refine hx _ u ?_
    unfold ck at hu
    rw [bys_take, bys_drop, List.getElem?_take] at hu
    split at hu
    · rw [List.getElem?_drop] at hu; exact hu
    · cases hu
theorem dev_foot_lt {N : Nat} {w : World} {h : DevH} {D : Dev} (hd : DevN N w h D) {k : Nat} (hk : h.foot k) : k < w.heap.size := by
  rcases hk with rfl | rfl | rfl
  · obtain ⟨a, b, c, e, hb⟩ := hd.box
    exact hb.lt
  · obtain ⟨ps, hb, _⟩ := hd.row
    exact hb.lt
  · obtain ⟨es, ⟨arr, clock, hb, _⟩, _⟩ := hd.map
    exact (Array.getElem?_eq_some_iff.1 hb).1
/-- a block that is no cells is turned, beyond the device's own -/
theorem dev_row {N : Nat} {U U' : World} {h : DevH} {D : Dev} {row : Option Nat} (hd : DevN N U h D) (hg : U.grownBy U' row) (hr : ∀ r, row = some r → ¬ h.foot r ∧ ∃ o : Obj, U.heap[r]? = some o ∧ o.isCells = false) : DevAt U' h D := by
  have hn : ∀ g cs t, Blk U g t cs → ¬ row = some g := by
    intro g cs t hb e
    obtain ⟨_, o, ho, hc⟩ := hr g e
    unfold Blk at hb
    rw [ho] at hb
    injection hb with hb
    subst hb
    cases hc
  exact (hd.chg (S := fun i => row = some i) (Chg.grown (Chg.refl _ _) hg (fun k e => .inl e)) (fun e => (hr _ e).1 (.inl rfl)) (fun e => (hr _ e).1 (.inr (.inl rfl))) (fun e => (hr _ e).1 (.inr (.inr rfl))) (fun g cs t _ _ hb => hn g cs t hb)).at_
theorem blk_row {U U' : World} {row : Option Nat} (hg : U.grownBy U' row) (hr : ∀ r, row = some r → ∃ o : Obj, U.heap[r]? = some o ∧ o.isCells = false) {g : Nat} {t : TypeId} {cs : Array Value} (hb : Blk U g t cs) : Blk U' g t cs := by
  refine hb.chg (S := fun i => row = some i) (Chg.grown (Chg.refl _ _) hg (fun k e => .inl e)) ?_
  intro e
  obtain ⟨o, ho, hc⟩ := hr g e
  unfold Blk at hb
  rw [ho] at hb
  injection hb with hb
  subst hb
  cases hc
theorem rd_row {U U' : World} {row : Option Nat} (hg : U.grownBy U' row) (hr : ∀ r, row = some r → ∃ o : Obj, U.heap[r]? = some o ∧ o.isCells = false) {t : TypeId} {A : Option Addr} {k : Nat} {xs : List Value} (h : Rd U t A k xs) : Rd U' t A k xs := by
  refine h.chg (S := fun i => row = some i) (Chg.grown (Chg.refl _ _) hg (fun k e => .inl e)) ?_
  intro g cur fz hb e
  obtain ⟨o, ho, hc⟩ := hr g e
  rw [ho] at hb
  injection hb with hb
  subst hb
  cases hc
theorem dbox_row {U U' : World} {row : Option Nat} {B : Nat} {h : DevH} {first : Int} (hg : U.grownBy U' row) (hr : ∀ r, row = some r → ∃ o : Obj, U.heap[r]? = some o ∧ o.isCells = false) (hb : DBox B h first U) : DBox B h first U' := by
  obtain ⟨u1, h1⟩ := hb.r1
  obtain ⟨u2, h2⟩ := hb.r2
  obtain ⟨u3, h3⟩ := hb.r3
  exact ⟨blk_row hg hr hb.d, blk_row hg hr hb.f, ⟨u1, blk_row hg hr h1⟩, ⟨u2, blk_row hg hr h2⟩, ⟨u3, blk_row hg hr h3⟩⟩

/-- the boxes are none of the device's own -/
theorem DBox.apart {B : Nat} {h : DevH} {first : Int} {W : World} (hb : DBox B h first W) {i : Nat} (h1 : B ≤ i) (h2 : i ≤ B + 1 + 1 + 1 + 1) : ∃ T cs, Blk W i T cs ∧ T ≠ tDev ∧ T ≠ tPP ∧ T ≠ tPage ∧ T ≠ tU8 := by
  obtain ⟨u1, g1⟩ := hb.r1
  obtain ⟨u2, g2⟩ := hb.r2
  obtain ⟨u3, g3⟩ := hb.r3
  obtain rfl | rfl | rfl | rfl | rfl : i = B ∨ i = B + 1 ∨ i = B + 1 + 1 ∨ i = B + 1 + 1 + 1 ∨ i = B + 1 + 1 + 1 + 1 := by omega
  · exact ⟨_, _, hb.d, by decide, by decide, by decide, by decide⟩
  · exact ⟨_, _, hb.f, by decide, by decide, by decide, by decide⟩
  · exact ⟨_, _, g1, by decide, by decide, by decide, by decide⟩
  · exact ⟨_, _, g2, by decide, by decide, by decide, by decide⟩
  · exact ⟨_, _, g3, by decide, by decide, by decide, by decide⟩
/-- the device stays where what is changed is none of its blocks -/
theorem dev_keep {N : Nat} {W W' : World} {h : DevH} {D : Dev} {S : Nat → Prop} (hd : DevN N W h D) (hc : Chg S W W') (hs : ∀ i, S i → (∃ T cs, Blk W i T cs ∧ T ≠ tDev ∧ T ≠ tPP ∧ T ≠ tPage ∧ T ≠ tU8) ∨ (¬ h.foot i ∧ ∃ o : Obj, W.heap[i]? = some o ∧ o.isCells = false)) : DevAt W' h D := by
  have hnf : ∀ i, h.foot i → ¬ S i := by
    intro i hi hS
    rcases hs i hS with ⟨T, cs, hb, q1, q2, _⟩ | ⟨q, _⟩
    · exact DevN.not_foot hd hb q1 q2 hi
    · exact q hi
  refine (hd.chg hc (hnf _ (.inl rfl)) (hnf _ (.inr (.inl rfl))) (hnf _ (.inr (.inr rfl))) ?_).at_
  intro g cs t _ ht hb hS
  rcases hs g hS with ⟨T, cs', hb', q1, q2, q3, q4⟩ | ⟨_, o, ho, hoc⟩
  · unfold Blk at hb hb'
    rw [hb] at hb'
    cases hb'
    rcases ht with rfl | rfl
    · exact q3 rfl
    · exact q4 rfl
  · unfold Blk at hb
    rw [hb] at ho
    injection ho with ho
    subst ho
    cases hoc
/-- the stores of the three results -/
def st3 (W : World) (B : Nat) (x y z : Int) : World := ((W.setCell ⟨B + 1 + 1, 0, none⟩ (.int .i64 x)).setCell ⟨B + 1 + 1 + 1, 0, none⟩ (.int .i64 y)).setCell ⟨B + 1 + 1 + 1 + 1, 0, none⟩ (.int .i64 z)
theorem st3_blk {B : Nat} {h : DevH} {first : Int} {W : World} (hb : DBox B h first W) (x y z : Int) :
    Blk (st3 W B x y z) (B + 1 + 1) tInt0 #[.int .i64 x] ∧ Blk (st3 W B x y z) (B + 1 + 1 + 1) tInt0 #[.int .i64 y] ∧ Blk (st3 W B x y z) (B + 1 + 1 + 1 + 1) tErr #[.int .i64 z] ∧ Chg (fun i => B ≤ i ∧ i ≤ B + 1 + 1 + 1 + 1) W (st3 W B x y z) := by
  obtain ⟨u1, h1⟩ := hb.r1
  obtain ⟨u2, h2⟩ := hb.r2
  obtain ⟨u3, h3⟩ := hb.r3
  have g1 := ((h1.set_ 0 (.int .i64 x)).far (p := ⟨B + 1 + 1 + 1, 0, none⟩) (by dsimp only; omega) (.int .i64 y)).far (p := ⟨B + 1 + 1 + 1 + 1, 0, none⟩) (by dsimp only; omega) (.int .i64 z)
  have g2 := ((h2.far (p := ⟨B + 1 + 1, 0, none⟩) (by dsimp only; omega) (.int .i64 x)).set_ 0 (.int .i64 y)).far (p := ⟨B + 1 + 1 + 1 + 1, 0, none⟩) (by dsimp only; omega) (.int .i64 z)
  have g3 := ((h3.far (p := ⟨B + 1 + 1, 0, none⟩) (by dsimp only; omega) (.int .i64 x)).far (p := ⟨B + 1 + 1 + 1, 0, none⟩) (by dsimp only; omega) (.int .i64 y)).set_ 0 (.int .i64 z)
  exact ⟨g1, g2, g3, (((Chg.refl _ _).setCell (.inl (by dsimp only; omega)) _).setCell (.inl (by dsimp only; omega)) _).setCell (.inl (by dsimp only; omega)) _⟩
/-- what was laid for deferred calls is turned -/
theorem put_cell {W : World} {Dd g : Nat} {t : TypeId} {cs : Array Value} (hK : W.heap[Dd]? = some (.deferred (some []))) (hb : Blk W g t cs) : Blk (W.putObj Dd (.deferred none)) g t cs := by
  have hne : g ≠ Dd := by
    rintro rfl
    unfold Blk at hb
    rw [hb] at hK
    cases hK
  exact (World.putObj_heap_other hne).trans hb
theorem put_chg (W : World) (Dd : Nat) (o : Obj) : Chg (fun i => i = Dd) W (W.putObj Dd o) :=
  Chg.grown (Chg.refl _ _) (grownBy_putObj' W Dd o) (fun k e => .inl (by cases e; rfl))
theorem keeps_chg {S : Nat → Prop} {B0 : Nat} {U W : World} (hc : Chg S U W) (hs : ∀ i, B0 ≤ i → S i → ∃ T cs, Blk U i T cs) : KeepsFrom B0 U W :=
  ⟨hc.size, fun k o hk ho hoc => by
    refine hc.at_ ho (fun hS => ?_)
    obtain ⟨T, cs, hb⟩ := hs k hk hS
    unfold Blk at hb
    rw [hb] at ho
    injection ho with ho
    subst ho
    cases hoc⟩

set_option maxRecDepth 100000 in
set_option maxHeartbeats 4000000 in
theorem dump_calls {N : Nat} {w : World} {h : DevH} {D : Dev} (hd : DevN N w h D) (first pages : Int) (hf : -9223372036854775808 ≤ first ∧ first ≤ 9223372036854775807) (hp : -9223372036854775808 ≤ pages ∧ pages ≤ 9223372036854775807)
    (A : Option Addr) (n c : Nat) (l : List Item) (T : TypeId) (hn : l.length = n) (hr : Rd w T A (n * 5) (its l)) (hn2 : n ≤ 1000) :
    Calls Try.prog 17 #[.pointer (some ⟨h.d, 0, none⟩), .int .i64 first, .int .i64 pages, .slice A n c] w fun e w' => ∃ (p m : Nat) (er : Int) (D' : Dev), e = .returned (.tuple #[.int .i64 p, .int .i64 m, .int .i64 er]) ∧
      DevAt w' h D' ∧ Chg h.foot w w' ∧ DumpR D first pages l p m er D' := by
  have HM := fun W => Lib.hid (fun hc : Chg No w W => imay_calls (hd.chgNo hc) first pages hf hp)
  have hnm := hd.nmost
  have HD := Lib.hid hd
  have HR := Lib.hid hr
  have HLN := Lib.hid hn
  clear hr hn hd
  refine (callsIn_wide (n := 9)).1 ?_
  refine callsIn_of_wp_marks Try.func17 rfl trivial ?_ rfl
  refine wpIn_wide.2 ?_
  simp only [Try.ntmps17, List.size_toArray, List.length_cons, List.length_nil, Nat.reduceAdd, Nat.reduceSub, Array.replicate_succ, Array.replicate_zero, List.push_toArray, List.append_toArray, List.nil_append, List.cons_append]
  cases hmay : D.may first pages with
  | false =>
    rw [hmay] at HM
    have HA := Lib.hid hmay
    clear hmay
    go_wp2_with fail
    refine ((HM _).out (by (repeat (first | (with_reducible exact Chg.refl _ _) | (with_reducible assumption) | (with_reducible refine Chg.drewN ?_ _) | (with_reducible refine Chg.drew ?_) | (with_reducible refine Chg.alloc ?_ _) | (with_reducible refine Chg.setCell ?_ (by first | (left; simp [DevH.foot]; done) | (right; simp; done) | (right; simp; omega)) _))))).mono ?_
    rintro e w1 ⟨rfl, hc1⟩
    have HC1 : Hid (Chg No w w1) := (by (repeat (first | (with_reducible exact Chg.refl _ _) | (with_reducible assumption) | (with_reducible refine Chg.drewN ?_ _) | (with_reducible refine Chg.drew ?_) | (with_reducible refine Chg.alloc ?_ _) | (with_reducible refine Chg.setCell ?_ (by first | (left; simp [DevH.foot]; done) | (right; simp; done) | (right; simp; omega)) _))) : Chg No w _).trans hc1
    have HB := Lib.hid ((dbox_new w h first).chgNo hc1)
    obtain ⟨c1, c2, ⟨u3, c3⟩, ⟨u4, c4⟩, ⟨u5, c5⟩, f3, f4, f5⟩ := HB.out.cells
    clear hc1
    obtain ⟨B, hB⟩ : ∃ B, B = w.heap.size := ⟨_, rfl⟩
    rw [← hB] at c1 c2 c3 c4 c5 f3 f4 f5 ⊢
    have HBE := Lib.hid hB
    clear hB
    go_wp2
    obtain ⟨g3, g4, g5, gc⟩ := HB.out.stored 0 0 1
    rw [← HBE.out] at g3 g4 g5 gc
    refine ⟨.tuple #[.int .i64 0, .int .i64 0, .int .i64 1], by simp [results, Try.results17, go_sem, g3, g4, g5], 0, 0, 1, D, rfl, ?_, ?_, .arg (by rw [HA.out]; rfl)⟩
    · have hfr : Chg No w _ := HC1.out.then gc (fun i hi hT => by have := hT.1; have := HBE.out; omega)
      exact (HD.out.chgNo hfr).at_
    · exact (HC1.out.then gc (fun i hi hT => by have := hT.1; have := HBE.out; omega)).mono (fun _ _ h => h.elim)
  | true =>
    rw [hmay] at HM
    have HA := Lib.hid hmay
    simp only [Dev.may, Bool.and_eq_true, decide_eq_true_eq] at hmay
    obtain ⟨⟨⟨hm1, hm2⟩, hm3⟩, hm4⟩ := hmay
    obtain ⟨pg, rfl⟩ : ∃ pg : Nat, pages = pg := ⟨pages.toNat, by omega⟩
    have hpg : pg ≤ 4096 := by omega
    have hroom : IntKind.i64.wrap (376 * (pg : Int)) = 376 * (pg : Int) := IntWalk.i64_in _ (by omega)
    obtain ⟨room, hrm⟩ : ∃ room : Int, room = 376 * (pg : Int) := ⟨_, rfl⟩
    have HRM := Lib.hid hrm
    have hrl : room ≤ 1540096 := by omega
    clear hrm
    have HF : Hid (0 ≤ first ∧ first ≤ 4096) := by constructor <;> omega
    clear hm1 hm2 hm3 hm4 hf hp
    go_wp2_with fail
    refine ((HM _).out (by (repeat (first | (with_reducible exact Chg.refl _ _) | (with_reducible assumption) | (with_reducible refine Chg.drewN ?_ _) | (with_reducible refine Chg.drew ?_) | (with_reducible refine Chg.alloc ?_ _) | (with_reducible refine Chg.setCell ?_ (by first | (left; simp [DevH.foot]; done) | (right; simp; done) | (right; simp; omega)) _))))).mono ?_
    rintro e w1 ⟨rfl, hc1⟩
    have HC1 : Hid (Chg No w w1) := (by (repeat (first | (with_reducible exact Chg.refl _ _) | (with_reducible assumption) | (with_reducible refine Chg.drewN ?_ _) | (with_reducible refine Chg.drew ?_) | (with_reducible refine Chg.alloc ?_ _) | (with_reducible refine Chg.setCell ?_ (by first | (left; simp [DevH.foot]; done) | (right; simp; done) | (right; simp; omega)) _))) : Chg No w _).trans hc1
    have HB := Lib.hid ((dbox_new w h first).chgNo hc1)
    clear hc1 HM
    obtain ⟨B, hB⟩ : ∃ B, B = w.heap.size := ⟨_, rfl⟩
    rw [← hB] at HB ⊢
    have HBE := Lib.hid hB
    clear hB
    go_wp2
    go_loopg [11, 12, 13, 30] n (fun g v11 v12 v13 v30 wr => ∃ (k f : Nat) (Ab : Option Addr) (nb cb : Nat), v30 = .int .i64 k ∧ k ≤ n ∧ n - k = g ∧ v11 = .slice Ab nb cb ∧ v12 = .int .i64 f ∧ v13 = .bool (decide (f = k)) ∧ f ≤ k ∧
      Hid (Coll room l B k (.slice Ab nb cb) f wr ∧ nb = (records (l.take f)).length ∧ Chg No w wr ∧ DBox B h first wr))
    case atStart => exact ⟨0, 0, none, 0, 0, rfl, by omega, by omega, rfl, rfl, rfl, Nat.le_refl _, ⟨⟨rfl, rfl, World.ownsRow_nil _ _ _ _⟩, rfl, HC1.out, HB.out⟩⟩
    case round =>
      obtain ⟨k, f, Ab, nb, cb, rfl, hk, hg, rfl, rfl, rfl, hfk, H⟩ := hrel
      subst hg
      by_cases h0 : k < n
      · obtain ⟨x, hx⟩ : ∃ x, l[k]? = some x := ⟨_, List.getElem?_eq_getElem (by have := HLN.out; omega)⟩
        obtain ⟨g, off, rfl, hc⟩ := rd_at6 HR.out h0 hx
        obtain ⟨a0, a1, a2, a3, a4⟩ := hc _ H.out.2.2.1
        have hki : (0 : Int) ≤ (k : Int) := by omega
        have hkn : (k : Int) < (n : Int) := by omega
        have HX := Lib.hid hx
        clear hx hc
        cases hgx : x.good with
        | false =>
          have HP := fun W => Lib.hid (put_bad x W hgx)
          have HGB := Lib.hid (goods_of_bad HX.out hgx)
          clear hgx
          go_wp2_with fail
          refine (HP _).out.mono ?_
          rintro e w2 ⟨rfl, hc2⟩
          have HC2 : Hid (Chg No w w2) := (H.out.2.2.1.alloc _).trans hc2
          have HB2 := Lib.hid (H.out.2.2.2.chgNo ((by (repeat (first | (with_reducible exact Chg.refl _ _) | (with_reducible assumption) | (with_reducible refine Chg.drewN ?_ _) | (with_reducible refine Chg.drew ?_) | (with_reducible refine Chg.alloc ?_ _) | (with_reducible refine Chg.setCell ?_ (by first | (left; simp [DevH.foot]; done) | (right; simp; done) | (right; simp; omega)) _))) : Chg No wr _).trans hc2))
          obtain ⟨c1, c2, ⟨u3, c3⟩, ⟨u4, c4⟩, ⟨u5, c5⟩, f3, f4, f5⟩ := HB2.out.cells
          clear hc2 HP a0 a1 a2 a3 a4
          go_wp2
          obtain ⟨g3, g4, g5, gc⟩ := HB2.out.stored 0 0 1
          refine ⟨.tuple #[.int .i64 0, .int .i64 0, .int .i64 1], by simp [results, Try.results17, go_sem, g3, g4, g5], 0, 0, 1, D, rfl, ?_, ?_, .arg (by rw [HGB.out]; simp)⟩
          · exact (HD.out.chgNo (HC2.out.then gc (fun i hi hT => by have := hT.1; have := HBE.out; omega))).at_
          · exact (HC2.out.then gc (fun i hi hT => by have := hT.1; have := HBE.out; omega)).mono (fun _ _ h => h.elim)
        | true =>
          have HP := fun W => Lib.hid (put_good x W hgx)
          have HGT : Hid (goods (l.take (k + 1)) = true) := by show _ = _; rw [goods_take HX.out, H.out.1.2.1, hgx]; rfl
          have hxs : x.size ≤ 1306 := by have := record_le x hgx; rwa [record_length] at this
          obtain ⟨rl, hrl0⟩ : ∃ rl, rl = (record x).length := ⟨_, rfl⟩
          have hrl1 : rl = x.size := by rw [hrl0, record_length]
          have HRL := Lib.hid hrl0
          have hnbl : nb ≤ 1306 * k := by
            rw [H.out.2.1]
            have hgf : goods (l.take f) = true := by
              have := H.out.1.2.1
              rw [show l.take f = (l.take k).take f from by rw [List.take_take, Nat.min_eq_left hfk]]
              unfold goods at this ⊢
              rw [List.all_eq_true] at this ⊢
              exact fun y hy => this y (List.mem_of_mem_take hy)
            have := records_le _ hgf
            rw [List.length_take] at this
            have h2 : min f l.length ≤ k := by omega
            exact Nat.le_trans this (Nat.mul_le_mul_left _ h2)
          have HFT := Lib.hid (fit_take room HX.out (by have := HLN.out; omega))
          have hrl2 : rl ≤ 1306 := by omega
          have HRS := Lib.hid hrl1
          have hw1 : IntKind.i64.wrap ((nb : Int) + (rl : Int)) = (nb : Int) + (rl : Int) := IntWalk.i64_in _ (by omega)
          have HH := Lib.hid H.out.1.1
          clear hgx hrl0 hrl1 hxs
          rw [← HRL.out] at HP
          by_cases hfe : f = k
          · obtain rfl : f = k := hfe
            have HNB : Hid (nb = isum (l.take f)) := by show _ = _; rw [H.out.2.1, isum_records]
            by_cases hfit : ((nb + rl : Nat) : Int) ≤ room
            · have hb1 : decide ((nb : Int) + (rl : Int) ≤ 376 * (pg : Int)) = true := by have := HRM.out; simp; omega
              have hb2 : (nb : Int) + (rl : Int) ≤ 376 * (pg : Int) := by have := HRM.out; omega
              have HF2 : Hid (fitI room 0 (l.take (f + 1)) = f + 1) := by
                show _ = _
                rw [HFT.out, if_pos ⟨HH.out.symm, by rw [← HNB.out, ← HRS.out]; exact hfit⟩]
              clear hfit
              go_wp2_with fail
              refine (HP _).out.mono ?_
              rintro e w2 ⟨v2, rfl, ho2, hc2⟩
              have HC2 : Hid (Chg No w w2) := (H.out.2.2.1.alloc _).trans hc2
              have HB2 := Lib.hid (H.out.2.2.2.chgNo ((by (repeat (first | (with_reducible exact Chg.refl _ _) | (with_reducible assumption) | (with_reducible refine Chg.drewN ?_ _) | (with_reducible refine Chg.drew ?_) | (with_reducible refine Chg.alloc ?_ _) | (with_reducible refine Chg.setCell ?_ (by first | (left; simp [DevH.foot]; done) | (right; simp; done) | (right; simp; omega)) _))) : Chg No wr _).trans hc2))
              obtain ⟨Ar, cr, rfl, hncr, hrdr⟩ := own_slice ho2
              have HRR := Lib.hid hrdr
              have HO2 := Lib.hid (own_chg H.out.1.2.2 ((by (repeat (first | (with_reducible exact Chg.refl _ _) | (with_reducible assumption) | (with_reducible refine Chg.drewN ?_ _) | (with_reducible refine Chg.drew ?_) | (with_reducible refine Chg.alloc ?_ _) | (with_reducible refine Chg.setCell ?_ (by first | (left; simp [DevH.foot]; done) | (right; simp; done) | (right; simp; omega)) _))) : Chg No wr _).trans hc2) (fun _ _ h => h))
              rw [← H.out.2.1] at HO2
              clear hc2 HP a0 a1 a2 a3 a4 ho2 hrdr
              go_wp2_with (first
                | (at_builtin; go_loud (refine wpList_app _ rfl (.tmp 53) (.tmp 54) tBytes rfl tU8 Try.underlying40 ti_u8 rfl (by omega) B _ nb _ rfl HO2.out tU8 Ar rl cr (bys (record x)) rfl HRR.out bys_one_cell (by simp only [maxLen]; omega) (by omega) (by have h1 := HC2.out.size; have h2 := HBE.out; omega) ?_); intro v3 w3 ho3 hg3 hb3; have HO3 := Lib.hid ho3; have HG3 := Lib.hid hg3; clear ho3 hg3 hb3))
              obtain ⟨A3, c3, rfl, hnc3, _⟩ := own_slice HO3.out
              have HC3 : Hid (Chg No w w3) := HC2.out.grown HG3.out (fun k' hk' => .inr (by have h1 := own_new HO2.out k' hk'; have h2 := HBE.out; omega))
              have HB3 : Hid (DBox B h first w3) := by
                refine HB2.out.keep (Chg.grown (Chg.refl (fun i => (Value.slice Ab nb cb).ownBlock = some i) w2) HG3.out (fun k' hk' => .inl hk')) ?_
                intro g cs T hT hb hs
                exact own_other HO2.out hb hT hs
              go_roundg (n - (f + 1))
              case measure => omega
              case rel =>
                refine ⟨f + 1, f + 1, A3, nb + rl, c3, by go_num, by omega, rfl, rfl, by go_num, by simp, Nat.le_refl _, ⟨⟨HF2.out.symm, HGT.out, ?_⟩, ?_, HC3.out, HB3.out⟩⟩
                · have he : records (l.take (f + 1)) = records (l.take f) ++ record x := by rw [List.take_add_one, HX.out, Option.toList, records_snoc]
                  have := HO3.out
                  rw [he, bys_append, List.length_append, ← HRL.out, ← H.out.2.1]
                  exact this
                · rw [List.take_add_one, HX.out, Option.toList, records_snoc, List.length_append, ← HRL.out, ← H.out.2.1]
            · have hb1 : decide ((nb : Int) + (rl : Int) ≤ 376 * (pg : Int)) = false := by have := HRM.out; simp; omega
              have hb2 : ¬ (nb : Int) + (rl : Int) ≤ 376 * (pg : Int) := by have := HRM.out; omega
              have HF2 : Hid (fitI room 0 (l.take (f + 1)) = f) := by
                show _ = _
                rw [HFT.out, if_neg (fun hh => hfit (by have := hh.2; rw [← HNB.out, ← HRS.out] at this; exact this))]
                exact HH.out.symm
              clear hfit
              go_wp2_with fail
              refine (HP _).out.mono ?_
              rintro e w2 ⟨v2, rfl, ho2, hc2⟩
              have HC2 : Hid (Chg No w w2) := (H.out.2.2.1.alloc _).trans hc2
              have HB2 := Lib.hid (H.out.2.2.2.chgNo ((by (repeat (first | (with_reducible exact Chg.refl _ _) | (with_reducible assumption) | (with_reducible refine Chg.drewN ?_ _) | (with_reducible refine Chg.drew ?_) | (with_reducible refine Chg.alloc ?_ _) | (with_reducible refine Chg.setCell ?_ (by first | (left; simp [DevH.foot]; done) | (right; simp; done) | (right; simp; omega)) _))) : Chg No wr _).trans hc2))
              obtain ⟨Ar, cr, rfl, hncr, _⟩ := own_slice ho2
              have HO2 := Lib.hid (own_chg H.out.1.2.2 ((by (repeat (first | (with_reducible exact Chg.refl _ _) | (with_reducible assumption) | (with_reducible refine Chg.drewN ?_ _) | (with_reducible refine Chg.drew ?_) | (with_reducible refine Chg.alloc ?_ _) | (with_reducible refine Chg.setCell ?_ (by first | (left; simp [DevH.foot]; done) | (right; simp; done) | (right; simp; omega)) _))) : Chg No wr _).trans hc2) (fun _ _ h => h))
              clear hc2 HP a0 a1 a2 a3 a4 ho2
              go_wp2
              go_roundg (n - (f + 1))
              case measure => omega
              case rel =>
                exact ⟨f + 1, f, Ab, nb, cb, rfl, by omega, rfl, rfl, rfl, by rw [decide_eq_false (by omega)], by omega, ⟨⟨HF2.out.symm, HGT.out, HO2.out⟩, H.out.2.1, HC2.out, HB2.out⟩⟩
          · have HF2 : Hid (fitI room 0 (l.take (k + 1)) = f) := by
              show _ = _
              rw [HFT.out, if_neg (fun hh => hfe (by have := hh.1; rw [← HH.out] at this; exact this))]
              exact HH.out.symm
            have hb1 : decide (f = k) = false := by simpa using hfe
            go_wp2_with fail
            refine (HP _).out.mono ?_
            rintro e w2 ⟨v2, rfl, ho2, hc2⟩
            have HC2 : Hid (Chg No w w2) := (H.out.2.2.1.alloc _).trans hc2
            have HB2 := Lib.hid (H.out.2.2.2.chgNo ((by (repeat (first | (with_reducible exact Chg.refl _ _) | (with_reducible assumption) | (with_reducible refine Chg.drewN ?_ _) | (with_reducible refine Chg.drew ?_) | (with_reducible refine Chg.alloc ?_ _) | (with_reducible refine Chg.setCell ?_ (by first | (left; simp [DevH.foot]; done) | (right; simp; done) | (right; simp; omega)) _))) : Chg No wr _).trans hc2))
            obtain ⟨Ar, cr, rfl, hncr, _⟩ := own_slice ho2
            have HO2 := Lib.hid (own_chg H.out.1.2.2 ((by (repeat (first | (with_reducible exact Chg.refl _ _) | (with_reducible assumption) | (with_reducible refine Chg.drewN ?_ _) | (with_reducible refine Chg.drew ?_) | (with_reducible refine Chg.alloc ?_ _) | (with_reducible refine Chg.setCell ?_ (by first | (left; simp [DevH.foot]; done) | (right; simp; done) | (right; simp; omega)) _))) : Chg No wr _).trans hc2) (fun _ _ h => h))
            clear hc2 HP a0 a1 a2 a3 a4 ho2
            go_wp2
            go_roundg (n - (k + 1))
            case measure => omega
            case rel =>
              exact ⟨k + 1, f, Ab, nb, cb, rfl, by omega, rfl, rfl, rfl, by rw [decide_eq_false (by omega)], by omega, ⟨⟨HF2.out.symm, HGT.out, HO2.out⟩, H.out.2.1, HC2.out, HB2.out⟩⟩
      · obtain rfl : k = n := by omega
        have HL : Hid (l.take k = l) := List.take_of_length_le (by have := HLN.out; omega)
        have hgl : goods l = true := by have := H.out.1.2.1; rwa [HL.out] at this
        have hfl : f = fitI room 0 l := by have := H.out.1.1; rwa [HL.out] at this
        have HGL := Lib.hid hgl
        have HFL := Lib.hid hfl
        have hnbl : nb ≤ 1306 * k := by
          rw [H.out.2.1]
          have hgf : goods (l.take f) = true := by
            unfold goods at hgl ⊢
            rw [List.all_eq_true] at hgl ⊢
            exact fun y hy => hgl y (List.mem_of_mem_take hy)
          have := records_le _ hgf
          rw [List.length_take] at this
          have h2 : min f l.length ≤ k := by omega
          exact Nat.le_trans this (Nat.mul_le_mul_left _ h2)
        clear hgl hfl h0 HR
        obtain ⟨b, hb⟩ : ∃ b, b = records (l.take f) := ⟨_, rfl⟩
        have HBB := Lib.hid hb
        obtain ⟨G, hG⟩ : ∃ G, G = wr.heap.size := ⟨_, rfl⟩
        have HGW := Lib.hid hG
        have ho := H.out.1.2.2
        have hnbb := H.out.2.1
        rw [← hb] at ho hnbb
        have HO := Lib.hid ho
        have HNB := Lib.hid hnbb
        have HC := Lib.hid H.out.2.2.1
        have HDB := Lib.hid H.out.2.2.2
        have HBG : Hid (B + 1 + 1 + 1 + 1 < G) := by
          obtain ⟨u3, h3⟩ := H.out.2.2.2.r3
          show _ < _
          rw [hG]; exact h3.lt
        clear ho hnbb hb H HC1 HB hG
        go_wp2_with fail
        refine (chunk_calls Ab nb cb _).mono ?_
        rintro e w' ⟨rfl, rfl⟩
        go_wp2_with fail
        rw [← HGW.out]
        refine wp_slots (fun Y => { tmps := #[.pointer (some ⟨h.d, 0, none⟩), .int .i64 first, .int .i64 pg, .slice A k c, .pointer (some ⟨B, 0, none⟩), .pointer (some ⟨B + 1, 0, none⟩), Y 6, Y 7, .pointer (some ⟨B + 1 + 1, 0, none⟩), .pointer (some ⟨B + 1 + 1 + 1, 0, none⟩), .pointer (some ⟨B + 1 + 1 + 1 + 1, 0, none⟩), .slice Ab nb cb, .int .i64 f, Y 13, Y 14, Y 15, Y 16, Y 17, .pointer (some ⟨G, 0, none⟩), Y 19, Y 20, Y 21, Y 22, Y 23, Y 24, Y 25, Y 26, Y 27, Y 28, Y 29, Y 30, Y 31, Y 32, Y 33, Y 34, Y 35, Y 36, Y 37, Y 38, Y 39, Y 40, Y 41, Y 42, Y 43, Y 44, Y 45, Y 46, Y 47, Y 48, Y 49, Y 50, Y 51, Y 52, Y 53, Y 54, Y 55, Y 56, Y 57, Y 58, Y 59, .func (.func 87) #[] #[.pointer (some ⟨G + 1, 0, none⟩), .pointer (some ⟨G + 1 + 1, 0, none⟩)], Y 61, Y 62, Y 63, Y 64, Y 65, Y 66, Y 67, Y 68, Y 69, Y 70, Y 71, Y 72, Y 73, Y 74, Y 75, Y 76, Y 77, Y 78, Y 79, Y 80, Y 81, Y 82, Y 83, Y 84, Y 85, Y 86, Y 87, Y 88, Y 89], defers := [] }) (fun V => Hid (Chg No w V ∧ DBox B h first V ∧ Blk V G tInt0 #[.int .i64 0] ∧ Blk V (G + 1) tBytes #[.slice Ab nb cb] ∧ Blk V (G + 1 + 1) tInt0 #[.int .i64 376] ∧ V.ownsRow B tU8 1 (.slice Ab nb cb) b.length (bys b) ∧ w.heap.size ≤ G)) rfl ?_ ?_
        · have h1 := Blk.new wr tInt0 #[.int .i64 0]
          have h2 := Blk.new (wr.alloc (.cells #[.int .i64 0] tInt0)) tBytes #[.slice Ab nb cb]
          have h3 := Blk.new ((wr.alloc (.cells #[.int .i64 0] tInt0)).alloc (.cells #[.slice Ab nb cb] tBytes)) tInt0 #[.int .i64 376]
          simp only [World.size_alloc] at h1 h2 h3
          rw [← HGW.out] at h1 h2 h3
          refine ⟨by have := HC.out; (repeat (first | (with_reducible exact Chg.refl _ _) | (with_reducible assumption) | (with_reducible refine Chg.drewN ?_ _) | (with_reducible refine Chg.drew ?_) | (with_reducible refine Chg.alloc ?_ _) | (with_reducible refine Chg.setCell ?_ (by first | (left; simp [DevH.foot]; done) | (right; simp; done) | (right; simp; omega)) _))), HDB.out.chgNo (by (repeat (first | (with_reducible exact Chg.refl _ _) | (with_reducible assumption) | (with_reducible refine Chg.drewN ?_ _) | (with_reducible refine Chg.drew ?_) | (with_reducible refine Chg.alloc ?_ _) | (with_reducible refine Chg.setCell ?_ (by first | (left; simp [DevH.foot]; done) | (right; simp; done) | (right; simp; omega)) _)))), (h1.alloc _).alloc _, h2.alloc _, h3, ?_, by rw [HGW.out]; exact HC.out.size⟩
          have := ((HO.out.alloc (.cells #[.int .i64 0] tInt0)).alloc (.cells #[.slice Ab nb cb] tBytes)).alloc (.cells #[.int .i64 376] tInt0)
          rw [HNB.out] at this
          rw [HNB.out]
          exact this
        · intro Y V HV
          clear HC HDB HO
          have hbn : b.length = nb := HNB.out.symm
          have hVB := HV.out
          obtain ⟨hv1, hv2, hv3, hv4, hv5, hv6, hv7⟩ := hVB
          have hGs : G + 1 < V.heap.size := hv4.lt
          have hGn : G + 1 + 1 < V.heap.size := hv5.lt
          have hlc : nb ≤ cb := by
            obtain ⟨A9, c9, e9, h9, _⟩ := own_slice hv6
            injection e9 with e1 e2 e3
            omega
          have hnbl2 : nb ≤ 1306000 := by omega
          have hrd : Rd V tU8 Ab nb (bys b) := by
            rw [hbn] at hv6
            have := Rd.ofOwn hv6
            rwa [Nat.mul_one] at this
          have HFL2 : Hid (∀ k, h.foot k → k < V.heap.size) := fun k hk => dev_foot_lt (HD.out.chgNo hv1) hk
          have hwV := hv1.size
          refine (wpIn_wide (n := 9)).1 ?_
          refine wpIn_rangeFunc_ownG (F := Fence.wide) (n := 9) rfl (by decide) (gf := 87) (lb := #[.pointer (some ⟨G + 1, 0, none⟩), .pointer (some ⟨G + 1 + 1, 0, none⟩)]) rfl trivial (enters_of Try.func87 (by kernel_rfl) rfl)
            (chunk_stops 8 (G + 1) (G + 1 + 1) Ab nb cb hlc (by omega) V hGs hGn (hv4.cell 0) (hv5.cell 0)) ?kt ?kb (Below.refl _ _) (fun _ => rfl)
            (fun (pre : List (CkIx nb)) U => DumpMid D first b h B G Ab nb cb w pre U)
            (fun cd (pre : List (CkIx nb)) U => DumpCut D first b h B w cd pre U) ?own ?ownx ?start
            (fun x => { tmps := #[.pointer (some ⟨h.d, 0, none⟩), .int .i64 first, .int .i64 pg, .slice A k c, .pointer (some ⟨B, 0, none⟩), .pointer (some ⟨B + 1, 0, none⟩), Y 6, Y 7, .pointer (some ⟨B + 1 + 1, 0, none⟩), .pointer (some ⟨B + 1 + 1 + 1, 0, none⟩), .pointer (some ⟨B + 1 + 1 + 1 + 1, 0, none⟩), .slice Ab nb cb, .int .i64 f, Y 13, Y 14, Y 15, Y 16, Y 17, .pointer (some ⟨G, 0, none⟩), (ckV Ab nb x.1), Y 20, Y 21, Y 22, Y 23, Y 24, Y 25, Y 26, Y 27, Y 28, Y 29, Y 30, Y 31, Y 32, Y 33, Y 34, Y 35, Y 36, Y 37, Y 38, Y 39, Y 40, Y 41, Y 42, Y 43, Y 44, Y 45, Y 46, Y 47, Y 48, Y 49, Y 50, Y 51, Y 52, Y 53, Y 54, Y 55, Y 56, Y 57, Y 58, Y 59, .func (.func 87) #[] #[.pointer (some ⟨G + 1, 0, none⟩), .pointer (some ⟨G + 1 + 1, 0, none⟩)], (ckV Ab nb x.1), Y 62, Y 63, Y 64, Y 65, Y 66, Y 67, Y 68, Y 69, Y 70, Y 71, Y 72, Y 73, Y 74, Y 75, Y 76, Y 77, Y 78, Y 79, Y 80, Y 81, Y 82, Y 83, Y 84, Y 85, Y 86, Y 87, Y 88, Y 89], defers := [] }) ?assign ?body ?done ?stop
          case kt => exact fun h1 h2 => ⟨h2.1.trans h1.1, h2.2.trans h1.2⟩
          case kb => exact fun U l o o' hl _ _ _ => ⟨World.putObj_heap_other (by omega), World.putObj_heap_other (by omega)⟩
          case own =>
            intro pre U U' row hs hg hr
            have hr2 : ∀ r, row = some r → ∃ o : Obj, U.heap[r]? = some o ∧ o.isCells = false := fun r e => (hr r e).2
            exact ⟨dev_row hs.dev hg (fun r e => ⟨fun hk => by have := HFL2.out r hk; have := (hr r e).1; omega, (hr r e).2⟩), hs.ok, dbox_row hg hr2 hs.box, blk_row hg hr2 hs.cnt, blk_row hg hr2 hs.b1, blk_row hg hr2 hs.b2, rd_row hg hr2 hs.rd,
              hs.chg.grown hg (fun r e => .inr (by have := (hr r e).1; omega))⟩
          case ownx =>
            intro cd pre U U' row hs hg hr
            have hr2 : ∀ r, row = some r → ∃ o : Obj, U.heap[r]? = some o ∧ o.isCells = false := fun r e => (hr r e).2
            obtain ⟨l, x, q1, q2, q3, q4, q5, q6, q7⟩ := hs.cut
            exact ⟨hs.ret, ⟨l, x, q1, q2, q3, dev_row q4 hg (fun r e => ⟨fun hk => by have := HFL2.out r hk; have := (hr r e).1; omega, (hr r e).2⟩), blk_row hg hr2 q5, blk_row hg hr2 q6, blk_row hg hr2 q7⟩, hs.chg.grown hg (fun r e => .inr (by have := (hr r e).1; omega))⟩
          case start =>
            exact ⟨(HD.out.chgNo hv1).at_, putOk_nil _ _ _, hv2, hv3, hv4, hv5, hrd, hv1.mono (fun _ _ h => h.elim)⟩
          case assign =>
            intro lp x U K hK
            gi_wp2
            exact hK
          case body =>
            intro lp pre x U hI hlen
            have HI := Lib.hid hI
            obtain ⟨A', m, hcv, hml, hm0, hrc⟩ := ckV_rd hI.rd hbn x.2
            obtain ⟨cv, hcv0⟩ : ∃ cv, cv = ckV Ab nb x.1 := ⟨_, rfl⟩
            rw [← hcv0]
            rw [← hcv0] at hcv
            have HCV := Lib.hid hcv0
            obtain ⟨j, hj⟩ : ∃ j, j = pre.length := ⟨_, rfl⟩
            have HPL : Hid (pre.length = j) := hj.symm
            have HML := Lib.hid hml
            have HRC := Lib.hid hrc
            have hm376 : m ≤ 376 := by rw [hml, ck_len]; omega
            have hj2 : j < 1306000 := by rw [hj]; have := hlen; unfold ckN at this; omega
            obtain ⟨hf1, hf2⟩ := HF.out
            have e1 : IntKind.u64.wrap (m : Int) = (m : Int) := wraps_u64 _ (by omega) (by omega)
            have e2 : IntKind.u64.wrap (j : Int) = (j : Int) := wraps_u64 _ (by omega) (by omega)
            have e3 : IntKind.i64.wrap (first + (j : Int)) = first + (j : Int) := IntWalk.i64_in _ (by omega)
            clear hI hcv0 hml hrc hj hlen
            subst hcv
            gi_wp2
            refine wpIn_region_inv (by kernel_rfl) (fun L a W' => ∃ (b0 b1 b2 b3 b4 b5 b6 b7 b8 : Bool) (x0 x1 x2 x3 x4 x5 x6 x7 x8 : Value), L = #[b0, b1, b2, b3, b4, b5, b6, b7, b8] ∧ a = { tmps := #[.pointer (some ⟨h.d, 0, none⟩), .int .i64 first, .int .i64 pg, .slice A k c, .pointer (some ⟨B, 0, none⟩), .pointer (some ⟨B + 1, 0, none⟩), Y 6, Y 7, .pointer (some ⟨B + 1 + 1, 0, none⟩), .pointer (some ⟨B + 1 + 1 + 1, 0, none⟩), .pointer (some ⟨B + 1 + 1 + 1 + 1, 0, none⟩), .slice Ab nb cb, .int .i64 f, Y 13, Y 14, Y 15, Y 16, Y 17, .pointer (some ⟨G, 0, none⟩), (.slice A' m m), x8, Y 21, Y 22, Y 23, Y 24, Y 25, Y 26, Y 27, Y 28, Y 29, Y 30, Y 31, Y 32, Y 33, Y 34, Y 35, Y 36, Y 37, Y 38, Y 39, Y 40, Y 41, Y 42, Y 43, Y 44, Y 45, Y 46, Y 47, Y 48, Y 49, Y 50, Y 51, Y 52, Y 53, Y 54, Y 55, Y 56, Y 57, Y 58, Y 59, .func (.func 87) #[] #[.pointer (some ⟨G + 1, 0, none⟩), .pointer (some ⟨G + 1 + 1, 0, none⟩)], (.slice A' m m), x0, x1, x2, x3, x4, x5, x6, x7, Y 70, Y 71, Y 72, Y 73, Y 74, Y 75, Y 76, Y 77, Y 78, Y 79, Y 80, Y 81, Y 82, Y 83, Y 84, Y 85, Y 86, Y 87, Y 88, Y 89], defers := [] } ∧ Hid (S19 U (.slice A' m m) m j b0 b1 b2 b3 b4 b5 b6 b7 b8 x0 x1 x2 x3 x4 x5 x6 x7 x8 W')) (by kernel_rfl) (by rintro L a W' ⟨b0, b1, b2, b3, b4, b5, b6, b7, b8, x0, x1, x2, x3, x4, x5, x6, x7, x8, rfl, _⟩; rfl) ?init19 ?step19 ?end19
            case init19 => exact ⟨false, false, false, false, false, false, false, false, false, Y 62, Y 63, Y 64, Y 65, Y 66, Y 67, Y 68, Y 69, Y 20, rfl, rfl, ⟨(Chg.refl _ _).drew, fun h => (by cases h), fun h => (by cases h), fun h => (by cases h), fun h => (by cases h), fun h => (by cases h), fun h => (by cases h), fun h => (by cases h), fun h => (by cases h), fun h => (by cases h), fun h => (by cases h), fun h => (by cases h)⟩⟩
            case step19 =>
              rintro L a W' ⟨b0, b1, b2, b3, b4, b5, b6, b7, b8, x0, x1, x2, x3, x4, x5, x6, x7, x8, rfl, rfl, HS⟩ i o ho hl ha
              have hi9 : i < 9 := (Array.getElem?_eq_some_iff.1 ho).1
              obtain rfl | rfl | rfl | rfl | rfl | rfl | rfl | rfl | rfl : i = 0 ∨ i = 1 ∨ i = 2 ∨ i = 3 ∨ i = 4 ∨ i = 5 ∨ i = 6 ∨ i = 7 ∨ i = 8 := by omega
              all_goals
                have ho' := Option.some.inj ho
                subst ho'
                clear ho hi9
              · obtain rfl : b0 = false := hl
                refine wpOpIn_step rfl (fun K hK => ?_)
                go_simp
                refine ⟨trivial, (CallsIn.inRound lp (callsIn_wide.2 (magic_calls W'))).mono ?_⟩
                rintro e w1 ⟨rfl, rfl⟩
                refine hK _ _ ?_
                clear hK K
                exact ⟨true, b1, b2, b3, b4, b5, b6, b7, b8, _, _, _, _, _, _, _, _, _, rfl, rfl, ⟨HS.out.c.alloc _, fun _ _ => own_base (own_cells W' tU8 #[.int .u8 73, .int .u8 77] 2 rfl (by decide)) HS.out.c.size, HS.out.h1, HS.out.h2, HS.out.h3, fun h _ => (by have := HS.out.e4 h; cases this), HS.out.h5, HS.out.h6, fun h => (by have := HS.out.e4 (HS.out.e7 h); cases this), HS.out.h8, fun _ => rfl, HS.out.e7⟩⟩
              · obtain rfl : b1 = false := hl
                refine wpOpIn_step rfl (fun K hK => ?_)
                go_simp
                refine hK _ _ ?_
                clear hK K
                exact ⟨b0, true, b2, b3, b4, b5, b6, b7, b8, _, _, _, _, _, _, _, _, _, rfl, rfl, ⟨HS.out.c, HS.out.h0, fun _ => rfl, HS.out.h2, HS.out.h3, HS.out.h4, HS.out.h5, HS.out.h6, HS.out.h7, HS.out.h8, HS.out.e4, HS.out.e7⟩⟩
              · obtain rfl : b2 = false := hl
                obtain rfl : b1 = true := ha ⟨1, .data⟩ (by simp) rfl
                obtain rfl := HS.out.h1 rfl
                refine wpOpIn_step rfl (fun K hK => ?_)
                go_simp
                refine hK _ _ ?_
                clear hK K
                exact ⟨b0, true, true, b3, b4, b5, b6, b7, b8, _, _, _, _, _, _, _, _, _, rfl, rfl, ⟨HS.out.c, HS.out.h0, HS.out.h1, fun _ => rfl, HS.out.h3, HS.out.h4, HS.out.h5, HS.out.h6, HS.out.h7, HS.out.h8, HS.out.e4, HS.out.e7⟩⟩
              · obtain rfl : b3 = false := hl
                obtain rfl : b2 = true := ha ⟨2, .data⟩ (by simp) rfl
                obtain rfl := HS.out.h2 rfl
                refine wpOpIn_step rfl (fun K hK => ?_)
                go_simp
                refine hK _ _ ?_
                clear hK K
                exact ⟨b0, b1, true, true, b4, b5, b6, b7, b8, _, _, _, _, _, _, _, _, _, rfl, rfl, ⟨HS.out.c, HS.out.h0, HS.out.h1, HS.out.h2, fun _ => rfl, HS.out.h4, HS.out.h5, HS.out.h6, HS.out.h7, HS.out.h8, HS.out.e4, HS.out.e7⟩⟩
              · obtain rfl : b4 = false := hl
                obtain rfl : b0 = true := ha ⟨0, .data⟩ (by simp) rfl
                obtain rfl : b3 = true := ha ⟨3, .data⟩ (by simp) rfl
                obtain rfl := HS.out.h3 rfl
                have hadd := Lib.hid (iadd_callsI x0 U.heap.size 2 (bys [73, 77]) (m : Int) 2 W' (HS.out.h0 rfl rfl) HS.out.c.size (by omega) (by omega) (by omega) (by omega) (by omega))
                refine wpOpIn_step rfl (fun K hK => ?_)
                go_simp
                refine ⟨trivial, (CallsIn.inRound lp (callsIn_wide.2 hadd.out)).mono ?_⟩
                rintro e w1 ⟨v1, rfl, ho1, hc1⟩
                refine hK _ _ ?_
                clear hK K
                exact ⟨true, b1, b2, true, true, b5, b6, b7, b8, _, _, _, _, _, _, _, _, _, rfl, rfl, ⟨HS.out.c.then hc1 (fun i hi hT => (by have : U.heap.size ≤ i := hT; omega)), fun _ h => (by cases h), HS.out.h1, HS.out.h2, HS.out.h3, fun _ _ => (by have := ho1; simp only [← bys_append] at this; exact this), HS.out.h5, HS.out.h6, fun h => (by have := HS.out.e7 h; cases this), HS.out.h8, fun _ => rfl, fun _ => rfl⟩⟩
              · obtain rfl : b5 = false := hl
                have hcn := (HI.out.cnt.chg HS.out.c (fun h => h)).cell 0
                simp at hcn
                rw [HPL.out] at hcn
                refine wpOpIn_step rfl (fun K hK => ?_)
                go_simp
                refine hK _ _ ?_
                clear hK K
                exact ⟨b0, b1, b2, b3, b4, true, b6, b7, b8, _, _, _, _, _, _, _, _, _, rfl, rfl, ⟨HS.out.c, HS.out.h0, HS.out.h1, HS.out.h2, HS.out.h3, HS.out.h4, fun _ => rfl, HS.out.h6, HS.out.h7, HS.out.h8, HS.out.e4, HS.out.e7⟩⟩
              · obtain rfl : b6 = false := hl
                obtain rfl : b5 = true := ha ⟨5, .data⟩ (by simp) rfl
                obtain rfl := HS.out.h5 rfl
                refine wpOpIn_step rfl (fun K hK => ?_)
                go_simp
                refine hK _ _ ?_
                clear hK K
                exact ⟨b0, b1, b2, b3, b4, true, true, b7, b8, _, _, _, _, _, _, _, _, _, rfl, rfl, ⟨HS.out.c, HS.out.h0, HS.out.h1, HS.out.h2, HS.out.h3, HS.out.h4, HS.out.h5, fun _ => rfl, HS.out.h7, HS.out.h8, HS.out.e4, HS.out.e7⟩⟩
              · obtain rfl : b7 = false := hl
                obtain rfl : b4 = true := ha ⟨4, .data⟩ (by simp) rfl
                obtain rfl : b6 = true := ha ⟨6, .data⟩ (by simp) rfl
                obtain rfl := HS.out.h6 rfl
                have hadd := Lib.hid (iadd_callsI x4 U.heap.size 4 (bys ([73, 77] ++ le 2 m)) (j : Int) 4 W' (HS.out.h4 rfl rfl) HS.out.c.size (by omega) (by omega) (by omega) (by omega) (by omega))
                refine wpOpIn_step rfl (fun K hK => ?_)
                go_simp
                refine ⟨trivial, (CallsIn.inRound lp (callsIn_wide.2 hadd.out)).mono ?_⟩
                rintro e w1 ⟨v1, rfl, ho1, hc1⟩
                refine hK _ _ ?_
                clear hK K
                exact ⟨b0, b1, b2, b3, true, b5, true, true, b8, _, _, _, _, _, _, _, _, _, rfl, rfl, ⟨HS.out.c.then hc1 (fun i hi hT => (by have : U.heap.size ≤ i := hT; omega)), fun _ h => (by cases h), HS.out.h1, HS.out.h2, HS.out.h3, fun _ h => (by cases h), HS.out.h5, HS.out.h6, fun _ => (by have := ho1; simp only [← bys_append] at this; exact this), fun h => (by have := (HS.out.h8 h).2; cases this), fun _ => HS.out.e4 rfl, fun _ => rfl⟩⟩
              · obtain rfl : b8 = false := hl
                obtain rfl : b7 = true := ha ⟨7, .data⟩ (by simp) rfl
                refine wpOpIn_step rfl (fun K hK => ?_)
                go_simp
                refine hK _ _ ?_
                clear hK K
                exact ⟨b0, b1, b2, b3, b4, b5, b6, true, true, _, _, _, _, _, _, _, _, _, rfl, rfl, ⟨HS.out.c, HS.out.h0, HS.out.h1, HS.out.h2, HS.out.h3, HS.out.h4, HS.out.h5, HS.out.h6, HS.out.h7, fun _ => ⟨rfl, rfl⟩, HS.out.e4, HS.out.e7⟩⟩
            case end19 =>
              rintro L a W1 ⟨b0, b1, b2, b3, b4, b5, b6, b7, b8, x0, x1, x2, x3, x4, x5, x6, x7, x8, rfl, rfl, HS⟩ hall
              obtain rfl : b8 = true := hall 8 (by decide)
              obtain ⟨rfl, hb7⟩ := HS.out.h8 rfl
              have HXP := Lib.hid (HS.out.h7 hb7)
              have HC1 := Lib.hid HS.out.c
              clear HS hall hb7 b0 b1 b2 b3 b4 b5 b6 b7
              obtain ⟨xp, rfl⟩ : ∃ xp, xp = x8 := ⟨_, rfl⟩
              obtain ⟨q0, rfl⟩ : ∃ q0, q0 = x0 := ⟨_, rfl⟩
              obtain ⟨q1, rfl⟩ : ∃ q1, q1 = x1 := ⟨_, rfl⟩
              obtain ⟨q2, rfl⟩ : ∃ q2, q2 = x2 := ⟨_, rfl⟩
              obtain ⟨q3, rfl⟩ : ∃ q3, q3 = x3 := ⟨_, rfl⟩
              obtain ⟨q4, rfl⟩ : ∃ q4, q4 = x4 := ⟨_, rfl⟩
              obtain ⟨q5, rfl⟩ : ∃ q5, q5 = x5 := ⟨_, rfl⟩
              obtain ⟨q6, rfl⟩ : ∃ q6, q6 = x6 := ⟨_, rfl⟩
              gi_wp2
              refine wpIn_region_inv (by kernel_rfl) (fun L a W' => ∃ (b0 b1 b2 b3 b4 b5 b6 b7 b8 : Bool) (x0 x1 x2 x3 x4 x5 x6 x7 x8 : Value), L = #[b0, b1, b2, b3, b4, b5, b6, b7, b8] ∧ a = { tmps := #[.pointer (some ⟨h.d, 0, none⟩), .int .i64 first, .int .i64 pg, .slice A k c, .pointer (some ⟨B, 0, none⟩), .pointer (some ⟨B + 1, 0, none⟩), Y 6, Y 7, .pointer (some ⟨B + 1 + 1, 0, none⟩), .pointer (some ⟨B + 1 + 1 + 1, 0, none⟩), .pointer (some ⟨B + 1 + 1 + 1 + 1, 0, none⟩), .slice Ab nb cb, .int .i64 f, Y 13, Y 14, Y 15, Y 16, Y 17, .pointer (some ⟨G, 0, none⟩), (.slice A' m m), xp, x8, Y 22, Y 23, Y 24, Y 25, Y 26, Y 27, Y 28, Y 29, Y 30, Y 31, Y 32, Y 33, Y 34, Y 35, Y 36, Y 37, Y 38, Y 39, Y 40, Y 41, Y 42, Y 43, Y 44, Y 45, Y 46, Y 47, Y 48, Y 49, Y 50, Y 51, Y 52, Y 53, Y 54, Y 55, Y 56, Y 57, Y 58, Y 59, .func (.func 87) #[] #[.pointer (some ⟨G + 1, 0, none⟩), .pointer (some ⟨G + 1 + 1, 0, none⟩)], (.slice A' m m), q0, q1, q2, q3, q4, q5, q6, xp, x0, x1, x2, x3, x4, x5, x6, x7, Y 78, Y 79, Y 80, Y 81, Y 82, Y 83, Y 84, Y 85, Y 86, Y 87, Y 88, Y 89], defers := [] } ∧ Hid (S20 U h (D.putL first b (pre.map (·.1))) first xp (.slice A' m m) m j (ck b x.1) b0 b1 b2 b3 b4 b5 b6 b7 b8 x0 x1 x2 x3 x4 x5 x6 x7 x8 W')) (by kernel_rfl) (by rintro L a W' ⟨b0, b1, b2, b3, b4, b5, b6, b7, b8, x0, x1, x2, x3, x4, x5, x6, x7, x8, rfl, _⟩; rfl) ?init20 ?step20 ?end20
              case init20 => exact ⟨false, false, false, false, false, false, false, false, false, Y 70, Y 71, Y 72, Y 73, Y 74, Y 75, Y 76, Y 77, Y 21, rfl, rfl, ⟨fun h => (by cases h), fun h => (by cases h), fun h => (by cases h), fun h => (by cases h), fun h => (by cases h), fun h => (by cases h), fun _ => own_chg HXP.out ((Chg.refl No _).drew) (fun _ _ h => h), fun h => (by cases h), fun _ => HC1.out.drew, fun h => (by cases h), fun h => (by cases h), fun h => (by cases h), fun h => (by cases h), fun h => (by cases h), fun h => (by cases h), fun h => (by cases h)⟩⟩
              case step20 =>
                rintro L a W' ⟨b0, b1, b2, b3, b4, b5, b6, b7, b8, x0, x1, x2, x3, x4, x5, x6, x7, x8, rfl, rfl, HS⟩ i o ho hl ha
                have hi9 : i < 9 := (Array.getElem?_eq_some_iff.1 ho).1
                obtain rfl | rfl | rfl | rfl | rfl | rfl | rfl | rfl | rfl : i = 0 ∨ i = 1 ∨ i = 2 ∨ i = 3 ∨ i = 4 ∨ i = 5 ∨ i = 6 ∨ i = 7 ∨ i = 8 := by omega
                all_goals
                  have ho' := Option.some.inj ho
                  subst ho'
                  clear ho hi9
                · obtain rfl : b0 = false := hl
                  have hb7 : b7 = false := by
                    cases b7 with
                    | false => rfl
                    | true => exact absurd (HS.out.e70 rfl) (by simp)
                  obtain rfl := hb7
                  have hn7 := HS.out.n7 rfl
                  obtain ⟨c1, c2, _⟩ := (HI.out.box.chgNo hn7).cells
                  clear hn7
                  refine wpOpIn_step rfl (fun K hK => ?_)
                  go_simp
                  refine hK _ _ ?_
                  clear hK K
                  exact ⟨true, b1, b2, b3, b4, b5, b6, false, b8, _, _, _, _, _, _, _, _, _, rfl, rfl, ⟨fun _ => rfl, HS.out.h1, HS.out.h2, HS.out.h3, HS.out.h4, HS.out.h5, HS.out.hp, HS.out.h6, HS.out.n7, HS.out.h7, HS.out.h8, HS.out.e7, fun _ => rfl, HS.out.e73, HS.out.e31, HS.out.e32⟩⟩
                · obtain rfl : b1 = false := hl
                  have hb7 : b7 = false := by
                    cases b7 with
                    | false => rfl
                    | true => exact absurd (HS.out.e31 (HS.out.e73 rfl)) (by simp)
                  obtain rfl := hb7
                  have hn7 := HS.out.n7 rfl
                  obtain ⟨c1, c2, _⟩ := (HI.out.box.chgNo hn7).cells
                  clear hn7
                  refine wpOpIn_step rfl (fun K hK => ?_)
                  go_simp
                  refine hK _ _ ?_
                  clear hK K
                  exact ⟨b0, true, b2, b3, b4, b5, b6, false, b8, _, _, _, _, _, _, _, _, _, rfl, rfl, ⟨HS.out.h0, fun _ => rfl, HS.out.h2, HS.out.h3, HS.out.h4, HS.out.h5, HS.out.hp, HS.out.h6, HS.out.n7, HS.out.h7, HS.out.h8, HS.out.e7, HS.out.e70, HS.out.e73, fun _ => rfl, HS.out.e32⟩⟩
                · obtain rfl : b2 = false := hl
                  have hb7 : b7 = false := by
                    cases b7 with
                    | false => rfl
                    | true => exact absurd (HS.out.e32 (HS.out.e73 rfl)) (by simp)
                  obtain rfl := hb7
                  have hcn := (HI.out.cnt.chg (HS.out.n7 rfl) (fun h => h)).cell 0
                  simp at hcn
                  rw [HPL.out] at hcn
                  refine wpOpIn_step rfl (fun K hK => ?_)
                  go_simp
                  refine hK _ _ ?_
                  clear hK K
                  exact ⟨b0, b1, true, b3, b4, b5, b6, false, b8, _, _, _, _, _, _, _, _, _, rfl, rfl, ⟨HS.out.h0, HS.out.h1, fun _ => rfl, HS.out.h3, HS.out.h4, HS.out.h5, HS.out.hp, HS.out.h6, HS.out.n7, HS.out.h7, HS.out.h8, HS.out.e7, HS.out.e70, HS.out.e73, HS.out.e31, fun _ => rfl⟩⟩
                · obtain rfl : b3 = false := hl
                  obtain rfl : b1 = true := ha ⟨1, .data⟩ (by simp) rfl
                  obtain rfl : b2 = true := ha ⟨2, .data⟩ (by simp) rfl
                  obtain rfl := HS.out.h1 rfl
                  obtain rfl := HS.out.h2 rfl
                  refine wpOpIn_step rfl (fun K hK => ?_)
                  go_simp
                  refine hK _ _ ?_
                  clear hK K
                  exact ⟨b0, true, true, true, b4, b5, b6, b7, b8, _, _, _, _, _, _, _, _, _, rfl, rfl, ⟨HS.out.h0, HS.out.h1, HS.out.h2, fun _ => rfl, HS.out.h4, HS.out.h5, HS.out.hp, HS.out.h6, HS.out.n7, HS.out.h7, HS.out.h8, HS.out.e7, HS.out.e70, fun _ => rfl, fun _ => rfl, fun _ => rfl⟩⟩
                · obtain rfl : b4 = false := hl
                  refine wpOpIn_step rfl (fun K hK => ?_)
                  go_simp
                  refine hK _ _ ?_
                  clear hK K
                  exact ⟨b0, b1, b2, b3, true, b5, b6, b7, b8, _, _, _, _, _, _, _, _, _, rfl, rfl, ⟨HS.out.h0, HS.out.h1, HS.out.h2, HS.out.h3, fun _ => rfl, HS.out.h5, HS.out.hp, HS.out.h6, HS.out.n7, HS.out.h7, HS.out.h8, HS.out.e7, HS.out.e70, HS.out.e73, HS.out.e31, HS.out.e32⟩⟩
                · obtain rfl : b5 = false := hl
                  refine wpOpIn_step rfl (fun K hK => ?_)
                  go_simp
                  refine hK _ _ ?_
                  clear hK K
                  exact ⟨b0, b1, b2, b3, b4, true, b6, b7, b8, _, _, _, _, _, _, _, _, _, rfl, rfl, ⟨HS.out.h0, HS.out.h1, HS.out.h2, HS.out.h3, HS.out.h4, fun _ => rfl, HS.out.hp, HS.out.h6, HS.out.n7, HS.out.h7, HS.out.h8, HS.out.e7, HS.out.e70, HS.out.e73, HS.out.e31, HS.out.e32⟩⟩
                · obtain rfl : b6 = false := hl
                  obtain rfl : b4 = true := ha ⟨4, .data⟩ (by simp) rfl
                  obtain rfl : b5 = true := ha ⟨5, .data⟩ (by simp) rfl
                  have hb7 : b7 = false := by
                    cases b7 with
                    | false => rfl
                    | true => exact absurd (HS.out.e7 rfl) (by simp)
                  obtain rfl := hb7
                  have e4 := (HS.out.h4 rfl).symm
                  subst e4
                  obtain rfl := HS.out.h5 rfl
                  have hn7 := HS.out.n7 rfl
                  obtain ⟨v8, w8, hrun, ho8, hg8, _⟩ := run_app (P := Try.prog) W' U.heap.size 40 40 tU8 Try.underlying40 ti_u8 rfl (by omega) xp 8 _ (HS.out.hp rfl) tU8 A' m m (bys (ck b x.1)) (by rw [Nat.mul_one]; exact HRC.out.chg hn7 (fun _ _ _ _ h => h)) bys_one_cell (by simp only [maxLen]; omega) (by omega) hn7.size
                  have HO8 := Lib.hid ho8
                  have HC8 : Hid (Chg No U w8) := hn7.grown hg8 (fun k hk => .inr (own_new (HS.out.hp rfl) k hk))
                  clear ho8 hg8
                  refine wpOpIn_step rfl (fun K hK => ?_)
                  refine step_run_app rfl (.tmp 74) (.tmp 75) 40 rfl rfl rfl hrun ?_
                  refine hK _ _ ?_
                  clear hK K
                  exact ⟨b0, b1, b2, b3, true, true, true, false, b8, _, _, _, _, _, _, _, _, _, rfl, rfl, ⟨HS.out.h0, HS.out.h1, HS.out.h2, HS.out.h3, HS.out.h4, HS.out.h5, fun h => (by cases h), fun _ _ => (by rw [bys_append]; exact HO8.out), fun _ => HC8.out, fun h => (by cases h), fun h => (by have := (HS.out.h8 h).2; cases this), fun _ => rfl, HS.out.e70, HS.out.e73, HS.out.e31, HS.out.e32⟩⟩
                · obtain rfl : b7 = false := hl
                  obtain rfl : b0 = true := ha ⟨0, .data⟩ (by simp) rfl
                  obtain rfl : b3 = true := ha ⟨3, .data⟩ (by simp) rfl
                  obtain rfl : b6 = true := ha ⟨6, .data⟩ (by simp) rfl
                  obtain rfl := HS.out.h0 rfl
                  obtain rfl := HS.out.h3 rfl
                  have hn7 := HS.out.n7 rfl
                  obtain ⟨A6, c6, rfl, hnc6, hrd6⟩ := own_slice (HS.out.h6 rfl rfl)
                  rw [Nat.mul_one] at hrd6
                  have hwr := write_calls (HI.out.dev.chgNo hn7) (first + (j : Int)) A6 (8 + m) c6 (pgHead m j ++ ck b x.1) hrd6 (by omega)
                  rw [show (pgHead m j ++ ck b x.1).length = 8 + m from by rw [List.length_append, pgHead_len, ← HML.out]] at hwr
                  have HWR := Lib.hid hwr
                  have HN7 := Lib.hid hn7
                  clear hwr hn7 hrd6 hnc6
                  refine wpOpIn_step rfl (fun K hK => ?_)
                  go_simp
                  refine ⟨trivial, (CallsIn.inRound lp (callsIn_wide.2 HWR.out)).mono ?_⟩
                  rintro e w1 ⟨rfl, hd1, hc1⟩
                  refine hK _ _ ?_
                  clear hK K
                  exact ⟨true, b1, b2, true, b4, b5, true, true, b8, _, _, _, _, _, _, _, _, _, rfl, rfl, ⟨HS.out.h0, HS.out.h1, HS.out.h2, HS.out.h3, HS.out.h4, HS.out.h5, fun h => (by cases h), fun _ h => (by cases h), fun h => (by cases h), fun _ => ⟨rfl, hd1, (HN7.out.mono (fun _ _ h => h.elim)).trans hc1⟩, fun h => (by have := (HS.out.h8 h).2; cases this), fun _ => rfl, fun _ => rfl, fun _ => rfl, HS.out.e31, HS.out.e32⟩⟩
                · obtain rfl : b8 = false := hl
                  obtain rfl : b7 = true := ha ⟨7, .data⟩ (by simp) rfl
                  refine wpOpIn_step rfl (fun K hK => ?_)
                  go_simp
                  refine hK _ _ ?_
                  clear hK K
                  exact ⟨b0, b1, b2, b3, b4, b5, b6, true, true, _, _, _, _, _, _, _, _, _, rfl, rfl, ⟨HS.out.h0, HS.out.h1, HS.out.h2, HS.out.h3, HS.out.h4, HS.out.h5, HS.out.hp, HS.out.h6, HS.out.n7, HS.out.h7, fun _ => ⟨rfl, rfl⟩, HS.out.e7, HS.out.e70, HS.out.e73, HS.out.e31, HS.out.e32⟩⟩
              case end20 =>
                rintro L a W2 ⟨b0, b1, b2, b3, b4, b5, b6, b7, b8, x0, x1, x2, x3, x4, x5, x6, x7, x8, rfl, rfl, HS⟩ hall
                obtain rfl : b8 = true := hall 8 (by decide)
                obtain ⟨e8, hb7⟩ := HS.out.h8 rfl
                obtain ⟨e7, hd2, hc2⟩ := HS.out.h7 hb7
                rw [e7] at e8
                subst e8
                clear e7
                have hpx : pgHead m j ++ ck b x.1 = pgOf (ck b x.1) j := by unfold pgOf; rw [← HML.out]
                have hplen : (pre.map (·.1)).length = j := by rw [List.length_map]; exact HPL.out
                have hE : (D.putL first b (pre.map (·.1))).writeE (first + j) (8 + m) = D.putLE first b (pre.map (·.1)) x.1 := by
                  unfold Dev.putLE
                  rw [hplen, pgOf_len, ← HML.out]
                have hD2 : DevAt W2 h (D.putL first b (pre.map (·.1) ++ [x.1])) := by
                  rw [Dev.putL_snoc, hplen, ← hpx]; exact hd2
                rw [hE]
                obtain ⟨er, her⟩ : ∃ er, er = D.putLE first b (pre.map (·.1)) x.1 := ⟨_, rfl⟩
                rw [← her]
                have HER := Lib.hid her
                have HD2 := Lib.hid hD2
                have HC2 := Lib.hid hc2
                have hnG := DevN.not_foot HI.out.dev HI.out.cnt (by decide) (by decide)
                have HG2 := Lib.hid (HI.out.cnt.chg hc2 hnG)
                have HB2 := Lib.hid (HI.out.box.foot HI.out.dev hc2)
                have hcG := HG2.out.cell 0
                have hfG := HG2.out.frozen 0
                simp at hcG
                rw [HPL.out] at hcG
                obtain ⟨c1, c2, ⟨u3, c3⟩, ⟨u4, c4⟩, ⟨u5, c5⟩, f3, f4, f5⟩ := HB2.out.cells
                clear HS hall hb7 hpx hplen hE hD2 her hc2 hd2 hnG b0 b1 b2 b3 b4 b5 b6 b7
                have hmap : (pre ++ [x]).map (fun y : CkIx nb => y.1) = pre.map (·.1) ++ [x.1] := by rw [List.map_append]; rfl
                by_cases he0 : er = 0
                · subst he0
                  gi_wp2
                  have hW3 : Chg (fun i => i = G) W2 (W2.setCell ⟨G, 0, none⟩ (.int .i64 ((j : Int) + 1))) := chg_setCell W2 ⟨G, 0, none⟩ _
                  have hnb1 := DevN.not_foot HI.out.dev HI.out.b1 (by decide) (by decide)
                  have hnb2 := DevN.not_foot HI.out.dev HI.out.b2 (by decide) (by decide)
                  have hb1 := HI.out.b1.chg HC2.out hnb1
                  have hb2 := HI.out.b2.chg HC2.out hnb2
                  have hbg := HBG.out
                  obtain ⟨u1', r1'⟩ := HB2.out.r1
                  obtain ⟨u2', r2'⟩ := HB2.out.r2
                  obtain ⟨u3', r3'⟩ := HB2.out.r3
                  refine ⟨?_, ?_, ?_⟩
                  · refine KeepsFrom.trans (keeps_chg HC2.out (fun i hi hS => absurd (HFL2.out i hS) (by omega))) (keeps_chg hW3 ?_)
                    intro i _ hi
                    obtain rfl : G = i := hi.symm
                    exact ⟨_, _, HG2.out⟩
                  · exact ⟨(hW3.block _ hb1.lt (by show ¬ G + 1 = G; omega)).trans (HC2.out.block _ HI.out.b1.lt hnb1), (hW3.block _ hb2.lt (by show ¬ G + 1 + 1 = G; omega)).trans (HC2.out.block _ HI.out.b2.lt hnb2)⟩
                  · refine ⟨?_, ?_, ?_, ?_, hb1.chg hW3 (by show ¬ G + 1 = G; omega), hb2.chg hW3 (by show ¬ G + 1 + 1 = G; omega), ?_, ?_⟩
                    · rw [hmap]
                      refine dev_keep HD2.out hW3 (fun i hi => ?_)
                      obtain rfl : G = i := hi.symm
                      exact .inl ⟨_, _, HG2.out, by decide, by decide, by decide, by decide⟩
                    · rw [hmap]; exact putOk_snoc HI.out.ok HER.out.symm
                    · exact ⟨HB2.out.d.chg hW3 (by show ¬ B = G; omega), HB2.out.f.chg hW3 (by show ¬ B + 1 = G; omega), ⟨u1', r1'.chg hW3 (by show ¬ B + 1 + 1 = G; omega)⟩, ⟨u2', r2'.chg hW3 (by show ¬ B + 1 + 1 + 1 = G; omega)⟩, ⟨u3', r3'.chg hW3 (by show ¬ B + 1 + 1 + 1 + 1 = G; omega)⟩⟩
                    · have := HG2.out.set_ 0 (.int .i64 ((j : Int) + 1))
                      rw [List.length_append, HPL.out]
                      simpa using this
                    · refine (HI.out.rd.chg HC2.out (fun g cur fz hg => DevN.not_foot HI.out.dev hg (by decide) (by decide))).chg hW3 ?_
                      rintro g cur fz hg rfl
                      have := HG2.out
                      unfold Blk at this
                      rw [this] at hg
                      cases hg
                    · exact (HI.out.chg.trans HC2.out).setCell (.inr (by dsimp only; omega)) _
                · have hb0 : (er != 0) = true := by simpa using he0
                  gi_wp2
                  obtain ⟨g3, g4, g5, gc⟩ := st3_blk HB2.out 0 0 er
                  refine ⟨?_, rfl, ⟨_, x.1, hmap, HI.out.ok, by rw [← HER.out]; exact he0, ?_, g3, g4, by rw [← HER.out]; exact g5⟩, ?_⟩
                  · refine KeepsFrom.trans (keeps_chg HC2.out (fun i hi hS => absurd (HFL2.out i hS) (by omega))) (keeps_chg gc ?_)
                    intro i _ hi
                    obtain ⟨T', cs', hb', _⟩ := HB2.out.apart hi.1 hi.2
                    exact ⟨T', cs', hb'⟩
                  · exact dev_keep HD2.out gc (fun i hi => .inl (HB2.out.apart hi.1 hi.2))
                  · exact (HI.out.chg.trans HC2.out).then gc (fun i hi hT => by have := hT.1; have := HBE.out; omega)
          case done =>
            intro Dd xs U hDd hS hI hK
            have HI := Lib.hid hI
            have HK := Lib.hid hK
            have HS := Lib.hid hS
            clear hI hK hS
            obtain ⟨c1, c2, _⟩ := HI.out.box.cells
            have HFl := Lib.hid (flush_calls HI.out.dev)
            go_wp2_with fail
            refine HFl.out.mono ?_
            rintro e W2 ⟨rfl, hd2, hc2⟩
            have HD2 := Lib.hid hd2
            have HC2 := Lib.hid hc2
            have HB2 := Lib.hid (HI.out.box.foot HI.out.dev hc2)
            have HG2 := Lib.hid (HI.out.cnt.chg hc2 (DevN.not_foot HI.out.dev HI.out.cnt (by decide) (by decide)))
            have hnD : ¬ h.foot Dd := fun hk => by have := HFL2.out Dd hk; omega
            have HK2 := Lib.hid (hc2.at_ HK.out hnD)
            have hxl : xs.length = ckN nb := by have := congrArg List.length HS.out; simpa using this
            have HXL := Lib.hid hxl
            have hcG := HG2.out.cell 0
            simp at hcG
            rw [hxl] at hcG
            have hbe : b = records (l.take (fitI (376 * (pg : Int)) 0 l)) := by rw [HBB.out, HFL.out, HRM.out]
            have HBEQ := Lib.hid hbe
            have hputs : D.putL first b (xs.map (·.1)) = D.puts first b (ckN b.length) := by rw [HS.out, hbn]; rfl
            have HPU := Lib.hid hputs
            have hok := HI.out.ok
            rw [HS.out, ← hbn] at hok
            have HOK := Lib.hid (putOk_range hok)
            obtain ⟨er, her⟩ : ∃ er, er = (D.putL first b (xs.map (·.1))).changeE := ⟨_, rfl⟩
            rw [← her]
            have HER := Lib.hid her
            obtain ⟨c1, c2, ⟨u3, c3⟩, ⟨u4, c4⟩, ⟨u5, c5⟩, f3, f4, f5⟩ := HB2.out.cells
            have hCW := HI.out.chg.trans hc2
            have HCW := Lib.hid hCW
            clear hd2 hc2 hxl hbe hputs hok her hCW HFl
            by_cases he0 : er = 0
            · subst he0
              go_wp2
              obtain ⟨g3, g4, g5, gc⟩ := st3_blk HB2.out (ckN nb) f 0
              have hK3 : (st3 W2 B (ckN nb) f 0).heap[Dd]? = some (.deferred (some [])) := by
                refine gc.at_ HK2.out (fun hi => ?_)
                obtain ⟨T', cs', hb', _⟩ := HB2.out.apart hi.1 hi.2
                have hk := HK2.out
                unfold Blk at hb'
                rw [hb'] at hk
                cases hk
              have q3 := (put_cell hK3 g3).cell 0
              have q4 := (put_cell hK3 g4).cell 0
              have q5 := (put_cell hK3 g5).cell 0
              simp only [st3] at q3 q4 q5
              have hc4 : Chg (fun i => (B ≤ i ∧ i ≤ B + 1 + 1 + 1 + 1) ∨ i = Dd) W2 ((st3 W2 B (ckN nb) f 0).putObj Dd (.deferred none)) := (gc.mono (fun _ _ h => .inl h)).then (put_chg _ Dd (.deferred none)) (fun i _ hi => .inr hi)
              refine ⟨by simp, .inl ⟨_, _, rfl, run_takeDeferred hK3, ?_⟩⟩
              refine ⟨.tuple #[.int .i64 (ckN nb), .int .i64 f, .int .i64 0], by simp [st3, results, Try.results17, go_sem]; simp at q3 q4 q5; simp [q3, q4, q5], ckN nb, f, 0, _, rfl, dev_keep HD2.out hc4 ?_, HCW.out.then hc4 ?_, ?_⟩
              · rintro i (hi | rfl)
                · exact .inl (HB2.out.apart hi.1 hi.2)
                · exact .inr ⟨hnD, _, HK2.out, rfl⟩
              · rintro i hi (hT | rfl)
                · have := hT.1; have := HBE.out; omega
                · omega
              · have hr := DumpR.ok (D := D) (first := first) (pages := (pg : Int)) (l := l) (by rw [HA.out, HGL.out]; rfl) (by rw [← HBEQ.out]; exact HOK.out) (by rw [← HBEQ.out, ← HPU.out]; exact HER.out.symm)
                rw [← HBEQ.out, ← HPU.out, hbn] at hr
                have hff : f = fitI (376 * (pg : Int)) 0 l := by rw [HFL.out, HRM.out]
                rw [hff]
                exact hr
            · have hb0 : (er != 0) = true := by simpa using he0
              go_wp2
              obtain ⟨g3, g4, g5, gc⟩ := st3_blk HB2.out 0 0 er
              have hK3 : (st3 W2 B 0 0 er).heap[Dd]? = some (.deferred (some [])) := by
                refine gc.at_ HK2.out (fun hi => ?_)
                obtain ⟨T', cs', hb', _⟩ := HB2.out.apart hi.1 hi.2
                have hk := HK2.out
                unfold Blk at hb'
                rw [hb'] at hk
                cases hk
              have q3 := (put_cell hK3 g3).cell 0
              have q4 := (put_cell hK3 g4).cell 0
              have q5 := (put_cell hK3 g5).cell 0
              simp only [st3] at q3 q4 q5
              have hc4 : Chg (fun i => (B ≤ i ∧ i ≤ B + 1 + 1 + 1 + 1) ∨ i = Dd) W2 ((st3 W2 B 0 0 er).putObj Dd (.deferred none)) := (gc.mono (fun _ _ h => .inl h)).then (put_chg _ Dd (.deferred none)) (fun i _ hi => .inr hi)
              refine ⟨by simp, .inl ⟨_, _, rfl, run_takeDeferred hK3, ?_⟩⟩
              refine ⟨.tuple #[.int .i64 0, .int .i64 0, .int .i64 er], by simp [st3, results, Try.results17, go_sem]; simp at q3 q4 q5; simp [q3, q4, q5], 0, 0, er, _, rfl, dev_keep HD2.out hc4 ?_, HCW.out.then hc4 ?_, ?_⟩
              · rintro i (hi | rfl)
                · exact .inl (HB2.out.apart hi.1 hi.2)
                · exact .inr ⟨hnD, _, HK2.out, rfl⟩
              · rintro i hi (hT | rfl)
                · have := hT.1; have := HBE.out; omega
                · omega
              · have hr := DumpR.noflush (D := D) (first := first) (pages := (pg : Int)) (l := l) (by rw [HA.out, HGL.out]; rfl) (by rw [← HBEQ.out]; exact HOK.out) (by rw [← HBEQ.out, ← HPU.out, ← HER.out]; exact he0)
                rw [← HBEQ.out, ← HPU.out, ← HER.out] at hr
                exact hr
          case stop =>
            intro Dd cd pre U hDd hSp hX hK
            have hret := hX.ret
            subst hret
            obtain ⟨l1, y, e1, hok, hne, hdv, g3, g4, g5⟩ := hX.cut
            have hchg := hX.chg
            obtain ⟨kk, hkk, e2⟩ := hSp
            have hbe : b = records (l.take (fitI (376 * (pg : Int)) 0 l)) := by rw [HBB.out, HFL.out, HRM.out]
            rw [e1] at e2
            have hlen : l1.length + 1 = kk := by have := congrArg List.length e2; simpa using this
            subst hlen
            rw [List.range_succ] at e2
            obtain ⟨e3, e4⟩ := List.append_inj' e2 rfl
            injection e4 with e5
            generalize l1.length = kq at e3 e5 hkk
            subst e3
            obtain rfl : kq = y := e5.symm
            have HH := Lib.hid (And.intro hok (And.intro hne (And.intro hdv (And.intro g3 (And.intro g4 (And.intro g5 (And.intro hchg (And.intro hbe (And.intro hkk hK)))))))))
            clear hok hne hdv g3 g4 g5 hchg hbe hkk hK hX e1 e2
            refine wpIn_ret ?_
            obtain ⟨hok, hne, hdv, g3, g4, g5, hchg, hbe, hkk, hK⟩ := HH.out
            have q3 := (put_cell hK g3).cell 0
            have q4 := (put_cell hK g4).cell 0
            have q5 := (put_cell hK g5).cell 0
            have hnD : ¬ h.foot Dd := fun hk => by have := HFL2.out Dd hk; omega
            refine ⟨by simp, .inl ⟨_, _, rfl, run_takeDeferred hK, ?_⟩⟩
            refine ⟨.tuple #[.int .i64 0, .int .i64 0, .int .i64 (D.putsE first b kq)], by simp [results, Try.results17, go_sem]; simp at q3 q4 q5; simp [q3, q4, q5]; rfl, 0, 0, D.putsE first b kq, D.puts first b (kq + 1), rfl, ?_, hchg.then (put_chg _ Dd (.deferred none)) (fun i hi hT => by have : i = Dd := hT; omega), ?_⟩
            · have := dev_keep hdv (put_chg U Dd (.deferred none)) (fun i hi => by obtain rfl : Dd = i := hi.symm; exact .inr ⟨hnD, _, hK, rfl⟩)
              unfold Dev.puts
              rw [List.range_succ]
              exact this
            · have hr := DumpR.cut (D := D) (first := first) (pages := (pg : Int)) (l := l) kq (by rw [HA.out, HGL.out]; rfl) (by rw [← hbe, hbn]; omega) (by rw [← hbe]; exact putOk_range hok) (by rw [← hbe]; exact hne)
              rw [← hbe] at hr
              exact hr
end Go.Proofs.Ytinofdfjaopdcaa
