/- How the flash device lies in memory. -/
import Derived.Test.YtcmobcbecbajiaaMaps
import Derived.Test.YtcmobcbecbajiaaFlashSpec
import Derived.Test.YtcmobcbecbajiaaChecked
namespace Go.Proofs.Ytcmobcbecbajiaa
open Go.RowKit
open Go.ChangeMaps (setBlock)
set_option linter.unusedSimpArgs false
set_option linter.unusedVariables false

abbrev tDev : TypeId := 81
abbrev tPage : TypeId := 125
abbrev tPP : TypeId := 122
abbrev tU8 : TypeId := 5

/-- bytes as cells -/
def bys (b : List UInt8) : List Value := b.map fun x => .int .u8 x.toNat
theorem bys_length (b : List UInt8) : (bys b).length = b.length := by simp [bys]
theorem bys_get {b : List UInt8} {j : Nat} {u : Value} (h : (bys b)[j]? = some u) : ∃ x, b[j]? = some x ∧ u = .int .u8 x.toNat := by
  simp only [bys, List.getElem?_map] at h
  cases hb : b[j]? with
  | none => rw [hb] at h; cases h
  | some x => rw [hb] at h; exact ⟨x, rfl, by simpa using h.symm⟩
theorem bys_append (a b : List UInt8) : bys (a ++ b) = bys a ++ bys b := by simp [bys]
theorem bys_take (a : List UInt8) (n : Nat) : bys (a.take n) = (bys a).take n := by simp [bys, List.map_take]
theorem bys_drop (a : List UInt8) (n : Nat) : bys (a.drop n) = (bys a).drop n := by simp [bys, List.map_drop]

/-- where a device lies: its struct, its pages' row, its map -/
structure DevH where
  d : Nat
  F : Nat
  M : Nat
def DevH.foot (h : DevH) : Nat → Prop := fun k => k = h.d ∨ k = h.F ∨ k = h.M

/-- the value v is a page, in blocks below N -/
def PgAt (N : Nat) (w : World) (v : Value) : Pg → Prop
  | .blank => v = .pointer none
  | .torn => ∃ p, p < N ∧ v = .pointer (some ⟨p, 0, none⟩) ∧ Blk w p tPage #[.slice none 0 0, .bool true]
  | .full b => ∃ p q, p < N ∧ q < N ∧ v = .pointer (some ⟨p, 0, none⟩) ∧ Blk w p tPage #[.slice (some ⟨q, 0, none⟩) 384 384, .bool false] ∧ Blk w q tU8 (bys b).toArray ∧ b.length = 384

theorem PgAt.mono {N N' : Nat} {w : World} {v : Value} {p : Pg} (h : PgAt N w v p) (hN : N ≤ N') : PgAt N' w v p := by
  cases p with
  | blank => exact h
  | torn => obtain ⟨p, hp, r⟩ := h; exact ⟨p, by omega, r⟩
  | full b => obtain ⟨p, q, hp, hq, r⟩ := h; exact ⟨p, q, by omega, by omega, r⟩
theorem PgAt.chg {S : Nat → Prop} {N : Nat} {w w' : World} {v : Value} {p : Pg} (h : PgAt N w v p) (hc : Chg S w w')
    (hn : ∀ g cs t, g < N → (t = tPage ∨ t = tU8) → Blk w g t cs → ¬ S g) : PgAt N w' v p := by
  cases p with
  | blank => exact h
  | torn => obtain ⟨p, hp, hv, hb⟩ := h; exact ⟨p, hp, hv, hb.chg hc (hn _ _ _ hp (.inl rfl) hb)⟩
  | full b =>
    obtain ⟨p, q, hp, hq, hv, hb, hb2, hl⟩ := h
    exact ⟨p, q, hp, hq, hv, hb.chg hc (hn _ _ _ hp (.inl rfl) hb), hb2.chg hc (hn _ _ _ hq (.inr rfl) hb2), hl⟩

abbrev ikey : Int → Value := fun n => .int .i64 n

/-- the pages' row -/
def RowAt (N : Nat) (w : World) (ps : List Value) (n : Nat) (fl : Nat → Pg) : Prop :=
  ps.length = n ∧ ∀ i v, ps[i]? = some v → PgAt N w v (fl i)
/-- the map of those that wait -/
def WaitAt (N : Nat) (w : World) (es : List (Int × Value)) (n : Nat) (wt : Nat → Option Pg) : Prop :=
  (∀ k v, (k, v) ∈ es → ∃ i pg, k = ((i : Nat) : Int) ∧ i < n ∧ wt i = some pg ∧ PgAt N w v pg) ∧ ∀ i pg, wt i = some pg → ∃ v, aget es (i : Int) = some v

/-- the device D, at h; its pages' own blocks lie below N -/
structure DevN (N : Nat) (w : World) (h : DevH) (D : Dev) : Prop where
  box : ∃ a b c e, Blk w h.d tDev #[.slice (some ⟨h.F, 0, none⟩) D.n D.n, .map (some h.M), .bool D.off, .int .i64 D.armed, .int .i64 D.losses, .int .i64 a, .int .i64 b, .int .i64 c, .int .i64 e]
  row : ∃ ps, Blk w h.F tPP ps.toArray ∧ RowAt N w ps D.n D.fl
  map : ∃ es, MapIs ikey w h.M es ∧ WaitAt N w es D.n D.wt
  npos : 1 ≤ D.n
  nmost : D.n ≤ 4096
  armed : 0 ≤ D.armed ∧ D.armed ≤ 9223372036854775807
  below : N ≤ w.heap.size

def DevAt (w : World) (h : DevH) (D : Dev) : Prop := DevN w.heap.size w h D

theorem DevN.mono {N N' : Nat} {w : World} {h : DevH} {D : Dev} (hd : DevN N w h D) (hN : N ≤ N') (hb : N' ≤ w.heap.size) : DevN N' w h D :=
  { hd with
    row := by obtain ⟨ps, h1, h2, h3⟩ := hd.row; exact ⟨ps, h1, h2, fun i v hv => (h3 i v hv).mono hN⟩
    map := by
      obtain ⟨es, h1, h2, h3⟩ := hd.map
      refine ⟨es, h1, fun k v hk => ?_, h3⟩
      obtain ⟨i, pg, e1, e2, e3, e4⟩ := h2 k v hk
      exact ⟨i, pg, e1, e2, e3, e4.mono hN⟩
    below := hb }
theorem DevN.at_ {N : Nat} {w : World} {h : DevH} {D : Dev} (hd : DevN N w h D) : DevAt w h D := hd.mono hd.below (Nat.le_refl _)

/-- a block of cells of another type than the device's own is none of its three -/
theorem DevN.not_foot {N : Nat} {w : World} {h : DevH} {D : Dev} (hd : DevN N w h D) {g : Nat} {cs : Array Value} {t : TypeId} {fz : Nat × Nat} (hg : w.heap[g]? = some (.cells cs t fz)) (h1 : t ≠ tDev) (h2 : t ≠ tPP) : ¬ h.foot g := by
  rintro (rfl | rfl | rfl)
  · obtain ⟨a, b, c, e, hb⟩ := hd.box
    unfold Blk at hb
    rw [hg] at hb
    cases hb
    exact h1 rfl
  · obtain ⟨ps, hb, _⟩ := hd.row
    unfold Blk at hb
    rw [hg] at hb
    cases hb
    exact h2 rfl
  · obtain ⟨es, hm, _⟩ := hd.map
    exact hm.ne_blk hg rfl

/-- what is none of the device's is changed -/
theorem DevN.chg {S : Nat → Prop} {N : Nat} {w w' : World} {h : DevH} {D : Dev} (hd : DevN N w h D) (hc : Chg S w w') (h1 : ¬ S h.d) (h2 : ¬ S h.F) (h3 : ¬ S h.M)
    (hn : ∀ g cs t, g < N → (t = tPage ∨ t = tU8) → Blk w g t cs → ¬ S g) : DevN N w' h D :=
  { hd with
    box := by obtain ⟨a, b, c, e, hb⟩ := hd.box; exact ⟨a, b, c, e, hb.chg hc h1⟩
    row := by obtain ⟨ps, g1, g2, g3⟩ := hd.row; exact ⟨ps, g1.chg hc h2, g2, fun i v hv => (g3 i v hv).chg hc hn⟩
    map := by
      obtain ⟨es, g1, g2, g3⟩ := hd.map
      refine ⟨es, g1.chg hc h3, fun k v hk => ?_, g3⟩
      obtain ⟨i, pg, e1, e2, e3, e4⟩ := g2 k v hk
      exact ⟨i, pg, e1, e2, e3, e4.chg hc hn⟩
    below := Nat.le_trans hd.below hc.size }
theorem DevN.chgNo {N : Nat} {w w' : World} {h : DevH} {D : Dev} (hd : DevN N w h D) (hc : Chg No w w') : DevN N w' h D := hd.chg hc (fun h => h) (fun h => h) (fun h => h) (fun _ _ _ _ _ _ h => h)
theorem DevAt.chgNo {w w' : World} {h : DevH} {D : Dev} (hd : DevAt w h D) (hc : Chg No w w') : DevAt w' h D := (DevN.chgNo hd hc).at_

/-- a step of the device's own: new contents of its three blocks -/
theorem DevN.step {N : Nat} {w w' : World} {h : DevH} {D D' : Dev} (hd : DevN N w h D) (hc : Chg h.foot w w') (hn : D'.n = D.n)
    (box : ∃ a b c e, Blk w' h.d tDev #[.slice (some ⟨h.F, 0, none⟩) D'.n D'.n, .map (some h.M), .bool D'.off, .int .i64 D'.armed, .int .i64 D'.losses, .int .i64 a, .int .i64 b, .int .i64 c, .int .i64 e])
    (row : (∃ ps, Blk w' h.F tPP ps.toArray ∧ RowAt w'.heap.size w' ps D'.n D'.fl) ∨ (D'.fl = D.fl ∧ w'.heap[h.F]? = w.heap[h.F]?))
    (map : (∃ es, MapIs ikey w' h.M es ∧ WaitAt w'.heap.size w' es D'.n D'.wt) ∨ (D'.wt = D.wt ∧ w'.heap[h.M]? = w.heap[h.M]?))
    (armed : 0 ≤ D'.armed ∧ D'.armed ≤ 9223372036854775807) : DevAt w' h D' := by
  have hkeep : ∀ g cs t, g < N → (t = tPage ∨ t = tU8) → Blk w g t cs → ¬ h.foot g := fun g cs t _ ht hb => by
    refine hd.not_foot hb ?_ ?_ <;> rcases ht with rfl | rfl <;> decide
  have hNN : N ≤ w'.heap.size := Nat.le_trans hd.below hc.size
  refine { box := box, row := ?_, map := ?_, npos := by rw [hn]; exact hd.npos, nmost := by rw [hn]; exact hd.nmost, armed := armed, below := Nat.le_refl _ }
  · rcases row with r | ⟨e, r⟩
    · exact r
    · obtain ⟨ps, g1, g2, g3⟩ := hd.row
      exact ⟨ps, by unfold Blk at g1 ⊢; rw [r]; exact g1, by rw [hn]; exact g2, fun i v hv => by rw [e]; exact ((g3 i v hv).chg hc hkeep).mono hNN⟩
  · rcases map with r | ⟨e, r⟩
    · exact r
    · obtain ⟨es, g1, g2, g3⟩ := hd.map
      refine ⟨es, ?_, ?_, ?_⟩
      · obtain ⟨arr, clock, hb, rest⟩ := g1
        exact ⟨arr, clock, by rw [r]; exact hb, rest⟩
      · rw [e, hn]
        intro k v hk
        obtain ⟨i, pg, e1, e2, e3, e4⟩ := g2 k v hk
        exact ⟨i, pg, e1, e2, e3, (e4.chg hc hkeep).mono hNN⟩
      · rw [e]; exact g3
end Go.Proofs.Ytcmobcbecbajiaa
