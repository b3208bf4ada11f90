/- Arguments that came in: a slice of items, an item. -/
import Derived.Test.YtcmobcbecbajiaaItems
import Derived.Deep.Slices
import Derived.Deep.Fields
import Derived.OpenShut
import Derived.SizedLaws
namespace Go.Proofs.Ytcmobcbecbajiaa
open Go.RowKit Go.ChangeShapes Go.WideShapes Go.Deep
set_option linter.unusedSimpArgs false
set_option linter.unusedVariables false

/-- an item as data -/
def dItem {H : Type} (x : Item) : DataW H := .agg [.lit (.string x.key.data.toList), .lit (.string x.val.data.toList), .lit (.int .u32 x.flags.toNat), .lit (.int .i64 x.exp.toInt), .lit (.int .u64 x.ver.toNat)]

section
variable {H : Type} {enc : TypeId × Value → H} {w : World} {base : Nat} {spare : Nat → Bool} {held : Bool}

theorem item_fields : oneCellFields Try.prog (match Try.prog.underlying tItem with | some (.struct fs) => fs | _ => #[]) = true := by kernel_rfl
theorem item_cells : Try.prog.cellsOf tItem = 5 := by kernel_rfl
theorem item_bytes : Try.prog.bytesOf tItem = 56 := by kernel_rfl

set_option maxRecDepth 100000 in
theorem item_of {fuel : Nat} {cs : List Value} {y : DataW H × List MemPlace} (h : DataW.trod enc Try.prog w base spare held fuel tItem cs = some y) :
    ∃ x : Item, cs = itc x ∧ y.1 = dItem x := by
  have hone := item_fields
  rw [Try.underlying38] at hone
  obtain ⟨xs, n, _, hx, hcl, hlen, hg⟩ := DataW.trod_struct Try.underlying38 h
  rw [item_cells] at hcl
  match cs, hcl with
  | [c0, c1, c2, c3, c4], _ =>
    match xs, hlen with
    | [y0, y1, y2, y3, y4], _ =>
      obtain ⟨o0, k0⟩ := hone_of hone 0 _ rfl
      obtain ⟨o1, k1⟩ := hone_of hone 1 _ rfl
      obtain ⟨o2, k2⟩ := hone_of hone 2 _ rfl
      obtain ⟨o3, k3⟩ := hone_of hone 3 _ rfl
      obtain ⟨o4, k4⟩ := hone_of hone 4 _ rfl
      have g0 := hg 0 _ rfl
      have g1 := hg 1 _ rfl
      have g2 := hg 2 _ rfl
      have g3 := hg 3 _ rfl
      have g4 := hg 4 _ rfl
      rw [o0, k0] at g0
      rw [o1, k1] at g1
      rw [o2, k2] at g2
      rw [o3, k3] at g3
      rw [o4, k4] at g4
      obtain ⟨s0, e0, r0, _⟩ := DataW.trod_string Try.underlying9 g0
      obtain ⟨s1, e1, r1, _⟩ := DataW.trod_string Try.underlying9 g1
      obtain ⟨n2, e2, r2, w2⟩ := DataW.trod_int Try.underlying35 g2
      obtain ⟨n3, e3, r3, w3⟩ := DataW.trod_int Try.underlying2 g3
      obtain ⟨n4, e4, r4, w4⟩ := DataW.trod_int Try.underlying36 g4
      simp only [List.drop_zero, List.drop_succ_cons, List.take_succ_cons, List.take_zero, List.cons.injEq, and_true] at e0 e1 e2 e3 e4
      subst e0; subst e1; subst e2; subst e3; subst e4
      subst r0; subst r1; subst r2; subst r3; subst r4
      have b2 := bounds_u32 w2
      have b3 := bounds_i64 w3
      have b4 := bounds_u64 w4
      have f2 : ((UInt32.ofNat n2.toNat).toNat : Int) = n2 := by rw [UInt32.toNat_ofNat']; omega
      have f3 : (Int64.ofInt n3).toInt = n3 := Int64.toInt_ofInt_of_le (by omega) (by omega)
      have f4 : ((UInt64.ofNat n4.toNat).toNat : Int) = n4 := by rw [UInt64.toNat_ofNat']; omega
      refine ⟨{ key := s0, val := s1, flags := UInt32.ofNat n2.toNat, exp := Int64.ofInt n3, ver := UInt64.ofNat n4.toNat }, ?_, ?_⟩
      · simp only [itc, f2, f3, f4]
      · rw [hx]; simp only [dItem, f2, f3, f4, List.map_cons, List.map_nil]

theorem weights_all {P : Program} {e : TypeId} {l : List (DataW H)} {d : DataW H} (hd : d ∈ l) : ∀ n ∈ d.weights P e, n ∈ DataW.weightsAll P e l := by
  induction l with
  | nil => cases hd
  | cons a r ih =>
    intro n hn
    rw [DataW.weightsAll, List.mem_append]
    rcases List.mem_cons.1 hd with rfl | hd
    · exact .inl hn
    · exact .inr (ih hd n hn)
set_option maxRecDepth 100000 in
theorem item_sized {x : Item} {N : Nat} (h : ∀ n ∈ (dItem (H := H) x).weights Try.prog tItem, n ≤ N) : x.key.size ≤ N ∧ x.val.size ≤ N := by
  have e : (dItem (H := H) x).weights Try.prog tItem = [x.key.data.toList.length, x.val.data.toList.length] := by
    simp [dItem, DataW.weights, Try.underlying38, DataW.weightsEach]
  rw [e] at h
  rw [Array.length_toList, Array.length_toList] at h
  exact ⟨h _ List.mem_cons_self, h _ (List.mem_cons_of_mem _ List.mem_cons_self)⟩

instance : Inhabited Item := ⟨Item.zero⟩
theorem choose_item {n : Nat} {p : Nat → Item → Prop} (h : ∀ i, i < n → ∃ x, p i x) : ∃ f : Nat → Item, ∀ i, i < n → p i (f i) := choose_lt h
theorem add_at (g off j : Nat) : (⟨g, off, none⟩ : Addr).add j = ⟨g, off + j, none⟩ := by unfold Addr.add; split <;> simp_all
set_option maxRecDepth 100000 in
/-- a slice of items that came in -/
theorem open_items {b0 : Nat} {v : Value} {d : DataW H} {p : List MemPlace} (hv : Value.okWide Try.prog w .any b0 tItems v) (h : DataW.Trod enc Try.prog w base (fun _ => true) held tItems v d p) (hs : ∀ n ∈ d.weights Try.prog tItems, n ≤ reachBytes) :
    ∃ (A : Option Addr) (n c : Nat) (l : List Item) (t : TypeId), v = .slice A n c ∧ l.length = n ∧ n ≤ c ∧ (A = none → c = 0) ∧ Rd w t A (n * 5) (its l) ∧ c * 56 ≤ reachBytes ∧ ∀ x ∈ l, x.key.size ≤ reachBytes ∧ x.val.size ≤ reachBytes := by
  obtain ⟨A, n, c, rfl⟩ := okWide_slice Try.underlying22 hv
  obtain ⟨fuel, hf⟩ := h
  rcases open_slice Try.underlying22 hf with ⟨hcs, _⟩ | ⟨a, len, cap, m, k, D, Pl, hcs, _, hl, hm, hmm, hx, hi⟩
  · simp only [Value.cells, List.cons.injEq, and_true, Value.slice.injEq] at hcs
    obtain ⟨rfl, rfl, rfl⟩ := hcs
    exact ⟨none, 0, 0, [], tItem, rfl, rfl, Nat.le_refl _, fun _ => rfl, Rd.nil _ _ _, Nat.zero_le _, fun x hx => by cases hx⟩
  · simp only [Value.cells, List.cons.injEq, and_true, Value.slice.injEq] at hcs
    obtain ⟨rfl, rfl, rfl⟩ := hcs
    simp only [if_true] at hmm
    subst hmm
    rw [item_cells] at hi
    obtain ⟨f, hfn⟩ := choose_item (p := fun i x => w.cells? base (a.add (i * 5)) 5 = some (itc x) ∧ D i = dItem x) (fun i hi' => by
      obtain ⟨cs', h1, h2⟩ := hi i hi'
      obtain ⟨x, rfl, hd⟩ := item_of h2
      exact ⟨x, h1, hd⟩)
    have hd : d = .slice ((List.range n).map D) ((List.range (m - n)).map fun j => D (n + j)) := congrArg Prod.fst hx
    subst hd
    refine ⟨some a, n, m, (List.range n).map f, ?_⟩
    have hsz : m * 56 ≤ reachBytes := by
      have := hs ((((List.range n).map D).length + ((List.range (m - n)).map fun j => D (n + j)).length) * Try.prog.bytesOf tItem) (by simp [DataW.weights, Try.underlying22])
      rw [item_bytes] at this
      simp only [List.length_map, List.length_range] at this
      rwa [show n + (m - n) = m from by omega] at this
    have hstr : ∀ x ∈ (List.range n).map f, x.key.size ≤ reachBytes ∧ x.val.size ≤ reachBytes := by
      intro x hx
      obtain ⟨i, hi1, rfl⟩ := List.mem_map.1 hx
      have hin : i < n := List.mem_range.1 hi1
      refine item_sized (H := H) fun k hk => hs k ?_
      simp only [DataW.weights, Try.underlying22, List.mem_cons, List.mem_append]
      refine .inr (.inl (weights_all (d := D i) (List.mem_map_of_mem (List.mem_range.2 hin)) k ?_))
      rw [(hfn i (by omega)).2]
      exact hk
    by_cases hn : n = 0
    · subst hn
      exact ⟨tItem, rfl, by simp, hl, fun h => (by cases h), Rd.nil _ _ _, hsz, hstr⟩
    · obtain ⟨g, off, spot⟩ := a
      have hcell : ∀ i j, i < m → j < 5 → w.cell? ((⟨g, off, spot⟩ : Addr).add (i * 5 + j)) = (itc (f i))[j]? := by
        intro i j hi' hj
        have := (World.cells?_some (hfn i hi').1).2.2 j hj
        rwa [add_add] at this
      have hspot : spot = none := by
        have := hcell 0 0 (by omega) (by omega)
        simp only [Nat.zero_mul, Nat.add_zero, itc, List.getElem?_cons_zero] at this
        simpa [Addr.add] using World.cell?_spot this
      subst hspot
      have h00 := hcell 0 0 (by omega) (by omega)
      simp only [Nat.zero_mul, Nat.add_zero, itc, List.getElem?_cons_zero] at h00
      obtain ⟨cur, t, fz, hg⟩ : ∃ cur t fz, w.heap[g]? = some (.cells cur t fz) := by
        unfold World.cell? at h00
        simp only [Addr.add, if_true] at h00
        split at h00
        · rename_i c t fz hh; exact ⟨c, t, fz, hh⟩
        · cases h00
      refine ⟨t, rfl, by simp, hl, fun h => (by cases h), ⟨by rw [its_length]; simp, fun _ => ⟨g, off, cur, fz, rfl, hg, ?_⟩⟩, hsz, hstr⟩
      intro j u hu
      have hjl : j < n * 5 := by
        have := (List.getElem?_eq_some_iff.1 hu).1
        rw [its_length] at this
        simpa using this
      have hj5 : j = j / 5 * 5 + j % 5 := by omega
      have hjd : j / 5 < n := by omega
      have hget := its_get ((List.range n).map f) (j / 5) (j % 5) (f (j / 5)) (by simp [hjd]) (by omega)
      rw [← hj5, hu] at hget
      have hc := hcell (j / 5) (j % 5) (by omega) (by omega)
      rw [← hj5, ← hget] at hc
      rw [add_at, cell_of_row w g _ cur t fz hg] at hc
      exact hc

theorem u8_cells : Try.prog.cellsOf tU8 = 1 := by kernel_rfl
theorem u8_bytes : Try.prog.bytesOf tU8 = 1 := by kernel_rfl
set_option maxRecDepth 100000 in
/-- bytes that came in -/
theorem open_bytes {b0 : Nat} {v : Value} {d : DataW H} {p : List MemPlace} (hv : Value.okWide Try.prog w .any b0 tBytes v) (h : DataW.Trod enc Try.prog w base (fun _ => true) held tBytes v d p) (hs : ∀ n ∈ d.weights Try.prog tBytes, n ≤ reachBytes) :
    ∃ (A : Option Addr) (n c : Nat) (b : List UInt8) (t : TypeId), v = .slice A n c ∧ b.length = n ∧ n ≤ c ∧ (A = none → c = 0) ∧ Rd w t A n (bys b) ∧ c ≤ reachBytes := by
  obtain ⟨A, n, c, rfl⟩ := okWide_slice Try.underlying31 hv
  obtain ⟨fuel, hf⟩ := h
  rcases open_ints Try.underlying31 Try.underlying5 u8_cells hf with ⟨hcs, _⟩ | ⟨a, len, cap, zs, hcs, _, hl, hm, hz, hx, hcell, hwz⟩
  · simp only [Value.cells, List.cons.injEq, and_true, Value.slice.injEq] at hcs
    obtain ⟨rfl, rfl, rfl⟩ := hcs
    exact ⟨none, 0, 0, [], tU8, rfl, rfl, Nat.le_refl _, fun _ => rfl, Rd.nil _ _ _, Nat.zero_le _⟩
  · simp only [Value.cells, List.cons.injEq, and_true, Value.slice.injEq] at hcs
    obtain ⟨rfl, rfl, rfl⟩ := hcs
    simp only [if_true] at hz
    have hd : d = _ := congrArg Prod.fst hx
    subst hd
    have hsz : c ≤ reachBytes := by
      have := hs _ (by simp only [DataW.weights, Try.underlying31]; exact List.mem_cons_self)
      rw [u8_bytes] at this
      simp [lits] at this
      omega
    have hb8 : ∀ z ∈ zs, ((UInt8.ofNat z.toNat).toNat : Int) = z := fun z hz => by
      have := hwz z hz
      have m1 : IntKind.u8.min = 0 := rfl
      have m2 : IntKind.u8.max = 255 := rfl
      simp only [Lit.wf, m1, m2, Bool.and_eq_true, decide_eq_true_eq] at this
      rw [UInt8.toNat_ofNat']; omega
    have hbys : bys ((zs.take n).map fun z => UInt8.ofNat z.toNat) = (zs.take n).map (fun z => Value.int .u8 z) := by
      unfold bys
      rw [List.map_map]
      refine List.map_congr_left fun z hz => ?_
      show Value.int .u8 _ = _
      rw [hb8 z (List.mem_of_mem_take hz)]
    have hlen : ((zs.take n).map fun z => UInt8.ofNat z.toNat).length = n := by simp; omega
    by_cases hn : n = 0
    · subst hn
      exact ⟨some a, 0, c, [], tU8, rfl, rfl, Nat.zero_le _, fun h => (by cases h), Rd.nil _ _ _, hsz⟩
    · obtain ⟨g, off, spot⟩ := a
      have hspot : spot = none := by
        have := hcell 0 (by omega)
        simpa [Addr.add] using World.cell?_spot this
      subst hspot
      have h00 := hcell 0 (by omega)
      obtain ⟨cur, t, fz, hg⟩ : ∃ cur t fz, w.heap[g]? = some (.cells cur t fz) := by
        unfold World.cell? at h00
        simp only [Addr.add, if_true] at h00
        split at h00
        · rename_i c t fz hh; exact ⟨c, t, fz, hh⟩
        · cases h00
      refine ⟨some ⟨g, off, none⟩, n, c, _, t, rfl, hlen, hl, fun h => (by cases h), ⟨by rw [bys_length, hlen], fun _ => ⟨g, off, cur, fz, rfl, hg, ?_⟩⟩, hsz⟩
      intro j u hu
      rw [hbys] at hu
      have hj : j < n := by
        have := (List.getElem?_eq_some_iff.1 hu).1
        simp at this; omega
      have hjz : j < zs.length := by omega
      rw [List.getElem?_map, List.getElem?_take_of_lt hj, List.getElem?_eq_getElem hjz] at hu
      have hc := hcell j hjz
      rw [add_at, cell_of_row w g _ cur t fz hg] at hc
      rw [hc, ← hu]
      simp [List.getD, List.getElem?_eq_getElem hjz]

set_option maxRecDepth 100000 in
/-- an item that came in by its value -/
theorem open_item {b0 : Nat} {v : Value} {d : DataW H} {p : List MemPlace} (hv : Value.okWide Try.prog w .any b0 tItem v) (h : DataW.Trod enc Try.prog w base spare held tItem v d p) (hs : ∀ n ∈ d.weights Try.prog tItem, n ≤ reachBytes) :
    ∃ x : Item, v = itemV x ∧ x.key.size ≤ reachBytes ∧ x.val.size ≤ reachBytes := by
  obtain ⟨cs, rfl, _⟩ := okWide_struct Try.underlying38 hv
  obtain ⟨fuel, hf⟩ := h
  obtain ⟨x, hx, hd⟩ := item_of hf
  have hd' : d = dItem x := hd
  subst hd'
  obtain ⟨l⟩ := cs
  have hl : l = itc x := by simpa [Value.cells] using hx
  subst hl
  exact ⟨x, rfl, item_sized hs⟩
theorem sized_all {P : Program} {ts : List TypeId} {ds : List (DataW H)} (h : (DataW.weightsEach P ts ds).all (· ≤ reachBytes) = true) {j : Nat} {t : TypeId} {d : DataW H} (ht : ts[j]? = some t) (hd : ds[j]? = some d) : ∀ n ∈ d.weights P t, n ≤ reachBytes := fun n hn => by
  have := List.all_eq_true.1 h n (DataW.weights_mem_each ht hd n hn)
  simpa using this
theorem reach_num : reachBytes = 140737488351232 := rfl
end
end Go.Proofs.Ytcmobcbecbajiaa
