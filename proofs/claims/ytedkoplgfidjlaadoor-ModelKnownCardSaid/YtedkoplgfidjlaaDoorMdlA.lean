/- The model's map: how it lies; Get, Lose, New, line, Time. -/
import Derived.Test.YtedkoplgfidjlaaDoorMItm
import Derived.Deep.DrawnRows
import Derived.Deep.RegionWith
import Derived.Deep.RegionLaw
namespace Go.Proofs.YtedkoplgfidjlaaDoor
open Go.RowKit
open Go.ChangeMaps (setBlock)
attribute [local go_sem ↓] Go.wp_at_zero Go.wp_at_succ
set_option linter.unusedSimpArgs false
set_option linter.unusedVariables false

abbrev tMdl : TypeId := 54
abbrev tMm : TypeId := 52
abbrev tAns : TypeId := 33
abbrev tAnss : TypeId := 25
abbrev Its := List (ByteArray × Item)
def imap (es : Its) : List (ByteArray × Value) := es.map (fun p => (p.1, itemV p.2))
theorem akeys_imap (es : Its) : akeys (imap es) = akeys es := by unfold akeys imap; rw [List.map_map]; rfl
theorem aget_imap (es : Its) (k : ByteArray) : aget (imap es) k = (aget es k).map itemV := by
  induction es with
  | nil => rfl
  | cons p r ih =>
    show aget ((p.1, itemV p.2) :: imap r) k = _
    unfold aget
    by_cases h : p.1 = k
    · simp [h]
    · simp only [h, if_false]; exact ih
theorem aset_imap (es : Its) (k : ByteArray) (x : Item) : aset (imap es) k (itemV x) = imap (aset es k x) := by
  induction es with
  | nil => rfl
  | cons p r ih =>
    show aset ((p.1, itemV p.2) :: imap r) k (itemV x) = _
    unfold aset
    by_cases h : p.1 = k
    · simp [h, imap]
    · simp only [h, if_false, ih]; rfl
theorem adel_imap (es : Its) (k : ByteArray) : adel (imap es) k = imap (adel es k) := by
  induction es with
  | nil => rfl
  | cons p r ih =>
    show adel ((p.1, itemV p.2) :: imap r) k = _
    unfold adel
    by_cases h : p.1 = k
    · simp [h]
    · simp only [h, if_false, ih]; rfl
/-- it is not dead -/
def live (x : Item) (now : Int) : Bool := decide (x.exp.toInt = 0) || decide (now < x.exp.toInt)
def mget (es : Its) (key : ByteArray) (now : Int) : Option Item := (aget es key).filter (fun x => live x now)
/-- what may stand in a map -/
def ItOk (p : ByteArray × Item) : Prop := p.2.key = p.1 ∧ p.1.size ≤ 250 ∧ p.2.val.size ≤ 1024
def ItsOk (es : Its) : Prop := ∀ p ∈ es, ItOk p
theorem ItsOk.set {es : Its} (h : ItsOk es) {k : ByteArray} {x : Item} (hx : ItOk (k, x)) : ItsOk (aset es k x) := by
  intro p hp
  induction es with
  | nil =>
    unfold aset at hp
    rw [List.mem_singleton.1 hp]; exact hx
  | cons q r ih =>
    unfold aset at hp
    split at hp
    · rcases List.mem_cons.1 hp with rfl | hp
      · exact hx
      · exact h p (List.mem_cons_of_mem _ hp)
    · rcases List.mem_cons.1 hp with rfl | hp
      · exact h _ List.mem_cons_self
      · exact ih (fun q hq => h q (List.mem_cons_of_mem _ hq)) hp
theorem adel_sub {V : Type} (l : List (ByteArray × V)) (k : ByteArray) : ∀ p ∈ adel l k, p ∈ l := by
  intro p hp
  induction l with
  | nil => cases hp
  | cons q r ih =>
    unfold adel at hp
    split at hp
    · exact List.mem_cons_of_mem _ hp
    · rcases List.mem_cons.1 hp with rfl | hp
      · exact List.mem_cons_self
      · exact List.mem_cons_of_mem _ (ih hp)
theorem aset_len {V : Type} (l : List (ByteArray × V)) (k : ByteArray) (v : V) : (aset l k v).length ≤ l.length + 1 := by
  induction l with
  | nil => exact Nat.le_refl _
  | cons q r ih =>
    unfold aset
    split
    · exact Nat.le_succ _
    · exact Nat.succ_le_succ ih
theorem adel_len {V : Type} (l : List (ByteArray × V)) (k : ByteArray) : (adel l k).length ≤ l.length := by
  induction l with
  | nil => exact Nat.le_refl _
  | cons q r ih =>
    unfold adel
    split
    · exact Nat.le_succ _
    · exact Nat.succ_le_succ ih
theorem ItsOk.del {es : Its} (h : ItsOk es) (k : ByteArray) : ItsOk (adel es k) := fun p hp => h p (adel_sub _ _ p hp)
/-- a map of the model: its box m, its map M -/
structure Mp (w : World) (m M : Nat) (es : Its) : Prop where
  box : Blk w m tMdl #[.map (some M)]
  map : MapIs skey w M (imap es)
  ok : ItsOk es
section
variable {w w' : World} {m M : Nat} {es : Its}
theorem Mp.chg {S : Nat → Prop} (h : Mp w m M es) (hc : Chg S w w') (h1 : ¬ S m) (h2 : ¬ S M) : Mp w' m M es := ⟨h.box.chg hc h1, h.map.chg hc h2, h.ok⟩
theorem Mp.chgNo (h : Mp w m M es) (hc : Chg No w w') : Mp w' m M es := h.chg hc (fun h => h) (fun h => h)
theorem Mp.nodup (h : Mp w m M es) : (akeys es).Nodup := by have := h.map.nodup; rwa [akeys_imap] at this
theorem zero_item (W : World) : (zeroValue tItem).run Tryd.prog W = .ok (itemV Item.zero) W := Tryd.zeroValue43 W
theorem Mp.look (h : Mp w m M es) (key : ByteArray) : (Instr.lookup tMm (.map (some M)) (.string key) true).run Tryd.prog w = .ok (.tuple #[itemV ((aget es key).getD Item.zero), .bool (aget es key).isSome]) w := by
  have := h.map.lookup (P := Tryd.prog) (keyLaw_string (Tryd.underlying9)) Tryd.underlying52 (zero_item w) key true
  rw [aget_imap] at this
  rw [if_pos rfl] at this
  rw [this]
  cases aget es key <;> rfl
end
/-! exec.Time, event.Line, line -/
def tmOk (t : Int) : Prop := -9223372036854775808 ≤ t ∧ t ≤ 9223372036854775807
def TmR (exp : Int) (e : Ending) : Prop := ∃ t, tmOk t ∧ (exp = 0 → t = 0) ∧ e = .returned (.int .i64 t)
theorem time_calls (exp now : Int) (he : tmOk exp) (hn : tmOk now) (w : World) :
    Calls Tryd.prog 25 #[.int .i64 exp, .int .i64 now] w fun e w' => TmR exp e ∧ w' = w := by
  obtain ⟨he1, he2⟩ := he
  obtain ⟨hn1, hn2⟩ := hn
  by_cases c1 : exp < 0
  · go_enter Tryd.func25, Tryd.ntmps25
    go_wp2
    go_ret
    exact ⟨⟨1, ⟨by decide, by decide⟩, (fun h => by omega), rfl⟩, rfl⟩
  by_cases c2 : exp = 0
  · subst c2
    go_enter Tryd.func25, Tryd.ntmps25
    go_wp2
    go_ret
    exact ⟨⟨0, ⟨by decide, by decide⟩, (fun _ => rfl), rfl⟩, rfl⟩
  have c2' : (exp == 0) = false := by simpa using c2
  by_cases c3 : 2592000 < exp
  · go_enter Tryd.func25, Tryd.ntmps25
    go_wp2
    go_ret
    exact ⟨⟨exp, ⟨he1, he2⟩, (fun h => h), rfl⟩, rfl⟩
  have e1 : IntKind.i64.wrap (9223372036854775807 - exp) = 9223372036854775807 - exp := IntWalk.i64_in _ (by omega)
  by_cases c4 : 9223372036854775807 - exp < now
  · go_enter Tryd.func25, Tryd.ntmps25
    go_wp2
    go_ret
    exact ⟨⟨9223372036854775807, ⟨by decide, by decide⟩, (fun h => absurd h c2), rfl⟩, rfl⟩
  · have e2 : IntKind.i64.wrap (now + exp) = now + exp := IntWalk.i64_in _ (by omega)
    go_enter Tryd.func25, Tryd.ntmps25
    go_wp2
    all_goals go_ret
    · exact ⟨⟨1, ⟨by decide, by decide⟩, (fun h => absurd h c2), rfl⟩, rfl⟩
    · exact ⟨⟨now + exp, ⟨by omega, by omega⟩, (fun h => absurd h c2), rfl⟩, rfl⟩
def ansc (text : ByteArray) : Array Value := #[.bool false, .string ⟨#[]⟩, .string ⟨#[]⟩, .string text, .int .u32 0, .int .u64 0, .bool false]
theorem aline_calls (text : ByteArray) (w : World) :
    Calls Tryd.prog 22 #[.string text] w fun e w' => e = .returned (.agg (ansc text)) ∧ Chg No w w' := by
  go_enter Tryd.func22, Tryd.ntmps22
  go_wp2
  have HB := Blk.new w tAns (ansc text)
  have z0 := HB.cell 0
  have z1 := HB.cell 1
  have z2 := HB.cell 2
  have z3 := HB.cell 3
  have z4 := HB.cell 4
  have z5 := HB.cell 5
  have z6 := HB.cell 6
  simp [ansc] at z0 z1 z2 z3 z4 z5 z6
  refine bodyPost_ret (v := .agg (ansc text)) (by simp [results, Tryd.results22, go_sem, ansc, z0, z1, z2, z3, z4, z5, z6]) rfl ⟨rfl, by (repeat (first | (with_reducible exact Chg.refl _ _) | (with_reducible assumption) | (with_reducible refine Chg.drewN ?_ _) | (with_reducible refine Chg.drew ?_) | (with_reducible refine Chg.alloc ?_ _) | (with_reducible refine Chg.setCell ?_ (by first | (left; simp [DevH.foot]; done) | (right; simp; done) | (right; simp; omega)) _)))⟩
theorem mline_calls (text : ByteArray) (w : World) :
    Calls Tryd.prog 19 #[.string text] w fun e w' => ∃ g, e = .returned (.slice (some ⟨g, 0, none⟩) 1 1) ∧ Blk w' g tAns (ansc text) ∧ w.heap.size ≤ g ∧ Chg No w w' := by
  have HL := Lib.hid (aline_calls text w)
  go_enter Tryd.func19, Tryd.ntmps19
  go_wp2_with fail
  refine HL.out.mono ?_
  rintro e w1 ⟨rfl, hc1⟩
  have HC1 := Lib.hid hc1
  clear hc1 HL
  rw [ansc]
  go_wp2_with fail
  go_ret
  exact ⟨_, rfl, Blk.new w1 tAns (ansc text), HC1.out.size, HC1.out.alloc _⟩
theorem mnew_calls (w : World) :
    Calls Tryd.prog 8 #[] w fun e w' => ∃ m M, e = .returned (.pointer (some ⟨m, 0, none⟩)) ∧ Mp w' m M [] ∧ w.heap.size ≤ m ∧ w.heap.size ≤ M ∧ m ≠ M ∧ Chg No w w' := by
  have hmm := @run_makeMap Tryd.prog
  go_enter Tryd.func8, Tryd.ntmps8
  go_wp2_with fail
  go_ret
  have hM := MapIs.made skey w
  have hb := Blk.new (w.alloc (.map #[] 0)) tMdl #[.map (some w.heap.size)]
  rw [World.size_alloc] at hb
  exact ⟨w.heap.size + 1, w.heap.size, rfl, ⟨hb, hM.alloc _, fun p hp => by cases hp⟩, by omega, Nat.le_refl _, by omega, by (repeat (first | (with_reducible exact Chg.refl _ _) | (with_reducible assumption) | (with_reducible refine Chg.drewN ?_ _) | (with_reducible refine Chg.drew ?_) | (with_reducible refine Chg.alloc ?_ _) | (with_reducible refine Chg.setCell ?_ (by first | (left; simp [DevH.foot]; done) | (right; simp; done) | (right; simp; omega)) _)))⟩
section
variable {w w' : World} {m M : Nat} {es : Its}
theorem mlose_calls (h : Mp w m M es) (hmM : m ≠ M) (key : ByteArray) :
    Calls Tryd.prog 15 #[.pointer (some ⟨m, 0, none⟩), .string key] w fun e w' => e = .returned (.tuple #[]) ∧ Mp w' m M (adel es key) ∧ Chg (fun k => k = M) w w' := by
  have c0 := h.box.cell 0
  simp at c0
  have hlt := h.box.lt
  obtain ⟨o, hrun, hmap⟩ := h.map.delete (P := Tryd.prog) (keyLaw_string (Tryd.underlying9)) (ty := 0) (kt' := 9) Tryd.underlying52 key
  rw [adel_imap] at hmap
  have HF : Hid (Mp (setBlock w M o) m M (adel es key) ∧ Chg (fun k => k = M) w (setBlock w M o)) := ⟨⟨h.box.chg (chg_setBlock _ _ _) hmM, hmap, h.ok.del key⟩, chg_setBlock _ _ _⟩
  clear h hmap
  go_enter Tryd.func15, Tryd.ntmps15
  go_wp2_with fail
  go_end0
  exact ⟨rfl, HF.out.1, HF.out.2⟩
set_option maxRecDepth 100000 in
/-- Get -/
theorem mget_calls (h : Mp w m M es) (key : ByteArray) (now : Int) :
    Calls Tryd.prog 14 #[.pointer (some ⟨m, 0, none⟩), .string key, .int .i64 now] w fun e w' => e = .returned (.tuple #[itemV ((mget es key now).getD Item.zero), .bool (mget es key now).isSome]) ∧ Chg No w w' := by
  have HR := Blk.new w tItem #[.string ⟨#[]⟩, .string ⟨#[]⟩, .int .u32 0, .int .i64 0, .int .u64 0]
  have hc1 : Chg No w (w.alloc (.cells #[.string ⟨#[]⟩, .string ⟨#[]⟩, .int .u32 0, .int .i64 0, .int .u64 0] tItem)) := (Chg.refl No w).alloc _
  have c0 := (h.chgNo hc1).box.cell 0
  simp at c0
  have hlt := (h.chgNo hc1).box.lt
  have hlk := (h.chgNo hc1).look key
  obtain ⟨w1, hw1⟩ : ∃ w1, w1 = w.alloc (.cells #[.string ⟨#[]⟩, .string ⟨#[]⟩, .int .u32 0, .int .i64 0, .int .u64 0] tItem) := ⟨_, rfl⟩
  rw [← hw1] at c0 hlt hlk HR hc1
  have hmg : mget es key now = (aget es key).filter (fun x => live x now) := rfl
  obtain ⟨a, ha⟩ : ∃ a, a = aget es key := ⟨_, rfl⟩
  rw [← ha] at hlk hmg
  have HMG := Lib.hid hmg
  have HRB := Lib.hid HR
  have HC1 := Lib.hid hc1
  clear h ha hmg HR hc1
  go_enter Tryd.func14, Tryd.ntmps14
  rw [hw1] at c0 hlt hlk
  cases a with
  | none =>
    go_wp2_with fail
    have HB := (Blk.new w tItem #[(.string ⟨#[]⟩), (.string ⟨#[]⟩), (.int .u32 0), (.int .i64 0), (.int .u64 0)]).alloc (.cells #[(.string Item.zero.key), (.string Item.zero.val), (.int .u32 Item.zero.flags.toNat), (.int .i64 Item.zero.exp.toInt), (.int .u64 Item.zero.ver.toNat)] tItem)
    have z0 := HB.cell 0
    have z1 := HB.cell 1
    have z2 := HB.cell 2
    have z3 := HB.cell 3
    have z4 := HB.cell 4
    simp at z0 z1 z2 z3 z4
    refine bodyPost_ret (v := .tuple #[.agg #[(.string ⟨#[]⟩), (.string ⟨#[]⟩), (.int .u32 0), (.int .i64 0), (.int .u64 0)], .bool false]) (by simp [results, Tryd.results14, go_sem, z0, z1, z2, z3, z4]) rfl ⟨?_, by (repeat (first | (with_reducible exact Chg.refl _ _) | (with_reducible assumption) | (with_reducible refine Chg.drewN ?_ _) | (with_reducible refine Chg.drew ?_) | (with_reducible refine Chg.alloc ?_ _) | (with_reducible refine Chg.setCell ?_ (by first | (left; simp [DevH.foot]; done) | (right; simp; done) | (right; simp; omega)) _)))⟩
    rw [HMG.out]; rfl
  | some x =>
    by_cases q1 : x.exp.toInt = 0
    · have q1b : (x.exp.toInt != 0) = false := by simp [q1]
      have hL : live x now = true := by simp [live, q1]
      go_wp2_with fail
      have HB := (Blk.new w tItem #[(.string x.key), (.string x.val), (.int .u32 x.flags.toNat), (.int .i64 0), (.int .u64 x.ver.toNat)]).alloc (.cells #[(.string x.key), (.string x.val), (.int .u32 x.flags.toNat), (.int .i64 0), (.int .u64 x.ver.toNat)] tItem)
      have z0 := HB.cell 0
      have z1 := HB.cell 1
      have z2 := HB.cell 2
      have z3 := HB.cell 3
      have z4 := HB.cell 4
      simp at z0 z1 z2 z3 z4
      refine bodyPost_ret (v := .tuple #[.agg #[(.string x.key), (.string x.val), (.int .u32 x.flags.toNat), (.int .i64 0), (.int .u64 x.ver.toNat)], .bool true]) (by simp [results, Tryd.results14, go_sem, z0, z1, z2, z3, z4]) rfl ⟨?_, by (repeat (first | (with_reducible exact Chg.refl _ _) | (with_reducible assumption) | (with_reducible refine Chg.drewN ?_ _) | (with_reducible refine Chg.drew ?_) | (with_reducible refine Chg.alloc ?_ _) | (with_reducible refine Chg.setCell ?_ (by first | (left; simp [DevH.foot]; done) | (right; simp; done) | (right; simp; omega)) _)))⟩
      rw [HMG.out]
      simp [Option.filter, hL, q1]
    · have q1b : (x.exp.toInt != 0) = true := by simp [q1]
      by_cases q2 : x.exp.toInt ≤ now
      · have hL : live x now = false := by simp [live, q1]; omega
        go_wp2_with fail
        have HB := (Blk.new w tItem #[(.string ⟨#[]⟩), (.string ⟨#[]⟩), (.int .u32 0), (.int .i64 0), (.int .u64 0)]).alloc (.cells #[(.string x.key), (.string x.val), (.int .u32 x.flags.toNat), (.int .i64 x.exp.toInt), (.int .u64 x.ver.toNat)] tItem)
        have z0 := HB.cell 0
        have z1 := HB.cell 1
        have z2 := HB.cell 2
        have z3 := HB.cell 3
        have z4 := HB.cell 4
        simp at z0 z1 z2 z3 z4
        refine bodyPost_ret (v := .tuple #[.agg #[(.string ⟨#[]⟩), (.string ⟨#[]⟩), (.int .u32 0), (.int .i64 0), (.int .u64 0)], .bool false]) (by simp [results, Tryd.results14, go_sem, z0, z1, z2, z3, z4]) rfl ⟨?_, by (repeat (first | (with_reducible exact Chg.refl _ _) | (with_reducible assumption) | (with_reducible refine Chg.drewN ?_ _) | (with_reducible refine Chg.drew ?_) | (with_reducible refine Chg.alloc ?_ _) | (with_reducible refine Chg.setCell ?_ (by first | (left; simp [DevH.foot]; done) | (right; simp; done) | (right; simp; omega)) _)))⟩
        rw [HMG.out]
        simp [Option.filter, hL]
        exact ⟨rfl, rfl, rfl, rfl, rfl⟩
      · have hL : live x now = true := by simp [live]; omega
        go_wp2_with fail
        have HB := (Blk.new w tItem #[(.string x.key), (.string x.val), (.int .u32 x.flags.toNat), (.int .i64 x.exp.toInt), (.int .u64 x.ver.toNat)]).alloc (.cells #[(.string x.key), (.string x.val), (.int .u32 x.flags.toNat), (.int .i64 x.exp.toInt), (.int .u64 x.ver.toNat)] tItem)
        have z0 := HB.cell 0
        have z1 := HB.cell 1
        have z2 := HB.cell 2
        have z3 := HB.cell 3
        have z4 := HB.cell 4
        simp at z0 z1 z2 z3 z4
        refine bodyPost_ret (v := .tuple #[.agg #[(.string x.key), (.string x.val), (.int .u32 x.flags.toNat), (.int .i64 x.exp.toInt), (.int .u64 x.ver.toNat)], .bool true]) (by simp [results, Tryd.results14, go_sem, z0, z1, z2, z3, z4]) rfl ⟨?_, by (repeat (first | (with_reducible exact Chg.refl _ _) | (with_reducible assumption) | (with_reducible refine Chg.drewN ?_ _) | (with_reducible refine Chg.drew ?_) | (with_reducible refine Chg.alloc ?_ _) | (with_reducible refine Chg.setCell ?_ (by first | (left; simp [DevH.foot]; done) | (right; simp; done) | (right; simp; omega)) _)))⟩
        rw [HMG.out]
        simp [Option.filter, hL]
end
end Go.Proofs.YtedkoplgfidjlaaDoor
