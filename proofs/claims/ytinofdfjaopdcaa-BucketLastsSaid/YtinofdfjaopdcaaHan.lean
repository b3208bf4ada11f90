/- A store with its device, whole: the contracts as the laws use them. -/
import Derived.Test.YtinofdfjaopdcaaPlain
namespace Go.Proofs.Ytinofdfjaopdcaa
open Go.RowKit
set_option linter.unusedSimpArgs false
set_option linter.unusedVariables false

structure Han (w : World) (h : DevH) (t : StoH) (D : Dev) (B : Sto) (ls : List (List Item)) : Prop where
  dev : DevAt w h D
  sto : StoAt w h t B
  ok : OkSt D B ls
/-- what a call may change -/
def Own (h : DevH) (t : StoH) : Nat → Prop := fun k => h.foot k ∨ ∃ p ∈ t.ps, k = p.2

section
variable {w : World} {h : DevH} {t : StoH} {D : Dev} {B : Sto} {ls : List (List Item)}
theorem Han.chgNo {w' : World} (H : Han w h t D B ls) (hc : Chg No w w') : Han w' h t D B ls := ⟨H.dev.chgNo hc, H.sto.chgNo hc, H.ok⟩
theorem Han.lt (H : Han w h t D B ls) {k : Nat} (hk : Own h t k) : k < w.heap.size := by
  rcases hk with hk | ⟨p, hp, rfl⟩
  · exact foot_lt H.dev hk
  · obtain ⟨i, hi⟩ := List.mem_iff_getElem?.1 hp
    have hil : i < B.fs.length := by rw [← H.sto.len]; exact (List.getElem?_eq_some_iff.1 hi).1
    obtain ⟨p1, q1, h1, _, hf⟩ := H.sto.at_ hil
    rw [hi] at h1
    injection h1 with h1
    subst h1
    exact hf.bits.lt
/-- a block of whatever else's stays -/
theorem Han.far (H : Han w h t D B ls) {g : Nat} {cs : Array Value} {T : TypeId} {fz : Nat × Nat} (hg : w.heap[g]? = some (.cells cs T fz)) (h1 : T ≠ tDev) (h2 : T ≠ tPP) (h3 : T ≠ tBool) : ¬ Own h t g := by
  rintro (hk | ⟨p, hp, rfl⟩)
  · exact DevN.not_foot H.dev hg h1 h2 hk
  · obtain ⟨i, hi⟩ := List.mem_iff_getElem?.1 hp
    have hil : i < B.fs.length := by rw [← H.sto.len]; exact (List.getElem?_eq_some_iff.1 hi).1
    obtain ⟨p1, q1, h1', _, hf⟩ := H.sto.at_ hil
    rw [hi] at h1'
    injection h1' with h1'
    subst h1'
    have := hf.bits
    unfold Blk at this
    rw [this] at hg
    cases hg
    exact h3 rfl

theorem hput (H : Han w h t D B ls) (x : Item) (hg : x.good = true) (hx : x.size ≤ 120) {l : List Item} (hl : ls[B.no x.key]? = some l) :
    Calls Try.prog 26 #[.pointer (some ⟨t.s, 0, none⟩), itemV x] w fun e w' => ∃ v, e = .returned (.tuple #[v, .int .i64 0]) ∧
      w'.ownsRow w.heap.size tItem 5 v (pout l x).length (its (pout l x)) ∧ Han w' h t (B.putD D x) (B.add x) (ls.set (B.no x.key) (pleft l x)) ∧ Chg (Own h t) w w' := by
  obtain ⟨h1, h2, h3, h4⟩ := H.ok.put hg hl
  refine (sput_calls H.dev H.sto H.ok.pos x hg hx h1 h2).mono ?_
  rintro e w' ⟨v, rfl, ho, hd, hs, hc⟩
  rw [h3] at ho
  exact ⟨v, rfl, ho, ⟨hd, hs, h4⟩, hc⟩

theorem hput_bad (H : Han w h t D B ls) (x : Item) (hx : (x.good && decide (x.size ≤ 120)) = false) :
    Calls Try.prog 26 #[.pointer (some ⟨t.s, 0, none⟩), itemV x] w fun e w' => e = .returned (.tuple #[.slice none 0 0, .int .i64 1]) ∧ Han w' h t D B ls ∧ Chg (Own h t) w w' := by
  refine (sput_bad (t := t) x hx).mono ?_
  rintro e w' ⟨rfl, hc⟩
  exact ⟨rfl, H.chgNo hc, hc.mono (fun _ _ h => h.elim)⟩

theorem hdrop (H : Han w h t D B ls) (key : ByteArray) (hk : key.size ≤ 140737488351232) {l : List Item} (hl : ls[B.no key]? = some l) :
    Calls Try.prog 27 #[.pointer (some ⟨t.s, 0, none⟩), .string key] w fun e w' => e = .returned (.int .i64 (if rid l key = l then 5 else 0)) ∧
      Han w' h t (B.dropD D key) B (ls.set (B.no key) (rid l key)) ∧ Chg (Own h t) w w' := by
  obtain ⟨h1, h2, h3⟩ := H.ok.drop key hl
  refine (drop_calls H.dev H.sto H.ok.pos key hk h1).mono ?_
  rintro e w' ⟨rfl, hd, hc⟩
  rw [h2]
  exact ⟨rfl, ⟨hd, H.sto.foot H.dev hc, h3⟩, hc.mono (fun _ _ h => .inl h)⟩

theorem hitems (H : Han w h t D B ls) :
    Calls Try.prog 31 #[.pointer (some ⟨t.s, 0, none⟩)] w fun e w' => ∃ v, e = .returned (.tuple #[v, .int .i64 0]) ∧ w'.ownsRow w.heap.size tItem 5 v ls.flatten.length (its ls.flatten) ∧ Han w' h t D B ls ∧ Chg (Own h t) w w' := by
  obtain ⟨h1, h2⟩ := H.ok.all
  refine (sitems_calls H.dev H.sto h1).mono ?_
  rintro e w' ⟨v, rfl, ho, hd, hc⟩
  rw [h2] at ho
  exact ⟨v, rfl, ho, ⟨hd.at_, H.sto.foot H.dev hc, H.ok⟩, hc.mono (fun _ _ h => .inl h)⟩

theorem hget (H : Han w h t D B ls) (key : ByteArray) (hk : key.size ≤ 140737488351232) {l : List Item} (hl : ls[B.no key]? = some l) (hm : B.may key = true) :
    Calls Try.prog 29 #[.pointer (some ⟨t.s, 0, none⟩), .string key] w fun e w' => e = .returned (.tuple #[itemV ((l.find? (keyed key)).getD Item.zero), .int .i64 (if (l.find? (keyed key)).isSome then 0 else 5)]) ∧
      Han w' h t D B ls ∧ Chg (Own h t) w w' := by
  obtain ⟨h1, h2⟩ := H.ok.lE_ hl
  refine (get_calls H.dev H.sto H.ok.pos key hk).mono ?_
  rintro e w' ⟨rfl, hd, hc⟩
  refine ⟨?_, ⟨hd.at_, H.sto.foot H.dev hc, H.ok⟩, hc.mono (fun _ _ h => .inl h)⟩
  unfold Sto.get
  rw [hm, if_pos rfl, h1, if_pos rfl, h2]
  cases l.find? (keyed key) <;> rfl

theorem hmay (H : Han w h t D B ls) (key : ByteArray) (hk : key.size ≤ 140737488351232) :
    Calls Try.prog 30 #[.pointer (some ⟨t.s, 0, none⟩), .string key] w fun e w' => e = .returned (.bool (B.may key)) ∧ Chg No w w' := smay_calls H.sto H.ok.pos key hk

theorem hopen {w : World} {h : DevH} (n pages : Nat) (hd : DevAt w h (Dev.new n)) (hp : 1 ≤ pages) (hp2 : pages ≤ 256) (hf : pages ≤ n) :
    Calls Try.prog 25 #[.pointer (some ⟨h.d, 0, none⟩), .int .i64 ((0 : Nat) : Int), .int .i64 pages] w fun e w' => ∃ t : StoH, e = .returned (.tuple #[.pointer (some ⟨t.s, 0, none⟩), .int .i64 0]) ∧
      Han w' h t (Dev.new n) (Sto.open_ (Dev.new n) 0 pages) (List.replicate pages []) ∧ Chg h.foot w w' ∧ (∀ p ∈ t.ps, w.heap.size ≤ p.2) := by
  refine (open_calls hd 0 pages hp hp2 (by show 0 + pages ≤ n; omega) rfl (fun i hi => new_lE n pages hp hf i hi)).mono ?_
  rintro e w' ⟨t, rfl, hd', hs, hc, hq⟩
  exact ⟨t, rfl, ⟨hd'.at_, hs, new_ok n pages hp hf⟩, hc, hq⟩
end
end Go.Proofs.Ytinofdfjaopdcaa
