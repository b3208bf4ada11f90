/- Packed texts: EngWi, EngPj, EngGo, EngOw, EngNw, EngTo, OpenI. -/
import Derived.Test.YtplpbbdakihnfaaGreatPq28
import Derived.Test.YtplpbbdakihnfaaGreatPq29
import Derived.Test.YtplpbbdakihnfaaGreatPq04
import Derived.ChangeMaps5
set_option linter.unusedSimpArgs false
set_option linter.unusedVariables false
section
namespace Go.Proofs.YtplpbbdakihnfaaGreat
open Go.RowKit
attribute [local go_sem ↓] Go.wp_at_zero Go.wp_at_succ
theorem eng_new30 (w : World) : Calls Tryz.prog 13 #[.int .i64 30] w fun e w' => ∃ h : DevH, e = .returned (.tuple #[.pointer (some ⟨h.d, 0, none⟩), .int .i64 0]) ∧ DevAt w' h (Dev.new 30) ∧ Chg No w w' ∧ ∀ k, h.foot k → w.heap.size ≤ k := new_calls 30 w (by decide) (by decide)
def gLaw : Geo := ⟨3, 3, 2, 0⟩
section
variable {g : Geo} {Q : Item → Prop} {K : ByteArray → Prop} {c : Nat} {X : Eng} {D : Dev} {ls : List (List Item)}
end
end Go.Proofs.YtplpbbdakihnfaaGreat
end

section
namespace Go.Proofs.YtplpbbdakihnfaaGreat
open Go.RowKit
section
variable {n : Nat} {ks : List ByteArray} {g : Geo} {Q Q2 : Item → Prop} {K : ByteArray → Prop} {c c2 : Nat} {X X2 Y : Eng} {D D2 E : Dev} {ls ls2 : List (List Item)}
structure Rid (ks : List ByteArray) (X X2 : Eng) (last : Nat) : Prop where
  no : ∀ k ∈ ks, X.may k = true → ∀ x : Item, x.key = k → x.ver.toNat ≤ last → X2.counts x = false
theorem Rid.same (h : Rid ks X X2 n) (hJ : Y.J = X2.J) (hb : Y.blk.horizon = X2.blk.horizon) : Rid ks X Y n := by
  refine ⟨fun k hk hm x hx hv => ?_⟩
  have := h.no k hk hm x hx hv
  unfold Eng.counts at this ⊢
  rw [hJ, hb]; exact this
end
end Go.Proofs.YtplpbbdakihnfaaGreat
end

section
namespace Go.Proofs.YtplpbbdakihnfaaGreat
open Go.RowKit
attribute [local go_sem ↓] Go.wp_at_zero Go.wp_at_succ
section
variable {w0 w w' : World} {h : DevH} {t : EngH} {g : Geo} {Q : Item → Prop} {K : ByteArray → Prop} {c : Nat} {X Y : Eng} {D E : Dev} {ls : List (List Item)}
theorem get_one (X : Eng) (D : Dev) (k : ByteArray) : (X.getE D k = 0 ∧ X.one D k = some (X.get D k)) ∨ (X.getE D k = 5 ∧ X.one D k = none ∧ X.get D k = Item.zero) := by
  unfold Eng.getE Eng.get
  cases h : X.one D k with
  | none => exact .inr ⟨rfl, rfl, rfl⟩
  | some x => exact .inl ⟨rfl, rfl⟩
theorem Aft.rid {X1 : Eng} {ks : List ByteArray} {last : Nat} (h : All g Q K c X D ls) (ha : Aft g Q K X ls Y E) (ho : Y.G.Ok) (hr : Rid ks X1 X last) (hQ : ∀ y, Q y → y.ver.toNat ≤ last → X1.may y.key = true) {k : ByteArray} (hk : k ∈ ks) {x : Item} (hx : Y.one E k = some x) : last < x.ver.toNat := by
  obtain ⟨h1, h2, h3, _⟩ := ha.told h ho hx
  rcases Nat.lt_or_ge last x.ver.toNat with h9 | h9
  · exact h9
  · have := hr.no k hk (by rw [← h1]; exact hQ x h2 h9) x h1 h9
    rw [this] at h3; cases h3
end
end Go.Proofs.YtplpbbdakihnfaaGreat
end

section
namespace Go.Proofs.YtplpbbdakihnfaaGreat
open Go.RowKit
abbrev tStr : TypeId := 9
structure Row10 (w0 w : World) (h : DevH) (t : EngH) (T : TypeId) (size : Nat) (v : Value) (n : Nat) (xs : List Value) : Prop where
  own : w.ownsRow w0.heap.size T size v n xs
  no : ∀ k, v.ownBlock = some k → ¬ t.all h k
section
variable {w0 w w' : World} {h : DevH} {t t' : EngH} {g : Geo} {Q Q' : Item → Prop} {K : ByteArray → Prop} {c c' : Nat} {X X' Y : Eng} {D D' E : Dev} {ls ls' : List (List Item)} {T : TypeId} {size n n' : Nat} {v v' : Value} {xs xs' : List Value} {S : Nat → Prop}
theorem own_at {base : Nat} (ho : w.ownsRow base T size v n xs) {k : Nat} (hk : v.ownBlock = some k) : ∃ cs, w.heap[k]? = some (.cells cs T (0, 0)) := by
  rcases ho.2 with ⟨rfl, _⟩ | ⟨g, cap, cur, rfl, h2, h3, _⟩
  · cases hk
  · injection hk with hk
    subst hk
    exact ⟨_, h3⟩
theorem Heng.aside (H : Heng w0 h t g Q K c X D ls w) (hc : Chg S w w') (hS : ∀ k, S k → ¬ t.all h k ∧ w0.heap.size ≤ k ∧ ∃ cs T fz, w.heap[k]? = some (.cells cs T fz) ∧ (T = tStr ∨ T = tItem)) : Heng w0 h t g Q K c X D ls w' := by
  have hty : ∀ (g : Nat) (cs : Array Value) (T : TypeId), T ≠ tStr → T ≠ tItem → Blk w g T cs → ¬ S g := by
    intro g cs T h1 h2 hb hs
    obtain ⟨_, _, cs', T', fz, h3, h4⟩ := hS g hs
    unfold Blk at hb
    rw [hb] at h3
    cases h3
    exact h4.elim h1 h2
  have hno : ∀ k, t.all h k → ¬ S k := fun k hk hs => (hS k hs).1 hk
  refine ⟨(DevN.chg H.dev hc (hno _ (.inl (.inl rfl))) (hno _ (.inl (.inr (.inl rfl)))) (hno _ (.inl (.inr (.inr rfl)))) (fun g cs T _ hT hb => hty g cs T (by rcases hT with rfl | rfl <;> decide) (by rcases hT with rfl | rfl <;> decide) hb)).at_, ?_, H.all, H.far, H.chg.then hc (fun i hi hk => by have := (hS i hk).2.1; omega)⟩
  have he := H.eng
  exact { he with
    box := he.box.chg hc (hno _ (.inr (.inl rfl)))
    jn := he.jn.chg hc (fun k hk => hno _ (.inr (.inr (.inl hk))))
    sto := he.sto.chg hc (fun g cs T hT hb => hty g cs T (by rcases hT with rfl | rfl | rfl | rfl <;> decide) (by rcases hT with rfl | rfl | rfl | rfl <;> decide) hb)
    lg := he.lg.chg hc (fun k hk => hno _ (.inr (.inr (.inr (.inr hk))))) }
theorem Row10.nil (w0 w : World) (h : DevH) (t : EngH) (T : TypeId) (size : Nat) : Row10 w0 w h t T size (.slice none 0 0) 0 [] := ⟨World.ownsRow_nil _ _ _ _, fun k hk => by cases hk⟩
theorem Row10.chgNo (r : Row10 w0 w h t T size v n xs) (hc : Chg No w w') : Row10 w0 w' h t T size v n xs := ⟨own_chg r.own hc (fun _ _ h => h), r.no⟩
theorem Hgo.row (s : Hgo w0 w h t g Q K c X D ls t' w') (r : Row10 w0 w h t T size v n xs) : Row10 w0 w' h t' T size v n xs := ⟨own_chg r.own s.chg r.no, fun k hk => s.loc (r.own.lt k hk).2 (r.no k hk)⟩
theorem Row10.app (r : Row10 w0 w h t T size v n xs) (H : Heng w0 h t g Q K c X D ls w) (hT : T = tStr ∨ T = tItem) (ho : w'.ownsRow w0.heap.size T size v' n' xs') (hg : w.grownBy w' v.ownBlock) (hb : v'.ownBlock = v.ownBlock ∨ v'.ownBlock = some w.heap.size) :
    Heng w0 h t g Q K c X D ls w' ∧ Row10 w0 w' h t T size v' n' xs' := by
  refine ⟨H.aside (S := fun k => v.ownBlock = some k) (Chg.grown (Chg.refl _ _) hg (fun k hk => .inl hk)) (fun k hk => ?_), ho, fun k hk => ?_⟩
  · obtain ⟨cs, h1⟩ := own_at r.own hk
    exact ⟨r.no k hk, (r.own.lt k hk).1, cs, T, _, h1, hT⟩
  · rcases hb with e | e
    · exact r.no k (e ▸ hk)
    · intro h9
      have h8 := H.lt h9
      rw [e] at hk
      injection hk with hk
      omega
theorem Loc10.aside {b : Nat} {cs : Array Value} {Tb : TypeId} (l : Loc10 w h t b Tb cs) (hc : Chg S w w') (hS : ¬ S b) : Loc10 w' h t b Tb cs := ⟨l.blk.chg hc hS, l.no⟩
end
end Go.Proofs.YtplpbbdakihnfaaGreat
end

section
namespace Go.Proofs.YtplpbbdakihnfaaGreat
open Go.RowKit
def Vis (X : Eng) (ls : List (List Item)) (key : ByteArray) (y : Item) : Prop := (∃ l, ls[X.B.no key]? = some l ∧ y ∈ l ∧ y.key = key) ∨ X.G.view key = some y
structure Newest10 (al : List Item) (X : Eng) (ls : List (List Item)) : Prop where
  vis : ∀ key y, Vis X ls key y → y ∈ al ∧ ∀ z ∈ al, z.key = key → z.ver.toNat ≤ y.ver.toNat
  last : ∀ z ∈ al, z.good = true ∧ z.ver.toNat ≤ X.last
section
variable {w0 w w' : World} {h : DevH} {t : EngH} {g : Geo} {Q : Item → Prop} {K : ByteArray → Prop} {c : Nat} {X X2 : Eng} {D D2 : Dev} {ls ls2 : List (List Item)} {al : List Item}
theorem view_drop (G : Lg) (hd : (akeys G.keys).Nodup) (k key : ByteArray) : (G.drop k).view key = if k = key then none else G.view key := by
  have e : (G.drop k).view key = (aget (adel G.keys k) key).map (G.drop k).item := rfl
  rw [e, aget_adel _ hd]
  split
  · rfl
  · rfl
theorem one_vis (h : All g Q K c X D ls) {key : ByteArray} {x : Item} (hx : X.one D key = some x) : Vis X ls key x ∧ x.key = key ∧ X.may key = true ∧ X.counts x = true := by
  obtain ⟨h1, h2⟩ := one_cases hx
  obtain ⟨l, hl⟩ := h.bks.get_ key
  have ht := h.bks.tell key hl
  rcases h2 with ⟨h3, h4⟩ | ⟨h3, h4⟩
  · cases hf : l.find? (keyed key) with
    | none => rw [hf] at ht; rw [ht] at h4; exact absurd h4 (by decide)
    | some y =>
      rw [hf] at ht
      rw [ht] at h3
      have h5 : x = y := h3
      subst h5
      have hk : x.key = key := by have := List.find?_some hf; simpa [keyed] using this
      have hm := h.bks.may_ hl (List.mem_of_find?_eq_some hf)
      refine ⟨.inl ⟨l, hl, List.mem_of_find?_eq_some hf, hk⟩, hk, ?_, h1⟩
      unfold Eng.may
      rw [← hk, hm]; rfl
  · have hv := X.G.get_view key
    cases hw : X.G.view key with
    | none => rw [hw] at hv; rw [hv.2] at h4; exact absurd h4 (by decide)
    | some y =>
      rw [hw] at hv
      have h5 : x = y := by rw [h3, hv.1]; rfl
      subst h5
      refine ⟨.inr hw, (h.lgs.view_q hw).2, ?_, h1⟩
      unfold Eng.may
      have : X.G.has key = true := by
        unfold Lg.view at hw
        unfold Lg.has
        cases hp : aget X.G.keys key with
        | none => rw [hp] at hw; cases hw
        | some p => rfl
      rw [this]; simp
theorem Newest10.same (n : Newest10 al X ls) (hB : X2.B = X.B) (hG : X2.G = X.G) (hl : X.last ≤ X2.last) : Newest10 al X2 ls := by
  refine ⟨fun key y hv => n.vis key y ?_, fun z hz => ⟨(n.last z hz).1, Nat.le_trans (n.last z hz).2 hl⟩⟩
  unfold Vis at hv ⊢
  rw [hB, hG] at hv
  exact hv
theorem set_vis {i j : Nat} {l l' m : List Item} (hi : ls[i]? = some l) (h : (ls.set i l')[j]? = some m) : (j = i ∧ m = l') ∨ (j ≠ i ∧ ls[j]? = some m) := by
  by_cases e : i = j
  · subst e
    rw [List.getElem?_set_self (List.getElem?_eq_some_iff.1 hi).1] at h
    injection h with h
    exact .inl ⟨rfl, h.symm⟩
  · rw [List.getElem?_set_ne e] at h
    exact .inr ⟨fun h9 => e h9.symm, h⟩
theorem Newest10.put (n : Newest10 al X ls) {x : Item} (hg : x.good = true) (hx : ∀ z ∈ al, z.ver.toNat ≤ x.ver.toNat) (hl : X.last ≤ X2.last) (hxl : x.ver.toNat ≤ X2.last) (hv : ∀ key y, Vis X2 ls2 key y → (y = x ∧ key = x.key) ∨ (key ≠ x.key ∧ Vis X ls key y)) : Newest10 (al ++ [x]) X2 ls2 := by
  refine ⟨fun key y hy => ?_, fun z hz => ?_⟩
  · rcases hv key y hy with ⟨rfl, rfl⟩ | ⟨h1, h2⟩
    · refine ⟨by simp, fun z hz _ => ?_⟩
      rcases List.mem_append.1 hz with hz | hz
      · exact hx z hz
      · rw [List.mem_singleton.1 hz]; exact Nat.le_refl _
    · obtain ⟨k1, k2⟩ := n.vis key y h2
      refine ⟨List.mem_append_left _ k1, fun z hz hk => ?_⟩
      rcases List.mem_append.1 hz with hz | hz
      · exact k2 z hz hk
      · rw [List.mem_singleton.1 hz] at hk; exact absurd hk.symm h1
  · rcases List.mem_append.1 hz with hz | hz
    · exact ⟨(n.last z hz).1, Nat.le_trans (n.last z hz).2 hl⟩
    · rw [List.mem_singleton.1 hz]; exact ⟨hg, hxl⟩
theorem small_vis (h : All g Q K c X D ls) {x : Item} {l : List Item} (hl : ls[X.B.no x.key]? = some l) {key : ByteArray} {y : Item} (hv : Vis { X with B := X.B.add x, G := X.G.drop x.key } (ls.set (X.B.no x.key) (pleft l x)) key y) : (y = x ∧ key = x.key) ∨ (key ≠ x.key ∧ Vis X ls key y) := by
  rcases hv with ⟨m, h1, h2, h3⟩ | h1
  · have h1' : (ls.set (X.B.no x.key) (pleft l x))[(X.B.add x).no key]? = some m := h1
    rw [add_no] at h1'
    rcases set_vis hl h1' with ⟨e1, rfl⟩ | ⟨e1, e2⟩
    · rcases pleft_sub h2 with rfl | ⟨k1, k2⟩
      · exact .inl ⟨rfl, h3.symm⟩
      · exact .inr ⟨h3 ▸ k2, .inl ⟨l, by rw [e1]; exact hl, k1, h3⟩⟩
    · exact .inr ⟨fun e => e1 (by rw [e]), .inl ⟨m, e2, h2, h3⟩⟩
  · have h1' : (X.G.drop x.key).view key = some y := h1
    rw [view_drop _ h.lgs.live.nd] at h1'
    split at h1'
    · cases h1'
    · rename_i hne
      exact .inr ⟨fun e => hne e.symm, .inr h1'⟩
theorem great_vis {x : Item} {l : List Item} (hl : ls[X.B.no x.key]? = some l) (q3 : (X.G.put D x).G.view x.key = some x) (q4 : ∀ key, key ≠ x.key → (X.G.put D x).G.view key = none ∨ (X.G.put D x).G.view key = X.G.view key) {key : ByteArray} {y : Item} (hv : Vis (X.pgX D x) (ls.set (X.B.no x.key) (rid l x.key)) key y) : (y = x ∧ key = x.key) ∨ (key ≠ x.key ∧ Vis X ls key y) := by
  rcases hv with ⟨m, h1, h2, h3⟩ | h1
  · rcases set_vis hl h1 with ⟨e1, rfl⟩ | ⟨e1, e2⟩
    · obtain ⟨k1, k2⟩ := mem_rid.1 h2
      exact .inr ⟨h3 ▸ k2, .inl ⟨l, by rw [← hl]; exact congrArg _ e1, k1, h3⟩⟩
    · exact .inr ⟨fun e => e1 (by show X.B.no key = _; rw [e]), .inl ⟨m, e2, h2, h3⟩⟩
  · have h1' : (X.G.put D x).G.view key = some y := h1
    by_cases hk : key = x.key
    · rw [hk, q3] at h1'
      injection h1' with h1'
      exact .inl ⟨h1'.symm, hk⟩
    · rcases q4 key hk with e | e
      · rw [e] at h1'; cases h1'
      · rw [e] at h1'; exact .inr ⟨hk, .inr h1'⟩
theorem Heng.putNew (H : Heng w0 h t g Q K c X D ls w) (hc : c + 1 ≤ 1000000) (n : Newest10 al X ls) (y : Item) (hk : y.key.size ≤ 140737488351232) (hv : y.val.size ≤ 140737488351232) (hnew : ¬ Q y) (hK : ∀ z, Q z → z.key = y.key → K y.key) (hy : ∀ z ∈ al, z.ver.toNat ≤ y.ver.toNat) (hyl : y.ver.toNat ≤ X.last) :
    Calls Tryz.prog 16 #[.pointer (some ⟨t.E, 0, none⟩), itemV y] w fun e w' => ∃ er t' X' D' ls' al', e = .returned (.int .i64 er) ∧ Hgo w0 w h t g (fun z => Q z ∨ (z = y ∧ y.good = true)) K (c + 1) X' D' ls' t' w' ∧ Newest10 al' X' ls' ∧ X'.last = X.last ∧ ((er = 0 ∧ y.good = true ∧ y.size ≤ 1472 ∧ al' = al ++ [y]) ∨ (er ≠ 0 ∧ ¬ (y.good = true ∧ y.size ≤ 1472) ∧ al' = al)) := by
  by_cases hg : y.good = true
  · by_cases hs : y.size ≤ 1472
    · obtain ⟨l, hl⟩ := H.all.bks.get_ y.key
      by_cases h1 : y.size ≤ 120
      · obtain ⟨_, _, _, q4, _⟩ := H.all.small hc hg h1 hnew hK hl
        refine (H.small hc hg h1 hnew hK hl).mono ?_
        rintro e w' ⟨rfl, s⟩
        rw [q4] at s
        exact ⟨0, t, _, _, _, al ++ [y], rfl, s.quo (fun z hz => hz.imp id (fun e => ⟨e, hg⟩)) (Nat.le_refl _) hc, n.put hg hy (Nat.le_refl _) hyl (fun key z hz => small_vis H.all hl hz), rfl, .inl ⟨rfl, hg, hs, rfl⟩⟩
      · obtain ⟨_, _, q3, q4, _⟩ := H.all.great hc hg hs hnew hK hl
        refine (H.great hc hg (by omega) hs hnew hK hl).mono ?_
        rintro e w' ⟨t', rfl, s⟩
        exact ⟨0, t', _, _, _, al ++ [y], rfl, s.quo (fun z hz => hz.imp id (fun e => ⟨e, hg⟩)) (Nat.le_refl _) hc, n.put hg hy (Nat.le_refl _) hyl (fun key z hz => great_vis hl q3 q4 hz), rfl, .inl ⟨rfl, hg, hs, rfl⟩⟩
    · refine (H.bad y hk hv (.inr (by omega))).mono ?_
      rintro e w' ⟨rfl, hch⟩
      exact ⟨_, t, X, D, ls, al, rfl, ((Hgo.rfl_ H).no hch).quo (fun z hz => .inl hz) (Nat.le_succ c) hc, n, rfl, .inr ⟨by simp [hg], fun h9 => hs h9.2, rfl⟩⟩
  · have hgf : y.good = false := by simpa using hg
    refine (H.bad y hk hv (.inl hgf)).mono ?_
    rintro e w' ⟨rfl, hch⟩
    exact ⟨_, t, X, D, ls, al, rfl, ((Hgo.rfl_ H).no hch).quo (fun z hz => .inl hz) (Nat.le_succ c) hc, n, rfl, .inr ⟨by simp [hgf], fun h9 => hg h9.1, rfl⟩⟩
end
end Go.Proofs.YtplpbbdakihnfaaGreat
end

section
namespace Go.Proofs.YtplpbbdakihnfaaGreat
open Go.RowKit
attribute [local go_sem ↓] Go.wp_at_zero Go.wp_at_succ
def Tq (X : Eng) : Item → Prop := fun z => z.good = true ∧ z.ver.toNat ≤ X.last
structure ToldSt (w0 : World) (h : DevH) (tE : Nat) (k : Nat) (v : Value) (wr : World) : Prop where
  st : ∃ t X D ls al, t.E = tE ∧ Heng w0 h t gLaw (Tq X) (fun _ => True) (1 + 2 * k) X D ls wr ∧ Newest10 al X ls ∧ al.length ≤ k ∧ Row10 w0 wr h t tItem 5 v al.length (its al)
set_option maxRecDepth 100000 in
set_option maxHeartbeats 8000000 in
theorem etold_calls (w : World) (A : Option Addr) (n cp : Nat) (xs : List Value) (l : List (Int × Item)) (te : TypeId) (hn : l.length = n) (hr : Rd w te A (n * 12) xs) (hxs : Calls10 xs l) (hsz : ∀ p ∈ l, p.2.key.size ≤ 140737488351232 ∧ p.2.val.size ≤ 140737488351232) (key : ByteArray) (hks : key.size ≤ 140737488351232) :
    Calls Tryz.prog 4 #[.slice A n cp, .string key] w fun e w' => e = .returned (.bool true) ∧ Chg No w w' := by
  have HAW := Lib.hid (awake10_calls w)
  have HN0 := fun W => Lib.hid (eng_new30 W)
  have H1 := Lib.hid (And.intro hn (And.intro hr (And.intro hxs hsz)))
  clear hn hr hxs hsz
  by_cases hle : n ≤ 30
  rotate_left
  · have hb : decide ((30 : Int) < (n : Int)) = true := by simp; omega
    have hb2 : (30 : Int) < (n : Int) := by omega
    clear hle
    go_enter Tryz.func4, Tryz.ntmps4
    go_wp2_with fail
    refine HAW.out.mono ?_
    rintro e w1 ⟨rfl, hc1⟩
    have HC1 := Lib.hid hc1
    clear hc1
    go_wp2_with fail
    go_ret
    exact ⟨rfl, HC1.out⟩
  have hb2 : ¬ (30 : Int) < (n : Int) := by omega
  go_enter Tryz.func4, Tryz.ntmps4
  go_wp2_with fail
  refine HAW.out.mono ?_
  rintro e w1 ⟨rfl, hc1⟩
  have HC1 := Lib.hid hc1
  clear hc1 HAW
  go_wp2_with fail
  refine (HN0 _).out.mono ?_
  rintro e w2 ⟨h, rfl, hd2, hc2, hf2⟩
  have HD2 := Lib.hid hd2
  have HC2 := Lib.hid (HC1.out.trans hc2)
  have HF2 : Hid (∀ k, h.foot k → w.heap.size ≤ k) := fun k hk => Nat.le_trans HC1.out.size (hf2 k hk)
  clear hd2 hc2 hf2 HN0 HC1
  go_wp2_with fail
  obtain ⟨n1, nn2, nn3, nn4, nn5⟩ := all_new 30 gLaw rfl (by decide) (fun _ => True)
  have HO := Lib.hid (Heng.opened (w0 := w) (h := h) HD2.out HF2.out HC2.out (g := gLaw) rfl (by decide) rfl (by rw [n1]; decide) (by rw [n1]; decide) nn2 nn4)
  rw [n1, show gLaw.V = .agg #[.int .i64 3, .int .i64 3, .int .i64 2, .int .i64 0] from rfl] at HO
  obtain ⟨X0, hX0⟩ : ∃ X0, X0 = Eng.opened (Dev.new 30) gLaw := ⟨_, rfl⟩
  obtain ⟨D0, hD0⟩ : ∃ D0, D0 = (Dev.new 30).stD (Eng.now (Dev.new 30)) := ⟨_, rfl⟩
  rw [← hX0, ← hD0] at HO
  rw [← hX0] at nn3
  have HX0 := Lib.hid nn3
  clear n1 nn2 nn3 nn4 nn5 hX0 hD0 HD2 HC2
  refine HO.out.mono ?_
  rintro e w4 ⟨t, rfl, h4, hc4, hall⟩
  have H4 := Lib.hid h4
  clear h4 hc4 hall HO
  rw [sbV_eq]
  go_wp2_with fail
  have a5 : Chg No w4 (w4.alloc (.cells #[.int .u64 Sb.zero.seq, .int .u64 Sb.zero.epoch, .int .u64 Sb.zero.reserved, .int .u64 Sb.zero.horizon, .int .u64 Sb.zero.gen, .bool Sb.zero.clean, .int .i64 Sb.zero.image] tSb)) := (Chg.refl No w4).alloc _
  have HNS : Hid (Newest10 [] X0 (List.replicate gLaw.b [])) := by
    refine ⟨fun key y hv => ?_, fun z hz => by cases hz⟩
    exfalso
    rcases hv with ⟨m, h1, h2, _⟩ | h1
    · rw [List.getElem?_replicate] at h1
      split at h1
      · injection h1 with h1; subst h1; cases h2
      · cases h1
    · have hG : X0.G.keys = [] := by rw [HX0.out]; rfl
      unfold Lg.view at h1
      rw [hG] at h1
      have h2 : none = some y := h1
      cases h2
  have HS0 := Lib.hid (ToldSt.mk (w0 := w) (h := h) (tE := t.E) (k := 0) (v := .slice none 0 0) (wr := w4.alloc (.cells #[.int .u64 Sb.zero.seq, .int .u64 Sb.zero.epoch, .int .u64 Sb.zero.reserved, .int .u64 Sb.zero.horizon, .int .u64 Sb.zero.gen, .bool Sb.zero.clean, .int .i64 Sb.zero.image] tSb)) ⟨t, X0, D0, _, [], rfl, ⟨(H4.out.chgNo a5).dev, (H4.out.chgNo a5).eng, H4.out.all.mono (fun _ hf => hf.elim) (Nat.le_refl _) (by decide), (H4.out.chgNo a5).far, (H4.out.chgNo a5).chg⟩, HNS.out, Nat.le_refl _, Row10.nil _ _ _ _ _ _⟩)
  clear a5 H4
  go_loopg [10, 11] n (fun g v10 v11 wr => ∃ k : Nat, v11 = .int .i64 k ∧ k ≤ n ∧ n - k = g ∧ Hid (ToldSt w h t.E k v10 wr))
  case atStart => exact ⟨0, rfl, by omega, by omega, HS0.out⟩
  case round =>
    obtain ⟨k, rfl, hk, hg, HH⟩ := hrel
    obtain ⟨t1, X, D, ls, al, hE1, h1, hn1, hal, hr1⟩ := HH.out.st
    have HE1 := Lib.hid hE1
    have HH1 := Lib.hid h1
    have N1 := Lib.hid hn1
    have R1 := Lib.hid hr1
    clear hE1 h1 hn1 hr1 HH HS0
    by_cases hkn : k < n
    · obtain ⟨⟨op, x⟩, hx⟩ : ∃ x, l[k]? = some x := ⟨_, List.getElem?_eq_getElem (by rw [H1.out.1]; exact hkn)⟩
      obtain ⟨hs1, hs2⟩ := H1.out.2.2.2 _ (List.mem_of_getElem? hx)
      simp only at hs1 hs2
      obtain ⟨gy, oy, eA, hgy, hcy⟩ := (H1.out.2.1.chg HH1.out.chg (fun _ _ _ _ h => h)).at_ (j := k * 12) (by omega)
      have HAK := Lib.hid H1.out.2.1
      subst eA
      obtain ⟨q0, q1, q2, q3, q4, q5⟩ := H1.out.2.2.1 k _ hx
      have HCY : Hid (∀ W, Chg No w W → ∀ (j : Nat) (u : Value), xs[j]? = some u → W.cell? ⟨gy, oy + j, none⟩ = some u) := fun W hW j u hu => by
        have hlen : xs.length = n * 12 := HAK.out.1
        have hj : j < n * 12 := by rw [← hlen]; exact (List.getElem?_eq_some_iff.1 hu).1
        obtain ⟨g2, o2, e2, _, hc2⟩ := (HAK.out.chg hW (fun _ _ _ _ h => h)).at_ hj
        injection e2 with e2
        injection e2 with e3 e4
        subst e3
        subst e4
        exact hc2 j u hu
      have HV := Lib.hid (HH1.out.version (by omega))
      obtain ⟨f1, f2, f3⟩ := ver_facts HH1.out (by omega)
      obtain ⟨_, _, _, _, _, _, g7, g8, _⟩ := HH1.out.all.run.version (by omega)
      obtain ⟨X3, hX3⟩ : ∃ X3, X3 = X.verX D := ⟨_, rfl⟩
      obtain ⟨D3, hD3⟩ : ∃ D3, D3 = X.verD D := ⟨_, rfl⟩
      rw [← hX3, ← hD3, HE1.out] at HV
      rw [← hX3] at f1 f2 f3 g7 g8
      have hvb : X.last + 1 < 18446744073709551616 := by
        have h1 := HH1.out.all.run.last
        have h2 := HH1.out.all.run.res
        omega
      obtain ⟨v, hv⟩ : ∃ v, v = X.last + 1 := ⟨_, rfl⟩
      rw [← hv] at HV f1 hvb
      have F := Lib.hid (And.intro hv (And.intro f1 hvb))
      have N3 := Lib.hid (N1.out.same g7 g8 (by rw [f1, hv]; omega))
      have Q1 := Lib.hid (And.intro q1 (And.intro q2 (And.intro q3 (And.intro q4 q5))))
      clear hX3 hD3 f1 f2 f3 g7 g8 hvb hv hcy hgy q0 q1 q2 q3 q4 q5 hx
      go_wp2_with fail
      refine HV.out.mono ?_
      rintro e w3 ⟨rfl, s3⟩
      have HH3 := Lib.hid s3.st
      have R3 := Lib.hid (s3.row R1.out)
      have d1 := HCY.out w3 s3.st.chg _ _ Q1.out.1
      have d2 := HCY.out w3 s3.st.chg _ _ Q1.out.2.1
      have d3 := HCY.out w3 s3.st.chg _ _ Q1.out.2.2.1
      have d4 := HCY.out w3 s3.st.chg _ _ Q1.out.2.2.2.1
      have d5 := HCY.out w3 s3.st.chg _ _ Q1.out.2.2.2.2
      simp only [← Nat.add_assoc] at d1 d2 d3 d4 d5
      clear s3 HV N1
      have HZ := Lib.hid (Blk.new w3 tItem #[.string ⟨#[]⟩, .string ⟨#[]⟩, .int .u32 0, .int .i64 0, .int .u64 0])
      have z0 := HZ.out.cell 0
      have z1 := HZ.out.cell 1
      have z2 := HZ.out.cell 2
      have z3 := HZ.out.cell 3
      have z4 := HZ.out.cell 4
      have g0 := HZ.out.frozen 0
      have g1 := HZ.out.frozen 1
      have g2 := HZ.out.frozen 2
      have g3 := HZ.out.frozen 3
      have g4 := HZ.out.frozen 4
      simp only [List.getElem?_toArray, List.getElem?_cons_zero, List.getElem?_cons_succ] at z0 z1 z2 z3 z4
      go_wp2_with fail
      have hnv := newer_ver x F.out.2.2
      obtain ⟨y, hy⟩ : ∃ y, y = newer x v := ⟨_, rfl⟩
      have a4 : Chg No w3 (w3.alloc (.cells #[.string x.key, .string x.val, .int .u32 x.flags.toNat, .int .i64 x.exp.toInt, .int .u64 v] tItem)) := (Chg.refl No w3).alloc _
      have L4 := Lib.hid (Loc10.new HH3.out tItem #[.string x.key, .string x.val, .int .u32 x.flags.toNat, .int .i64 x.exp.toInt, .int .u64 v])
      have H4 := Lib.hid (HH3.out.chgNo a4)
      have R4 := Lib.hid (R3.out.chgNo a4)
      have hky : y.key.size ≤ 140737488351232 ∧ y.val.size ≤ 140737488351232 := by rw [hy]; exact ⟨hs1, hs2⟩
      have hyv : y.ver.toNat = v := by rw [hy]; exact hnv
      have hcs : (#[.string x.key, .string x.val, .int .u32 x.flags.toNat, .int .i64 x.exp.toInt, .int .u64 v] : Array Value) = #[.string y.key, .string y.val, .int .u32 y.flags.toNat, .int .i64 y.exp.toInt, .int .u64 y.ver.toNat] := by rw [hyv, hy]; rfl
      have hva : (Value.agg #[.string x.key, .string x.val, .int .u32 x.flags.toNat, .int .i64 x.exp.toInt, .int .u64 v]) = itemV y := by rw [hcs]
      have HYV := Lib.hid hyv
      rw [hcs] at L4 H4 R4
      have HP := Lib.hid (H4.out.putNew (by omega) N3.out y hky.1 hky.2 (by
        rintro ⟨_, h9⟩
        rw [HYV.out] at h9
        have := F.out.1
        omega) (fun _ _ _ => True.intro) (fun z hz => by
        have h9 := (N3.out.last z hz).2
        have h8 := F.out.2.1
        rw [HYV.out]
        omega) (by rw [HYV.out, F.out.2.1]; exact Nat.le_refl _))
      rw [HE1.out] at HP
      rw [hcs]
      clear z0 z1 z2 z3 z4 g0 g1 g2 g3 g4 HZ d1 d2 d3 d4 d5 a4 hnv hyv hcs hva hy hky N3 HH3 R3 HH1 R1
      refine HP.out.mono ?_
      rintro e w6 ⟨er, t6, X6, D6, ls6, al6, rfl, s6, n6, e6, hor⟩
      have H6 : Hid (Heng w h t6 gLaw (Tq X6) (fun _ => True) (1 + 2 * (k + 1)) X6 D6 ls6 w6) := ⟨s6.st.dev, s6.st.eng, s6.st.all.mono (fun z hz => by
        have h8 := F.out.2.1
        have h7 := F.out.1
        rcases hz with ⟨q1, q2⟩ | ⟨rfl, q1⟩
        · exact ⟨q1, by rw [e6]; omega⟩
        · exact ⟨q1, by rw [e6, HYV.out, h8]; exact Nat.le_refl _⟩) (by omega) (by omega), s6.st.far, s6.st.chg⟩
      have N6 := Lib.hid n6
      have R6 := Lib.hid (s6.row R4.out)
      have L6 := Lib.hid (s6.keep L4.out)
      have HE6 : Hid (t6.E = t.E) := s6.E.trans HE1.out
      clear s6 n6 e6 HP R4 L4 H4
      rcases hor with ⟨rfl, hg1, hg2, rfl⟩ | ⟨her, _, rfl⟩
      · have y0 := L6.out.blk.cell 0
        have y1 := L6.out.blk.cell 1
        have y2 := L6.out.blk.cell 2
        have y3 := L6.out.blk.cell 3
        have y4 := L6.out.blk.cell 4
        simp only [List.getElem?_toArray, List.getElem?_cons_zero, List.getElem?_cons_succ] at y0 y1 y2 y3 y4
        have a7 : Chg No w6 (w6.alloc (.cells (itc y).toArray tItem)) := (Chg.refl No w6).alloc _
        have R7 := Lib.hid (R6.out.chgNo a7)
        have H7 := Lib.hid (H6.out.chgNo a7)
        have hbz : w.heap.size ≤ (w6.alloc (.cells (itc y).toArray tItem)).heap.size := H7.out.chg.size
        clear a7 R6 H6 L6
        go_wp2_with (first
          | (at_builtin; go_loud (refine wpList_app _ rfl (.tmp 60) (.tmp 62) 46 rfl tItem Tryz.underlying46 ti_item rfl (by omega) w.heap.size _ al.length _ rfl R7.out.own tItem _ 1 1 (itc y) rfl (rd_item _ y) (itc_one_cell y) (by simp only [maxLen]; omega) (by omega) hbz ?_); intro v8 w8 ho8 hg8 hb8; have HA := Lib.hid (R7.out.app H7.out (.inr rfl) ho8 hg8 hb8); clear ho8 hg8 hb8))
        go_roundg (n - (k + 1))
        case measure => omega
        case rel =>
          refine ⟨k + 1, by go_num, by omega, rfl, ⟨t6, X6, D6, ls6, al ++ [y], HE6.out, HA.out.1, N6.out, by rw [List.length_append]; simp; omega, ?_⟩⟩
          rw [List.length_append, its_append, its_one]
          exact HA.out.2
      · have heb : (er == 0) = false := by simpa using her
        go_wp2_with fail
        go_roundg (n - (k + 1))
        case measure => omega
        case rel => exact ⟨k + 1, by go_num, by omega, rfl, ⟨t6, X6, D6, ls6, al6, HE6.out, H6.out, N6.out, by omega, R6.out⟩⟩
    · obtain rfl : n = k := by omega
      have HT := Lib.hid (HH1.out.get (fun y hy => hy.1) key hks)
      rw [HE1.out] at HT
      go_wp2_with fail
      refine HT.out.mono ?_
      rintro e w7 ⟨rfl, s7⟩
      have HG1 := Lib.hid (get_one X D key)
      obtain ⟨x, hx⟩ : ∃ x, x = X.get D key := ⟨_, rfl⟩
      rw [← hx] at HG1 ⊢
      have a8 : Chg No w7 (w7.alloc (.cells #[.string x.key, .string x.val, .int .u32 x.flags.toNat, .int .i64 x.exp.toInt, .int .u64 x.ver.toNat] tItem)) := (Chg.refl No w7).alloc _
      have H8 := Lib.hid (s7.st.chgNo a8)
      have R8 := Lib.hid ((s7.row R1.out).chgNo a8)
      have HX8 := Lib.hid (Blk.new w7 tItem #[.string x.key, .string x.val, .int .u32 x.flags.toNat, .int .i64 x.exp.toInt, .int .u64 x.ver.toNat])
      have HSZ : w7.heap.size < (w7.alloc (.cells #[.string x.key, .string x.val, .int .u32 x.flags.toNat, .int .i64 x.exp.toInt, .int .u64 x.ver.toNat] tItem)).heap.size := by rw [World.size_alloc]; omega
      clear s7 HT R1 HH1 a8 hx
      rcases HG1.out with ⟨e1, e2⟩ | ⟨e1, e2, e3⟩
      · rw [e1]
        obtain ⟨v1, v2, v3, _⟩ := one_vis H8.out.all e2
        obtain ⟨n1, n2⟩ := N1.out.vis key x v1
        have HX1 := Lib.hid (And.intro n1 (And.intro n2 (And.intro v2 v3)))
        have HMY := fun W => Lib.hid (fun hc : Chg No (w7.alloc (.cells #[.string x.key, .string x.val, .int .u32 x.flags.toNat, .int .i64 x.exp.toInt, .int .u64 x.ver.toNat] tItem)) W => (H8.out.chgNo hc).may key hks)
        rw [v3, HE1.out] at HMY
        clear e1 e2 v1 v2 v3 n1 n2
        obtain ⟨A9, c9, rfl, hnc9, hrd9⟩ := own_slice R8.out.own
        have HRD := Lib.hid hrd9
        have HC8 := Lib.hid H8.out.chg
        obtain ⟨m, hm⟩ : ∃ m, m = al.length := ⟨_, rfl⟩
        have hm30 : m ≤ 30 := by omega
        rw [← hm] at HRD hnc9 ⊢
        have HM := Lib.hid hm
        clear hrd9 hm hal H8 R8 HG1 N1
        go_wp2_with fail
        obtain ⟨w8, hw8⟩ : ∃ w8, w8 = w7.alloc (.cells #[.string x.key, .string x.val, .int .u32 x.flags.toNat, .int .i64 x.exp.toInt, .int .u64 x.ver.toNat] tItem) := ⟨_, rfl⟩
        rw [← hw8] at HX8 HRD HC8 HSZ ⊢
        simp only [← hw8] at HMY
        clear hw8
        go_loopg [17, 18] m (fun g v17 v18 wr => ∃ k : Nat, v18 = .int .i64 k ∧ v17 = .bool (decide (x ∈ al.take k)) ∧ k ≤ m ∧ m - k = g ∧ Hid (Chg No w8 wr))
        case atStart => exact ⟨0, rfl, by simp, by omega, by omega, Chg.refl _ _⟩
        case round =>
          obtain ⟨k, rfl, rfl, hk, hg, HH⟩ := hrel
          by_cases hkm : k < m
          · obtain ⟨y, hy⟩ : ∃ y, al[k]? = some y := ⟨_, List.getElem?_eq_getElem (by rw [← HM.out]; exact hkm)⟩
            obtain ⟨gy, oy, eA, hcy⟩ := rd_at6 (HRD.out.chg HH.out (fun _ _ _ _ h => h)) hkm hy
            subst eA
            have ⟨y0, y1, y2, y3, y4⟩ := hcy wr (Chg.refl _ _)
            have HBX := Lib.hid (HX8.out.chg HH.out (fun h => h))
            have x0 := HBX.out.cell 0
            have x1 := HBX.out.cell 1
            have x2 := HBX.out.cell 2
            have x3 := HBX.out.cell 3
            have x4 := HBX.out.cell 4
            simp only [List.getElem?_toArray, List.getElem?_cons_zero, List.getElem?_cons_succ] at x0 x1 x2 x3 x4
            have heq := run_eql_item y x
            have HST : Hid (decide (x ∈ al.take (k + 1)) = (decide (x ∈ al.take k) || decide (y = x))) := by
              show _ = _
              rw [List.take_add_one, hy, Option.toList_some]
              by_cases h1 : x ∈ al.take k
              · simp [h1]
              · by_cases h2 : y = x
                · subst h2; simp
                · have : ¬ x = y := fun e => h2 e.symm
                  simp [h1, h2, this]
            clear hcy hy HBX
            obtain ⟨b, hb⟩ : ∃ b, b = decide (x ∈ al.take k) := ⟨_, rfl⟩
            rw [← hb] at HST ⊢
            clear hb
            cases b with
            | true =>
              go_wp2_with fail
              go_quiet (fail)
              go_wp2_with fail
              go_roundg (m - (k + 1))
              case measure => omega
              case rel => exact ⟨k + 1, by go_num, by rw [HST.out]; rfl, by omega, rfl, HH.out.trans (by (repeat (first | (with_reducible exact Chg.refl _ _) | (with_reducible assumption) | (with_reducible refine Chg.drewN ?_ _) | (with_reducible refine Chg.drew ?_) | (with_reducible refine Chg.alloc ?_ _) | (with_reducible refine Chg.setCell ?_ (by first | (left; simp [DevH.foot]; done) | (right; simp; done) | (right; simp; omega)) _))))⟩
            | false =>
              go_wp2_with fail
              go_quiet (fail)
              go_wp2_with fail
              go_roundg (m - (k + 1))
              case measure => omega
              case rel => exact ⟨k + 1, by go_num, by rw [HST.out]; simp, by omega, rfl, HH.out.trans (by (repeat (first | (with_reducible exact Chg.refl _ _) | (with_reducible assumption) | (with_reducible refine Chg.drewN ?_ _) | (with_reducible refine Chg.drew ?_) | (with_reducible refine Chg.alloc ?_ _) | (with_reducible refine Chg.setCell ?_ (by first | (left; simp [DevH.foot]; done) | (right; simp; done) | (right; simp; omega)) _))))⟩
          · obtain rfl : m = k := by omega
            rw [show al.take m = al from List.take_of_length_le (by rw [HM.out]; exact Nat.le_refl _), decide_eq_true HX1.out.1]
            obtain ⟨w9, hw9⟩ : ∃ w9, w9 = wr := ⟨_, rfl⟩
            rw [← hw9] at HH ⊢
            clear hw9
            have HC9 := HH
            clear HH
            go_wp2_with fail
            go_loopg [19] m (fun g v19 wr => ∃ k : Nat, v19 = .int .i64 k ∧ k ≤ m ∧ m - k = g ∧ Hid (Chg No w8 wr))
            case atStart => exact ⟨0, rfl, by omega, by omega, HC9.out⟩
            case round =>
              obtain ⟨k, rfl, hk, hg, HH⟩ := hrel
              have HBX := Lib.hid (HX8.out.chg HH.out (fun h => h))
              have x0 := HBX.out.cell 0
              have x1 := HBX.out.cell 1
              have x2 := HBX.out.cell 2
              have x3 := HBX.out.cell 3
              have x4 := HBX.out.cell 4
              simp only [List.getElem?_toArray, List.getElem?_cons_zero, List.getElem?_cons_succ] at x0 x1 x2 x3 x4
              by_cases hkm : k < m
              · obtain ⟨y, hy⟩ : ∃ y, al[k]? = some y := ⟨_, List.getElem?_eq_getElem (by rw [← HM.out]; exact hkm)⟩
                obtain ⟨gy, oy, eA, hcy⟩ := rd_at6 (HRD.out.chg HH.out (fun _ _ _ _ h => h)) hkm hy
                subst eA
                have ⟨y0, y1, y2, y3, y4⟩ := hcy wr (Chg.refl _ _)
                have hse := str_eq y.key key
                have hin := List.mem_of_getElem? hy
                clear hcy hy HBX
                by_cases he : y.key = key
                · rw [decide_eq_true he] at hse
                  have hvv : ¬ ((x.ver.toNat : Int) < (y.ver.toNat : Int)) := by have := HX1.out.2.1 y hin he; omega
                  clear he hin
                  go_wp2_with fail
                  go_quiet (fail)
                  go_wp2_with fail
                  go_roundg (m - (k + 1))
                  case measure => omega
                  case rel => exact ⟨k + 1, by go_num, by omega, rfl, HH.out.trans (by (repeat (first | (with_reducible exact Chg.refl _ _) | (with_reducible assumption) | (with_reducible refine Chg.drewN ?_ _) | (with_reducible refine Chg.drew ?_) | (with_reducible refine Chg.alloc ?_ _) | (with_reducible refine Chg.setCell ?_ (by first | (left; simp [DevH.foot]; done) | (right; simp; done) | (right; simp; omega)) _))))⟩
                · rw [decide_eq_false he] at hse
                  clear he hin
                  go_wp2_with fail
                  go_quiet (fail)
                  go_wp2_with fail
                  go_roundg (m - (k + 1))
                  case measure => omega
                  case rel => exact ⟨k + 1, by go_num, by omega, rfl, HH.out.trans (by (repeat (first | (with_reducible exact Chg.refl _ _) | (with_reducible assumption) | (with_reducible refine Chg.drewN ?_ _) | (with_reducible refine Chg.drew ?_) | (with_reducible refine Chg.alloc ?_ _) | (with_reducible refine Chg.setCell ?_ (by first | (left; simp [DevH.foot]; done) | (right; simp; done) | (right; simp; omega)) _))))⟩
              · obtain rfl : m = k := by omega
                have hse := str_eq x.key key
                rw [decide_eq_true HX1.out.2.2.1] at hse
                have HMW := Lib.hid ((HMY wr).out HH.out)
                have HCW := Lib.hid (HC8.out.trans HH.out)
                clear HMY
                go_wp2_with fail
                refine HMW.out.mono ?_
                rintro e wz ⟨rfl, hcz⟩
                have HCZ := Lib.hid (HCW.out.trans hcz)
                clear hcz
                go_wp2_with fail
                go_ret
                exact ⟨rfl, HCZ.out⟩
      · rw [e1]
        have HC8 := Lib.hid H8.out.chg
        rw [e3] at HX8 HSZ HC8 ⊢
        rw [show itemV Item.zero = .agg #[.string ⟨#[]⟩, .string ⟨#[]⟩, .int .u32 0, .int .i64 0, .int .u64 0] from rfl]
        simp only [show Item.zero.key = ⟨#[]⟩ from rfl, show Item.zero.val = ⟨#[]⟩ from rfl, show ((Item.zero.flags.toNat : Nat) : Int) = 0 from rfl, show Item.zero.exp.toInt = 0 from rfl, show ((Item.zero.ver.toNat : Nat) : Int) = 0 from rfl] at HX8 HSZ HC8
        have x0 := HX8.out.cell 0
        have x1 := HX8.out.cell 1
        have x2 := HX8.out.cell 2
        have x3 := HX8.out.cell 3
        have x4 := HX8.out.cell 4
        simp only [List.getElem?_toArray, List.getElem?_cons_zero, List.getElem?_cons_succ] at x0 x1 x2 x3 x4
        have heq : ∀ W : World, (binOp .eql tItem (.agg #[.string ⟨#[]⟩, .string ⟨#[]⟩, .int .u32 0, .int .i64 0, .int .u64 0]) (.agg #[.string ⟨#[]⟩, .string ⟨#[]⟩, .int .u32 0, .int .i64 0, .int .u64 0])).run Tryz.prog W = .ok (.bool true) W := fun W => by
          have h9 := run_eql_item Item.zero Item.zero W
          rw [show itemV Item.zero = .agg #[.string ⟨#[]⟩, .string ⟨#[]⟩, .int .u32 0, .int .i64 0, .int .u64 0] from rfl] at h9
          rw [h9]; simp
        clear e1 e2 e3 H8 R8 HG1
        go_wp2_with fail
        go_ret
        exact ⟨rfl, HC8.out⟩
end Go.Proofs.YtplpbbdakihnfaaGreat
end

section
namespace Go.Proofs.YtplpbbdakihnfaaGreat
open Go.RowKit Go.ChangeShapes Go.WideShapes
section
variable {H : Type} {enc : TypeId × Value → H} {w : World} {base : Nat} {spare : Nat → Bool} {held : Bool}
set_option maxRecDepth 100000 in
theorem open_strV {b0 : Nat} {v : Value} {d : DataW H} {p : List MemPlace} (hv : Value.okWide Tryz.prog w .any b0 9 v) (h : DataW.Trod enc Tryz.prog w base (fun _ => true) held 9 v d p) (hs : ∀ n ∈ d.weights Tryz.prog 9, n ≤ reachBytes) :
    ∃ s : ByteArray, v = .string s ∧ s.size ≤ reachBytes := by
  obtain ⟨s, rfl, rfl, _, _⟩ := ChangeMaps.open_string Tryz.underlying9 hv h
  exact ⟨s, rfl, hs s.size (by simp [DataW.weights])⟩
end
end Go.Proofs.YtplpbbdakihnfaaGreat
end
