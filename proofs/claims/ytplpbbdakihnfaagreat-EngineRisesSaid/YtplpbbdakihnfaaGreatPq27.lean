/- Packed texts: EngPg, EngQ, EngR, EngAw. -/
import Derived.Test.YtplpbbdakihnfaaGreatPq26
import Derived.Test.YtplpbbdakihnfaaGreatPq23
set_option linter.unusedSimpArgs false
set_option linter.unusedVariables false
section
namespace Go.Proofs.YtplpbbdakihnfaaGreat
open Go.RowKit
theorem opened_new2 (n f r : Nat) : Lg.opened (Dev.new n) f r = { losses := 0, first := f, regs := List.replicate r .no, opn := [], number := 0, keys := [] } := by
  have hb : ∀ i, ldS ((Dev.new n).rpg f i) = .no ∧ ∀ m, ldTop ((Dev.new n).rpg f i) m 4 = m := fun i => load_blank (fun k _ => rfl)
  have hr : opRegs (Dev.new n) f r = List.replicate r .no := by
    unfold opRegs
    rw [List.eq_replicate_iff]
    refine ⟨by simp, fun S hS => ?_⟩
    obtain ⟨i, _, rfl⟩ := List.mem_map.1 hS
    exact (hb i).1
  have ht : ∀ r, opTop (Dev.new n) f r = 0 := by
    intro r
    unfold opTop
    induction r with
    | zero => rfl
    | succ r ih => rw [List.range_succ, List.foldl_append, ih]; exact (hb r).2 0
  have hc : counts (List.replicate r Sealed.no) = [] := by
    unfold counts
    rw [List.filter_eq_nil_iff]
    intro i hi
    simp only [rnum, List.getD_eq_getElem?_getD, List.getElem?_replicate]
    split <;> simp [Sealed.no]
  unfold Lg.opened
  rw [hr, ht]
  have hb2 : byNum (List.replicate r Sealed.no) = [] := by unfold byNum; rw [hc]; rfl
  simp only [hb2]
  rfl
theorem new_fine2 (n f pages : Nat) : Fine (Sto.open_ (Dev.new n) f pages) (List.replicate pages []) := by
  have hr : ∀ (i : Nat) (l : List Item), (List.replicate pages ([] : List Item))[i]? = some l → l = [] := by
    intro i l hi
    rw [List.getElem?_replicate] at hi
    split at hi
    · injection hi with hi; exact hi.symm
    · cases hi
  refine { home := ?_, apart := ?_, bits := ?_, told := ?_ }
  · intro i l hi x hx; rw [hr i l hi] at hx; cases hx
  · intro i l hi; rw [hr i l hi]; exact List.nodup_nil
  · intro i bs hb
    unfold Sto.open_ at hb
    simp only [List.getElem?_map, List.getElem?_range'] at hb
    cases hi : (List.range pages)[i]? with
    | none => rw [hi] at hb; cases hb
    | some j =>
      rw [hi] at hb
      simp only [Option.map_some, Option.some.injEq] at hb
      subst hb
      have : ∀ (l : List Item) (bs : List Bool), (told l bs).length = bs.length := by
        intro l
        induction l with
        | nil => intro bs; rfl
        | cons x r ih => intro bs; show (told r _).length = _; rw [ih, fadd_length]
      rw [this, List.length_replicate]
  · intro i l bs hi hb x hx; rw [hr i l hi] at hx; cases hx
theorem new_sload (n : Nat) (h : 2 ≤ n) : (Dev.new n).sload = Sb.zero := by
  have r0 := (new_on n).reads (i := 0) (by show 0 < n; omega)
  have r1 := (new_on n).reads (i := 1) (by show 1 < n; omega)
  rw [Dev.sload_eq, r0.1, r0.2, r1.1, r1.2]
  show (sbPick (sbPick none Pg.blank.data Pg.blank.err) Pg.blank.data Pg.blank.err).getD Sb.zero = _
  rw [sbP_none (.inr (by decide)), sbP_none (.inr (by decide))]
  rfl
theorem new_jn (n pages : Nat) (h : 2 + pages ≤ n) (hp : 1 ≤ pages) : Jn.opened (Dev.new n) 2 pages 0 = { losses := 0, first := 2, pages := pages, gen := 0, used := 0, marks := [] } := by
  have hgo : jnGo (Dev.new n) 2 0 pages 0 [] = (0, []) := by
    obtain ⟨p, rfl⟩ : ∃ p, pages = p + 1 := ⟨pages - 1, by omega⟩
    have hr := (new_on n).reads (i := 2 + 0) (by show 2 + 0 < n; omega)
    rw [jnGo, hr.2, if_pos (by rfl)]
  unfold Jn.opened
  rw [hgo]; rfl
def Eng.fresh (g : Geo) : Eng := { losses := 0, blk := Sb.zero, last := 0, J := { losses := 0, first := 2, pages := g.j, gen := 0, used := 0, marks := [] }, B := Sto.open_ (Dev.new 0) ((2 + g.j : Nat) : Int) g.b, G := { losses := 0, first := 2 + g.j + g.b, regs := List.replicate g.r .no, opn := [], number := 0, keys := [] } }
theorem open_new2 (n m : Nat) (f pages : Nat) : Sto.open_ (Dev.new n) f pages = Sto.open_ (Dev.new m) f pages := by
  unfold Sto.open_
  have h : ∀ (k : Nat) (i : Int), ({ losses := (Dev.new k).losses, first := (f : Int), fs := [] } : Sto).lL (Dev.new k) i = [] := by
    intro k i
    unfold Sto.lL
    have : (Dev.new k).read ((f : Int) + i) = [] := by
      unfold Dev.read
      split
      · rfl
      · rfl
    simp only [this]
    split <;> rfl
  simp only [h]
  rfl
theorem raw_new (n : Nat) (g : Geo) (hg : g.ok = true) (hf : g.pages ≤ n) : Eng.raw (Dev.new n) g = Eng.fresh g := by
  have hp := Geo.parts hg
  unfold Geo.pages at hf
  unfold Eng.raw Eng.fresh
  rw [new_sload n (by omega), opened_new2]
  have e := new_jn n g.j (by omega) (by omega)
  show Eng.mk _ _ _ (Jn.opened (Dev.new n) 2 g.j 0) _ _ = _
  rw [e]
  have e2 := open_new2 n 0 (2 + g.j) g.b
  have e3 : (2 + (g.j : Int)) = ((2 + g.j : Nat) : Int) := by omega
  simp only [e3, e2]
  rfl
theorem fresh_len (g : Geo) : (Eng.fresh g).B.fs.length = g.b := by
  show (Sto.open_ (Dev.new 0) ((2 + g.j : Nat) : Int) g.b).fs.length = g.b
  unfold Sto.open_; rw [List.length_map, List.length_range]
theorem run_fresh (n : Nat) (g : Geo) (hg : g.ok = true) (hf : g.pages ≤ n) : Run g 0 (Eng.fresh g) (Dev.new n) :=
  ⟨hg, new_on n, hf, by omega, rfl, rfl, rfl, rfl, rfl, rfl, rfl, fresh_len g, rfl, by show (List.replicate g.r Sealed.no).length = g.r; simp, by rw [new_sload n (by unfold Geo.pages at hf; omega)]; rfl, Sb.zero_ok, rfl, rfl, Nat.zero_le _, Nat.zero_le _, Nat.zero_le _, Nat.zero_le _, Nat.zero_le _, Nat.zero_le _⟩
theorem bks_fresh (n : Nat) (g : Geo) (hg : g.ok = true) (hf : g.pages ≤ n) (Q : Item → Prop) (K : ByteArray → Prop) : Bks (2 + g.j) Q K (Eng.fresh g).B (Dev.new n) (List.replicate g.b []) := by
  have hp := Geo.parts hg
  have hr : ∀ (i : Nat) (l : List Item), (List.replicate g.b ([] : List Item))[i]? = some l → l = [] := by
    intro i l hi
    rw [List.getElem?_replicate] at hi
    split at hi
    · injection hi with hi; exact hi.symm
    · cases hi
  unfold Geo.pages at hf
  refine ⟨⟨rfl, rfl, rfl, rfl, by rw [fresh_len]; simp, by rw [fresh_len]; omega, by rw [fresh_len]; show _ ≤ n; omega, fun i l hi => .inl ⟨rfl, hr i l hi⟩⟩, new_fine2 0 (2 + g.j) g.b, fun i l hi x hx => (by rw [hr i l hi] at hx; cases hx), fun i l hi => ⟨[], .inl ⟨rfl, rfl⟩, fun x hx => (by cases hx)⟩⟩
theorem lgs_fresh (n : Nat) (g : Geo) (hg : g.ok = true) (hf : g.pages ≤ n) (Q : Item → Prop) (C : ByteArray → Prop) : Lgs Q C 0 (Eng.fresh g).G (Dev.new n) := by
  have hp := Geo.parts hg
  unfold Geo.pages at hf
  have hrg : ∀ (i : Nat) (S : Sealed), (List.replicate g.r Sealed.no)[i]? = some S → S = .no := by
    intro i S hi
    rw [List.getElem?_replicate] at hi
    split at hi
    · injection hi with hi; exact hi.symm
    · cases hi
  have hrn : ∀ i, rnum (List.replicate g.r Sealed.no) i = 0 := by
    intro i
    unfold rnum
    rw [List.getD_eq_getElem?_getD]
    cases hi : (List.replicate g.r Sealed.no)[i]? with
    | none => rfl
    | some S => rw [hrg i S hi]; rfl
  refine ⟨⟨⟨?_, ?_, ?_, by show (0 : Nat) < _; decide, ?_, rfl, by simp [Eng.fresh, isum], fun key p hp => (by cases hp)⟩, by simp [Eng.fresh, akeys], new_on n, rfl, ?_⟩, fun i hi => ?_, ⟨fun key hk p hp => ?_, fun key p hk => (by cases hk)⟩, by omega, Nat.le_refl _, fun i S hS x hx => ?_, fun x hx => (by cases hx), fun i S hS => .inl ⟨hrg i S hS, fun _ _ => rfl⟩, fun _ _ _ => rfl⟩
  · show 0 < (List.replicate g.r Sealed.no).length; simp; omega
  · show (List.replicate g.r Sealed.no).length ≤ 64; simp; omega
  · show 2 + g.j + g.b + 4 * (List.replicate g.r Sealed.no).length ≤ 4096; simp; omega
  · intro S hS
    rw [(List.mem_replicate.1 hS).2]
    exact ⟨by simp [Sealed.no], by simp [Sealed.no]⟩
  · show 2 + g.j + g.b + 4 * (List.replicate g.r Sealed.no).length ≤ n; simp; omega
  · have hi' : 0 < rnum (List.replicate g.r Sealed.no) i := hi
    rw [hrn] at hi'; omega
  · obtain ⟨y, _, ⟨_, _, h3⟩ | ⟨_, h2, _⟩⟩ := hp
    · cases h3
    · have h2' : 0 < rnum (List.replicate g.r Sealed.no) p.rg := h2
      rw [hrn] at h2'; omega
  · rw [hrg i S hS] at hx; cases hx
theorem jns_fresh (n : Nat) (g : Geo) : Jns (Eng.fresh g).J (Dev.new n) :=
  ⟨Nat.zero_le _, by show (0 : Nat) < _; decide, ⟨[], rfl, rfl, fun i l hi => (by cases hi)⟩, fun i _ _ => .inl rfl, fun _ _ _ => rfl⟩
def Sb.first : Sb := { seq := 1, epoch := 1, reserved := 0, horizon := 0, gen := 0, clean := false, image := 0 }
theorem all_new (n : Nat) (g : Geo) (hg : g.ok = true) (hf : g.pages ≤ n) (K : ByteArray → Prop) :
    (Dev.new n).sload = Sb.zero ∧ (Dev.new n).stE (Eng.now (Dev.new n)) = 0 ∧ Eng.opened (Dev.new n) g = { Eng.fresh g with blk := Sb.first } ∧
      All g (fun _ => False) K 1 (Eng.opened (Dev.new n) g) ((Dev.new n).stD (Eng.now (Dev.new n))) (List.replicate g.b []) ∧ ((Dev.new n).stD (Eng.now (Dev.new n))).n = n := by
  have h2 : 2 ≤ n := by unfold Geo.pages at hf; omega
  have hs := new_sload n h2
  have hr := run_fresh n g hg hf
  have hb : (Eng.now (Dev.new n)) = { Sb.zero with epoch := 1 } := by unfold Eng.now; rw [hs]; rfl
  obtain ⟨q1, q2, q3, q4, q5⟩ := hr.set (by omega) (Eng.now (Dev.new n)) (by rw [hb]; exact ⟨by decide, by decide, by decide, by decide, by decide, by decide⟩) (by rw [hb]; decide) (by rw [hb]; decide) (by rw [hb]; decide) (by rw [hb]; exact Nat.zero_le _) (by rw [hb]; exact Nat.zero_le _)
  have e : Eng.opened (Dev.new n) g = { Eng.fresh g with blk := Sb.first } := by
    unfold Eng.opened
    rw [raw_new n g hg hf, q2, hb]
    rfl
  have e0 : Eng.opened (Dev.new n) g = (Eng.fresh g).set (Dev.new n) (Eng.now (Dev.new n)) := by unfold Eng.opened; rw [raw_new n g hg hf]
  refine ⟨hs, q1, e, ⟨by rw [e0]; exact q3, ?_, ?_, ?_, ?_⟩, q4.n⟩
  · rw [e]; exact (bks_fresh n g hg hf _ _).keep (q4.mono (fun i hi => by show 2 ≤ i; omega))
  · rw [e]
    exact ((lgs_fresh n g hg hf _ _).keep (q4.mono (fun i hi => by show 2 ≤ i; have : (Eng.fresh g).G.first = 2 + g.j + g.b := rfl; omega))).mono (fun _ h => h) (fun _ h => h) (by omega) (by omega)
  · rw [e]; exact (jns_fresh n g).keep (q4.mono (fun i hi => by show 2 ≤ i; have : (Eng.fresh g).J.first = 2 := rfl; omega))
  · rw [e]; rfl
theorem rmL_has (X : Eng) (ks : List ByteArray) {k : ByteArray} (hk : k ∈ ks) (hm : X.may k = true) : (Eng.key k, X.last) ∈ (X.rmL ks).1 := by
  have hsn : ∀ (ks : List ByteArray) (s : List Mk × List (ByteArray × Bool)), (∀ k b, aget s.2 k = some b → X.may k = true → (Eng.key k, X.last) ∈ s.1) → ∀ k, (k ∈ ks ∨ (aget s.2 k).isSome = true) → X.may k = true → (Eng.key k, X.last) ∈ (ks.foldl X.rmOne s).1 := by
    intro ks
    induction ks with
    | nil =>
      intro s hs k hk hm
      rcases hk with hk | hk
      · cases hk
      · obtain ⟨b, hb⟩ := Option.isSome_iff_exists.1 hk
        exact hs k b hb hm
    | cons a r ih =>
      intro s hs k hk hm
      rw [List.foldl_cons]
      have hinv : ∀ k b, aget (X.rmOne s a).2 k = some b → X.may k = true → (Eng.key k, X.last) ∈ (X.rmOne s a).1 := by
        intro k b hb hm
        have hb' : aget (aset s.2 a true) k = some b := hb
        rw [aget_aset] at hb'
        unfold Eng.rmOne
        simp only
        by_cases hak : a = k
        · subst hak
          by_cases hc : ((aget s.2 a).getD false) = false
          · rw [if_pos ⟨hc, hm⟩]; simp
          · rw [if_neg (fun h9 => hc h9.1)]
            cases ha : aget s.2 a with
            | none => rw [ha] at hc; exact absurd rfl hc
            | some b0 => exact hs a b0 ha hm
        · rw [if_neg hak] at hb'
          have := hs k b hb' hm
          split
          · exact List.mem_append_left _ this
          · exact this
      refine ih _ hinv k ?_ hm
      rcases hk with hk | hk
      · rcases List.mem_cons.1 hk with e | hk
        · right
          show (aget (aset s.2 a true) k).isSome = true
          rw [aget_aset, if_pos e.symm]; rfl
        · exact .inl hk
      · right
        show (aget (aset s.2 a true) k).isSome = true
        rw [aget_aset]
        split
        · rfl
        · exact hk
  exact hsn ks ([], []) (fun k b hb => by cases hb) k (.inl hk) hm
section
variable {g : Geo} {Q : Item → Prop} {K : ByteArray → Prop} {c : Nat} {X : Eng} {D : Dev} {ls : List (List Item)}
theorem All.rmGo {l : List Mk} (hl : ∀ m ∈ l, m.1 < 18446744073709551616 ∧ m.2 < 18446744073709551616) : ∀ (f j : Nat) {X : Eng} {D : Dev}, All g Q K c X D ls → c + 1 ≤ 1000000 →
    ∃ X' D', Eng.rmGo l f j X D = (0, X', D') ∧ All g Q K (c + 1) X' D' ls ∧ X'.B = X.B ∧ X'.G = X.G ∧ X'.last = X.last ∧ (X'.blk.epoch = X.blk.epoch ∧ X'.blk.reserved = X.blk.reserved) ∧ (∀ k v, X.J.gone k v = true → v ≤ X'.blk.horizon ∨ X'.J.gone k v = true ∨ X.last < v) ∧ X.blk.horizon ≤ X'.blk.horizon ∧
      (X'.blk.horizon = X.last ∨ ((∀ k v, X.J.gone k v = true → X'.J.gone k v = true) ∧ X'.blk = X.blk ∧ ∀ i, j ≤ i → i < j + f → ∀ m ∈ Eng.ckm l i, ∀ v, v ≤ m.2 → X'.J.gone m.1 v = true)) := by
  intro f
  induction f with
  | zero =>
    intro j X D h hc
    exact ⟨X, D, rfl, h.mono (fun _ h => h) (Nat.le_succ c) hc, rfl, rfl, rfl, ⟨rfl, rfl⟩, fun k v hk => .inr (.inl hk), Nat.le_refl _, .inr ⟨fun k v hk => hk, rfl, fun i h1 h2 => by omega⟩⟩
  | succ f ih =>
    intro j X D h hc
    have hck : mkOk (Eng.ckm l j) := ⟨by unfold Eng.ckm; rw [List.length_take]; omega, fun m hm => hl m (List.mem_of_mem_drop (List.mem_of_mem_take hm))⟩
    have hft := h.run.fit_
    rcases h.jns.add h.run.on hft.jls hft.jfit hck with ⟨e1, e2, e3, e4, e5⟩ | ⟨e1, e2, e3, e4⟩
    · have hA : All g Q K c (X.addX D (Eng.ckm l j)) (X.J.addD D (Eng.ckm l j)) ls := by
        obtain ⟨a1, a2, a3, a4⟩ := addJ_facts X.J D (Eng.ckm l j)
        have k1 := h.run.j1
        have k2 := h.run.j2
        refine ⟨h.run.part (X' := X.addX D (Eng.ckm l j)) (e5.mono (fun i hi => by omega)) rfl rfl rfl a1 a2 a3 rfl rfl rfl rfl rfl rfl, h.bks.keep (e5.mono (fun i hi => by omega)), h.lgs.keep (e5.mono (fun i hi => by have := h.run.g1; omega)), e4, ?_⟩
        show (X.J.addJ D (Eng.ckm l j)).gen = _
        rw [a4]; exact h.jgen
      obtain ⟨X', D', q1, q2, q3, q4, q5, qe, q6, q7, q8⟩ := ih (j + 1) hA hc
      have hJ : (X.addX D (Eng.ckm l j)).J = { X.J with used := X.J.used + 1, marks := note X.J.marks (Eng.ckm l j) } := e3
      have hg1 : ∀ k v, X.J.gone k v = true → (X.addX D (Eng.ckm l j)).J.gone k v = true := by
        intro k v hk
        rw [hJ]
        exact gone_grow (J := X.J) hk
      have hg2 : ∀ m ∈ Eng.ckm l j, ∀ v, v ≤ m.2 → (X.addX D (Eng.ckm l j)).J.gone m.1 v = true := by
        intro m hm v hv
        rw [hJ]
        exact gone_note (J := X.J) (k := m.1) (v := m.2) hm hv
      refine ⟨X', D', by rw [Eng.rmGo_ok e1]; exact q1, q2, q3, q4, q5, qe, fun k v hk => q6 k v (hg1 k v hk), q7, ?_⟩
      rcases q8 with q8 | ⟨q8, q9, q10⟩
      · exact .inl q8
      · refine .inr ⟨fun k v hk => q8 k v (hg1 k v hk), q9, fun i h1 h2 m hm v hv => ?_⟩
        rcases Nat.eq_or_lt_of_le h1 with e | e
        · subst e
          exact q8 _ _ (hg2 m hm v hv)
        · exact q10 i (by omega) (by omega) m hm v hv
    · have hX : X.addX D (Eng.ckm l j) = X := by
        show { X with J := X.J.addJ D (Eng.ckm l j) } = X
        rw [e3]
      have hst : X.stopOf D (Eng.ckm l j) = (X.wipeE D, X.wipeX D, D.stD X.wB) := by
        unfold Eng.stopOf
        rw [if_pos e1, hX, e4]
      obtain ⟨w1, w2, w3, w4⟩ := h.run.wipe hc
      have hAw := h.wipe hc
      refine ⟨X.wipeX D, D.stD X.wB, by rw [Eng.rmGo_stop (by rw [e1]; decide), hst, w1], hAw, by rw [w4], by rw [w4], by rw [w4], by rw [w4]; exact ⟨rfl, rfl⟩, fun k v _ => ?_, by rw [w4]; exact h.run.hor, .inl (by rw [w4])⟩
      rw [w4]
      show v ≤ X.last ∨ _ ∨ X.last < v
      omega
theorem All.remove (h : All g Q K c X D ls) (hc : c + 1 ≤ 1000000) (ks : List ByteArray) :
    (X.rm D ks).1 = 0 ∧ All g Q K (c + 1) (X.rm D ks).2.1 (X.rm D ks).2.2 ls ∧ (X.rm D ks).2.1.B = X.B ∧ (X.rm D ks).2.1.G = X.G ∧ (X.rm D ks).2.1.last = X.last ∧ X.blk.horizon ≤ (X.rm D ks).2.1.blk.horizon ∧
      (∀ k v, X.J.gone k v = true → v ≤ (X.rm D ks).2.1.blk.horizon ∨ (X.rm D ks).2.1.J.gone k v = true ∨ X.last < v) ∧
      (∀ k ∈ ks, X.may k = true → ∀ v, v ≤ X.last → v ≤ (X.rm D ks).2.1.blk.horizon ∨ (X.rm D ks).2.1.J.gone (Eng.key k) v = true) ∧ ((X.rm D ks).2.1.blk.horizon = X.last ∨ (X.rm D ks).2.1.blk = X.blk) ∧ (X.rm D ks).2.1.blk.epoch = X.blk.epoch ∧ (X.rm D ks).2.1.blk.reserved = X.blk.reserved := by
  have hlast : X.last < 18446744073709551616 := by have := h.run.last; have := h.run.res; have := h.run.few; omega
  have hl : ∀ m ∈ (X.rmL ks).1, m.1 < 18446744073709551616 ∧ m.2 < 18446744073709551616 := by
    intro m hm
    obtain ⟨k, _, e⟩ := X.rmL_mem ks m hm
    rw [e]
    exact ⟨khash_lt _, hlast⟩
  obtain ⟨X', D', q1, q2, q3, q4, q5, qe, q6, q7, q8⟩ := All.rmGo hl (mkN (X.rmL ks).1.length) 0 h hc
  have e : X.rm D ks = (0, X', D') := q1
  rw [e]
  refine ⟨rfl, q2, q3, q4, q5, q7, q6, fun k hk hm v hv => ?_, ?_, qe⟩
  · rcases q8 with q8 | ⟨_, _, q9⟩
    · left; show v ≤ X'.blk.horizon; rw [q8]; exact hv
    · right
      have hmem : (Eng.key k, X.last) ∈ (X.rmL ks).1 := rmL_has X ks hk hm
      obtain ⟨i, hi⟩ := List.mem_iff_getElem?.1 hmem
      have hlt := (List.getElem?_eq_some_iff.1 hi).1
      refine q9 (i / 23) (Nat.zero_le _) (by unfold mkN; omega) (Eng.key k, X.last) ?_ v hv
      unfold Eng.ckm
      refine List.mem_iff_getElem?.2 ⟨i % 23, ?_⟩
      rw [List.getElem?_take_of_lt (Nat.mod_lt _ (by omega)), List.getElem?_drop, show i / 23 * 23 + i % 23 = i from by omega]
      exact hi
  · rcases q8 with q8 | ⟨_, q8, _⟩
    · exact .inl q8
    · exact .inr q8
end
end Go.Proofs.YtplpbbdakihnfaaGreat
end

section
namespace Go.Proofs.YtplpbbdakihnfaaGreat
open Go.RowKit
def EngH.all (t : EngH) (h : DevH) : Nat → Prop := fun k => h.foot k ∨ k = t.E ∨ t.j.own k ∨ (∃ p ∈ t.s.ps, k = p.2) ∨ t.g.own k
structure Heng (w0 : World) (h : DevH) (t : EngH) (g : Geo) (Q : Item → Prop) (K : ByteArray → Prop) (c : Nat) (X : Eng) (D : Dev) (ls : List (List Item)) (w : World) : Prop where
  dev : DevAt w h D
  eng : EngAt w h t X
  all : All g Q K c X D ls
  far : ∀ k, t.all h k → w0.heap.size ≤ k
  chg : Chg No w0 w
structure Hgo (w0 w : World) (h : DevH) (t : EngH) (g : Geo) (Q : Item → Prop) (K : ByteArray → Prop) (c : Nat) (X : Eng) (D : Dev) (ls : List (List Item)) (t' : EngH) (w' : World) : Prop where
  st : Heng w0 h t' g Q K c X D ls w'
  chg : Chg (t.all h) w w'
  grow : ∀ k, t'.all h k → t.all h k ∨ w.heap.size ≤ k
  E : t'.E = t.E
section
variable {w0 w w' : World} {h : DevH} {t t' : EngH} {g : Geo} {Q Q' : Item → Prop} {K : ByteArray → Prop} {c c' : Nat} {X X' : Eng} {D D' : Dev} {ls ls' : List (List Item)}
theorem Heng.chgNo (H : Heng w0 h t g Q K c X D ls w) (hc : Chg No w w') : Heng w0 h t g Q K c X D ls w' := ⟨(DevN.chgNo H.dev hc).at_, H.eng.chgNo hc, H.all, H.far, H.chg.trans hc⟩
theorem Heng.lt (H : Heng w0 h t g Q K c X D ls w) {k : Nat} (hk : t.all h k) : k < w.heap.size := by
  rcases hk with hk | rfl | hk | ⟨p, hp, rfl⟩ | hk
  · exact foot_size H.dev hk
  · exact H.eng.box.lt
  · exact H.eng.jn.lt hk
  · obtain ⟨cs, hb⟩ := H.eng.sto.bits_ty hp; exact hb.lt
  · exact H.eng.lg.lt k hk
theorem Heng.step (H : Heng w0 h t g Q K c X D ls w) (hd : DevAt w' h D') (he : EngAt w' h t' X') (ha : All g Q' K c' X' D' ls') (hc : Chg (t.all h) w w') (hg : ∀ k, t'.all h k → t.all h k ∨ w.heap.size ≤ k) (hE : t'.E = t.E) : Hgo w0 w h t g Q' K c' X' D' ls' t' w' :=
  ⟨⟨hd, he, ha, fun k hk => (hg k hk).elim (H.far k) (Nat.le_trans H.chg.size), H.chg.then hc (fun i hi hk => by have := H.far i hk; omega)⟩, hc, hg, hE⟩
theorem Hgo.loc (S : Hgo w0 w h t g Q K c X D ls t' w') {b : Nat} (hb : b < w.heap.size) (hn : ¬ t.all h b) : ¬ t'.all h b := fun hk => (S.grow b hk).elim hn (fun h9 => by omega)
theorem Hgo.blk (S : Hgo w0 w h t g Q K c X D ls t' w') {b : Nat} {T : TypeId} {cs : Array Value} (hb : Blk w b T cs) (hn : ¬ t.all h b) : Blk w' b T cs := hb.chg S.chg hn
theorem good_key {x : Item} (h : x.good = true) : x.key.size ≤ 250 ∧ x.val.size ≤ 1024 := by
  unfold Item.good at h
  simp only [Bool.and_eq_true, decide_eq_true_eq] at h
  omega
theorem Lgs.view_q {G : Lg} {C : ByteArray → Prop} (h : Lgs Q C c G D) {key : ByteArray} {x : Item} (hv : G.view key = some x) : Q x ∧ x.key = key := by
  refine ⟨?_, Lg.view_key h.live.ok hv⟩
  unfold Lg.view at hv
  cases hp : aget G.keys key with
  | none => rw [hp] at hv; cases hv
  | some p =>
    rw [hp] at hv
    simp only [Option.map_some, Option.some.injEq] at hv
    have hok := h.live.ok.keys key p hp
    unfold Lg.plOk at hok
    unfold Lg.item at hv
    split at hok
    · rename_i hop
      rw [if_pos hop] at hv
      obtain ⟨_, y, hy, _⟩ := hok
      rw [List.getD_eq_getElem?_getD, hy] at hv
      rw [← hv]; exact h.qo y (List.mem_of_getElem? hy)
    · rename_i hop
      rw [if_neg hop] at hv
      obtain ⟨S, y, hS, hy, _⟩ := hok
      unfold rl at hv
      rw [List.getD_eq_getElem?_getD, List.getD_eq_getElem?_getD, hS] at hv
      simp only [Option.getD_some] at hv
      rw [hy] at hv
      rw [← hv]; exact h.q _ S hS y (List.mem_of_getElem? hy)
theorem Lgs.get_key {G : Lg} {C : ByteArray → Prop} (h : Lgs Q C c G D) (hQ : ∀ x, Q x → x.good = true) (key : ByteArray) : (G.get key).key.size ≤ 140737488351232 := by
  rw [(G.get_view key).1]
  cases hv : G.view key with
  | none => show Item.zero.key.size ≤ _; decide
  | some x =>
    have := (good_key (hQ x (h.view_q hv).1)).1
    show x.key.size ≤ _
    omega
theorem Bks.get_key {f : Nat} (h : Bks f Q K X.B D ls) (hQ : ∀ x, Q x → x.good = true) (key : ByteArray) : (X.B.get D key).2 ≠ 4 ∧ (X.B.get D key).1.key.size ≤ 140737488351232 := by
  obtain ⟨l, hl⟩ := h.get_ key
  rw [h.tell key hl]
  cases hf : l.find? (keyed key) with
  | none => exact ⟨by decide, by show Item.zero.key.size ≤ _; decide⟩
  | some x =>
    have hx := List.mem_of_find?_eq_some hf
    have := (good_key (hQ x (h.q _ l hl x hx))).1
    exact ⟨by show (0 : Int) ≠ 4; decide, by show x.key.size ≤ _; omega⟩
theorem Heng.version (H : Heng w0 h t g Q K c X D ls w) (hc : c + 1 ≤ 1000000) :
    Calls Tryz.prog 20 #[.pointer (some ⟨t.E, 0, none⟩)] w fun e w' => e = .returned (.tuple #[.int .u64 ((X.last + 1 : Nat) : Int), .int .i64 0]) ∧ Hgo w0 w h t g Q K (c + 1) (X.verX D) (X.verD D) ls t w' := by
  have hr := H.all.run
  have hb : 64 * c + 64 < 18446744073709551615 := by omega
  have h1 := hr.last
  have h2 := hr.res
  obtain ⟨q1, q2, q3, _⟩ := hr.version hc
  refine (ever_calls H.dev H.eng hr.on.off hr.n2 hr.sq hr.los (by omega) (by omega)).mono ?_
  rintro e w' ⟨rfl, he, hd, hch⟩
  rw [q1, q2]
  exact ⟨rfl, H.step hd he (H.all.version hc) (hch.mono (fun k _ hk => hk.elim .inl (fun e => .inr (.inl e)))) (fun k hk => .inl hk) rfl⟩
theorem Heng.bad (H : Heng w0 h t g Q K c X D ls w) (x : Item) (hk : x.key.size ≤ 140737488351232) (hv : x.val.size ≤ 140737488351232) (hb : x.good = false ∨ 1472 < x.size) :
    Calls Tryz.prog 16 #[.pointer (some ⟨t.E, 0, none⟩), itemV x] w fun e w' => e = .returned (.int .i64 (if x.good = false then 1 else 2)) ∧ Chg No w w' := eput_bad H.eng x hk hv hb
theorem Heng.small (H : Heng w0 h t g Q K c X D ls w) (hc : c + 1 ≤ 1000000) {x : Item} (hx : x.good = true) (hs : x.size ≤ 120) (hnew : ¬ Q x) (hK : ∀ y, Q y → y.key = x.key → K x.key) {l : List Item} (hl : ls[X.B.no x.key]? = some l) :
    Calls Tryz.prog 16 #[.pointer (some ⟨t.E, 0, none⟩), itemV x] w fun e w' => e = .returned (.int .i64 0) ∧ Hgo w0 w h t g (fun y => Q y ∨ y = x) K (c + 1) (X.psX D x) (X.psD D x) (ls.set (X.B.no x.key) (pleft l x)) t w' := by
  obtain ⟨q1, q2, q3, q4, q5⟩ := H.all.small hc hx hs hnew hK hl
  have hg := good_key hx
  refine (eput_small H.dev H.eng x (by omega) (by omega) hx hs q1 q2).mono ?_
  rintro e w' ⟨rfl, he, hd, hch⟩
  rw [q3]
  refine ⟨rfl, H.step hd he q5 (hch.mono (fun k _ hk => ?_)) (fun k hk => .inl hk) rfl⟩
  rcases hk with hk | hk | hk
  · exact .inl hk
  · exact .inr (.inr (.inr (.inl hk)))
  · exact .inr (.inr (.inr (.inr (H.eng.lg.spot_own (.inr (.inl hk))))))
theorem all_grow {g' : LgH} (hg : ∀ k, g'.own k → t.g.own k ∨ w.heap.size ≤ k) : ∀ k, ({ t with g := g' } : EngH).all h k → t.all h k ∨ w.heap.size ≤ k := by
  intro k hk
  rcases hk with hk | hk | hk | hk | hk
  · exact .inl (.inl hk)
  · exact .inl (.inr (.inl hk))
  · exact .inl (.inr (.inr (.inl hk)))
  · exact .inl (.inr (.inr (.inr (.inl hk))))
  · exact (hg k hk).imp (fun h9 => .inr (.inr (.inr (.inr h9)))) id
theorem all_growM {M' : Nat} (hM : M' = t.j.M ∨ w.heap.size ≤ M') : ∀ k, ({ t with j := ⟨t.j.J, M'⟩ } : EngH).all h k → t.all h k ∨ w.heap.size ≤ k := by
  intro k hk
  rcases hk with hk | hk | hk | hk | hk
  · exact .inl (.inl hk)
  · exact .inl (.inr (.inl hk))
  · rcases hk with e | e
    · exact .inl (.inr (.inr (.inl (.inl e))))
    · have e2 : k = M' := e
      rcases hM with e3 | e3
      · exact .inl (.inr (.inr (.inl (.inr (e2.trans e3)))))
      · exact .inr (by omega)
  · exact .inl (.inr (.inr (.inr (.inl hk))))
  · exact .inl (.inr (.inr (.inr (.inr hk))))
theorem Heng.great (H : Heng w0 h t g Q K c X D ls w) (hc : c + 1 ≤ 1000000) {x : Item} (hx : x.good = true) (hs : 120 < x.size) (hs2 : x.size ≤ 1472) (hnew : ¬ Q x) (hK : ∀ y, Q y → y.key = x.key → K x.key) {l : List Item} (hl : ls[X.B.no x.key]? = some l) :
    Calls Tryz.prog 16 #[.pointer (some ⟨t.E, 0, none⟩), itemV x] w fun e w' => ∃ t', e = .returned (.int .i64 0) ∧ Hgo w0 w h t g (fun y => Q y ∨ y = x) K (c + 1) (X.pgX D x) (X.pgD D x) (ls.set (X.B.no x.key) (rid l x.key)) t' w' := by
  obtain ⟨q1, q2, q3, q4, q5⟩ := H.all.great hc hx hs2 hnew hK hl
  have hg := good_key hx
  refine (eput_great H.dev H.eng x (by omega) (by omega) hx hs hs2 q1).mono ?_
  rintro e w' ⟨g', rfl, ⟨he, ho⟩, hd, hch⟩
  rw [q2]
  refine ⟨_, rfl, H.step hd he q5 (hch.mono (fun k _ hk => ?_)) (all_grow ho) rfl⟩
  rcases hk with hk | hk
  · exact .inl hk
  · exact .inr (.inr (.inr (.inr (H.eng.lg.spot_own hk))))
theorem Heng.settle (H : Heng w0 h t g Q K c X D ls w) (hc : c + 1 ≤ 1000000) :
    Calls Tryz.prog 28 #[.pointer (some ⟨t.E, 0, none⟩)] w fun e w' => ∃ t', e = .returned (.int .i64 0) ∧ Hgo w0 w h t g Q K (c + 1) (X.stlX D) (X.stlD D) ls t' w' := by
  obtain ⟨q1, q2, _⟩ := H.all.settle hc
  refine (esettle_calls H.dev H.eng H.all.run.on.off H.all.run.los).mono ?_
  rintro e w' ⟨g', rfl, ⟨he, ho⟩, hd, hch⟩
  rw [q1]
  refine ⟨_, rfl, H.step hd he q2 (hch.mono (fun k _ hk => ?_)) (all_grow ho) rfl⟩
  rcases hk with hk | hk
  · exact .inl hk
  · exact .inr (.inr (.inr (.inr (H.eng.lg.spot_own hk))))
theorem Heng.wipe (H : Heng w0 h t g Q K c X D ls w) (hc : c + 1 ≤ 1000000) :
    Calls Tryz.prog 26 #[.pointer (some ⟨t.E, 0, none⟩)] w fun e w' => ∃ t', e = .returned (.int .i64 0) ∧ Hgo w0 w h t g Q K (c + 1) (X.wipeX D) (D.stD X.wB) ls t' w' := by
  have hr := H.all.run
  obtain ⟨q1, _⟩ := hr.wipe hc
  refine (ewipe_calls H.dev H.eng hr.on.off hr.n2 hr.sq hr.los (by have := hr.gen; have := hr.few; omega)).mono ?_
  rintro e w' ⟨M', rfl, he, hd, hch, hM⟩
  rw [q1]
  refine ⟨_, rfl, H.step hd he (H.all.wipe hc) (hch.mono (fun k _ hk => ?_)) (all_growM hM) rfl⟩
  rcases hk with hk | hk | hk
  · exact .inl hk
  · exact .inr (.inl hk)
  · exact .inr (.inr (.inl hk))
theorem Heng.remove (H : Heng w0 h t g Q K c X D ls w) (hc : c + 1 ≤ 1000000) (A : Option Addr) (n cp : Nat) (ks : List ByteArray) (hlen : ks.length = n) (te : TypeId) (hr : Rd w te A n (ks.map skey)) (hn : n ≤ 1000) (hks : ∀ k ∈ ks, k.size ≤ 140737488351232) :
    Calls Tryz.prog 19 #[.pointer (some ⟨t.E, 0, none⟩), .slice A n cp] w fun e w' => ∃ t', e = .returned (.int .i64 0) ∧ Hgo w0 w h t g Q K (c + 1) (X.rm D ks).2.1 (X.rm D ks).2.2 ls t' w' := by
  obtain ⟨q1, q2, _⟩ := H.all.remove hc ks
  refine (eremove_calls H.dev H.eng H.all.run.fit_ A n cp ks hlen te hr hn hks).mono ?_
  rintro e w' ⟨M', rfl, ⟨he, hM⟩, hd, hch⟩
  rw [q1]
  refine ⟨_, rfl, H.step hd he q2 (hch.mono (fun k _ hk => ?_)) (all_growM hM) rfl⟩
  rcases hk with hk | hk | hk
  · exact .inl hk
  · exact .inr (.inl hk)
  · exact .inr (.inr (.inl hk))
theorem Heng.get (H : Heng w0 h t g Q K c X D ls w) (hQ : ∀ x, Q x → x.good = true) (key : ByteArray) (hk : key.size ≤ 140737488351232) :
    Calls Tryz.prog 17 #[.pointer (some ⟨t.E, 0, none⟩), .string key] w fun e w' => e = .returned (.tuple #[itemV (X.get D key), .int .i64 (X.getE D key)]) ∧ Hgo w0 w h t g Q K c X D ls t w' := by
  have hb := H.all.bks.get_key hQ key
  refine (eget_calls (show DevN w.heap.size w h D from H.dev) H.eng H.all.run.on.off H.all.run.los key hk hb.1 hb.2 (H.all.lgs.get_key hQ key)).mono ?_
  rintro e w' ⟨rfl, hd, hch⟩
  exact ⟨rfl, H.step hd.at_ (H.eng.foot H.dev hch) H.all (hch.mono (fun k _ hk => .inl hk)) (fun k hk => .inl hk) rfl⟩
theorem Heng.may (H : Heng w0 h t g Q K c X D ls w) (key : ByteArray) (hk : key.size ≤ 140737488351232) :
    Calls Tryz.prog 21 #[.pointer (some ⟨t.E, 0, none⟩), .string key] w fun e w' => e = .returned (.bool (X.may key)) ∧ Chg No w w' := emay_calls H.eng key hk
theorem Heng.opened {D : Dev} (hd : DevAt w h D) (hf : ∀ k, h.foot k → w0.heap.size ≤ k) (hc : Chg No w0 w) (hg : g.ok = true) (hfit : g.pages ≤ D.n) (hoff : D.off = false) (hq : D.sload.seq + 1 < 18446744073709551616) (hep : D.sload.epoch + 1 < 18446744073709551616) (hE : D.stE (Eng.now D) = 0)
    (ha : All g Q K c (Eng.opened D g) (D.stD (Eng.now D)) ls) :
    Calls Tryz.prog 14 #[.pointer (some ⟨h.d, 0, none⟩), g.V] w fun e w' => ∃ t, e = .returned (.tuple #[.pointer (some ⟨t.E, 0, none⟩), sbV D.sload, .int .i64 0]) ∧ Heng w0 h t g Q K c (Eng.opened D g) (D.stD (Eng.now D)) ls w' ∧ Chg h.foot w w' ∧ ∀ k, t.all h k → h.foot k ∨ w.heap.size ≤ k := by
  refine (eopen_calls hd g hg hfit hoff hq hep hE).mono ?_
  rintro e w' ⟨t, rfl, ⟨he, hfar⟩, hd', hch⟩
  have hall : ∀ k, t.all h k → h.foot k ∨ w.heap.size ≤ k := by
    intro k hk
    rcases hk with hk | rfl | hk | ⟨p, hp, rfl⟩ | hk
    · exact .inl hk
    · exact .inr hfar.1
    · exact .inr (hfar.2.1 k hk)
    · exact .inr (hfar.2.2.1 p hp)
    · exact .inr (hfar.2.2.2 k hk)
  exact ⟨t, rfl, ⟨hd', he, ha, fun k hk => (hall k hk).elim (hf k) (Nat.le_trans hc.size), hc.then hch (fun i hi hk => by have := hf i hk; omega)⟩, hch, hall⟩
end
end Go.Proofs.YtplpbbdakihnfaaGreat
end

section
namespace Go.Proofs.YtplpbbdakihnfaaGreat
open Go.RowKit
theorem pick_len (ks : Keys) (pl : Nat → Pl) (l : List Item) : (pick ks pl l).length ≤ l.length := by
  unfold pick
  rw [List.length_map]
  refine Nat.le_trans (List.length_filter_le _ _) ?_
  simp
theorem flat_len {α : Type} (f : Nat → List α) (b : Nat) : ∀ L : List Nat, (∀ i ∈ L, (f i).length ≤ b) → (L.flatMap f).length ≤ L.length * b := by
  intro L
  induction L with
  | nil => intro _; simp
  | cons i r ih =>
    intro h
    rw [List.flatMap_cons, List.length_append, List.length_cons]
    have h1 := h i List.mem_cons_self
    have h2 := ih (fun j hj => h j (List.mem_cons_of_mem _ hj))
    rw [Nat.succ_mul]
    omega
theorem items_le {G : Lg} (ho : G.Ok) : G.items.length ≤ 65000 := by
  unfold Lg.items
  rw [List.length_append]
  have h1 := flat_len (fun i => pick G.keys (fun at_ => (⟨false, i, at_⟩ : Pl)) (rl G.regs i)) 1000 (byNum G.regs) (fun i hi => by
    refine Nat.le_trans (pick_len _ _ _) ?_
    unfold rl
    rw [List.getD_eq_getElem?_getD]
    cases hS : G.regs[i]? with
    | none => simp [Sealed.no]
    | some S => exact (ho.small S (List.mem_of_getElem? hS)).1)
  have h2 := pick_len G.keys (fun at_ => (⟨true, 0, at_⟩ : Pl)) G.opn
  have h3 := ho.len
  have h4 := byNum_len G.regs
  have h5 := ho.most
  have h6 : (byNum G.regs).length * 1000 ≤ 64 * 1000 := Nat.mul_le_mul_right _ (by omega)
  omega
theorem allL_len {N : Nat} {w : World} {h : DevH} {D : Dev} (hd : DevN N w h D) (B : Sto) : ∀ n, (B.allL D n).length ≤ 12 * n := by
  intro n
  induction n with
  | zero => simp [Sto.allL]
  | succ n ih =>
    rw [Sto.allL_succ, List.length_append]
    have := lL_le hd B n
    omega
structure Loc10 (w : World) (h : DevH) (t : EngH) (b : Nat) (T : TypeId) (cs : Array Value) : Prop where
  blk : Blk w b T cs
  no : ¬ t.all h b
section
variable {w0 w w' : World} {h : DevH} {t t' : EngH} {g : Geo} {Q Q' : Item → Prop} {K : ByteArray → Prop} {c c' : Nat} {X X' : Eng} {D D' : Dev} {ls ls' : List (List Item)} {b : Nat} {T : TypeId} {cs : Array Value}
theorem Loc10.chgNo (hl : Loc10 w h t b T cs) (hc : Chg No w w') : Loc10 w' h t b T cs := ⟨hl.blk.chg hc (fun h => h), hl.no⟩
theorem Loc10.new (H : Heng w0 h t g Q K c X D ls w) (T : TypeId) (cs : Array Value) : Loc10 (w.alloc (.cells cs T)) h t w.heap.size T cs := ⟨Blk.new w T cs, fun hk => by have := H.lt hk; omega⟩
theorem Hgo.keep (S : Hgo w0 w h t g Q K c X D ls t' w') (hl : Loc10 w h t b T cs) : Loc10 w' h t' b T cs := ⟨S.blk hl.blk hl.no, S.loc hl.blk.lt hl.no⟩
theorem Heng.items (H : Heng w0 h t g Q K c X D ls w) (hQ : ∀ x, Q x → x.good = true) :
    Calls Tryz.prog 25 #[.pointer (some ⟨t.E, 0, none⟩)] w fun e w' => ∃ v, e = .returned v ∧ w'.ownsRow w.heap.size tItem 5 v (X.items D).length (its (X.items D)) ∧ Hgo w0 w h t g Q K c X D ls t w' := by
  have hr := H.all.run
  have hp := Geo.parts hr.geo
  have hal := H.all.bks.bk.all
  have hlen : (X.all D).length ≤ 1000000 := by
    unfold Eng.all
    rw [List.length_append]
    have h1 := items_le H.all.lgs.live.ok
    have h2 := allL_len (show DevN w.heap.size w h D from H.dev) X.B X.B.fs.length
    have h3 := hr.b2
    omega
  have hks : ∀ x ∈ X.all D, x.key.size ≤ 140737488351232 ∧ (X.B.get D x.key).2 ≠ 4 ∧ (X.B.get D x.key).1.key.size ≤ 140737488351232 ∧ (X.G.get x.key).key.size ≤ 140737488351232 := by
    intro x hx
    have hg : x.good = true := by
      unfold Eng.all at hx
      rcases List.mem_append.1 hx with hx | hx
      · rw [hal.2] at hx
        obtain ⟨i, l, hi, hy⟩ := mem_flat.1 hx
        exact hQ x (H.all.bks.q i l hi x hy)
      · obtain ⟨p, hk, hit, _⟩ := items_mem hx
        have hv : X.G.view x.key = some x := by unfold Lg.view; rw [hk]; simp [hit]
        exact hQ x (H.all.lgs.view_q hv).1
    have h1 := (good_key hg).1
    have h2 := H.all.bks.get_key hQ x.key
    exact ⟨by omega, h2.1, h2.2, H.all.lgs.get_key hQ x.key⟩
  have hb := byNum_len X.G.regs
  have hg2 := hr.g2
  refine (eitems_calls H.dev H.eng hr.on.off hr.los hal.1 (by omega) (byNum_lt _) (by omega) hlen hks).mono ?_
  rintro e w' ⟨v, rfl, ho, hd, hch⟩
  exact ⟨v, rfl, ho, H.step hd (H.eng.foot (show DevN w.heap.size w h D from H.dev) hch) H.all (hch.mono (fun k _ hk => .inl hk)) (fun k hk => .inl hk) rfl⟩
theorem Heng.block (H : Heng w0 h t g Q K c X D ls w) :
    Calls Tryz.prog 30 #[.pointer (some ⟨t.E, 0, none⟩)] w fun e w' => e = .returned (sbV X.blk) ∧ Chg No w w' := eblock_calls H.eng
theorem Heng.set (H : Heng w0 h t g Q K c X D ls w) (hc : c + 1 ≤ 1000000) (bl : Sb) (hb : bl.Ok) (h1 : bl.epoch ≤ c + 1) (h2 : bl.gen = X.blk.gen) (h3 : bl.reserved = X.blk.reserved) (h5 : bl.horizon = X.blk.horizon) :
    Calls Tryz.prog 32 #[.pointer (some ⟨t.E, 0, none⟩), sbV bl] w fun e w' => e = .returned (.int .i64 0) ∧ Hgo w0 w h t g Q K (c + 1) (X.set D bl) (D.stD bl) ls t w' := by
  have hr := H.all.run
  obtain ⟨q1, q2, q3, q4, q5⟩ := hr.set hc bl hb h1 (by rw [h2]; exact Nat.le_succ_of_le hr.gen) (by rw [h3]; have := hr.res; omega) (by rw [h3]; exact hr.last) (by rw [h5]; exact hr.hor)
  refine (eset_calls H.dev H.eng hr.on.off hr.n2 bl hb hr.sq hr.los).mono ?_
  rintro e w' ⟨rfl, he, hd, hch⟩
  rw [q1]
  refine ⟨rfl, H.step hd he ⟨q3, ?_, ?_, ?_, ?_⟩ (hch.mono (fun k _ hk => hk.elim .inl (fun e => .inr (.inl e)))) (fun k hk => .inl hk) rfl⟩
  · rw [q2]; exact H.all.bks.keep (q4.mono (fun i hi => by show 2 ≤ i; omega))
  · rw [q2]; exact (H.all.lgs.keep (q4.mono (fun i hi => by show 2 ≤ i; have := hr.g1; omega))).mono (fun _ h => h) (fun _ h => h) (Nat.le_succ c) hc
  · rw [q2]; exact H.all.jns.keep (q4.mono (fun i hi => by show 2 ≤ i; have := hr.j1; omega))
  · rw [q2]; show X.J.gen = bl.gen; rw [h2]; exact H.all.jgen
end
end Go.Proofs.YtplpbbdakihnfaaGreat
end

section
namespace Go.Proofs.YtplpbbdakihnfaaGreat
open Go.RowKit
attribute [local go_sem ↓] Go.wp_at_zero Go.wp_at_succ
def gSmall : Geo := ⟨2, 3, 1, 0⟩
theorem gSmall_ok : gSmall.ok = true := rfl
def aw1 : Item := { key := ⟨#[97]⟩, val := ⟨#[49]⟩, flags := 0, exp := 0, ver := 1 }
section
variable {g : Geo} {Q : Item → Prop} {K : ByteArray → Prop} {c : Nat} {X : Eng} {D : Dev} {ls : List (List Item)}
theorem one_of (h : All g Q K c X D ls) {key : ByteArray} {l : List Item} (hl : ls[X.B.no key]? = some l) (hv : X.G.view key = none) : X.one D key = match l.find? (keyed key) with | some x => if X.counts x = true then some x else none | none => none := by
  have hb := h.bks.tell key hl
  have hE : X.G.getE key = 5 := by rw [(X.G.get_view key).2, hv]; rfl
  rw [X.one_eq, X.pick_bad _ _ _ (by rw [hE]; decide), hb]
  cases l.find? (keyed key) with
  | none => exact X.pick_bad _ _ _ (by decide)
  | some x =>
    simp only
    cases hc : X.counts x with
    | true => rw [X.pick_new x hc]; rfl
    | false => rw [X.pick_no _ _ _ hc]; rfl
end
theorem no_items (f r : Nat) : ({ losses := 0, first := f, regs := List.replicate r .no, opn := [], number := 0, keys := [] } : Lg).items = [] := by
  have hc : counts (List.replicate r Sealed.no) = [] := by
    unfold counts
    rw [List.filter_eq_nil_iff]
    intro i hi
    simp only [rnum, List.getD_eq_getElem?_getD, List.getElem?_replicate]
    split <;> simp [Sealed.no]
  have hb2 : byNum (List.replicate r Sealed.no) = [] := by unfold byNum; rw [hc]; rfl
  unfold Lg.items
  simp only [hb2]
  rfl
theorem pleft_one {x : Item} (h : x.size ≤ 384) : pleft [] x = [x] := by
  rw [pleft_eq [] x h]
  show List.drop _ [] ++ [x] = [x]
  rw [List.drop_nil]; rfl
theorem aw_flat (i : Nat) (hi : i < 3) (x : Item) : ((List.replicate 3 ([] : List Item)).set i [x]).flatten = [x] ∧ ((List.replicate 3 ([] : List Item)).set i [x])[i]? = some [x] := by
  rcases (by omega : i = 0 ∨ i = 1 ∨ i = 2) with rfl | rfl | rfl <;> exact ⟨rfl, rfl⟩
def nolog (g : Geo) : Lg := { losses := 0, first := 2 + g.j + g.b, regs := List.replicate g.r .no, opn := [], number := 0, keys := [] }
section
variable {K : ByteArray → Prop} {c : Nat} {X : Eng} {D : Dev} {ls : List (List Item)} {Q : Item → Prop}
theorem nolog_view (g : Geo) (key : ByteArray) : (nolog g).view key = none := rfl
theorem nolog_drop (g : Geo) (key : ByteArray) : (nolog g).drop key = nolog g := rfl
theorem nolog_items (g : Geo) : (nolog g).items = [] := no_items _ _
theorem aw_told (h : All gSmall Q K c X D ((List.replicate 3 ([] : List Item)).set (X.B.no aw1.key) [aw1])) (hG : X.G = nolog gSmall) :
    X.one D aw1.key = (if X.counts aw1 = true then some aw1 else none) ∧ X.may aw1.key = true ∧ X.items D = (if X.counts aw1 = true then [aw1] else []) := by
  have hno : X.B.no aw1.key < 3 := by have := h.bks.bk.no_ aw1.key; simpa using this
  obtain ⟨f1, f2⟩ := aw_flat _ hno aw1
  have hv : X.G.view aw1.key = none := by rw [hG]; rfl
  have h1 : X.one D aw1.key = (if X.counts aw1 = true then some aw1 else none) := by
    rw [one_of h f2 hv]
    have hf : [aw1].find? (keyed aw1.key) = some aw1 := by simp [keyed]
    rw [hf]
  refine ⟨h1, ?_, ?_⟩
  · unfold Eng.may
    rw [h.bks.may_ f2 (List.mem_singleton.2 rfl)]; rfl
  · unfold Eng.items Eng.all
    rw [h.bks.bk.all.2, f1, hG, nolog_items, List.append_nil]
    have ht : X.tells D aw1 = X.counts aw1 := by
      unfold Eng.tells
      rw [h1]
      cases X.counts aw1 <;> simp
    cases hc : X.counts aw1 with
    | true => rw [if_pos rfl, List.filter_cons, ht, hc]; rfl
    | false => rw [if_neg (by decide), List.filter_cons, ht, hc]; rfl
end
theorem eng_new12 (w : World) : Calls Tryz.prog 13 #[.int .i64 12] w fun e w' => ∃ h : DevH, e = .returned (.tuple #[.pointer (some ⟨h.d, 0, none⟩), .int .i64 0]) ∧ DevAt w' h (Dev.new 12) ∧ Chg No w w' ∧ ∀ k, h.foot k → w.heap.size ≤ k := new_calls 12 w (by decide) (by decide)
theorem field_sb (a b c d e f g : Value) (W : World) : (Instr.field tSb (.agg #[a, b, c, d, e, f, g]) 1).run Tryz.prog W = .ok b W ∧ (Instr.field tSb (.agg #[a, b, c, d, e, f, g]) 2).run Tryz.prog W = .ok c W ∧ (Instr.field tSb (.agg #[a, b, c, d, e, f, g]) 6).run Tryz.prog W = .ok g W := ⟨by kernel_rfl, by kernel_rfl, by kernel_rfl⟩
set_option maxRecDepth 100000 in
theorem small_calls (w : World) : Calls Tryz.prog 15 #[] w fun e w' => e = .returned gSmall.V ∧ Chg No w w' := by
  go_enter Tryz.func15, Tryz.ntmps15
  go_wp2_with fail
  have z0 := (Blk.new w 34 #[.int .i64 2, .int .i64 3, .int .i64 1, .int .i64 0]).cell 0
  have z1 := (Blk.new w 34 #[.int .i64 2, .int .i64 3, .int .i64 1, .int .i64 0]).cell 1
  have z2 := (Blk.new w 34 #[.int .i64 2, .int .i64 3, .int .i64 1, .int .i64 0]).cell 2
  have z3 := (Blk.new w 34 #[.int .i64 2, .int .i64 3, .int .i64 1, .int .i64 0]).cell 3
  refine bodyPost_ret (v := .agg #[.int .i64 2, .int .i64 3, .int .i64 1, .int .i64 0]) (by simp [results, Tryz.results15, go_sem, z0, z1, z2, z3]) rfl ⟨rfl, by (repeat (first | (with_reducible exact Chg.refl _ _) | (with_reducible assumption) | (with_reducible refine Chg.drewN ?_ _) | (with_reducible refine Chg.drew ?_) | (with_reducible refine Chg.alloc ?_ _) | (with_reducible refine Chg.setCell ?_ (by first | (left; simp [DevH.foot]; done) | (right; simp; done) | (right; simp; omega)) _)))⟩
end Go.Proofs.YtplpbbdakihnfaaGreat
end
