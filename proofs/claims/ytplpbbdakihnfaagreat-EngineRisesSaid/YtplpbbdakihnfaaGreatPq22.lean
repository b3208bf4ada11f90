/- Packed texts: Rng, EngL. -/
import Derived.Test.YtplpbbdakihnfaaGreatPq21
import Derived.Test.YtplpbbdakihnfaaGreatPq20
set_option linter.unusedSimpArgs false
set_option linter.unusedVariables false
section
namespace Go.Proofs.YtplpbbdakihnfaaGreat
open Go.RowKit
theorem wpIn_rngStop {F : Fence} {n : Nat} {P : Program} {α : Type} {g : Operand} {ps : Array Tmp} {assign body : Code} {Q : Exit → Act → World → Prop} {a : Act} {w : World}
    (hro : F.round = none) (h1 : 1 ≤ n) {gf : Nat} {lb : Array Value} (hg : a.eval g = .func (.func gf) #[] lb) (hFg : F.fn gf) (eg : ∀ args w, (callFunc gf args).run P w = .ok (.enter gf args) w)
    {encs : α → Array Value} {Kp : World → World → Prop} {S Sp : List α → Prop} {N : Nat}
    (hseq : ∀ (l : Nat) (J Jx : List α → World → Prop) (W : World), Below w.heap.size w W → AbidesFrom W.heap.size J →
      (∀ pre x W1, J pre W1 → pre.length < N → YieldAt F (n - 1 - 1) P l (encs x) W1 fun e W' =>
        (e = .returned (.bool true) ∧ J (pre ++ [x]) W' ∧ Kp W1 W') ∨ (e = .returned (.bool false) ∧ Jx (pre ++ [x]) W')) →
      J [] W → CallsIn F (n - 1) P gf (#[.func (.yield l) #[] #[]] ++ lb) W fun e W' => (∃ v, e = .returned v) ∧ ((∃ xs, S xs ∧ J xs W') ∨ (∃ pre, Sp pre ∧ Jx pre W')))
    (hKt : ∀ {A B C : World}, Kp A B → Kp B C → Kp A C) (hKb : ∀ (W : World) (l : Nat) (o o' : Obj), w.heap.size ≤ l → W.heap[l]? = some o → o.isCells = false → o.isWalk = false → Kp W (W.putObj l o'))
    (hps : ∀ x, (encs x).size = ps.size)
    (I : List α → World → Prop) (Ix : Code → List α → World → Prop) (hI : OwnFrom w.heap.size I)
    (hIx : ∀ c pre W r o, Ix c pre W → W.heap[w.heap.size + 1]? = some (.loop r) → Ix c pre (W.putObj (w.heap.size + 1) o)) (h0 : I [] w) (a₁ : α → Act)
    (hassign : ∀ (l : Nat) (x : α) (W : World) (K : Act → World → Prop), K (a₁ x) W →
      assign.wpIn (F.inRound l) (n - 1 - 1) P (Exit.then K (fun _ _ _ => False)) { tmps := (ps.zip (encs x)).foldl (fun t (p, v) => t.setIfInBounds p v) a.tmps, defers := [] } W)
    (hbody : ∀ (l : Nat) (pre : List α) (x : α) (W : World), I pre W → pre.length < N → body.wpIn (F.inRound l) (n - 1 - 1) P (ownPostG w.heap.size Kp I Ix (pre ++ [x]) W) (a₁ x) W)
    (hdone : ∀ (D : Nat) (xs : List α) (W : World), w.heap.size ≤ D → S xs → I xs W → W.heap[D]? = some (.deferred (some [])) → Q .normal { a with defers := { target := .collected D, args := #[] } :: a.defers } W)
    (hstop : ∀ (D : Nat) (c : Code) (pre : List α) (W : World), w.heap.size ≤ D → Sp pre → Ix c pre W → W.heap[D]? = some (.deferred (some [])) → c.wpIn F n P Q { a with defers := { target := .collected D, args := #[] } :: a.defers } W) :
    (Code.rangeFunc g ps assign body).wpIn F n P Q a w := by
  refine wpIn_rangeFunc ?_
  intro fn hfn
  rw [hro]
  obtain ⟨rec, hrec⟩ : ∃ rec : LoopState → Option Code → Loop, rec = fun st pe => { state := st, pending := pe, fn, tmps := a.tmps, params := ps, assign, body, defers := w.heap.size } := ⟨_, rfl⟩
  obtain ⟨U, hU⟩ : ∃ U, (w.alloc (.deferred (some []))).alloc (.loop (rec .ready none)) = U := ⟨_, rfl⟩
  have hUl : U.heap[w.heap.size + 1]? = some (.loop (rec .ready none)) := by
    have h9 := World.alloc_heap_new (w.alloc (.deferred (some []))) (.loop (rec .ready none))
    rw [World.size_alloc] at h9
    rw [← hU]; exact h9
  have hUd : U.heap[w.heap.size]? = some (.deferred (some [])) := by
    rw [← hU]; exact (Below.heap_alloc _ _ _ (by simp)).trans (World.alloc_heap_new w _)
  have hUi : I [] U := by rw [← hU]; exact hI.alloc _ (hI.alloc _ h0)
  have hUb : Below w.heap.size w U := by
    rw [← hU]; exact (((Below.refl _ w).alloc (Nat.le_refl _) _).alloc (by simp) _)
  have hUs : w.heap.size + 1 < U.heap.size := (Array.getElem?_eq_some_iff.1 hUl).1
  refine ⟨w.heap.size + 1, [{ target := .collected w.heap.size, args := #[] }], U, { target := .fn (.func gf) lb, args := #[.func (.yield (w.heap.size + 1)) #[] #[]] }, U, gf,
    #[.func (.yield (w.heap.size + 1)) #[] #[]] ++ lb, U, ?_, ?_, ?_, ?_, fun _ => h1, ?_⟩
  · rw [← hU, hrec]; exact run_enterLoop_outer _ _ _ _ _
  · simp only [resolve, hg]
    simp [go_sem]
  · intro f' hf'; simp [Target.leads] at hf'; subst hf'; exact hFg
  · simp [invoke, go_sem, eg]
  · refine (hseq (w.heap.size + 1)
      (fun pre W => I pre W ∧ W.heap[w.heap.size + 1]? = some (.loop (rec .ready none)) ∧ W.heap[w.heap.size]? = some (.deferred (some [])))
      (fun pre W => ∃ c, Ix c pre W ∧ W.heap[w.heap.size + 1]? = some (.loop (rec .done (some c))) ∧ W.heap[w.heap.size]? = some (.deferred (some [])))
      U hUb
      (fun s A B row hs hg' hr => ⟨hI s A B row hs.1 hg' (fun r e => by obtain ⟨q1, o, q2, q3⟩ := hr r e; exact ⟨by omega, o, q2, Obj.not_cells_of_walk q3⟩), (grownBy_keeps hg' (fun r e => (hr r e).2) hs.2.1 rfl).trans hs.2.1, (grownBy_keeps hg' (fun r e => (hr r e).2) hs.2.2 rfl).trans hs.2.2⟩)
      ?_ ⟨hUi, hUl, hUd⟩).mono ?_
    · rintro pre x W ⟨hi, hl, hk⟩ hlen
      have hlt : w.heap.size + 1 < W.heap.size := (Array.getElem?_eq_some_iff.1 hl).1
      have hy := run_yield (P := P) (args := encs x) hl (by rw [hrec]; exact hps x)
      rw [hrec] at hy
      refine ⟨fn, _, assign, body, hy, roundIn_of_wpIn hfn (hassign _ x W _ ⟨_, run_beginRound hl (by rw [hrec]), ?_⟩)⟩
      obtain ⟨bz, hbz⟩ : ∃ bz : Obj, bz = .loop { rec .ready none with state := .busy } := ⟨_, rfl⟩
      have hl2 : (W.putObj (w.heap.size + 1) (.loop { rec .ready none with state := .busy })).heap[w.heap.size + 1]? = some (.loop { rec .ready none with state := .busy }) := World.putObj_heap_same hlt
      have hk2 : (W.putObj (w.heap.size + 1) (.loop { rec .ready none with state := .busy })).heap[w.heap.size]? = some (.deferred (some [])) := (World.putObj_heap_other (by omega)).trans hk
      have hw2 : Kp W (W.putObj (w.heap.size + 1) (.loop { rec .ready none with state := .busy })) := hKb _ _ _ _ (by omega) hl rfl rfl
      refine wpIn_mono (hbody _ pre x _ (hI.putObj _ hi (by omega) hl rfl) hlen) ?_
      have close : ∀ (jump : Option Code) (V : World), KeepsFrom w.heap.size (W.putObj (w.heap.size + 1) (.loop { rec .ready none with state := .busy })) V →
          (Instr.endRound (w.heap.size + 1) jump).run P V = .ok (.bool jump.isNone) (V.putObj (w.heap.size + 1) (.loop (rec (if jump.isNone then .ready else .done) jump))) ∧
          V.heap[w.heap.size + 1]? = some (.loop { rec .ready none with state := .busy }) ∧
          (V.putObj (w.heap.size + 1) (.loop (rec (if jump.isNone then .ready else .done) jump))).heap[w.heap.size + 1]? = some (.loop (rec (if jump.isNone then .ready else .done) jump)) ∧
          (V.putObj (w.heap.size + 1) (.loop (rec (if jump.isNone then .ready else .done) jump))).heap[w.heap.size]? = some (.deferred (some [])) := fun jump V hv => by
        have hl3 := hv.same _ _ (by omega) hl2 rfl
        have hrun := run_endRound (P := P) jump hl3
        rw [hrec] at hrun ⊢
        exact ⟨hrun, by rw [hrec] at hl3; exact hl3, World.putObj_heap_same (Array.getElem?_eq_some_iff.1 hl3).1, (World.putObj_heap_other (by omega)).trans (hv.same _ _ (Nat.le_refl _) hk2 rfl)⟩
      have leave : ∀ (c : Code) (V : World), KeepsFrom w.heap.size (W.putObj (w.heap.size + 1) (.loop { rec .ready none with state := .busy })) V → Ix c (pre ++ [x]) V →
          (Instr.endRound (w.heap.size + 1) (some c)).run P V = .ok (.bool false) (V.putObj (w.heap.size + 1) (.loop (rec .done (some c)))) ∧
          Ix c (pre ++ [x]) (V.putObj (w.heap.size + 1) (.loop (rec .done (some c)))) ∧
          (V.putObj (w.heap.size + 1) (.loop (rec .done (some c)))).heap[w.heap.size + 1]? = some (.loop (rec .done (some c))) ∧ (V.putObj (w.heap.size + 1) (.loop (rec .done (some c)))).heap[w.heap.size]? = some (.deferred (some [])) := fun c V hv hx => by
        obtain ⟨q1, q2, q3, q4⟩ := close (some c) V hv
        exact ⟨q1, hIx _ _ _ _ _ hx q2, q3, q4⟩
      rintro e a3 V hp
      cases e with
      | normal =>
        obtain ⟨hv, hkp, hi3⟩ := hp
        obtain ⟨q1, q2, q3, q4⟩ := close none V hv
        exact ⟨_, _, q1, .inl ⟨rfl, ⟨hI.putObj _ hi3 (by omega) q2 rfl, q3, q4⟩, hKt (hKt hw2 hkp) (hKb _ _ _ _ (by omega) q2 rfl rfl)⟩⟩
      | ret =>
        obtain ⟨q1, q2, q3, q4⟩ := leave .ret V hp.1 hp.2
        exact ⟨_, _, q1, .inr ⟨rfl, .ret, q2, q3, q4⟩⟩
      | exit id =>
        obtain ⟨q1, q2, q3, q4⟩ := leave (.exit id) V hp.1 hp.2
        exact ⟨_, _, q1, .inr ⟨rfl, .exit id, q2, q3, q4⟩⟩
      | goto t =>
        obtain ⟨q1, q2, q3, q4⟩ := leave (.goto t) V hp.1 hp.2
        exact ⟨_, _, q1, .inr ⟨rfl, .goto t, q2, q3, q4⟩⟩
      | panic ch => exact hp.elim
      | outgrown => exact hp.elim
    · rintro e V ⟨⟨v, rfl⟩, (⟨xs, hS, hi, hl, hk⟩ | ⟨pre, hSp, c, hi, hl, hk⟩)⟩
      · exact ⟨none, _, by have h9 := run_endLoop (P := P) hl (by rw [hrec]; simp); rw [hrec] at h9; exact h9, hdone _ xs _ (Nat.le_refl _) hS (hI.putObj _ hi (by omega) hl rfl) ((World.putObj_heap_other (by omega)).trans hk)⟩
      · exact ⟨some c, _, by have h9 := run_endLoop (P := P) hl (by rw [hrec]; simp); rw [hrec] at h9; exact h9, hstop _ c pre _ (Nat.le_refl _) hSp (hIx _ _ _ _ _ hi hl) ((World.putObj_heap_other (by omega)).trans hk)⟩
end Go.Proofs.YtplpbbdakihnfaaGreat
end

section
namespace Go.Proofs.YtplpbbdakihnfaaGreat
open Go.RowKit
open Go.ChangeMaps (setBlock)
def ses (sm : List (ByteArray × Bool)) : List (ByteArray × Value) := sm.map fun p => (p.1, .bool p.2)
theorem aget_ses (sm : List (ByteArray × Bool)) (k : ByteArray) : aget (ses sm) k = (aget sm k).map fun v => .bool v := by
  induction sm with
  | nil => rfl
  | cons p r ih =>
    simp only [ses, List.map_cons, aget] at ih ⊢
    split
    · rfl
    · exact ih
theorem aset_ses (sm : List (ByteArray × Bool)) (k : ByteArray) (v : Bool) : aset (ses sm) k (.bool v) = ses (aset sm k v) := by
  induction sm with
  | nil => rfl
  | cons p r ih =>
    simp only [ses, List.map_cons, aset] at ih ⊢
    split
    · rfl
    · rw [List.map_cons, ih]
abbrev tSeen : TypeId := 101
theorem zero_bool (W : World) : (zeroValue 4).run Tryz.prog W = .ok (.bool false) W := by kernel_rfl
theorem look_ses {w : World} {sm : List (ByteArray × Bool)} {M : Nat} (hm : MapIs skey w M (ses sm)) (k : ByteArray) : (Instr.lookup tSeen (.map (some M)) (.string k) false).run Tryz.prog w = .ok (.bool ((aget sm k).getD false)) w := by
  have := hm.lookup (P := Tryz.prog) (keyLaw_string (Tryz.underlying9)) Tryz.underlying101 (zero_bool w) k false
  rw [aget_ses] at this
  rw [if_neg (by decide)] at this
  cases hk : aget sm k <;> rw [hk] at this <;> exact this
theorem own_map {κ : Type} [DecidableEq κ] {K : κ → Value} {w : World} {M base e size n : Nat} {v : Value} {xs : List Value} {es : List (κ × Value)} (hm : MapIs K w M es) (ho : w.ownsRow base e size v n xs) : v.ownBlock ≠ some M := by
  rcases ho.2 with ⟨rfl, _⟩ | ⟨g', cap, cur, rfl, _, hh, _⟩
  · simp [Value.ownBlock]
  · intro he
    have e1 : g' = M := by simpa [Value.ownBlock] using he
    exact hm.ne_blk hh e1.symm
namespace Eng
def rmOne (X : Eng) (s : List Mk × List (ByteArray × Bool)) (k : ByteArray) : List Mk × List (ByteArray × Bool) :=
  (if ((aget s.2 k).getD false) = false ∧ X.may k = true then s.1 ++ [(key k, X.last)] else s.1, aset s.2 k true)
def rmL (X : Eng) (ks : List ByteArray) : List Mk × List (ByteArray × Bool) := ks.foldl X.rmOne ([], [])
theorem rmL_take (X : Eng) {ks : List ByteArray} {i : Nat} {k : ByteArray} (h : ks[i]? = some k) : X.rmL (ks.take (i + 1)) = X.rmOne (X.rmL (ks.take i)) k := by
  unfold rmL
  rw [List.take_add_one, h, Option.toList, List.foldl_append]; rfl
theorem rmL_len (X : Eng) (ks : List ByteArray) : (X.rmL ks).1.length ≤ ks.length := by
  have h : ∀ (ks : List ByteArray) (s : List Mk × List (ByteArray × Bool)), (ks.foldl X.rmOne s).1.length ≤ s.1.length + ks.length := by
    intro ks
    induction ks with
    | nil => intro s; simp
    | cons k r ih =>
      intro s
      rw [List.foldl_cons]
      refine Nat.le_trans (ih _) ?_
      simp only [List.length_cons]
      have : (X.rmOne s k).1.length ≤ s.1.length + 1 := by
        unfold rmOne
        simp only
        split <;> simp
      omega
  have := h ks ([], [])
  simpa [rmL] using this
theorem rmL_mem (X : Eng) (ks : List ByteArray) : ∀ m ∈ (X.rmL ks).1, ∃ k ∈ ks, m = (key k, X.last) := by
  have h : ∀ (ks : List ByteArray) (s : List Mk × List (ByteArray × Bool)), ∀ m ∈ (ks.foldl X.rmOne s).1, m ∈ s.1 ∨ ∃ k ∈ ks, m = (key k, X.last) := by
    intro ks
    induction ks with
    | nil => intro s m hm; exact .inl hm
    | cons k r ih =>
      intro s m hm
      rw [List.foldl_cons] at hm
      rcases ih _ m hm with h1 | ⟨k', h1, h2⟩
      · unfold rmOne at h1
        simp only at h1
        split at h1
        · rcases List.mem_append.1 h1 with h1 | h1
          · exact .inl h1
          · exact .inr ⟨k, List.mem_cons_self, by simpa using h1⟩
        · exact .inl h1
      · exact .inr ⟨k', List.mem_cons_of_mem _ h1, h2⟩
  intro m hm
  rcases h ks ([], []) m hm with h1 | h1
  · cases h1
  · exact h1
def addX (X : Eng) (D : Dev) (l : List Mk) : Eng := { X with J := X.J.addJ D l }
def rmGo (l : List Mk) : Nat → Nat → Eng → Dev → Int × Eng × Dev
  | 0, _, X, D => (0, X, D)
  | f + 1, j, X, D =>
    if X.J.addE D ((l.drop (j * 23)).take 23) = 0 then rmGo l f (j + 1) (X.addX D ((l.drop (j * 23)).take 23)) (X.J.addD D ((l.drop (j * 23)).take 23))
    else if X.J.addE D ((l.drop (j * 23)).take 23) = 7 then ((X.addX D ((l.drop (j * 23)).take 23)).wipeE (X.J.addD D ((l.drop (j * 23)).take 23)), (X.addX D ((l.drop (j * 23)).take 23)).wipeX (X.J.addD D ((l.drop (j * 23)).take 23)), (X.J.addD D ((l.drop (j * 23)).take 23)).stD (X.addX D ((l.drop (j * 23)).take 23)).wB)
    else (X.J.addE D ((l.drop (j * 23)).take 23), X.addX D ((l.drop (j * 23)).take 23), X.J.addD D ((l.drop (j * 23)).take 23))
def rm (X : Eng) (D : Dev) (ks : List ByteArray) : Int × Eng × Dev := rmGo (X.rmL ks).1 (mkN (X.rmL ks).1.length) 0 X D
structure Fit (X : Eng) (D : Dev) : Prop where
  on : D.On
  ls : X.losses = D.losses
  jls : X.J.losses = D.losses
  n2 : 2 ≤ D.n
  first : 2 ≤ X.J.first
  jfit : X.J.first + X.J.pages ≤ D.n
  seq : D.sload.seq + 1 < 18446744073709551616
  gen : X.blk.gen + 1 < 18446744073709551616
end Eng
theorem sload_same {D D' : Dev} (hD : D.On) (hD' : D'.On) (hn : D'.n = D.n) (hp : ∀ i, i < 2 → D'.page i = D.page i) : D'.sload = D.sload := by
  have hr : ∀ i : Nat, i < 2 → D'.read (i : Int) = D.read (i : Int) ∧ D'.readE (i : Int) = D.readE (i : Int) := by
    intro i hi
    unfold Dev.read Dev.readE Dev.has
    rw [hn, hD.off, hD'.off]
    have e : (i : Int).toNat = i := Int.toNat_natCast i
    rw [e, hp i hi]
    exact ⟨rfl, rfl⟩
  have h0 := hr 0 (by omega)
  have h1 := hr 1 (by omega)
  unfold Dev.sload Dev.sbs Dev.sbs Dev.sbs
  rw [h0.1, h0.2, h1.1, h1.2]
theorem jnPage_le (gen : Nat) (l : List Mk) (h : l.length ≤ 23) : (jnPage gen l).length ≤ 384 := by rw [jnPage_len]; omega
theorem addD_on {J : Jn} {D : Dev} (hD : D.On) (hf : J.first + J.pages ≤ D.n) (l : List Mk) (hl : l.length ≤ 23) :
    (J.addD D l).On ∧ (J.addD D l).n = D.n ∧ (J.addD D l).losses = D.losses ∧ (∀ i, (i < J.first ∨ J.first + J.pages ≤ i) → (J.addD D l).page i = D.page i) := by
  unfold Jn.addD
  split
  · exact ⟨hD, rfl, rfl, fun _ _ => rfl⟩
  · rename_i hh
    have hroom : J.room ≠ 0 := fun e => hh (.inr e)
    unfold Jn.room at hroom
    rw [if_neg (by rw [hD.changeE]; simp)]
    have hw := hD.write (k := J.first + J.used) (by omega) (jnPage_le J.gen l hl)
    have hfl := hw.2.1.flush
    unfold Jn.wD Jn.at_
    refine ⟨hfl.1, hfl.2.1.trans hw.2.2.1, hfl.2.2.1.trans hw.2.2.2.1, fun i hi => ?_⟩
    rw [hfl.2.2.2.1 i, hw.2.2.2.2 i, if_neg (by omega)]
theorem addJ_facts (J : Jn) (D : Dev) (l : List Mk) : (J.addJ D l).first = J.first ∧ (J.addJ D l).pages = J.pages ∧ (J.addJ D l).losses = J.losses ∧ (J.addJ D l).gen = J.gen := by
  unfold Jn.addJ
  split
  · exact ⟨rfl, rfl, rfl, rfl⟩
  · split <;> exact ⟨rfl, rfl, rfl, rfl⟩
theorem Eng.Fit.add {X : Eng} {D : Dev} (h : X.Fit D) (l : List Mk) (hl : l.length ≤ 23) : (X.addX D l).Fit (X.J.addD D l) := by
  obtain ⟨h1, h2, h3, h4⟩ := addD_on h.on h.jfit l hl
  obtain ⟨j1, j2, j3, j4⟩ := addJ_facts X.J D l
  have hs : (X.J.addD D l).sload = D.sload := sload_same h.on h1 h2 (fun i hi => h4 i (.inl (by have := h.first; omega)))
  exact ⟨h1, by show X.losses = _; rw [h3]; exact h.ls, by show (X.J.addJ D l).losses = _; rw [j3, h3]; exact h.jls, by rw [h2]; exact h.n2, by show 2 ≤ (X.J.addJ D l).first; rw [j1]; exact h.first, by show (X.J.addJ D l).first + (X.J.addJ D l).pages ≤ _; rw [j1, j2, h2]; exact h.jfit, by rw [hs]; exact h.seq, h.gen⟩
section
variable {N : Nat} {S : Nat → Prop} {w w' : World} {h : DevH} {t : EngH} {X : Eng} {D : Dev}
theorem EngAt.jrn {J' : Jn} (he : EngAt w h t X) (hd : DevN N w h D) (hc : Chg (fun k => h.foot k ∨ t.j.own k) w w') (hj : JnAt w' h t.j J') (hf : J'.first + J'.pages ≤ 4096) : EngAt w' h t { X with J := J' } := by
  have hjb := he.jn.box
  have hne : ∀ {g : Nat} {T : TypeId} {cs : Array Value}, Blk w g T cs → T ≠ tDev → T ≠ tPP → T ≠ tJn → ¬ (h.foot g ∨ t.j.own g) := by
    intro g T cs hb h1 h2 h3
    rintro (h4 | h4 | h4)
    · exact hd.not_foot hb h1 h2 h4
    · subst h4
      unfold Blk at hb hjb
      rw [hb] at hjb
      injection hjb with e
      injection e with _ e
      exact h3 e
    · exact he.jn.map.ne_blk hb h4.symm
  exact { box := he.box.chg hc (hne he.box (by decide) (by decide) (by decide)), jn := hj,
          sto := he.sto.chg hc (fun g cs T hT hb => by rcases hT with rfl | rfl | rfl | rfl <;> exact hne hb (by decide) (by decide) (by decide)),
          lg := he.lg.mixed hd hc (fun k hk hj => he.jg k hj hk), jg := he.jg, sg := he.sg, eg := he.eg, blk := he.blk, last := he.last, jfit := hf, pos := he.pos }
theorem EngAt.not_jrn {g : Nat} {T : TypeId} {cs : Array Value} {fz : Nat × Nat} (he : EngAt w h t X) (hd : DevN N w h D) (hb : w.heap[g]? = some (.cells cs T fz)) (h1 : T ≠ tDev) (h2 : T ≠ tPP) (h3 : T ≠ tJn) : ¬ (h.foot g ∨ t.j.own g) := by
  have hjb := he.jn.box
  rintro (h4 | h4 | h4)
  · exact hd.not_foot hb h1 h2 h4
  · subst h4
    unfold Blk at hjb
    rw [hb] at hjb
    injection hjb with e
    injection e with _ e
    exact h3 e
  · exact he.jn.map.ne_blk hb h4.symm
theorem EngAt.chgS (he : EngAt w h t X) (hc : Chg S w w') (h1 : ∀ g T cs, Blk w g T cs → ¬ S g) (h2 : ¬ S t.j.M) (h3 : ∀ k, t.g.own k → ¬ S k) : EngAt w' h t X :=
  { he with
    box := he.box.chg hc (h1 _ _ _ he.box)
    jn := he.jn.chg hc (fun k hk => by
      rcases hk with rfl | rfl
      · exact h1 _ _ _ he.jn.box
      · exact h2)
    sto := he.sto.chg hc (fun g cs T _ hb => h1 _ _ _ hb)
    lg := he.lg.chg hc h3 }
theorem EngAt.row {B : Nat} {U U' : World} {row : Option Nat} (he : EngAt U h t X) (hg : U.grownBy U' row) (hr : ∀ r, row = some r → B ≤ r ∧ ∃ o : Obj, U.heap[r]? = some o ∧ o.isCells = false) (hM : t.j.M < B) (hG : ∀ k, t.g.own k → k < B) : EngAt U' h t X := by
  refine he.chgS (S := fun i => row = some i) (Chg.grown (Chg.refl _ _) hg (fun k e => .inl e)) (fun g T cs hb e => ?_) (fun e => by have := (hr _ e).1; omega) (fun k hk e => by have := (hr _ e).1; have := hG k hk; omega)
  obtain ⟨_, o, ho, hoc⟩ := hr g e
  unfold Blk at hb
  rw [ho] at hb
  injection hb with hb
  subst hb
  cases hoc
theorem dev_row2 {U U' : World} {row : Option Nat} (hd : DevN N U h D) (hg : U.grownBy U' row) (hr : ∀ r, row = some r → ¬ h.foot r ∧ ∃ o : Obj, U.heap[r]? = some o ∧ o.isCells = false) : DevAt U' h D := by
  have hn : ∀ g cs t, Blk U g t cs → ¬ row = some g := by
    intro g cs t hb e
    obtain ⟨_, o, ho, hc⟩ := hr g e
    unfold Blk at hb
    rw [ho] at hb
    injection hb with hb
    subst hb
    cases hc
  exact (hd.chg (S := fun i => row = some i) (Chg.grown (Chg.refl _ _) hg (fun k e => .inl e)) (fun e => (hr _ e).1 (.inl rfl)) (fun e => (hr _ e).1 (.inr (.inl rfl))) (fun e => (hr _ e).1 (.inr (.inr rfl))) (fun g cs t _ _ hb => hn g cs t hb)).at_
theorem blk_row2 {U U' : World} {row : Option Nat} (hg : U.grownBy U' row) (hr : ∀ r, row = some r → ∃ o : Obj, U.heap[r]? = some o ∧ o.isCells = false) {g : Nat} {t : TypeId} {cs : Array Value} (hb : Blk U g t cs) : Blk U' g t cs := by
  refine hb.chg (S := fun i => row = some i) (Chg.grown (Chg.refl _ _) hg (fun k e => .inl e)) ?_
  intro e
  obtain ⟨o, ho, hc⟩ := hr g e
  unfold Blk at hb
  rw [ho] at hb
  injection hb with hb
  subst hb
  cases hc
theorem rd_row2 {U U' : World} {row : Option Nat} (hg : U.grownBy U' row) (hr : ∀ r, row = some r → ∃ o : Obj, U.heap[r]? = some o ∧ o.isCells = false) {t : TypeId} {A : Option Addr} {k : Nat} {xs : List Value} (h : Rd U t A k xs) : Rd U' t A k xs := by
  refine h.chg (S := fun i => row = some i) (Chg.grown (Chg.refl _ _) hg (fun k e => .inl e)) ?_
  intro g cur fz hb e
  obtain ⟨o, ho, hc⟩ := hr g e
  rw [ho] at hb
  injection hb with hb
  subst hb
  cases hc
theorem put_cell2 {W : World} {Dd g : Nat} {t : TypeId} {cs : Array Value} (hK : W.heap[Dd]? = some (.deferred (some []))) (hb : Blk W g t cs) : Blk (W.putObj Dd (.deferred none)) g t cs := by
  have hne : g ≠ Dd := by
    rintro rfl
    unfold Blk at hb
    rw [hb] at hK
    cases hK
  exact (World.putObj_heap_other hne).trans hb
theorem put_chg2 (W : World) (Dd : Nat) (o : Obj) : Chg (fun i => i = Dd) W (W.putObj Dd o) :=
  Chg.grown (Chg.refl _ _) (grownBy_putObj' W Dd o) (fun k e => .inl (by cases e; rfl))
theorem keeps_chg2 {B0 : Nat} {U W : World} (hc : Chg S U W) (hs : ∀ i, B0 ≤ i → S i → ∃ T cs, Blk U i T cs) : KeepsFrom B0 U W :=
  ⟨hc.size, fun k o hk ho hoc => by
    refine hc.at_ ho (fun hS => ?_)
    obtain ⟨T, cs, hb⟩ := hs k hk hS
    unfold Blk at hb
    rw [hb] at ho
    injection ho with ho
    subst ho
    cases hoc⟩
theorem wp_slots2 {P : Program} {c : Code} {Q : Exit → Act → World → Prop} {a : Act} {w : World} (F : (Nat → Value) → Act) (R : World → Prop) (h1 : a = F (fun i => a.tmps.getD i undef)) (h : R w) (hh : ∀ Y w', R w' → c.wp P Q (F Y) w') : c.wp P Q a w := by
  rw [h1]
  exact hh _ _ h
end
abbrev tPEng : TypeId := 27
abbrev tErrn : TypeId := 24
namespace Eng
def ckm (l : List Mk) (j : Nat) : List Mk := (l.drop (j * 23)).take 23
def stopOf (X : Eng) (D : Dev) (c : List Mk) : Int × Eng × Dev :=
  if X.J.addE D c = 7 then ((X.addX D c).wipeE (X.J.addD D c), (X.addX D c).wipeX (X.J.addD D c), (X.J.addD D c).stD (X.addX D c).wB)
  else (X.J.addE D c, X.addX D c, X.J.addD D c)
inductive Adds (l : List Mk) (X : Eng) (D : Dev) : List Nat → Eng → Dev → Prop
  | nil : Adds l X D [] X D
  | snoc {js : List Nat} {X' : Eng} {D' : Dev} (j : Nat) (h : Adds l X D js X' D') (h0 : X'.J.addE D' (ckm l j) = 0) : Adds l X D (js ++ [j]) (X'.addX D' (ckm l j)) (X'.J.addD D' (ckm l j))
theorem rmGo_ok {l : List Mk} {f j : Nat} {X : Eng} {D : Dev} (h : X.J.addE D (ckm l j) = 0) : rmGo l (f + 1) j X D = rmGo l f (j + 1) (X.addX D (ckm l j)) (X.J.addD D (ckm l j)) := by
  rw [rmGo]; exact if_pos h
theorem rmGo_stop {l : List Mk} {f j : Nat} {X : Eng} {D : Dev} (h : X.J.addE D (ckm l j) ≠ 0) : rmGo l (f + 1) j X D = X.stopOf D (ckm l j) := by
  rw [rmGo]; rw [if_neg (show ¬ X.J.addE D ((l.drop (j * 23)).take 23) = 0 from h)]; rfl
theorem Adds.go {l : List Mk} {X : Eng} {D : Dev} {js : List Nat} {X' : Eng} {D' : Dev} (h : Adds l X D js X' D') : ∀ k, js = List.range k → ∀ n, k ≤ n → rmGo l n 0 X D = rmGo l (n - k) k X' D' := by
  induction h with
  | nil =>
    intro k hk n hn
    have h0 : k = 0 := by have := congrArg List.length hk; simpa using this.symm
    subst h0; rfl
  | @snoc js X1 D1 j h h0 ih =>
    intro k hk n hn
    have h1 : k = js.length + 1 := by have := congrArg List.length hk; simpa using this.symm
    rw [h1, List.range_succ] at hk
    obtain ⟨e1, e2⟩ := List.append_inj' hk rfl
    injection e2 with e2
    rw [ih js.length e1 n (by omega), h1]
    obtain ⟨m, hm⟩ : ∃ m, n - js.length = m + 1 := ⟨n - js.length - 1, by omega⟩
    rw [hm, show n - (js.length + 1) = m from by omega]
    subst e2
    exact rmGo_ok h0
end Eng
theorem mks_drop (l : List Mk) (i : Nat) : mks (l.drop i) = (mks l).drop (i * 2) := by
  induction i generalizing l with
  | zero => simp
  | succ i ih =>
    cases l with
    | nil => simp [mks]
    | cons m r =>
      rw [List.drop_succ_cons, ih]
      show _ = (mkc m ++ mks r).drop _
      rw [show (i + 1) * 2 = i * 2 + 1 + 1 from by omega]
      simp [mkc]
theorem mks_take (l : List Mk) (i : Nat) : mks (l.take i) = (mks l).take (i * 2) := by
  induction i generalizing l with
  | zero => simp [mks]
  | succ i ih =>
    cases l with
    | nil => simp [mks]
    | cons m r =>
      rw [List.take_succ_cons]
      show mkc m ++ mks (r.take i) = (mkc m ++ mks r).take _
      rw [ih, show (i + 1) * 2 = i * 2 + 1 + 1 from by omega]
      simp [mkc]
theorem mkV_rd {U : World} {A : Option Addr} {nb : Nat} {l : List Mk} (hr : Rd U tMark A (nb * 2) (mks l)) (hl : l.length = nb) (x : MkIx nb) :
    ∃ A' m, mkV A nb x.1 = .slice A' m m ∧ (Eng.ckm l x.1).length = m ∧ 1 ≤ m ∧ m ≤ 23 ∧ Rd U tMark A' (m * 2) (mks (Eng.ckm l x.1)) := by
  have hx := x.2
  refine ⟨_, _, rfl, ?_, by omega, by omega, ?_⟩
  · unfold Eng.ckm
    rw [List.length_take, List.length_drop, hl]
  · have h1 := hr.drop (m := x.1 * 23 * 2) (by omega) False (fun h => h.elim)
    simp only [if_false] at h1
    have h2 := h1.take (m := min 23 (nb - x.1 * 23) * 2) (by omega)
    unfold Eng.ckm
    rw [mks_take, mks_drop]
    have e : ((mks l).drop (x.1 * 23 * 2)).take (23 * 2) = ((mks l).drop (x.1 * 23 * 2)).take (min 23 (nb - x.1 * 23) * 2) := by
      by_cases h23 : 23 ≤ nb - x.1 * 23
      · rw [Nat.min_eq_left h23]
      · have hlen : ((mks l).drop (x.1 * 23 * 2)).length = (nb - x.1 * 23) * 2 := by rw [List.length_drop, mks_length, hl]; omega
        rw [List.take_of_length_le (by omega), List.take_of_length_le (by rw [hlen]; omega)]
    rw [e]
    exact h2
theorem addE_on {X : Eng} {D : Dev} (h : X.Fit D) (l : List Mk) (hl : l.length ≤ 23) : X.J.addE D l = 0 ∨ X.J.addE D l = 7 := by
  unfold Jn.addE
  rw [if_neg (by simp [h.jls])]
  split
  · exact .inr rfl
  · rename_i hroom
    unfold Jn.room at hroom
    rw [if_neg (by rw [h.on.changeE]; simp)]
    have hw := h.on.write (k := X.J.first + X.J.used) (by have := h.jfit; omega) (jnPage_le X.J.gen l hl)
    unfold Jn.wD Jn.at_
    exact .inl hw.2.1.changeE
structure RmMid (l : List Mk) (X : Eng) (D : Dev) (h : DevH) (t : EngH) (A : Option Addr) (nb cb : Nat) (w : World) (Bx G : Nat) (pre : List (MkIx nb)) (U : World) : Prop where
  st : ∃ X' D', Eng.Adds l X D (pre.map (·.1)) X' D' ∧ X'.Fit D' ∧ EngAt U h t X' ∧ DevAt U h D'
  bx : Blk U Bx tPEng #[.pointer (some ⟨t.E, 0, none⟩)]
  br : Blk U (Bx + 1) tErrn #[.int .i64 0]
  b1 : Blk U G tMarks #[.slice A nb cb]
  b2 : Blk U (G + 1) tInt #[.int .i64 23]
  rd : Rd U tMark A (nb * 2) (mks l)
  chg : Chg (fun k => h.foot k ∨ k = t.E ∨ t.j.own k) w U
structure RmCut (l : List Mk) (X : Eng) (D : Dev) (h : DevH) (t : EngH) (nb : Nat) (w : World) (Bx : Nat) (c : Code) (pre : List (MkIx nb)) (U : World) : Prop where
  ret : c = .ret
  st : ∃ js j X' D' M', (M' = t.j.M ∨ w.heap.size ≤ M') ∧ pre.map (·.1) = js ++ [j] ∧ Eng.Adds l X D js X' D' ∧ X'.J.addE D' (Eng.ckm l j) ≠ 0 ∧ EngAt U h { t with j := ⟨t.j.J, M'⟩ } (X'.stopOf D' (Eng.ckm l j)).2.1 ∧ DevAt U h (X'.stopOf D' (Eng.ckm l j)).2.2 ∧ Blk U (Bx + 1) tErrn #[.int .i64 (X'.stopOf D' (Eng.ckm l j)).1]
  chg : Chg (fun k => h.foot k ∨ k = t.E ∨ t.j.own k) w U
end Go.Proofs.YtplpbbdakihnfaaGreat
end
