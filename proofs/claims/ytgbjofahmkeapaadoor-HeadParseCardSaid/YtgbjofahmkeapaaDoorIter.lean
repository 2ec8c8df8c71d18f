/- A range over an iterator that writes cells of its own between the rounds: what the caller owes is an invariant that does not speak of these. No program in sight. -/
import Derived.RangeFuncFrom
import Derived.RangeFuncWrites
namespace Go.Proofs.YtgbjofahmkeapaaDoor
open Go.RowKit

/-- Nothing turns but blocks of T, and new ones. -/
structure QuietT (T : Nat → Prop) (A B : World) : Prop where
  os : B.os = A.os
  tape : B.tape = A.tape
  output : B.output = A.output
  size : A.heap.size ≤ B.heap.size
  block : ∀ k, k < A.heap.size → ¬ T k → B.heap[k]? = A.heap[k]?
theorem QuietT.refl (T : Nat → Prop) (A : World) : QuietT T A A := ⟨rfl, rfl, rfl, Nat.le_refl _, fun _ _ _ => rfl⟩
theorem QuietT.trans {T : Nat → Prop} {A B C : World} (h : QuietT T A B) (k : QuietT T B C) : QuietT T A C :=
  ⟨k.os.trans h.os, k.tape.trans h.tape, k.output.trans h.output, Nat.le_trans h.size k.size, fun i hi ht => (k.block i (Nat.lt_of_lt_of_le hi h.size) ht).trans (h.block i hi ht)⟩
theorem QuietT.of_below {T : Nat → Prop} {A B : World} (h : Below A.heap.size A B) : QuietT T A B := ⟨h.os, h.tape, h.output, h.size, fun k hk _ => h.block k hk⟩
theorem QuietT.wider {T U : Nat → Prop} {A B : World} (h : QuietT T A B) (hTU : ∀ k, T k → U k) : QuietT U A B := ⟨h.os, h.tape, h.output, h.size, fun k hk hu => h.block k hk (fun ht => hu (hTU k ht))⟩
theorem QuietT.setCell {T : Nat → Prop} (A : World) (p : Addr) (v : Value) (h : T p.block) : QuietT T A (A.setCell p v) :=
  ⟨rfl, rfl, rfl, by simp [World.setCell], fun k _ ht => Below.heap_setCell _ _ _ _ (fun e => ht (by rw [e]; exact h))⟩
theorem QuietT.alloc (T : Nat → Prop) (A : World) (o : Obj) : QuietT T A (A.alloc o) := .of_below ((Below.refl _ _).alloc (Nat.le_refl _) o)
theorem QuietT.drew (T : Nat → Prop) (A : World) : QuietT T A A.drew := ⟨rfl, rfl, rfl, Nat.le_refl _, fun _ _ _ => rfl⟩
theorem QuietT.putObj {T : Nat → Prop} (A : World) (l : Nat) (o : Obj) (h : T l) : QuietT T A (A.putObj l o) :=
  ⟨rfl, rfl, rfl, by simp [World.putObj], fun k _ ht => World.putObj_heap_other (fun e => ht (by rw [e]; exact h))⟩

variable {F : Fence} {n : Nat} {P : Program}
/-- The contract of an iterator that writes the blocks of fx, and such as it lays ahead of the first round (below c). -/
def SeqStopsT {α : Type} (F : Fence) (n : Nat) (P : Program) (g : Nat) (lb : Array Value) (encs : α → Array Value) (Kp : World → World → Prop) (S Sp : List α → World → Prop) (N : Nat) (fx : Nat → Prop) (w : World) : Prop :=
  ∀ (l : Nat) (J Jx : Nat → List α → World → Prop) (W : World), Below w.heap.size w W →
    (∀ c s A B, J c s A → QuietT (fun k => fx k ∨ (W.heap.size ≤ k ∧ k < c)) A B → J c s B) → (∀ c s A B, Jx c s A → QuietT (fun k => fx k ∨ (W.heap.size ≤ k ∧ k < c)) A B → Jx c s B) →
    (∀ c pre x W1, J c pre W1 → pre.length < N → YieldAt F (n - 1) P l (encs x) W1 fun e W' =>
      (e = .returned (.bool true) ∧ J c (pre ++ [x]) W' ∧ Kp W1 W') ∨ (e = .returned (.bool false) ∧ Jx c (pre ++ [x]) W')) →
    (∀ c W1, W.heap.size ≤ c → QuietT fx W W1 → c = W1.heap.size → J c [] W1) →
    CallsIn F n P g (#[.func (.yield l) #[] #[]] ++ lb) W fun e W' => (∃ v, e = .returned v) ∧ ((∃ c xs, S xs W' ∧ J c xs W') ∨ (∃ c pre, Sp pre W' ∧ Jx c pre W'))

theorem wpIn_rangeFunc_ownT {α : Type} {g : Operand} {ps : Array Tmp} {assign body : Code} {Q : Exit → Act → World → Prop} {a : Act} {w : World}
    (hro : F.round = none) (h1 : 1 ≤ n) {gf : Nat} {lb : Array Value} (hg : a.eval g = .func (.func gf) #[] lb) (hFg : F.fn gf) (eg : ∀ args w, (callFunc gf args).run P w = .ok (.enter gf args) w)
    {encs : α → Array Value} {Kp : World → World → Prop} {S Sp : List α → World → Prop} {N : Nat} {fx : Nat → Prop} {w0 : World} (hseq : SeqStopsT F (n - 1) P gf lb encs Kp S Sp N fx w0) (hfx : ∀ k, fx k → k < w.heap.size)
    (hKt : ∀ {A B C : World}, Kp A B → Kp B C → Kp A C) (hKb : ∀ (W : World) (l : Nat) (o o' : Obj), w.heap.size ≤ l → W.heap[l]? = some o → o.isCells = false → o.isWalk = false → Kp W (W.putObj l o')) (hb0 : Below w0.heap.size w0 w) (hps : ∀ x, (encs x).size = ps.size)
    (hS : ∀ xs W l o, w.heap.size ≤ l → S xs W → S xs (W.putObj l o)) (hSp : ∀ xs W l o, w.heap.size ≤ l → Sp xs W → Sp xs (W.putObj l o))
    (I : Nat → List α → World → Prop) (Ix : Nat → Code → List α → World → Prop)
    (hI : ∀ c s A B, I c s A → w.heap.size + 2 ≤ c → QuietT (fun k => fx k ∨ (w.heap.size ≤ k ∧ k < c)) A B → I c s B) (hIx : ∀ d c s A B, Ix c d s A → w.heap.size + 2 ≤ c → QuietT (fun k => fx k ∨ (w.heap.size ≤ k ∧ k < c)) A B → Ix c d s B)
    (h0 : ∀ c W1, w.heap.size + 2 ≤ c → QuietT fx w W1 → c = W1.heap.size → I c [] W1) (a₁ : α → Act)
    (hassign : ∀ (l : Nat) (x : α) (W : World) (K : Act → World → Prop), K (a₁ x) W →
      assign.wpIn (F.inRound l) (n - 1 - 1) P (Exit.then K (fun _ _ _ => False)) { tmps := (ps.zip (encs x)).foldl (fun t (p, v) => t.setIfInBounds p v) a.tmps, defers := [] } W)
    (hbody : ∀ (c l : Nat) (pre : List α) (x : α) (W : World), w.heap.size + 2 ≤ c → c ≤ W.heap.size → I c pre W → pre.length < N → body.wpIn (F.inRound l) (n - 1 - 1) P (ownPostK Kp (fun xs W' => I c xs W' ∧ W.heap.size ≤ W'.heap.size) (fun d xs W' => Ix c d xs W' ∧ W.heap.size ≤ W'.heap.size) (pre ++ [x]) W) (a₁ x) W)
    (hdone : ∀ (D c : Nat) (xs : List α) (W : World), w.heap.size ≤ D → w.heap.size + 2 ≤ c → S xs W → I c xs W → W.heap[D]? = some (.deferred (some [])) → Q .normal { a with defers := { target := .collected D, args := #[] } :: a.defers } W)
    (hstop : ∀ (D c : Nat) (d : Code) (pre : List α) (W : World), w.heap.size ≤ D → w.heap.size + 2 ≤ c → Sp pre W → Ix c d pre W → W.heap[D]? = some (.deferred (some [])) → d.wpIn F n P Q { a with defers := { target := .collected D, args := #[] } :: a.defers } W) :
    (Code.rangeFunc g ps assign body).wpIn F n P Q a w := by
  refine wpIn_rangeFunc ?_
  intro fn hfn
  rw [hro]
  obtain ⟨rec, hrec⟩ : ∃ rec : LoopState → Option Code → Loop, rec = fun st pe => { state := st, pending := pe, fn, tmps := a.tmps, params := ps, assign, body, defers := w.heap.size } := ⟨_, rfl⟩
  obtain ⟨W1, hW1⟩ : ∃ W1, (w.alloc (.deferred (some []))).alloc (.loop (rec .ready none)) = W1 := ⟨_, rfl⟩
  have hs1 : W1.heap.size = w.heap.size + 2 := by rw [← hW1]; simp
  have hL1 : W1.heap[w.heap.size + 1]? = some (.loop (rec .ready none)) := by
    rw [← hW1]; have := World.alloc_heap_new (w.alloc (.deferred (some []))) (.loop (rec .ready none)); rwa [World.size_alloc] at this
  have hK1 : W1.heap[w.heap.size]? = some (.deferred (some [])) := by
    rw [← hW1]; exact (Below.heap_alloc _ _ _ (by simp)).trans (World.alloc_heap_new w _)
  have hw1 : Below w.heap.size w W1 := by rw [← hW1]; exact ((Below.refl _ w).alloc (Nat.le_refl _) _).alloc (by simp) _
  have hb1 : Below w0.heap.size w0 W1 := hb0.trans (hw1.mono hb0.size)
  have lift : ∀ {c : Nat} {A B : World}, w.heap.size + 2 ≤ c → QuietT (fun k => fx k ∨ (W1.heap.size ≤ k ∧ k < c)) A B → QuietT (fun k => fx k ∨ (w.heap.size ≤ k ∧ k < c)) A B := fun {c A B} _ h => h.wider fun k hk => hk.imp id fun ⟨p, q⟩ => ⟨by omega, q⟩
  have keep : ∀ {c j : Nat} {A B : World} {o : Obj}, QuietT (fun k => fx k ∨ (W1.heap.size ≤ k ∧ k < c)) A B → w.heap.size ≤ j → j < W1.heap.size → A.heap[j]? = some o → B.heap[j]? = some o := fun {c j A B o} h hj1 hj2 hA => by
    rw [h.block j (Array.getElem?_eq_some_iff.1 hA).1 (fun hk => by
      rcases hk with hk | ⟨hk, _⟩
      · have := hfx j hk; omega
      · omega)]
    exact hA
  have put : ∀ {c : Nat} {A : World} (o : Obj), w.heap.size + 2 ≤ c → QuietT (fun k => fx k ∨ (w.heap.size ≤ k ∧ k < c)) A (A.putObj (w.heap.size + 1) o) := fun {c A} o hc => .putObj A _ o (.inr ⟨by omega, by omega⟩)
  refine ⟨w.heap.size + 1, [{ target := .collected w.heap.size, args := #[] }], W1, { target := .fn (.func gf) lb, args := #[.func (.yield (w.heap.size + 1)) #[] #[]] }, W1, gf,
    #[.func (.yield (w.heap.size + 1)) #[] #[]] ++ lb, W1, ?_, ?_, ?_, ?_, fun _ => h1, ?_⟩
  · rw [← hW1, hrec]; exact run_enterLoop_outer _ _ _ _ _
  · simp only [resolve, hg]
    simp [go_sem]
  · intro f' hf'; simp [Target.leads] at hf'; subst hf'; exact hFg
  · simp [invoke, go_sem, eg]
  · refine (hseq (w.heap.size + 1)
      (fun c pre W => (w.heap.size + 2 ≤ c ∧ c ≤ W.heap.size ∧ I c pre W) ∧ W.heap[w.heap.size + 1]? = some (.loop (rec .ready none)) ∧ W.heap[w.heap.size]? = some (.deferred (some [])))
      (fun c pre W => w.heap.size + 2 ≤ c ∧ ∃ d, Ix c d pre W ∧ W.heap[w.heap.size + 1]? = some (.loop (rec .done (some d))) ∧ W.heap[w.heap.size]? = some (.deferred (some [])))
      W1 hb1
      (fun c s A B ⟨⟨hc, hcA, hi⟩, hl, hk⟩ hq => ⟨⟨hc, Nat.le_trans hcA hq.size, hI c s A B hi hc (lift hc hq)⟩, keep hq (by omega) (by omega) hl, keep hq (by omega) (by omega) hk⟩)
      (fun c s A B ⟨hc, d, hd, hl, hk⟩ hq => ⟨hc, d, hIx d c s A B hd hc (lift hc hq), keep hq (by omega) (by omega) hl, keep hq (by omega) (by omega) hk⟩)
      ?_ (fun c W' hcW hq hcs => ⟨⟨by omega, by omega, h0 c W' (by omega) ((QuietT.of_below hw1).trans hq) hcs⟩, ?_, ?_⟩)).mono ?_
    · rintro c pre x W ⟨⟨hc, hcW, hi⟩, hl, hk⟩ hlen
      have hlt : w.heap.size + 1 < W.heap.size := (Array.getElem?_eq_some_iff.1 hl).1
      have hy := run_yield (P := P) (args := encs x) hl (by rw [hrec]; exact hps x)
      rw [hrec] at hy
      refine ⟨fn, _, assign, body, hy, roundIn_of_wpIn hfn (hassign _ x W _ ⟨_, run_beginRound hl (by rw [hrec]), ?_⟩)⟩
      have hl2 : (W.putObj (w.heap.size + 1) (.loop { rec .ready none with state := .busy })).heap[w.heap.size + 1]? = some (.loop { rec .ready none with state := .busy }) := World.putObj_heap_same hlt
      have hk2 : (W.putObj (w.heap.size + 1) (.loop { rec .ready none with state := .busy })).heap[w.heap.size]? = some (.deferred (some [])) := (World.putObj_heap_other (by omega)).trans hk
      have hw2 : Kp W (W.putObj (w.heap.size + 1) (.loop { rec .ready none with state := .busy })) := hKb _ _ _ _ (by omega) hl rfl rfl
      have hsz2 : (W.putObj (w.heap.size + 1) (.loop { rec .ready none with state := .busy })).heap.size = W.heap.size := by simp [World.putObj]
      refine wpIn_mono (hbody c _ pre x _ hc (by rw [hsz2]; exact hcW) (hI c _ _ _ hi hc (put _ hc)) hlen) ?_
      have fin : ∀ (jump : Option Code) (W3 : World), KeepsOthers (W.putObj (w.heap.size + 1) (.loop { rec .ready none with state := .busy })) W3 →
          (Instr.endRound (w.heap.size + 1) jump).run P W3 = .ok (.bool jump.isNone) (W3.putObj (w.heap.size + 1) (.loop (rec (if jump.isNone then .ready else .done) jump))) ∧
          W3.heap[w.heap.size + 1]? = some (.loop { rec .ready none with state := .busy }) ∧
          (W3.putObj (w.heap.size + 1) (.loop (rec (if jump.isNone then .ready else .done) jump))).heap[w.heap.size + 1]? = some (.loop (rec (if jump.isNone then .ready else .done) jump)) ∧
          (W3.putObj (w.heap.size + 1) (.loop (rec (if jump.isNone then .ready else .done) jump))).heap[w.heap.size]? = some (.deferred (some [])) := fun jump W3 hk3 => by
        have hl3 := hk3.same _ _ hl2 rfl
        have := run_endRound (P := P) jump hl3
        rw [hrec] at this ⊢
        exact ⟨this, by rw [hrec] at hl3; exact hl3, World.putObj_heap_same (Array.getElem?_eq_some_iff.1 hl3).1, (World.putObj_heap_other (by omega)).trans (hk3.same _ _ hk2 rfl)⟩
      have hpsz : ∀ (W3 : World) (o : Obj), (W3.putObj (w.heap.size + 1) o).heap.size = W3.heap.size := fun W3 o => by simp [World.putObj]
      rintro e a3 W3 hp
      cases e with
      | normal =>
        obtain ⟨hk3, hkp3, hi3, hs3⟩ := hp
        rw [hsz2] at hs3
        obtain ⟨hr, hl3, hl4, hk4⟩ := fin none W3 hk3
        exact ⟨_, _, hr, .inl ⟨rfl, ⟨⟨hc, by rw [hpsz]; omega, hI c _ _ _ hi3 hc (put _ hc)⟩, hl4, hk4⟩, hKt (hKt hw2 hkp3) (hKb _ _ _ _ (by omega) hl3 rfl rfl)⟩⟩
      | ret =>
        obtain ⟨hk3, hi3, hs3⟩ := hp
        obtain ⟨hr, hl3, hl4, hk4⟩ := fin (some .ret) W3 hk3
        exact ⟨_, _, hr, .inr ⟨rfl, hc, .ret, hIx _ c _ _ _ hi3 hc (put _ hc), hl4, hk4⟩⟩
      | exit id =>
        obtain ⟨hk3, hi3, hs3⟩ := hp
        obtain ⟨hr, hl3, hl4, hk4⟩ := fin (some (.exit id)) W3 hk3
        exact ⟨_, _, hr, .inr ⟨rfl, hc, .exit id, hIx _ c _ _ _ hi3 hc (put _ hc), hl4, hk4⟩⟩
      | goto t =>
        obtain ⟨hk3, hi3, hs3⟩ := hp
        obtain ⟨hr, hl3, hl4, hk4⟩ := fin (some (.goto t)) W3 hk3
        exact ⟨_, _, hr, .inr ⟨rfl, hc, .goto t, hIx _ c _ _ _ hi3 hc (put _ hc), hl4, hk4⟩⟩
      | panic ch => exact hp.elim
      | outgrown => exact hp.elim
    · rw [hq.block _ (by omega) (fun hk => by have := hfx _ hk; omega)]; exact hL1
    · rw [hq.block _ (by omega) (fun hk => by have := hfx _ hk; omega)]; exact hK1
    · rintro e W2 ⟨⟨v, rfl⟩, (⟨c, xs, hSx, ⟨hc, _, hi⟩, hl, hk⟩ | ⟨c, pre, hSx, hc, d, hi, hl, hk⟩)⟩
      · exact ⟨none, _, by have := run_endLoop (P := P) hl (by rw [hrec]; simp); rw [hrec] at this; exact this, hdone _ c xs _ (Nat.le_refl _) hc (hS _ _ _ _ (by omega) hSx) (hI c _ _ _ hi hc (put _ hc)) ((World.putObj_heap_other (by omega)).trans hk)⟩
      · exact ⟨some d, _, by have := run_endLoop (P := P) hl (by rw [hrec]; simp); rw [hrec] at this; exact this, hstop _ c d pre _ (Nat.le_refl _) hc (hSp _ _ _ _ (by omega) hSx) (hIx d c _ _ _ hi hc (put _ hc)) ((World.putObj_heap_other (by omega)).trans hk)⟩

end Go.Proofs.YtgbjofahmkeapaaDoor
