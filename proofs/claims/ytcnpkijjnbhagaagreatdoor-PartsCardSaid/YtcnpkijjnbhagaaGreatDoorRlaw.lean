/- A range over an iterator that keeps some blocks for itself: the law of the walk. -/
import Derived.Test.YtcnpkijjnbhagaaGreatDoorGp
import Derived.RangeFuncBox
import Derived.RangeFuncLeaves
import Derived.RangeFuncNested
import Derived.RangeFuncBound
import Derived.RangeFuncCalls
import Derived.RangeFuncKeeps
namespace Go.Proofs.YtcnpkijjnbhagaaGreatDoor
open Go.RowKit

/-- The blocks that stand besides the body: the iterator's own, the record and the block for deferred calls. -/
def Held (S : Nat → Prop) (b : Nat) : Nat → Prop := fun k => S k ∨ k = b ∨ k = b + 1
/-- How the body of a round may be left. -/
def ptsPost (T : Nat → Prop) (I : List Pt → World → Prop) (Ix : Nat → List Pt → World → Prop) (xs : List Pt) (W : World) : Exit → Act → World → Prop
  | .normal, _, W' => Keeps T W W' ∧ I xs W'
  | .exit id, _, W' => Keeps T W W' ∧ Ix id xs W'
  | _, _, _ => False

theorem Only.putObj {S : Nat → Prop} (W : World) {l : Nat} (o : Obj) (hl : S l) : Only S W (W.putObj l o) :=
  ⟨rfl, rfl, rfl, by simp, fun k _ hn => World.putObj_heap_other (fun e => hn (e ▸ hl))⟩

/-- What the iterator owes. -/
def PtsSeq (P : Program) (gf : Nat) (lb : Array Value) (l : Nat) (S : Nat → Prop) (all : List Pt) (W : World) : Prop :=
  ∀ (J Jx : List Pt → World → Prop), Abides2 S J → Abides2 S Jx → Rounds P S l all J Jx → J [] W →
    CallsIn Fence.wide 0 P gf (#[.func (.yield l) #[] #[]] ++ lb) W (EachPost all J Jx)

theorem wpIn_rangeFunc_pts {P : Program} {g : Operand} {ps : Array Tmp} {assign body : Code} {Q : Exit → Act → World → Prop} {a : Act} {w : World}
    {gf : Nat} {lb : Array Value} (hg : a.eval g = .func (.func gf) #[] lb) (eg : ∀ args w, (callFunc gf args).run P w = .ok (.enter gf args) w)
    (S : Nat → Prop) (hS : ∀ k, S k → k ≠ w.heap.size ∧ k ≠ w.heap.size + 1) (hMx : 8 < w.heap.size) (all : List Pt)
    (hseq : ∀ r, PtsSeq P gf lb (w.heap.size + 1) S all ((w.alloc (.deferred (some []))).alloc (.loop r)))
    (hps : ps.size = 2)
    (I : List Pt → World → Prop) (Ix : Nat → List Pt → World → Prop) (hI : Abides2 (Held S w.heap.size) I) (hIx : ∀ c, Abides2 (Held S w.heap.size) (Ix c)) (h0 : I [] w) (a₁ : Pt → World → Act) (w₁ : Pt → World → World) (hw₁ : ∀ x W, Only (fun _ => False) W (w₁ x W))
    (hassign : ∀ (l : Nat) (x : Pt) (W : World) (K : Act → World → Prop), (∀ W', W' = w₁ x W → K (a₁ x W) W') →
      assign.wpIn (Fence.wide.inRound l) 0 P (Exit.then K (fun _ _ _ => False)) { tmps := (ps.zip #[.int .i64 x.ln, ptv x]).foldl (fun t (p, v) => t.setIfInBounds p v) a.tmps, defers := [] } W)
    (hbody : ∀ (l : Nat) (pre : List Pt) (x : Pt) (rest : List Pt) (W0 W : World), all = pre ++ x :: rest → (∀ k, Held S w.heap.size k → k < W0.heap.size) → Only (Held S w.heap.size) (w₁ x W0) W → I pre W →
      body.wpIn (Fence.wide.inRound l) 0 P (ptsPost (Held S w.heap.size) I Ix (pre ++ [x]) W) (a₁ x W0) W)
    (hdone : ∀ (W : World), I all W → W.heap[w.heap.size]? = some (.deferred (some [])) → Q .normal { a with defers := { target := .collected w.heap.size, args := #[] } :: a.defers } W)
    (hstop : ∀ (c : Nat) (pre : List Pt) (W : World), pre <+: all → Ix c pre W → W.heap[w.heap.size]? = some (.deferred (some [])) → (Code.exit c).wpIn Fence.wide 0 P Q { a with defers := { target := .collected w.heap.size, args := #[] } :: a.defers } W) :
    (Code.rangeFunc g ps assign body).wpIn Fence.wide 0 P Q a w := by
  refine wpIn_rangeFunc ?_
  intro fn hfn
  rw [show Fence.wide.round = none from rfl]
  obtain ⟨rec, hrec⟩ : ∃ rec : LoopState → Option Code → Loop, rec = fun st pe => { state := st, pending := pe, fn, tmps := a.tmps, params := ps, assign, body, defers := w.heap.size } := ⟨_, rfl⟩
  obtain ⟨W1, hW1⟩ : ∃ W1, (w.alloc (.deferred (some []))).alloc (.loop (rec .ready none)) = W1 := ⟨_, rfl⟩
  have hL1 : W1.heap[w.heap.size + 1]? = some (.loop (rec .ready none)) := by
    rw [← hW1]; have := World.alloc_heap_new (w.alloc (.deferred (some []))) (.loop (rec .ready none)); rwa [World.size_alloc] at this
  have hK1 : W1.heap[w.heap.size]? = some (.deferred (some [])) := by
    rw [← hW1]; exact (Below.heap_alloc _ _ _ (by simp)).trans (World.alloc_heap_new w _)
  have hI1 : I [] W1 := by rw [← hW1]; exact hI _ _ _ h0 (((Only.refl _ w).alloc _).alloc _)
  have hseq1 := hseq (rec .ready none)
  rw [hW1] at hseq1
  have hTl : Held S w.heap.size (w.heap.size + 1) := .inr (.inr rfl)
  have hTw : Wr (Held S w.heap.size) (w.heap.size + 1) := ⟨hTl, by omega⟩
  have hTd : Held S w.heap.size w.heap.size := .inr (.inl rfl)
  have hST : ∀ {A B : World}, Only (Wr S) A B → Only (Wr (Held S w.heap.size)) A B := fun h => h.mono fun _ hk => ⟨.inl hk.1, hk.2⟩
  have hKp : ∀ {A B : World} {k : Nat} {o : Obj}, (k = w.heap.size ∨ k = w.heap.size + 1) → A.heap[k]? = some o → Only (Wr S) A B → B.heap[k]? = some o := by
    intro A B k o hk ho h
    refine (h.block k (Array.getElem?_eq_some_iff.1 ho).1 fun hs => ?_).trans ho
    have := hS k hs.1
    omega
  refine ⟨w.heap.size + 1, [{ target := .collected w.heap.size, args := #[] }], W1, { target := .fn (.func gf) lb, args := #[.func (.yield (w.heap.size + 1)) #[] #[]] }, W1, gf,
    #[.func (.yield (w.heap.size + 1)) #[] #[]] ++ lb, W1, ?_, ?_, fun _ _ => trivial, ?_, fun h => (by cases h), ?_⟩
  · rw [← hW1, hrec]; exact run_enterLoop_outer _ _ _ _ _
  · simp only [resolve, hg]
    simp [go_sem]
  · simp [invoke, go_sem, eg]
  · refine (hseq1
      (fun pre W => I pre W ∧ W.heap[w.heap.size + 1]? = some (.loop (rec .ready none)) ∧ W.heap[w.heap.size]? = some (.deferred (some [])))
      (fun pre W => ∃ c, Ix c pre W ∧ W.heap[w.heap.size + 1]? = some (.loop (rec .done (some (.exit c)))) ∧ W.heap[w.heap.size]? = some (.deferred (some [])))
      (fun s A B hs h => ⟨hI s A B hs.1 (hST h), hKp (.inr rfl) hs.2.1 h, hKp (.inl rfl) hs.2.2 h⟩)
      (fun s A B hs h => by
        obtain ⟨c, hc, hl, hk⟩ := hs
        exact ⟨c, hIx c s A B hc (hST h), hKp (.inr rfl) hl h, hKp (.inl rfl) hk h⟩)
      ?_ ⟨hI1, hL1, hK1⟩).mono ?_
    · rintro pre x rest W hall hSW ⟨hi, hl, hk⟩
      have hlt : w.heap.size + 1 < W.heap.size := (Array.getElem?_eq_some_iff.1 hl).1
      have hy := run_yield (P := P) (args := #[.int .i64 x.ln, ptv x]) hl (by rw [hrec]; exact hps.symm)
      rw [hrec] at hy
      refine ⟨fn, _, assign, body, hy, roundIn_of_wpIn hfn (hassign _ x W _ ?_)⟩
      rintro Wa hWa
      have ha : Only (fun _ => False) W Wa := hWa ▸ hw₁ x W
      have hla := (ha.block _ hlt (fun h => h)).trans hl
      have hka := (ha.block _ (by omega) (fun h => h)).trans hk
      have hia := hI _ _ _ hi (ha.mono fun _ h => h.elim)
      have hlta : w.heap.size + 1 < Wa.heap.size := (Array.getElem?_eq_some_iff.1 hla).1
      refine ⟨_, run_beginRound hla (by rw [hrec]), ?_⟩
      obtain ⟨W2, hW2⟩ : ∃ W2, Wa.putObj (w.heap.size + 1) (.loop { rec .ready none with state := .busy }) = W2 := ⟨_, rfl⟩
      have hl2 : W2.heap[w.heap.size + 1]? = some (.loop { rec .ready none with state := .busy }) := by rw [← hW2]; exact World.putObj_heap_same hlta
      have hk2 : W2.heap[w.heap.size]? = some (.deferred (some [])) := by rw [← hW2]; exact (World.putObj_heap_other (by omega)).trans hka
      have hi2 : I pre W2 := by rw [← hW2]; exact hI _ _ _ hia (Only.putObj _ _ hTw)
      have hs2 : W.heap.size ≤ W2.heap.size := by rw [← hW2]; simpa using ha.size
      have hon : Only (Held S w.heap.size) (w₁ x W) W2 := by rw [← hWa, ← hW2]; exact Only.putObj _ _ hTl
      have hSb : ∀ k, S k → W2.heap[k]? = W.heap[k]? := fun k hk => by rw [← hW2]; exact (World.putObj_heap_other (hS k hk).2).trans (ha.block k (hSW k hk) (fun h => h))
      rw [hW2]
      refine wpIn_mono (hbody _ pre x rest W _ hall (fun k hk => ?_) hon hi2) ?_
      · rcases hk with hk | rfl | rfl
        · exact hSW k hk
        · omega
        · omega
      have fin : ∀ (jump : Option Code) (W3 : World), Keeps (Held S w.heap.size) W2 W3 →
          (Instr.endRound (w.heap.size + 1) jump).run P W3 = .ok (.bool jump.isNone) (W3.putObj (w.heap.size + 1) (.loop (rec (if jump.isNone then .ready else .done) jump))) ∧
          Keeps S W (W3.putObj (w.heap.size + 1) (.loop (rec (if jump.isNone then .ready else .done) jump))) ∧
          (W3.putObj (w.heap.size + 1) (.loop (rec (if jump.isNone then .ready else .done) jump))).heap[w.heap.size + 1]? = some (.loop (rec (if jump.isNone then .ready else .done) jump)) ∧
          (W3.putObj (w.heap.size + 1) (.loop (rec (if jump.isNone then .ready else .done) jump))).heap[w.heap.size]? = some (.deferred (some [])) := fun jump W3 hk3 => by
        have hl3 := (hk3.2 _ hTl).trans hl2
        have := run_endRound (P := P) jump hl3
        rw [hrec] at this ⊢
        refine ⟨this, ⟨?_, fun k hk => ?_⟩, World.putObj_heap_same (Array.getElem?_eq_some_iff.1 hl3).1, (World.putObj_heap_other (by omega)).trans ((hk3.2 _ hTd).trans hk2)⟩
        · simp only [World.putObj_size]; have := hk3.1; omega
        · exact (World.putObj_heap_other (hS k hk).2).trans ((hk3.2 k (.inl hk)).trans (hSb k hk))
      rintro e a3 W3 hp
      cases e with
      | normal =>
        obtain ⟨hk3, hi3⟩ := hp
        obtain ⟨hr, hkp, hl4, hk4⟩ := fin none W3 hk3
        exact ⟨_, _, hr, .inl ⟨rfl, ⟨hI _ _ _ hi3 (Only.putObj _ _ hTw), hl4, hk4⟩, hkp⟩⟩
      | exit id =>
        obtain ⟨hk3, hi3⟩ := hp
        obtain ⟨hr, hkp, hl4, hk4⟩ := fin (some (.exit id)) W3 hk3
        exact ⟨_, _, hr, .inr ⟨rfl, ⟨id, hIx _ _ _ _ hi3 (Only.putObj _ _ hTw), hl4, hk4⟩, hkp⟩⟩
      | ret => exact hp.elim
      | goto t => exact hp.elim
      | panic ch => exact hp.elim
      | outgrown => exact hp.elim
    · rintro e W2 ⟨rfl, (⟨hi, hl, hk⟩ | ⟨pre, ⟨c, hi, hl, hk⟩, hpre⟩)⟩
      · exact ⟨none, _, by have := run_endLoop (P := P) hl (by rw [hrec]; simp); rw [hrec] at this; exact this, hdone _ (hI _ _ _ hi (Only.putObj _ _ hTw)) ((World.putObj_heap_other (by omega)).trans hk)⟩
      · exact ⟨some (.exit c), _, by have := run_endLoop (P := P) hl (by rw [hrec]; simp); rw [hrec] at this; exact this, hstop c pre _ hpre (hIx c _ _ _ hi (Only.putObj _ _ hTw)) ((World.putObj_heap_other (by omega)).trans hk)⟩
end Go.Proofs.YtcnpkijjnbhagaaGreatDoor
