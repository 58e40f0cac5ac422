/- A range over a function: an iterator's contract with a frame of its own, and the law of the loop. Generic: no program is named. -/
import Derived.RangeFuncNested
import Derived.RangeFuncLeaves
import Derived.WalkKit
import Derived.OwnWalkIn
import Derived.TacticsInMore
import Derived.LoopNIn
import Derived.LoopIn
import Derived.Deep.Draws
set_option linter.unusedVariables false
namespace Go.Proofs.Ytinlmodkdjpocaa
open Go.RowKit

/-- Of what W holds, whatever lies off M is in W' as it was. -/
structure Fr (M : Nat → Prop) (W W' : World) : Prop where
  os : W'.os = W.os
  tape : W'.tape = W.tape
  output : W'.output = W.output
  size : W.heap.size ≤ W'.heap.size
  block : ∀ b, b < W.heap.size → ¬ M b → W'.heap[b]? = W.heap[b]?

theorem Fr.refl (M : Nat → Prop) (W : World) : Fr M W W := ⟨rfl, rfl, rfl, Nat.le_refl _, fun _ _ _ => rfl⟩
theorem Fr.mono {M M' : Nat → Prop} {W W' : World} (h : Fr M W W') (hm : ∀ b, b < W.heap.size → M b → M' b) : Fr M' W W' :=
  ⟨h.os, h.tape, h.output, h.size, fun b hb hn => h.block b hb (fun hm' => hn (hm b hb hm'))⟩
theorem Fr.trans {M : Nat → Prop} {A B C : World} (h : Fr M A B) (k : Fr M B C) : Fr M A C :=
  ⟨k.os.trans h.os, k.tape.trans h.tape, k.output.trans h.output, Nat.le_trans h.size k.size,
   fun b hb hn => (k.block b (Nat.lt_of_lt_of_le hb h.size) hn).trans (h.block b hb hn)⟩
/-- the second step may also touch what is new -/
theorem Fr.trans' {M M2 : Nat → Prop} {A B C : World} (h : Fr M A B) (k : Fr M2 B C) (hm : ∀ b, b < A.heap.size → M2 b → M b) : Fr M A C :=
  ⟨k.os.trans h.os, k.tape.trans h.tape, k.output.trans h.output, Nat.le_trans h.size k.size,
   fun b hb hn => (k.block b (Nat.lt_of_lt_of_le hb h.size) (fun h2 => hn (hm b hb h2))).trans (h.block b hb hn)⟩
theorem Fr.of_below {M : Nat → Prop} {W W' : World} (h : Below W.heap.size W W') : Fr M W W' :=
  ⟨h.os, h.tape, h.output, h.size, fun b hb _ => h.block b hb⟩
theorem Fr.below {M : Nat → Prop} {W W' : World} (h : Fr M W W') {n : Nat} (hn : n ≤ W.heap.size) (hm : ∀ b, M b → n ≤ b) : Below n W W' :=
  ⟨h.os, h.tape, h.output, h.size, fun b hb => h.block b (Nat.lt_of_lt_of_le hb hn) (fun hmb => by have := hm b hmb; omega)⟩
theorem Fr.alloc {M : Nat → Prop} {A W : World} (h : Fr M A W) (o : Obj) : Fr M A (W.alloc o) :=
  h.trans ⟨rfl, rfl, rfl, by simp, fun b hb _ => Below.heap_alloc _ _ _ hb⟩
theorem Fr.setCell {M : Nat → Prop} {A W : World} (h : Fr M A W) {p : Addr} (hp : M p.block) (v : Value) : Fr M A (W.setCell p v) :=
  h.trans ⟨rfl, rfl, rfl, by simp [World.setCell], fun b _ hn => Below.heap_setCell _ _ _ _ (fun e => hn (e ▸ hp))⟩
theorem Fr.putObj {M : Nat → Prop} {A W : World} (h : Fr M A W) {r : Nat} (hr : M r) (o : Obj) : Fr M A (W.putObj r o) :=
  h.trans ⟨rfl, rfl, rfl, by simp, fun b _ hn => World.putObj_heap_other (fun e => hn (e ▸ hr))⟩
theorem Fr.drew {M : Nat → Prop} {A W : World} (h : Fr M A W) : Fr M A W.drew := h.trans ⟨rfl, rfl, rfl, Nat.le_refl _, fun _ _ _ => rfl⟩
theorem Fr.drewN {M : Nat → Prop} {A W : World} (h : Fr M A W) (n : Nat) : Fr M A (W.drewN n) := h.trans ⟨rfl, rfl, rfl, Nat.le_refl _, fun _ _ _ => rfl⟩
theorem Fr.grown {M : Nat → Prop} {A W W' : World} {row : Option Nat} (h : Fr M A W) (hg : W.grownBy W' row) (hr : ∀ k, row = some k → k < W.heap.size → M k) : Fr M A W' :=
  h.trans ⟨hg.os, hg.tape, hg.output, hg.size, fun b hb hn => hg.block b hb (fun e => hn (hr b e.symm hb))⟩
theorem Fr.cell {M : Nat → Prop} {W W' : World} (h : Fr M W W') {p : Addr} {v : Value} (hc : W.cell? p = some v) (hp : ¬ M p.block) : W'.cell? p = some v :=
  (World.cell?_of_block (w := W) (h.block p.block (World.block_lt_of_cell? W p hc) hp)).trans hc
theorem Fr.obj {M : Nat → Prop} {W W' : World} (h : Fr M W W') {b : Nat} {o : Obj} (ho : W.heap[b]? = some o) (hb : ¬ M b) : W'.heap[b]? = some o :=
  (h.block b (Array.getElem?_eq_some_iff.1 ho).1 hb).trans ho

/-- The contract of an iterator value: N rounds, the k-th handed 'Arg k'; M: the caller's own blocks (those that the rounds may write); Rd: the blocks that the iterator leans on, as w0 holds them. -/
def IterC (P : Program) (g : Nat) (lb : Array Value) (N : Nat) (Arg : Nat → Array Value → World → Prop) (Rd : Nat → Prop) (w0 : World) : Prop :=
  ∀ (l : Nat) (M0 : Nat → Prop) (J Jx : Nat → (Nat → Prop) → World → Prop) (W : World),
    w0.heap.size ≤ W.heap.size →
    (∀ b, Rd b → b < w0.heap.size ∧ ¬ M0 b ∧ W.heap[b]? = w0.heap[b]?) →
    (∀ b, M0 b → b < W.heap.size) →
    (∀ k M A B, J k M A → Fr (fun b => W.heap.size ≤ b ∧ ¬ M b) A B → J k M B) →
    (∀ k M A B, Jx k M A → Fr (fun b => W.heap.size ≤ b ∧ ¬ M b) A B → Jx k M B) →
    (∀ k M args W1, k < N → J k M W1 → Arg k args W1 → (∀ b, M b → (M0 b ∨ W.heap.size ≤ b) ∧ b < W1.heap.size) → W.heap.size ≤ W1.heap.size →
      YieldAt Fence.wide 0 P l args W1 fun e W2 => ∃ M2 : Nat → Prop, Fr M W1 W2 ∧ (∀ b, M2 b → (M b ∨ W1.heap.size ≤ b) ∧ b < W2.heap.size) ∧
        ((e = .returned (.bool true) ∧ J (k + 1) M2 W2) ∨ (e = .returned (.bool false) ∧ Jx (k + 1) M2 W2))) →
    J 0 M0 W →
    Calls P g (#[.func (.yield l) #[] #[]] ++ lb) W fun e W2 => (∃ v, e = .returned v) ∧ ∃ M2 : Nat → Prop, W.heap.size ≤ W2.heap.size ∧ (∀ b, M2 b → (M0 b ∨ W.heap.size ≤ b) ∧ b < W2.heap.size) ∧
      (J N M2 W2 ∨ ∃ k, k ≤ N ∧ Jx k M2 W2)

/-- How a round's body may be left. -/
def bodyP (I : Nat → (Nat → Prop) → World → Prop) (Ix : Code → Nat → (Nat → Prop) → World → Prop) (k : Nat) (M : Nat → Prop) (W : World) : Exit → Act → World → Prop
  | .normal, _, W' => ∃ M2 : Nat → Prop, Fr M W W' ∧ (∀ b, M2 b → (M b ∨ W.heap.size ≤ b) ∧ b < W'.heap.size) ∧ I (k + 1) M2 W'
  | .ret, _, W' => ∃ M2 : Nat → Prop, Fr M W W' ∧ (∀ b, M2 b → (M b ∨ W.heap.size ≤ b) ∧ b < W'.heap.size) ∧ Ix .ret (k + 1) M2 W'
  | .exit id, _, W' => ∃ M2 : Nat → Prop, Fr M W W' ∧ (∀ b, M2 b → (M b ∨ W.heap.size ≤ b) ∧ b < W'.heap.size) ∧ Ix (.exit id) (k + 1) M2 W'
  | .goto t, _, W' => ∃ M2 : Nat → Prop, Fr M W W' ∧ (∀ b, M2 b → (M b ∨ W.heap.size ≤ b) ∧ b < W'.heap.size) ∧ Ix (.goto t) (k + 1) M2 W'
  | .panic _, _, _ => False
  | .outgrown, _, _ => False

theorem roundIn_wide {n m : Nat} {P : Program} {l : Nat} {f : FuncId} {tmps : Array Value} {assign body : Code} {w : World} {R : Ending → World → Prop} (h : RoundIn Fence.wide n P l f tmps assign body w R) :
    RoundIn Fence.wide m P l f tmps assign body w R := ⟨h.1, fun c cs _ => h.2 c cs (room_wide _)⟩

/-- Leaving with marks of loops that have ended: each block is shut. -/
theorem leaves_marks {P : Program} {F : Fence} {n : Nat} {fn : Func} {tmps : Array Value} {R : Ending → World → Prop} {v : Value} : ∀ (Ds : List Nat) (W : World), Ds.Nodup → (∀ D, D ∈ Ds → W.heap[D]? = some (.deferred (some []))) →
    (∀ W', (results fn tmps).run P W' = .ok v W') → (∀ W', Fr (fun b => b ∈ Ds) W W' → R (.returned v) W') → LeavesInM F n P fn tmps R (Ds.map fun D => { target := .collected D, args := #[] }) .returning W
  | [], W, _, _, hv, hR => by
    simp only [List.map_nil, LeavesInM, LeavesIn]
    exact ⟨v, hv W, hR W (Fr.refl _ _)⟩
  | D :: Ds, W, hn, hd, hv, hR => by
    have hD := hd D (List.mem_cons_self ..)
    simp only [List.map_cons, LeavesInM]
    refine ⟨by simp, .inl ⟨D, W.putObj D (.deferred none), rfl, run_takeDeferred hD, ?_⟩⟩
    rw [List.nodup_cons] at hn
    refine leaves_marks Ds _ hn.2 (fun D' hD' => ?_) hv (fun W' hW' => hR W' ?_)
    · rw [World.putObj_heap_other (fun e : D' = D => hn.1 (by rw [← e]; exact hD'))]
      exact hd D' (List.mem_cons_of_mem _ hD')
    · exact ((Fr.refl _ W).putObj (List.mem_cons_self ..) _).trans (hW'.mono (fun b _ hb => List.mem_cons_of_mem _ hb))

theorem run_equalIn_func_nil {P : Program} (w : World) (d : Nat) (t : TypeId) (fn : Fn) (f c : Array Value) {ps rs : Array TypeId} {v : Bool} (h : P.underlying t = some (.func ps rs v)) :
    (Op.equalIn (d + 1) t (.func fn f c) .nilFunc).run P w = .ok false w := by
  simp [Op.equalIn, run_underlying h]
theorem run_eql_func_nil {P : Program} (w : World) (t : TypeId) (fn : Fn) (f c : Array Value) {ps rs : Array TypeId} {v : Bool} (h : P.underlying t = some (.func ps rs v)) : (binOp .eql t (.func fn f c) .nilFunc).run P w = .ok (.bool false) w := by
  simp only [binOp]
  simp [Op.equal, Op.maxDepth, run_equalIn_func_nil w 9999 t fn f c h]
theorem roundIn_in {n m l0 : Nat} {P : Program} {l : Nat} {f : FuncId} {tmps : Array Value} {assign body : Code} {w : World} {R : Ending → World → Prop} (h : RoundIn Fence.wide n P l f tmps assign body w R) :
    RoundIn (Fence.wide.inRound l0) m P l f tmps assign body w R := ⟨h.1, fun c cs _ => h.2 c cs (room_wide _)⟩

section
variable {P : Program}

/-- The rounds of a loop, whichever way its record was laid: L the record, D the block for the rounds' deferred calls. -/
theorem rounds_core {n : Nat} {gf : Nat} {lb : Array Value} {N : Nat} {Arg : Nat → Array Value → World → Prop} {Rd : Nat → Prop} {w0 : World} (hit : IterC P gf lb N Arg Rd w0)
    {ps : Array Tmp} {assign body : Code} {a : Act} {fn : FuncId} (D L : Nat) (S : Nat → Prop) (w W1 : World)
    (rec : LoopState → Option Code → Loop) (hrec : rec = fun st pe => { state := st, pending := pe, fn, tmps := a.tmps, params := ps, assign, body, defers := D })
    (hL1 : W1.heap[L]? = some (.loop (rec .ready none))) (hLw : w.heap.size ≤ L) (h01 : w0.heap.size ≤ w.heap.size) (hb1 : Below w.heap.size w W1)
    (M0 : Nat → Prop) (hRd : ∀ b, Rd b → b < w0.heap.size ∧ ¬ M0 b ∧ w.heap[b]? = w0.heap[b]?) (hM0 : ∀ b, M0 b → b < w.heap.size)
    (hps : ∀ k args W, k < N → Arg k args W → args.size = ps.size)
    (hArg : ∀ k args W l (o o' : Loop), Arg k args W → W.heap[l]? = some (.loop o) → Arg k args (W.putObj l (.loop o')))
    (I : Nat → (Nat → Prop) → World → Prop) (Ix : Code → Nat → (Nat → Prop) → World → Prop)
    (hI : ∀ k M A B, I k M A → Fr (fun b => w.heap.size ≤ b ∧ ¬ M b) A B → I k M B)
    (hIx : ∀ c k M A B, Ix c k M A → Fr (fun b => w.heap.size ≤ b ∧ ¬ M b) A B → Ix c k M B)
    (hI0 : I 0 M0 w) (a₁ : Array Value → Act)
    (hassign : ∀ (l k : Nat) (args : Array Value) (W : World) (K : Act → World → Prop), k < N → Arg k args W → K (a₁ args) W →
      assign.wpIn (Fence.wide.inRound l) 0 P (Exit.then K (fun _ _ _ => False)) { tmps := (ps.zip args).foldl (fun t (p, v) => t.setIfInBounds p v) a.tmps, defers := [] } W)
    (hbody : ∀ (l k : Nat) (M : Nat → Prop) (args : Array Value) (W : World), k < N → I k M W → Arg k args W → w.heap.size ≤ l → l < W.heap.size → ¬ M l → (∃ r, W.heap[l]? = some (.loop r)) → (∀ b, M b → (M0 b ∨ w.heap.size ≤ b) ∧ b < W.heap.size) →
      body.wpIn (Fence.wide.inRound l) 0 P (bodyP I Ix k M W) (a₁ args) W)
    (E : Ending → World → Prop)
    (hdone : ∀ (M : Nat → Prop) (W : World), I N M W → W1.heap.size ≤ W.heap.size → (∀ b, M b → (M0 b ∨ w.heap.size ≤ b) ∧ b < W.heap.size) → (∀ d, S d → ¬ M d ∧ W.heap[d]? = W1.heap[d]?) → ¬ M L →
      W.heap[L]? = some (.loop (rec .ready none)) → ∀ v, E (.returned v) W)
    (hstop : ∀ (c : Code) (k : Nat) (M : Nat → Prop) (W : World), k ≤ N → Ix c k M W → W1.heap.size ≤ W.heap.size → (∀ b, M b → (M0 b ∨ w.heap.size ≤ b) ∧ b < W.heap.size) → (∀ d, S d → ¬ M d ∧ W.heap[d]? = W1.heap[d]?) → ¬ M L →
      W.heap[L]? = some (.loop (rec .done (some c))) → ∀ v, E (.returned v) W)
    (hS : ∀ d, S d → d ≠ L ∧ ¬ M0 d ∧ d < W1.heap.size) (hfn : Fence.wide.fn fn) :
    Calls P gf (#[.func (.yield L) #[] #[]] ++ lb) W1 E := by
  have hL0 : L < W1.heap.size := (Array.getElem?_eq_some_iff.1 hL1).1
  have hsz := hb1.size
  refine (hit L (fun b => M0 b ∨ b = L)
    (fun k M' W => ∃ M : Nat → Prop, (∀ b, M' b ↔ (M b ∨ b = L)) ∧ ¬ M L ∧ (∀ d, S d → ¬ M d ∧ W.heap[d]? = W1.heap[d]?) ∧ (∀ b, M b → M0 b ∨ w.heap.size ≤ b) ∧ I k M W ∧ W.heap[L]? = some (.loop (rec .ready none)) ∧ W1.heap.size ≤ W.heap.size)
    (fun k M' W => ∃ M : Nat → Prop, (∀ b, M' b ↔ (M b ∨ b = L)) ∧ ¬ M L ∧ (∀ d, S d → ¬ M d ∧ W.heap[d]? = W1.heap[d]?) ∧ (∀ b, M b → M0 b ∨ w.heap.size ≤ b) ∧ (∃ c, Ix c k M W ∧ W.heap[L]? = some (.loop (rec .done (some c)))) ∧ W1.heap.size ≤ W.heap.size)
    W1 (Nat.le_trans h01 hsz) ?_ ?_ ?_ ?_ ?_ ?_).mono ?_
  · intro b hb
    obtain ⟨h1, h2, h3⟩ := hRd b hb
    refine ⟨h1, ?_, (hb1.block b (by omega)).trans h3⟩
    rintro (h | h)
    · exact h2 h
    · omega
  · rintro b (h | h)
    · have := hM0 b h; omega
    · omega
  · rintro k M' A B ⟨M, hm, hml, hmd, hmo, hi, hl, hs⟩ hf
    have hf' : Fr (fun b => w.heap.size ≤ b ∧ ¬ M b) A B := hf.mono (fun b _ hb => ⟨by omega, fun h => hb.2 ((hm b).2 (.inl h))⟩)
    refine ⟨M, hm, hml, fun d hd => ⟨(hmd d hd).1, (hf.block d (by have := (hS d hd).2.2; omega) (fun h => by have := (hS d hd).2.2; omega)).trans (hmd d hd).2⟩, hmo, hI k M A B hi hf', hf.obj hl (fun h => h.2 ((hm L).2 (.inr rfl))), Nat.le_trans hs hf.size⟩
  · rintro k M' A B ⟨M, hm, hml, hmd, hmo, ⟨c, hi, hl⟩, hs⟩ hf
    have hf' : Fr (fun b => w.heap.size ≤ b ∧ ¬ M b) A B := hf.mono (fun b _ hb => ⟨by omega, fun h => hb.2 ((hm b).2 (.inl h))⟩)
    refine ⟨M, hm, hml, fun d hd => ⟨(hmd d hd).1, (hf.block d (by have := (hS d hd).2.2; omega) (fun h => by have := (hS d hd).2.2; omega)).trans (hmd d hd).2⟩, hmo, ⟨c, hIx c k M A B hi hf', hf.obj hl (fun h => h.2 ((hm L).2 (.inr rfl)))⟩, Nat.le_trans hs hf.size⟩
  · -- one round
    rintro k M' args W hk ⟨M, hm, hml, hmd, hmo, hi, hl, hs⟩ harg hM' hWW
    have hlt : L < W.heap.size := (Array.getElem?_eq_some_iff.1 hl).1
    have hy := run_yield (P := P) (args := args) hl (by rw [hrec]; exact hps k args W hk harg)
    rw [hrec] at hy
    refine ⟨fn, _, assign, body, hy, roundIn_wide (n := 0) (roundIn_of_wpIn hfn (hassign _ k args W _ hk harg ⟨_, run_beginRound hl (by rw [hrec]), ?_⟩))⟩
    have hl2 : (W.putObj L (.loop { rec .ready none with state := .busy })).heap[L]? = some (.loop { rec .ready none with state := .busy }) := World.putObj_heap_same hlt
    have hfr : Fr (fun b => w.heap.size ≤ b ∧ ¬ M b) W (W.putObj L (.loop { rec .ready none with state := .busy })) := (Fr.refl _ W).putObj ⟨hLw, hml⟩ _
    have hMW : ∀ b, M b → (M0 b ∨ w.heap.size ≤ b) ∧ b < W.heap.size := fun b hb => ⟨hmo b hb, (hM' b ((hm b).2 (.inl hb))).2⟩
    refine wpIn_mono (hbody L k M args _ hk (hI k M W _ hi hfr) (hArg k args W L _ _ harg hl) hLw (by rw [World.putObj_size]; exact hlt) hml ⟨_, hl2⟩ (by rw [World.putObj_size]; exact hMW)) ?_
    have fin : ∀ (jump : Option Code) (W3 : World) (M2 : Nat → Prop), Fr M (W.putObj L (.loop { rec .ready none with state := .busy })) W3 → (∀ b, M2 b → (M b ∨ (W.putObj L (.loop { rec .ready none with state := .busy })).heap.size ≤ b) ∧ b < W3.heap.size) →
        (Instr.endRound L jump).run P W3 = .ok (.bool jump.isNone) (W3.putObj L (.loop (rec (if jump.isNone then .ready else .done) jump))) ∧
        (W3.putObj L (.loop (rec (if jump.isNone then .ready else .done) jump))).heap[L]? = some (.loop (rec (if jump.isNone then .ready else .done) jump)) ∧
        ¬ M2 L ∧ (∀ d, S d → ¬ M2 d ∧ (W3.putObj L (.loop (rec (if jump.isNone then .ready else .done) jump))).heap[d]? = W1.heap[d]?) ∧ (∀ b, M2 b → M0 b ∨ w.heap.size ≤ b) ∧
        Fr (fun b => w.heap.size ≤ b ∧ ¬ M2 b) W3 (W3.putObj L (.loop (rec (if jump.isNone then .ready else .done) jump))) ∧
        W1.heap.size ≤ W3.heap.size ∧
        Fr M' W (W3.putObj L (.loop (rec (if jump.isNone then .ready else .done) jump))) ∧
        (∀ b, (M2 b ∨ b = L) → (M' b ∨ W.heap.size ≤ b) ∧ b < (W3.putObj L (.loop (rec (if jump.isNone then .ready else .done) jump))).heap.size) := by
      intro jump W3 M2 hf3 hm2
      have hsz3 := hf3.size
      rw [World.putObj_size] at hsz3 hm2
      have hl3 := hf3.obj hl2 hml
      have hn2 : ¬ M2 L := fun h => by rcases (hm2 L h).1 with h | h; exact hml h; omega
      have hrun := run_endRound (P := P) jump hl3
      rw [hrec] at hrun ⊢
      refine ⟨hrun, World.putObj_heap_same (by omega), hn2, fun d hd => ?_, fun b hb => ?_, (Fr.refl _ W3).putObj ⟨hLw, hn2⟩ _, by omega, ?_, ?_⟩
      · obtain ⟨hd1, hd2, hd3⟩ := hS d hd
        refine ⟨fun h => by rcases (hm2 d h).1 with h | h; exact (hmd d hd).1 h; omega, ?_⟩
        rw [World.putObj_heap_other hd1, hf3.block d (by rw [World.putObj_size]; omega) (hmd d hd).1, World.putObj_heap_other hd1]
        exact (hmd d hd).2
      · rcases (hm2 b hb).1 with h | h
        · exact hmo b h
        · exact .inr (by omega)
      · refine (((Fr.refl M' W).putObj ((hm L).2 (.inr rfl)) _).trans (hf3.mono (fun b _ hb => (hm b).2 (.inl hb)))).putObj ((hm L).2 (.inr rfl)) _
      · rw [World.putObj_size]
        rintro b (hb | rfl)
        · obtain ⟨h1, h2⟩ := hm2 b hb
          exact ⟨h1.imp (fun h => (hm b).2 (.inl h)) id, h2⟩
        · exact ⟨.inl ((hm _).2 (.inr rfl)), by omega⟩
    rintro e a3 W3 hp
    cases e with
    | normal =>
      obtain ⟨M2, hf3, hm2, hi3⟩ := hp
      obtain ⟨hr, hl4, hn2, hnd, hmo2, hfr3, hs4, hfw, hmw⟩ := fin none W3 M2 hf3 hm2
      exact ⟨_, _, hr, fun b => M2 b ∨ b = L, hfw, hmw, .inl ⟨rfl, M2, fun _ => Iff.rfl, hn2, hnd, hmo2, hI _ _ _ _ hi3 hfr3, hl4, by rw [World.putObj_size]; exact hs4⟩⟩
    | ret =>
      obtain ⟨M2, hf3, hm2, hi3⟩ := hp
      obtain ⟨hr, hl4, hn2, hnd, hmo2, hfr3, hs4, hfw, hmw⟩ := fin (some .ret) W3 M2 hf3 hm2
      exact ⟨_, _, hr, fun b => M2 b ∨ b = L, hfw, hmw, .inr ⟨rfl, M2, fun _ => Iff.rfl, hn2, hnd, hmo2, ⟨_, hIx _ _ _ _ _ hi3 hfr3, hl4⟩, by rw [World.putObj_size]; exact hs4⟩⟩
    | exit id =>
      obtain ⟨M2, hf3, hm2, hi3⟩ := hp
      obtain ⟨hr, hl4, hn2, hnd, hmo2, hfr3, hs4, hfw, hmw⟩ := fin (some (.exit id)) W3 M2 hf3 hm2
      exact ⟨_, _, hr, fun b => M2 b ∨ b = L, hfw, hmw, .inr ⟨rfl, M2, fun _ => Iff.rfl, hn2, hnd, hmo2, ⟨_, hIx _ _ _ _ _ hi3 hfr3, hl4⟩, by rw [World.putObj_size]; exact hs4⟩⟩
    | goto t =>
      obtain ⟨M2, hf3, hm2, hi3⟩ := hp
      obtain ⟨hr, hl4, hn2, hnd, hmo2, hfr3, hs4, hfw, hmw⟩ := fin (some (.goto t)) W3 M2 hf3 hm2
      exact ⟨_, _, hr, fun b => M2 b ∨ b = L, hfw, hmw, .inr ⟨rfl, M2, fun _ => Iff.rfl, hn2, hnd, hmo2, ⟨_, hIx _ _ _ _ _ hi3 hfr3, hl4⟩, by rw [World.putObj_size]; exact hs4⟩⟩
    | panic ch => exact hp.elim
    | outgrown => exact hp.elim
  · refine ⟨M0, fun _ => Iff.rfl, fun h => by have := hM0 L h; omega, fun d hd => ⟨(hS d hd).2.1, rfl⟩, fun b hb => .inl hb, ?_, hL1, Nat.le_refl _⟩
    exact hI 0 M0 w W1 hI0 (Fr.of_below hb1)
  · rintro e W2 ⟨⟨v, rfl⟩, M2, hs2, hM2, ⟨M, hm, hml, hmd, hmo, hi, hl, hs⟩ | ⟨k, hk, M, hm, hml, hmd, hmo, ⟨c, hi, hl⟩, hs⟩⟩
    · exact hdone M W2 hi hs (fun b hb => ⟨hmo b hb, (hM2 b ((hm b).2 (.inl hb))).2⟩) hmd hml hl v
    · exact hstop c k M W2 hk hi hs (fun b hb => ⟨hmo b hb, (hM2 b ((hm b).2 (.inl hb))).2⟩) hmd hml hl v

/-- THE LAW, at an outermost loop. -/
theorem wp_range_outer {n : Nat} {gf : Nat} {lb : Array Value} {N : Nat} {Arg : Nat → Array Value → World → Prop} {Rd : Nat → Prop} {w0 : World} (hit : IterC P gf lb N Arg Rd w0)
    {g : Operand} {ps : Array Tmp} {assign body : Code} {Q : Exit → Act → World → Prop} {a : Act} {w : World}
    (hg : a.eval g = .func (.func gf) #[] lb) (eg : ∀ args w, (callFunc gf args).run P w = .ok (.enter gf args) w)
    (h01 : w0.heap.size ≤ w.heap.size) (M0 : Nat → Prop) (hRd : ∀ b, Rd b → b < w0.heap.size ∧ ¬ M0 b ∧ w.heap[b]? = w0.heap[b]?) (hM0 : ∀ b, M0 b → b < w.heap.size)
    (hps : ∀ k args W, k < N → Arg k args W → args.size = ps.size)
    (hArg : ∀ k args W l (o o' : Loop), Arg k args W → W.heap[l]? = some (.loop o) → Arg k args (W.putObj l (.loop o')))
    (I : Nat → (Nat → Prop) → World → Prop) (Ix : Code → Nat → (Nat → Prop) → World → Prop)
    (hI : ∀ k M A B, I k M A → Fr (fun b => w.heap.size ≤ b ∧ ¬ M b) A B → I k M B)
    (hIx : ∀ c k M A B, Ix c k M A → Fr (fun b => w.heap.size ≤ b ∧ ¬ M b) A B → Ix c k M B)
    (hI0 : I 0 M0 w) (a₁ : Array Value → Act)
    (hassign : ∀ (l k : Nat) (args : Array Value) (W : World) (K : Act → World → Prop), k < N → Arg k args W → K (a₁ args) W →
      assign.wpIn (Fence.wide.inRound l) 0 P (Exit.then K (fun _ _ _ => False)) { tmps := (ps.zip args).foldl (fun t (p, v) => t.setIfInBounds p v) a.tmps, defers := [] } W)
    (hbody : ∀ (l k : Nat) (M : Nat → Prop) (args : Array Value) (W : World), k < N → I k M W → Arg k args W → w.heap.size ≤ l → l < W.heap.size → ¬ M l → (∃ r, W.heap[l]? = some (.loop r)) → (∀ b, M b → (M0 b ∨ w.heap.size ≤ b) ∧ b < W.heap.size) →
      body.wpIn (Fence.wide.inRound l) 0 P (bodyP I Ix k M W) (a₁ args) W)
    (hdone : ∀ (D : Nat) (M : Nat → Prop) (W : World), I N M W → w.heap.size ≤ D → ¬ M D → W.heap[D]? = some (.deferred (some [])) → (∀ b, M b → (M0 b ∨ w.heap.size ≤ b) ∧ b < W.heap.size) → Q .normal { a with defers := { target := .collected D, args := #[] } :: a.defers } W)
    (hstop : ∀ (D : Nat) (c : Code) (k : Nat) (M : Nat → Prop) (W : World), k ≤ N → Ix c k M W → w.heap.size ≤ D → ¬ M D → W.heap[D]? = some (.deferred (some [])) → (∀ b, M b → (M0 b ∨ w.heap.size ≤ b) ∧ b < W.heap.size) → c.wpIn Fence.wide n P Q { a with defers := { target := .collected D, args := #[] } :: a.defers } W) :
    (Code.rangeFunc g ps assign body).wpIn Fence.wide n P Q a w := by
  refine wpIn_rangeFunc ?_
  intro fn hfn
  obtain ⟨rec, hrec⟩ : ∃ rec : LoopState → Option Code → Loop, rec = fun st pe => { state := st, pending := pe, fn, tmps := a.tmps, params := ps, assign, body, defers := w.heap.size } := ⟨_, rfl⟩
  obtain ⟨W1, hW1⟩ : ∃ W1, (w.alloc (.deferred (some []))).alloc (.loop (rec .ready none)) = W1 := ⟨_, rfl⟩
  have hL1 : W1.heap[w.heap.size + 1]? = some (.loop (rec .ready none)) := by
    rw [← hW1]; have := World.alloc_heap_new (w.alloc (.deferred (some []))) (.loop (rec .ready none)); rwa [World.size_alloc] at this
  have hK1 : W1.heap[w.heap.size]? = some (.deferred (some [])) := by
    rw [← hW1]; exact (Below.heap_alloc _ _ _ (by simp)).trans (World.alloc_heap_new w _)
  have hb1 : Below w.heap.size w W1 := by
    rw [← hW1]; exact ((Below.refl _ w).alloc (Nat.le_refl _) _).alloc (by simp) _
  have hs1 : W1.heap.size = w.heap.size + 2 := by rw [← hW1]; simp
  refine ⟨w.heap.size + 1, [{ target := .collected w.heap.size, args := #[] }], W1, { target := .fn (.func gf) lb, args := #[.func (.yield (w.heap.size + 1)) #[] #[]] }, W1, gf,
    #[.func (.yield (w.heap.size + 1)) #[] #[]] ++ lb, W1, ?_, ?_, ?_, ?_, fun h => by simp [Fence.wide] at h, ?_⟩
  · rw [← hW1, hrec]; exact run_enterLoop_outer _ _ _ _ _
  · simp only [resolve, hg]
    simp [go_sem]
  · intro f' _; trivial
  · simp [invoke, go_sem, eg]
  · refine callsIn_wide.2 (rounds_core (n := n) hit w.heap.size (w.heap.size + 1) (fun d => d = w.heap.size) w W1 rec hrec hL1 (by omega) h01 hb1 M0 hRd hM0 hps hArg I Ix hI hIx hI0 a₁ hassign hbody _ ?_ ?_ (fun d e => by subst e; exact ⟨by omega, fun h => by have := hM0 _ h; omega, by omega⟩) hfn)
    · intro M W hi hs hM hmd hml hl v
      refine ⟨none, _, by have := run_endLoop (P := P) hl (by rw [hrec]; simp); rw [hrec] at this; exact this, ?_⟩
      refine hdone _ M _ (hI _ _ _ _ hi ((Fr.refl _ W).putObj ⟨by omega, hml⟩ _)) (Nat.le_refl _) (hmd _ rfl).1 ?_ (by rw [World.putObj_size]; exact hM)
      rw [World.putObj_heap_other (by omega), (hmd _ rfl).2]; exact hK1
    · intro c k M W hk hi hs hM hmd hml hl v
      refine ⟨some c, _, by have := run_endLoop (P := P) hl (by rw [hrec]; simp); rw [hrec] at this; exact this, ?_⟩
      refine hstop _ c k M _ hk (hIx _ _ _ _ _ hi ((Fr.refl _ W).putObj ⟨by omega, hml⟩ _)) (Nat.le_refl _) (hmd _ rfl).1 ?_ (by rw [World.putObj_size]; exact hM)
      rw [World.putObj_heap_other (by omega), (hmd _ rfl).2]; exact hK1

/-- THE LAW, at a loop within a round of loop l₀. -/
theorem wp_range_inner {n : Nat} {gf : Nat} {lb : Array Value} {N : Nat} {Arg : Nat → Array Value → World → Prop} {Rd : Nat → Prop} {w0 : World} (hit : IterC P gf lb N Arg Rd w0)
    {g : Operand} {ps : Array Tmp} {assign body : Code} {Q : Exit → Act → World → Prop} {a : Act} {w : World} {l₀ : Nat} (hl₀ : ∃ r₀, w.heap[l₀]? = some (.loop r₀))
    (hg : a.eval g = .func (.func gf) #[] lb) (eg : ∀ args w, (callFunc gf args).run P w = .ok (.enter gf args) w)
    (h01 : w0.heap.size ≤ w.heap.size) (M0 : Nat → Prop) (hRd : ∀ b, Rd b → b < w0.heap.size ∧ ¬ M0 b ∧ w.heap[b]? = w0.heap[b]?) (hM0 : ∀ b, M0 b → b < w.heap.size)
    (hps : ∀ k args W, k < N → Arg k args W → args.size = ps.size)
    (hArg : ∀ k args W l (o o' : Loop), Arg k args W → W.heap[l]? = some (.loop o) → Arg k args (W.putObj l (.loop o')))
    (I : Nat → (Nat → Prop) → World → Prop) (Ix : Code → Nat → (Nat → Prop) → World → Prop)
    (hI : ∀ k M A B, I k M A → Fr (fun b => w.heap.size ≤ b ∧ ¬ M b) A B → I k M B)
    (hIx : ∀ c k M A B, Ix c k M A → Fr (fun b => w.heap.size ≤ b ∧ ¬ M b) A B → Ix c k M B)
    (hI0 : I 0 M0 w) (a₁ : Array Value → Act)
    (hassign : ∀ (l k : Nat) (args : Array Value) (W : World) (K : Act → World → Prop), k < N → Arg k args W → K (a₁ args) W →
      assign.wpIn (Fence.wide.inRound l) 0 P (Exit.then K (fun _ _ _ => False)) { tmps := (ps.zip args).foldl (fun t (p, v) => t.setIfInBounds p v) a.tmps, defers := [] } W)
    (hbody : ∀ (l k : Nat) (M : Nat → Prop) (args : Array Value) (W : World), k < N → I k M W → Arg k args W → w.heap.size ≤ l → l < W.heap.size → ¬ M l → (∃ r, W.heap[l]? = some (.loop r)) → (∀ b, M b → (M0 b ∨ w.heap.size ≤ b) ∧ b < W.heap.size) →
      body.wpIn (Fence.wide.inRound l) 0 P (bodyP I Ix k M W) (a₁ args) W)
    (hdone : ∀ (M : Nat → Prop) (W : World), I N M W → (∀ b, M b → (M0 b ∨ w.heap.size ≤ b) ∧ b < W.heap.size) → Q .normal a W)
    (hstop : ∀ (c : Code) (k : Nat) (M : Nat → Prop) (W : World), k ≤ N → Ix c k M W → (∀ b, M b → (M0 b ∨ w.heap.size ≤ b) ∧ b < W.heap.size) → c.wpIn (Fence.wide.inRound l₀) n P Q a W) :
    (Code.rangeFunc g ps assign body).wpIn (Fence.wide.inRound l₀) n P Q a w := by
  obtain ⟨r₀, hl₀⟩ := hl₀
  refine wpIn_rangeFunc ?_
  intro fn hfn
  obtain ⟨rec, hrec⟩ : ∃ rec : LoopState → Option Code → Loop, rec = fun st pe => { state := st, pending := pe, fn, tmps := a.tmps, params := ps, assign, body, defers := r₀.defers } := ⟨_, rfl⟩
  obtain ⟨W1, hW1⟩ : ∃ W1, w.alloc (.loop (rec .ready none)) = W1 := ⟨_, rfl⟩
  have hL1 : W1.heap[w.heap.size]? = some (.loop (rec .ready none)) := by rw [← hW1]; exact World.alloc_heap_new w _
  have hb1 : Below w.heap.size w W1 := by rw [← hW1]; exact (Below.refl _ w).alloc (Nat.le_refl _) _
  have hs1 : W1.heap.size = w.heap.size + 1 := by rw [← hW1]; simp
  refine ⟨w.heap.size, [], W1, { target := .fn (.func gf) lb, args := #[.func (.yield w.heap.size) #[] #[]] }, W1, gf,
    #[.func (.yield w.heap.size) #[] #[]] ++ lb, W1, ?_, ?_, ?_, ?_, fun h => by simp [Fence.wide] at h, ?_⟩
  · rw [← hW1, hrec]; exact run_enterLoop_inner hl₀ _ _ _ _ _
  · simp only [resolve, hg]
    simp [go_sem]
  · intro f' _; trivial
  · simp [invoke, go_sem, eg]
  · refine callsIn_wide.2 (rounds_core (n := n) hit r₀.defers w.heap.size (fun _ => False) w W1 rec hrec hL1 (by omega) h01 hb1 M0 hRd hM0 hps hArg I Ix hI hIx hI0 a₁ hassign hbody _ ?_ ?_ (fun d h => h.elim) hfn)
    · intro M W hi hs hM hmd hml hl v
      refine ⟨none, _, by have := run_endLoop (P := P) hl (by rw [hrec]; simp); rw [hrec] at this; exact this, ?_⟩
      exact hdone M _ (hI _ _ _ _ hi ((Fr.refl _ W).putObj ⟨by omega, hml⟩ _)) (by rw [World.putObj_size]; exact hM)
    · intro c k M W hk hi hs hM hmd hml hl v
      refine ⟨some c, _, by have := run_endLoop (P := P) hl (by rw [hrec]; simp); rw [hrec] at this; exact this, ?_⟩
      exact hstop c k M _ hk (hIx _ _ _ _ _ hi ((Fr.refl _ W).putObj ⟨by omega, hml⟩ _)) (by rw [World.putObj_size]; exact hM)
end
end Go.Proofs.Ytinlmodkdjpocaa
