/- walk: Places in memory; put, Samples, Sizes. walk: New. -/
import Derived.Test.YtinlmodkdjpocaaWkb
import Derived.Test.YtinlmodkdjpocaaGen
import Derived.Test.YtinlmodkdjpocaaRfx
import Derived.StillTailTactics
import Derived.Test.YtinlmodkdjpocaaPlm
set_option linter.unusedVariables false
namespace Go.Proofs.Ytinlmodkdjpocaa
open Go.RowKit Go.Shelf

/-- Places that the call has made: block b, its samples, its sizes, its map. -/
structure PlcO (base : Nat) (w : World) (b mb : Nat) (sv zv : Value) (sm sz : List Nat) (f : Int → Option (Nat × Nat)) : Prop where
  blk : w.heap[b]? = some (.cells #[sv, zv, .map (some mb)] 124 (0, 0))
  smo : w.ownsRow base 3 1 sv sm.length (sm.map natV)
  szo : w.ownsRow base 3 1 zv sz.length (sz.map natV)
  map : MapR Try.prog 3 w mb sm.length f
  apart : ∀ g, sv.ownBlock = some g → zv.ownBlock ≠ some g
  hb : base ≤ b
  hm : base ≤ mb
/-- Places, to be read. -/
def PlcR (w : World) (b : Nat) (sm sz : List Nat) (f : Int → Option (Nat × Nat)) : Prop :=
  ∃ sv zv mb, w.cell? ⟨b, 0, none⟩ = some sv ∧ SlR natV w sv sm ∧ w.cell? ⟨b, 1, none⟩ = some zv ∧ SlR natV w zv sz ∧ w.cell? ⟨b, 2, none⟩ = some (.map (some mb)) ∧ MapR Try.prog 3 w mb sm.length f
theorem PlcO.plcR {base : Nat} {w : World} {b mb : Nat} {sv zv : Value} {sm sz : List Nat} {f : Int → Option (Nat × Nat)} (h : PlcO base w b mb sv zv sm sz f) : PlcR w b sm sz f :=
  ⟨sv, zv, mb, by rw [cell_of_block h.blk]; rfl, SlR.of_own h.smo, by rw [cell_of_block h.blk]; rfl, SlR.of_own h.szo, by rw [cell_of_block h.blk]; rfl, h.map⟩
theorem PlcR.same {w W : World} {b : Nat} {sm sz : List Nat} {f : Int → Option (Nat × Nat)} (h : PlcR w b sm sz f) (hs : ∀ x, x < w.heap.size → W.heap[x]? = w.heap[x]?) : PlcR W b sm sz f := by
  obtain ⟨sv, zv, mb, h0, h1, h2, h3, h4, h5⟩ := h
  have hc : ∀ {p : Addr} {v : Value}, w.cell? p = some v → W.cell? p = some v := fun {p v} h => (World.cell?_of_block (w := w) (hs _ (World.block_lt_of_cell? w _ h))).trans h
  exact ⟨sv, zv, mb, hc h0, h1.same (Nat.le_refl _) hs, hc h2, h3.same (Nat.le_refl _) hs, hc h4, h5.same (hs _ h5.lt)⟩
theorem PlcR.later {w W : World} {b : Nat} {sm sz : List Nat} {f : Int → Option (Nat × Nat)} (h : PlcR w b sm sz f) (hb : Below w.heap.size w W) : PlcR W b sm sz f := h.same hb.block
/-- the blocks that Places may write -/
def plM (b mb : Nat) (sv zv : Value) : Nat → Prop := fun y => y = b ∨ y = mb ∨ sv.ownBlock = some y ∨ zv.ownBlock = some y
theorem PlcO.fr {base : Nat} {w W : World} {b mb : Nat} {sv zv : Value} {sm sz : List Nat} {f : Int → Option (Nat × Nat)} (h : PlcO base w b mb sv zv sm sz f) {M : Nat → Prop} (hf : Fr M w W) (hM : ∀ y, plM b mb sv zv y → ¬ M y) : PlcO base W b mb sv zv sm sz f :=
  ⟨hf.obj h.blk (hM b (.inl rfl)), ownsRow_obj h.smo (fun g o hg ho => hf.obj ho (hM g (.inr (.inr (.inl hg))))), ownsRow_obj h.szo (fun g o hg ho => hf.obj ho (hM g (.inr (.inr (.inr hg))))), h.map.same (hf.block mb h.map.lt (hM mb (.inr (.inl rfl)))), h.apart, h.hb, h.hm⟩
theorem own_lt {w : World} {base s n : Nat} {e : TypeId} {v : Value} {xs : List Value} (h : w.ownsRow base e s v n xs) {g : Nat} (hg : v.ownBlock = some g) : base ≤ g ∧ g < w.heap.size ∧ ∃ cur, w.heap[g]? = some (.cells cur e (0, 0)) := by
  rcases h.2 with ⟨rfl, _⟩ | ⟨g', cap, cur, rfl, hb, hh, _⟩
  · simp [Value.ownBlock] at hg
  · have : g' = g := by simpa [Value.ownBlock] using hg
    subst this
    exact ⟨hb, (Array.getElem?_eq_some_iff.1 hh).1, cur, hh⟩
theorem PlcO.lt {base : Nat} {w : World} {b mb : Nat} {sv zv : Value} {sm sz : List Nat} {f : Int → Option (Nat × Nat)} (h : PlcO base w b mb sv zv sm sz f) {y : Nat} (hy : plM b mb sv zv y) : base ≤ y ∧ y < w.heap.size := by
  rcases hy with rfl | rfl | hy | hy
  · exact ⟨h.hb, (Array.getElem?_eq_some_iff.1 h.blk).1⟩
  · exact ⟨h.hm, h.map.lt⟩
  · exact ⟨(own_lt h.smo hy).1, (own_lt h.smo hy).2.1⟩
  · exact ⟨(own_lt h.szo hy).1, (own_lt h.szo hy).2.1⟩
theorem PlcO.map_ne {base : Nat} {w : World} {b mb : Nat} {sv zv : Value} {sm sz : List Nat} {f : Int → Option (Nat × Nat)} (h : PlcO base w b mb sv zv sm sz f) {x : Nat} {cs : Array Value} {T : TypeId} {fr : Nat × Nat} (hx : w.heap[x]? = some (.cells cs T fr)) : mb ≠ x := by
  rintro rfl
  obtain ⟨D, ⟨es, ck, h0, _⟩, _⟩ := h.map
  rw [hx] at h0
  cases h0

set_option maxRecDepth 100000 in
set_option maxHeartbeats 4000000 in
theorem plc_put (base b mb : Nat) (sv zv : Value) (sm sz : List Nat) (f : Int → Option (Nat × Nat)) (row d o : Nat) (w : World) (h : PlcO base w b mb sv zv sm sz f) (hr : row ≤ 1000000) (hn : sm.length ≤ 1000000) (hbase : base ≤ w.heap.size) :
    Calls Try.prog 88 #[.pointer (some ⟨b, 0, none⟩), .int .i64 row, .agg #[.int .i64 d, .int .i64 o]] w fun e w' => (∃ v, e = .returned v) ∧ ∃ sv', PlcO base w' b mb sv' zv (sm ++ [row]) sz (mpPut f row (d, o)) ∧ Fr (fun y => y = b ∨ y = mb ∨ sv.ownBlock = some y) w w' ∧ (sv'.ownBlock = sv.ownBlock ∨ ∃ g, sv'.ownBlock = some g ∧ w.heap.size ≤ g) := by
  have c0 : w.cell? ⟨b, 0, none⟩ = some sv := by rw [cell_of_block h.blk]; rfl
  obtain ⟨As, cs, rfl⟩ := own_shape h.smo
  have hbl : b < w.heap.size := (Array.getElem?_eq_some_iff.1 h.blk).1
  have H := Lib.hid h
  obtain ⟨N, hN⟩ : ∃ N, N = sm.length := ⟨_, rfl⟩
  have HN := Lib.hid hN
  rw [← hN] at hn c0 ⊢
  have HO := Lib.hid (show w.ownsRow base 3 1 (.slice As N cs) N (sm.map natV) from by rw [hN]; exact h.smo)
  clear h hN
  have hb0 : ∀ W : World, Below w.heap.size w W → W.heap[b]? = some (.cells #[.slice As N cs, zv, .map (some mb)] 124 (0, 0)) := fun W hW => (hW.block b (Array.getElem?_eq_some_iff.1 H.out.blk).1).trans (by rw [HN.out]; exact H.out.blk)
  have HB0 := Lib.hid hb0
  clear hb0
  have K1 := Lib.hid (HB0.out _ ((Below.refl w.heap.size w).alloc (Nat.le_refl _) (.cells #[.int .i64 (d : Nat), .int .i64 (o : Nat)] 127)))
  have HO1 := Lib.hid (HO.out.alloc (.cells #[.int .i64 (d : Nat), .int .i64 (o : Nat)] 127))
  go_enter Try.func88, Try.ntmps88
  go_wp2_with (first
    | (at_builtin; go_must (refine wp_app (W := w.alloc (.cells #[.int .i64 d, .int .i64 o] 127)) base 73 3 (.int .i64 0) 1 8 (.tmp 10) (.tmp 12) rfl rfl Try.underlying73 info_int rfl (by decide) (by decide) (.slice As N cs) N (sm.map natV) #[.int .i64 row] rfl (by simp only [World.size_alloc]; rfl) HO1.out rfl (by intro u hu; simp at hu; subst hu; rfl) (by omega) (by rw [World.size_alloc]; omega) ?_; intro g9 cap9 w9 ho9 hg9 hat9 hgb9 hgl9 hgs9; have s9 := grown_block hg9 K1.out (own_ne_block HO1.out K1.out (by decide)); have c9 : w9.cell? ⟨b, 0, none⟩ = some (.slice As N cs) := (by rw [cell_of_block s9]; rfl); have f9 : w9.frozen? ⟨b, 0, none⟩ = false := free_of_block s9; have S9 := Lib.hid s9; have HO9 := Lib.hid ho9; have HG9 := Lib.hid hg9; have HAT9 := Lib.hid hat9; clear s9 ho9 hg9 hat9)))
  obtain ⟨w10, hw10⟩ : ∃ w10, w10 = w9.setCell ⟨b, 0, none⟩ (.slice (some ⟨g9, 0, none⟩) (N + 1 : Nat) cap9) := ⟨_, rfl⟩
  rw [← hw10]
  have hfr : Fr (fun y => y = b ∨ (Value.slice As N cs).ownBlock = some y) w w10 := by
    rw [hw10]
    exact (((Fr.refl _ w).alloc _).grown HG9.out (fun k hk _ => .inr hk)).setCell (.inl rfl) _
  have hblk : w10.heap[b]? = some (.cells #[.slice (some ⟨g9, 0, none⟩) (N + 1 : Nat) cap9, zv, .map (some mb)] 124 (0, 0)) := by
    rw [hw10, heap_setCell_same S9.out]; rfl
  have hne9 : (Value.slice (some ⟨g9, 0, none⟩) (N + 1 : Nat) cap9).ownBlock ≠ some b := own_ne_block HO9.out S9.out (by decide)
  have hsmo : w10.ownsRow base 3 1 (.slice (some ⟨g9, 0, none⟩) (N + 1 : Nat) cap9) (N + 1) (sm.map natV ++ [natV row]) := by
    rw [hw10]; exact ownsRow_setCell_other HO9.out hne9 _
  have hzb : ∀ g, zv.ownBlock = some g → ¬ (g = b ∨ (Value.slice As N cs).ownBlock = some g) := by
    rintro g hg (rfl | h)
    · exact own_ne_block H.out.szo H.out.blk (by decide) hg
    · exact H.out.apart g (by rw [HN.out] at h; exact h) hg
  have hszo := ownsRow_obj H.out.szo (fun g o hg ho => hfr.obj ho (hzb g hg))
  have hmb : ¬ (mb = b ∨ (Value.slice As N cs).ownBlock = some mb) := by
    rintro (h | h)
    · exact H.out.map_ne H.out.blk h
    · obtain ⟨_, _, cur, hcur⟩ := own_lt HO.out h
      exact H.out.map_ne hcur rfl
  have hmap := H.out.map.same (hfr.block mb H.out.map.lt hmb)
  rw [← HN.out] at hmap
  have hbx0 := heap_alloc_new w (.cells #[.int .i64 (d : Nat), .int .i64 (o : Nat)] 127)
  have hbx : w10.heap[w.heap.size]? = some (.cells #[.int .i64 (d : Nat), .int .i64 (o : Nat)] 127 (0, 0)) := by
    rw [hw10, Below.heap_setCell _ _ _ _ (by show w.heap.size ≠ b; omega)]
    exact grown_block HG9.out hbx0 (own_ne_block HO1.out hbx0 (by decide))
  have e2 : w10.cell? ⟨b, 2, none⟩ = some (.map (some mb)) := by rw [cell_of_block hblk]; rfl
  have x0 : w10.cell? ⟨w.heap.size, 0, none⟩ = some (.int .i64 (d : Nat)) := by rw [cell_of_block hbx]; rfl
  have x1 : w10.cell? ⟨w.heap.size, 1, none⟩ = some (.int .i64 (o : Nat)) := by rw [cell_of_block hbx]; rfl
  obtain ⟨w11, hrun, hm11, hg11⟩ := (hmap.drewN 1).put (t := 122) (e := 127) Try.underlying3 Try.underlying122 (by unfold maxLen; omega) (row : Nat) (by omega) (by omega) (d, o)
  have hrun' : (Instr.mapUpdate 122 (.map (some mb)) (.int .i64 (row : Nat)) (.agg #[.int .i64 (d : Nat), .int .i64 (o : Nat)])).run Try.prog w10.drew = .ok () w11 := hrun
  have hs10 := hfr.size
  have HFR := Lib.hid hfr
  have HBLK := Lib.hid hblk
  have HSMO := Lib.hid hsmo
  have HSZO := Lib.hid hszo
  have HM11 := Lib.hid hm11
  have HG11 := Lib.hid hg11
  have HZB := Lib.hid hzb
  have HMB := Lib.hid hmb
  clear hw10 hfr hblk hsmo hszo hmap hm11 hg11 hrun hzb hmb hbx hbx0 c0 c9 f9 hgs9 hgb9 hne9
  go_wp2
  go_still_tail 6, (by kernel_rfl)
  repeat still_step
  try refine wpStill_nil ?_
  change wpList _ _ _ _ _ w10.drew
  go_wp2
  go_end0
  have hf11 : Fr (fun y => y = mb) w10 w11 := ((Fr.refl _ w10).drewN 1).grown HG11.out (fun k hk _ => by cases hk; rfl)
  have hsz9 : (Value.slice (some ⟨g9, 0, none⟩) (N + 1 : Nat) cap9).ownBlock = some g9 := rfl
  refine ⟨⟨_, rfl⟩, .slice (some ⟨g9, 0, none⟩) (N + 1 : Nat) cap9, ⟨?_, ?_, ?_, ?_, ?_, H.out.hb, H.out.hm⟩, ?_, ?_⟩
  · exact hf11.obj HBLK.out (fun h => HMB.out (.inl h.symm))
  · rw [List.length_append, ← HN.out, List.map_append]
    refine ownsRow_obj HSMO.out (fun g o hg ho => hf11.obj ho (fun h => ?_))
    obtain ⟨_, _, cur, hcur⟩ := own_lt HSMO.out hg
    subst h
    obtain ⟨D, ⟨es, ck, h0, _⟩, _⟩ := H.out.map
    have h1 := HFR.out.obj h0 HMB.out
    rw [hcur] at h1
    cases h1
  · refine ownsRow_obj HSZO.out (fun g o hg ho => hf11.obj ho (fun h => ?_))
    obtain ⟨_, _, cur, hcur⟩ := own_lt HSZO.out hg
    subst h
    obtain ⟨D, ⟨es, ck, h0, _⟩, _⟩ := H.out.map
    have h1 := HFR.out.obj h0 HMB.out
    rw [hcur] at h1
    cases h1
  · rw [List.length_append, ← HN.out]; exact HM11.out
  · intro g hg
    rw [hsz9] at hg
    cases hg
    rcases HAT9.out with h | h
    · exact H.out.apart g9 (by rw [HN.out] at h; exact h)
    · intro hz
      have := (own_lt H.out.szo hz).2.1
      rw [World.size_alloc] at h
      omega
  · refine (HFR.out.mono (fun y _ hy => ?_)).trans (hf11.mono (fun y _ hy => .inr (.inl hy)))
    rcases hy with h | h
    · exact .inl h
    · exact .inr (.inr h)
  · rw [hsz9]
    rcases HAT9.out with h | h
    · exact .inl h.symm
    · exact .inr ⟨g9, rfl, by rw [World.size_alloc] at h; omega⟩

set_option maxHeartbeats 1000000 in
theorem plc_samples (b : Nat) (sm sz : List Nat) (f : Int → Option (Nat × Nat)) (w : World) (h : PlcR w b sm sz f) (hn : sm.length ≤ 1000000) :
    Calls Try.prog 60 #[.pointer (some ⟨b, 0, none⟩)] w fun e w' => ∃ v, e = .returned v ∧ SlR natV w' v sm ∧ Below w.heap.size w w' := by
  obtain ⟨sv, zv, mb, h0, h1, h2, h3, h4, h5⟩ := h
  obtain ⟨A, c, rfl, k1, k2, g⟩ := h1.form
  have hcl := Lib.hid (clone_na _ sm w h1 (by omega))
  clear h1 h2 h3 h4 h5 g
  obtain ⟨N, hN⟩ : ∃ N, N = sm.length := ⟨_, rfl⟩
  have HN := Lib.hid hN
  rw [← hN] at hcl h0
  clear hN
  go_enter Try.func60, Try.ntmps60
  go_wp2_with fail
  refine hcl.out.mono ?_
  rintro e w1 ⟨v1, rfl, ho, hb⟩
  rw [HN.out] at ho
  have hs := SlR.of_own ho
  obtain ⟨A1, c1, rfl, m1, m2, _⟩ := hs.form
  have hclip := Lib.hid (clip_na A1 sm.length c1 w1 m1 m2)
  have HF := Lib.hid hs.clip
  have HB := Lib.hid hb
  clear ho hb hs
  go_wp2_with fail
  refine hclip.out.mono ?_
  rintro e w2 ⟨rfl, rfl⟩
  go_wp2_with fail
  go_ret
  exact ⟨_, rfl, HF.out, HB.out⟩
set_option maxHeartbeats 1000000 in
theorem plc_sizes (b : Nat) (sm sz : List Nat) (f : Int → Option (Nat × Nat)) (w : World) (h : PlcR w b sm sz f) (hn : sz.length ≤ 1000000) :
    Calls Try.prog 65 #[.pointer (some ⟨b, 0, none⟩)] w fun e w' => ∃ v, e = .returned v ∧ SlR natV w' v sz ∧ Below w.heap.size w w' := by
  obtain ⟨sv, zv, mb, h1, h2, h0, h3, h4, h5⟩ := h
  obtain ⟨A, c, rfl, k1, k2, g⟩ := h3.form
  have hcl := Lib.hid (clone_na _ sz w h3 (by omega))
  clear h1 h2 h3 h4 h5 g
  obtain ⟨N, hN⟩ : ∃ N, N = sz.length := ⟨_, rfl⟩
  have HN := Lib.hid hN
  rw [← hN] at hcl h0
  clear hN
  go_enter Try.func65, Try.ntmps65
  go_wp2_with fail
  refine hcl.out.mono ?_
  rintro e w1 ⟨v1, rfl, ho, hb⟩
  rw [HN.out] at ho
  have hs := SlR.of_own ho
  obtain ⟨A1, c1, rfl, m1, m2, _⟩ := hs.form
  have hclip := Lib.hid (clip_na A1 sz.length c1 w1 m1 m2)
  have HF := Lib.hid hs.clip
  have HB := Lib.hid hb
  clear ho hb hs
  go_wp2_with fail
  refine hclip.out.mono ?_
  rintro e w2 ⟨rfl, rfl⟩
  go_wp2_with fail
  go_ret
  exact ⟨_, rfl, HF.out, HB.out⟩
end Go.Proofs.Ytinlmodkdjpocaa

set_option linter.unusedVariables false
namespace Go.Proofs.Ytinlmodkdjpocaa
open Go.RowKit Go.Shelf
attribute [local go_sem] Oper.semAt_some

/-- a mark's block is none of the places' -/
theorem PlcO.mark {base : Nat} {w : World} {b mb : Nat} {sv zv : Value} {sm sz : List Nat} {f : Int → Option (Nat × Nat)} (h : PlcO base w b mb sv zv sm sz f) {D : Nat} {l : Option (List Deferred)} (hD : w.heap[D]? = some (.deferred l)) : ¬ plM b mb sv zv D := by
  rintro (rfl | rfl | hy | hy)
  · rw [h.blk] at hD; cases hD
  · obtain ⟨_, ⟨es, ck, h0, _⟩, _⟩ := h.map
    rw [h0] at hD; cases hD
  · obtain ⟨_, _, cur, hc⟩ := own_lt h.smo hy
    rw [hc] at hD; cases hD
  · obtain ⟨_, _, cur, hc⟩ := own_lt h.szo hy
    rw [hc] at hD; cases hD
/-- what New holds behind n samples of j documents -/
def NwSt (base : Nat) (w : World) (b mb : Nat) (ds : List (List UInt8)) (n j : Nat) (sv zv : Value) (W : World) : Prop :=
  PlcO base W b mb sv zv ((smL ds).take n) ((szL ds).take j) (plT (smL ds) (szL ds) n) ∧ Below base w W
/-- a document's rows, from its end on -/
def rwsD (ds : List (List UInt8)) (j N k : Nat) : List Nat := (List.range (k + 1)).map (fun i => rwP ds j (N - i))

theorem run_makeMap_own (w : World) : (Instr.makeMap 122 none).run Try.prog w = .ok (.map (some w.heap.size)) (w.alloc (.map #[] 0)) := by
  exact run_makeMap _ w

theorem PlcO.snocz {base : Nat} {w w9 : World} {b mb : Nat} {sv zv : Value} {sm sz : List Nat} {f : Int → Option (Nat × Nat)} {g n cap : Nat} {ys : List Value} {N : Nat} (h : PlcO base w b mb sv zv sm sz f) (hn : n = sz.length) (hys : ys = sz.map natV ++ [natV N])
    (ho : w9.ownsRow base 3 1 (.slice (some ⟨g, 0, none⟩) (n + 1 : Nat) cap) (n + 1) ys) (hg : w.grownBy w9 zv.ownBlock) (hat : zv.ownBlock = some g ∨ w.heap.size ≤ g) :
    PlcO base (w9.setCell ⟨b, 1, none⟩ (.slice (some ⟨g, 0, none⟩) (n + 1 : Nat) cap)) b mb sv (.slice (some ⟨g, 0, none⟩) (n + 1 : Nat) cap) sm (sz ++ [N]) f ∧ Fr (fun y => y = b ∨ zv.ownBlock = some y) w (w9.setCell ⟨b, 1, none⟩ (.slice (some ⟨g, 0, none⟩) (n + 1 : Nat) cap)) := by
  have s9 : w9.heap[b]? = some (.cells #[sv, zv, .map (some mb)] 124 (0, 0)) := grown_block hg h.blk (own_ne_block h.szo h.blk (by decide))
  have hfr : Fr (fun y => y = b ∨ zv.ownBlock = some y) w (w9.setCell ⟨b, 1, none⟩ (.slice (some ⟨g, 0, none⟩) (n + 1 : Nat) cap)) := ((Fr.refl _ w).grown hg (fun k hk _ => .inr hk)).setCell (.inl rfl) _
  have hne9 : (Value.slice (some ⟨g, 0, none⟩) (n + 1 : Nat) cap).ownBlock ≠ some b := own_ne_block ho s9 (by decide)
  refine ⟨⟨?_, ?_, ?_, ?_, ?_, h.hb, h.hm⟩, hfr⟩
  · rw [heap_setCell_same s9]; rfl
  · refine ownsRow_obj h.smo (fun g' o hg' ho' => hfr.obj ho' ?_)
    rintro (e | e)
    · subst e; exact own_ne_block h.smo h.blk (by decide) hg'
    · exact h.apart _ hg' e
  · rw [List.length_append, ← hn, List.map_append]
    have := ownsRow_setCell_other (a := ⟨b, 1, none⟩) ho hne9 (.slice (some ⟨g, 0, none⟩) (n + 1 : Nat) cap)
    rw [hys] at this
    exact this
  · refine h.map.same (hfr.block mb h.map.lt ?_)
    rintro (e | e)
    · exact h.map_ne h.blk e
    · obtain ⟨_, _, cur, hcur⟩ := own_lt h.szo e
      exact h.map_ne hcur rfl
  · intro g' hg' e
    have : g = g' := by simpa [Value.ownBlock] using e
    subst this
    rcases hat with e2 | e2
    · exact h.apart _ hg' e2
    · have := (own_lt h.smo hg').2.1
      omega

set_option maxRecDepth 100000 in
set_option maxHeartbeats 8000000 in
theorem walk_new (x : Nat) (ds : List (List UInt8)) (w : World) (hix : IdxR w x (bwtOf (rowOf ds))) (hok : okDs ds) :
    Calls Try.prog 59 #[.pointer (some ⟨x, 0, none⟩)] w fun e w' => ∃ b, e = .returned (.tuple #[.pointer (some ⟨b, 0, none⟩), .int .i64 0]) ∧ w.heap.size ≤ b ∧ PlcR w' b (smL ds) (szL ds) (plF (smL ds) (szL ds)) ∧ Below w.heap.size w w' := by
  refine (callsIn_wide (n := 5)).1 ?_
  refine callsIn_of_wp_marks Try.func59 rfl trivial ?_ rfl
  simp only [Try.ntmps59, List.size_toArray, List.length_cons, List.length_nil, Nat.reduceAdd, Nat.reduceSub, Array.replicate_succ, Array.replicate_zero, List.push_toArray, List.append_toArray, List.nil_append, List.cons_append]
  have HIX := Lib.hid hix
  have HOK := Lib.hid hok
  have hdo := Lib.hid (fun W (hW : Below w.heap.size w W) => back_docsN x _ W (hix.later hW))
  rw [count_zero_bwt] at hdo
  obtain ⟨ND, hND⟩ : ∃ ND, ND = ds.length := ⟨_, rfl⟩
  have hNDb : ND ≤ 500 := by rw [hND]; exact hok.1
  rw [← hND] at hdo
  have HND := Lib.hid hND
  clear hix hok hND
  have hmk := run_makeMap_own w
  obtain ⟨wa, hwa⟩ : ∃ wa, wa = (w.alloc (.map #[] 0)).alloc (.cells #[.slice none 0 0, .slice none 0 0, .map (some w.heap.size)] 124) := ⟨_, rfl⟩
  have hba : Below w.heap.size w wa := by rw [hwa]; exact ((Below.refl _ w).alloc (Nat.le_refl _) _).alloc (by simp) _
  have hsa : wa.heap.size = w.heap.size + 2 := by rw [hwa]; simp
  have a1 : wa.heap[w.heap.size + 1]? = some (.cells #[.slice none 0 0, .slice none 0 0, .map (some w.heap.size)] 124 (0, 0)) := by
    rw [hwa]
    have := heap_alloc_new (w.alloc (.map #[] 0)) (.cells #[.slice none 0 0, .slice none 0 0, .map (some w.heap.size)] 124)
    rwa [World.size_alloc] at this
  have am : MapR Try.prog 3 wa w.heap.size 0 (fun _ => none) := by
    rw [hwa]
    exact (MapR.made w Try.prog 3).same (Below.heap_alloc _ _ _ (by simp))
  have hst0 : NwSt w.heap.size w (w.heap.size + 1) w.heap.size ds 0 0 (.slice none 0 0) (.slice none 0 0) wa :=
    ⟨⟨a1, World.ownsRow_nil _ _ _ _, World.ownsRow_nil _ _ _ _, am, fun g h => (by cases h), by omega, Nat.le_refl _⟩, hba⟩
  have HWA := Lib.hid hwa
  have HST0 := Lib.hid hst0
  have HSA := Lib.hid hsa
  clear hwa hba hsa a1 am hst0
  gi_wp2_with fail
  rw [← HWA.out]
  refine ⟨trivial, (callsIn_wide.2 (hdo.out wa HST0.out.2)).mono ?_⟩
  rintro e w1 ⟨rfl, hw1⟩
  have hw2 := hw1.symm
  subst hw2
  clear hmk hdo
  gi_wp2
  refine wpIn_loop (fun a wr => ∃ (j : Nat) (Ds : List Nat) (sv zv : Value) (u5 u6 u7 u8 u9 u18 u19 u20 u21 u22 u23 u24 u25 u26 u27 u28 u29 u30 u31 u32 u33 u34 u35 u36 u37 u38 u39 u40 u41 u42 u43 u44 u45 u46 u47 u48 u49 u50 u51 u52 u53 u54 u55 u56 u57 u58 u59 u60 u61 : Value),
      a = { tmps := #[.pointer (some ⟨x, 0, none⟩), undef, .pointer none, .int .i64 0, .pointer (some ⟨w.heap.size + 1, 0, none⟩), u5, u6, u7, u8, u9, .pointer (some ⟨x, 0, none⟩), .bool false, .map (some w.heap.size), .agg #[.slice none 0 0, .slice none 0 0, .map (some w.heap.size)], .pointer (some ⟨w.heap.size + 1, 0, none⟩), .pointer (some ⟨x, 0, none⟩), .int .i64 (ND : Nat), .int .i64 (j : Nat), u18, u19, u20, u21, u22, u23, u24, u25, u26, u27, u28, u29, u30, u31, u32, u33, u34, u35, u36, u37, u38, u39, u40, u41, u42, u43, u44, u45, u46, u47, u48, u49, u50, u51, u52, u53, u54, u55, u56, u57, u58, u59, u60, u61], defers := marks Ds } ∧
      j ≤ ND ∧ Ds.Nodup ∧ (∀ D, D ∈ Ds → w.heap.size ≤ D ∧ wr.heap[D]? = some (.deferred (some []))) ∧ NwSt w.heap.size w (w.heap.size + 1) w.heap.size ds (cntB (szL ds) j) j sv zv wr)
    (fun a _ => ND - (intOf (a.tmps.getD 17 undef)).toNat) ?h0 ?round
  case h0 =>
    exact ⟨0, [], _, _, _, _, _, _, _, _, _, _, _, _, _, _, _, _, _, _, _, _, _, _, _, _, _, _, _, _, _, _, _, _, _, _, _, _, _, _, _, _, _, _, _, _, _, _, _, _, _, _, _, rfl, Nat.zero_le _, List.nodup_nil, (fun D h => (by cases h)), HST0.out⟩
  case round =>
    clear HST0 HSA HWA
    rintro a wr ⟨j, Ds, sv, zv, u5, u6, u7, u8, u9, u18, u19, u20, u21, u22, u23, u24, u25, u26, u27, u28, u29, u30, u31, u32, u33, u34, u35, u36, u37, u38, u39, u40, u41, u42, u43, u44, u45, u46, u47, u48, u49, u50, u51, u52, u53, u54, u55, u56, u57, u58, u59, u60, u61, rfl, hj, hnd, hDs, hst⟩
    have HNDu := Lib.hid hnd
    have HDS := Lib.hid hDs
    have HST := Lib.hid hst
    have hbs := hst.2.size
    clear hnd hDs hst
    by_cases hlt : j < ND
    · have hjl : j < ds.length := by rw [← HND.out]; exact hlt
      obtain ⟨N, hN⟩ : ∃ N, N = ds[j].length := ⟨_, rfl⟩
      have hNb : N ≤ 2000 := by rw [hN]; exact HOK.out.2.1 _ (List.getElem_mem hjl)
      have hwk := wkS_at ds j hjl N (by omega)
      have hend : rwP ds j N = j := by rw [hN]; exact rwP_end ds j hjl
      rw [hend] at hwk
      have HWK := Lib.hid hwk
      have HEND := Lib.hid hend
      have HN := Lib.hid hN
      clear hwk hend hN
      gi_wp2_with fail
      obtain ⟨w2, hw2⟩ : ∃ w2, w2 = (wr.alloc (.cells #[.int .i64 (j : Nat)] 3)).alloc (.cells #[.slice (some ⟨wr.heap.size, 0, none⟩) 1 1] 73) := ⟨_, rfl⟩
      rw [← hw2]
      refine ⟨trivial, (callsIn_wide.2 (walk_any x (j : Nat) w2)).mono ?_⟩
      rintro e w3 ⟨rfl, hw3⟩
      have hs2 : w2.heap.size = wr.heap.size + 2 := by rw [hw2]; simp
      have hb2 : Below wr.heap.size wr w2 := by rw [hw2]; exact ((Below.refl _ wr).alloc (Nat.le_refl _) _).alloc (by simp) _
      have k0 : w2.heap[wr.heap.size]? = some (.cells #[.int .i64 (j : Nat)] 3 (0, 0)) := by rw [hw2]; exact heap_old (heap_alloc_new wr _)
      have k1 : w2.heap[wr.heap.size + 1]? = some (.cells #[.slice (some ⟨wr.heap.size, 0, none⟩) 1 1] 73 (0, 0)) := by
        rw [hw2]
        have := heap_alloc_new (wr.alloc (.cells #[.int .i64 (j : Nat)] 3)) (.cells #[.slice (some ⟨wr.heap.size, 0, none⟩) 1 1] 73)
        rwa [World.size_alloc] at this
      have hb3 : Below w2.heap.size w2 w3 := by rw [hw3]; exact ((Below.refl _ w2).alloc (Nat.le_refl _) _).alloc (by simp) _
      have hs3 : w3.heap.size = wr.heap.size + 4 := by rw [hw3]; simp [hs2]
      have g0 : w3.heap[w2.heap.size]? = some (.cells #[.pointer (some ⟨x, 0, none⟩)] 45 (0, 0)) := by rw [hw3]; exact heap_old (heap_alloc_new w2 _)
      have g1 : w3.heap[w2.heap.size + 1]? = some (.cells #[.int .i64 (j : Nat)] 3 (0, 0)) := by
        rw [hw3]
        have := heap_alloc_new (w2.alloc (.cells #[.pointer (some ⟨x, 0, none⟩)] 45)) (.cells #[.int .i64 (j : Nat)] 3)
        rwa [World.size_alloc] at this
      have K0 : w3.heap[wr.heap.size]? = some (.cells #[.int .i64 (j : Nat)] 3 (0, 0)) := (hb3.block _ (by omega)).trans k0
      have K1 : w3.heap[wr.heap.size + 1]? = some (.cells #[.slice (some ⟨wr.heap.size, 0, none⟩) 1 1] 73 (0, 0)) := (hb3.block _ (by omega)).trans k1
      have hb23 : Below wr.heap.size wr w3 := hb2.trans (hb3.mono (by omega))
      have hbw3 : Below w.heap.size w w3 := HST.out.2.trans (hb23.mono hbs)
      have hit := walk1_iter (w2.heap.size + 1) w2.heap.size x (bwtOf (rowOf ds)) (j : Nat) N (fun k => (rwP ds j (N - k) : Nat)) (fun y => y < w3.heap.size ∧ y ≠ wr.heap.size ∧ y ≠ wr.heap.size + 1) w3 HWK.out ⟨by omega, by omega, by omega⟩ ⟨by omega, by omega, by omega⟩
        (fun W hW => HIX.out.same (fun y hy => (hW y ⟨by omega, by omega, by omega⟩).trans (hbw3.block y hy))) g1 g0
      have HB23 := Lib.hid hb23
      have HBW3 := Lib.hid hbw3
      have HK0 := Lib.hid K0
      have HK1 := Lib.hid K1
      obtain ⟨G, hG⟩ : ∃ G, G = wr.heap.size := ⟨_, rfl⟩
      rw [← hG] at hit HB23 HK0 HK1 hs3
      obtain ⟨F, hF⟩ : ∃ F : Value, F = .func (.func 111) #[] #[.pointer (some ⟨w2.heap.size + 1, 0, none⟩), .pointer (some ⟨w2.heap.size, 0, none⟩)] := ⟨_, rfl⟩
      have HFn := Lib.hid hF
      have HG := Lib.hid hG
      clear hw2 hw3 hs2 hb2 k0 k1 hb3 g0 g1 K0 K1 hb23 hbw3
      gi_wp2
      rw [← hF, ← hG]
      rw [← hG] at hbs
      clear hF hG
      refine wp_range_outer hit ?hg (enters_of Try.func111 (by kernel_rfl) rfl) (Nat.le_refl _) (fun y => y = G ∨ y = G + 1) ?hRd ?hM0 ?hps ?hArg
        (fun k M W => k ≤ N ∧ ∃ v, ColR 73 3 1 w.heap.size (G + 1) (k + 1) ((rwsD ds j N k).map natV) v M W ∧ Fr (fun y => y = G ∨ y = G + 1) w3 W)
        (fun _ _ _ _ => False)
        ?hI ?hIx ?hI0
        (fun args => { tmps := #[.pointer (some ⟨x, 0, none⟩), undef, .pointer none, .int .i64 0, .pointer (some ⟨w.heap.size + 1, 0, none⟩), .int .i64 (j : Nat), .pointer (some ⟨G + 1, 0, none⟩), args.getD 0 undef, u8, u9, .pointer (some ⟨x, 0, none⟩), .bool false, .map (some w.heap.size), .agg #[.slice none 0 0, .slice none 0 0, .map (some w.heap.size)], .pointer (some ⟨w.heap.size + 1, 0, none⟩), .pointer (some ⟨x, 0, none⟩), .int .i64 (ND : Nat), .int .i64 (j : Nat), .bool true, .int .i64 (j : Nat), .int .i64 (j : Nat), .slice (some ⟨G, 0, none⟩) 1 1, .pointer (some ⟨x, 0, none⟩), .int .i64 (j : Nat), F, args.getD 0 undef, args.getD 1 undef, u27, u28, u29, u30, u31, u32, u33, u34, u35, u36, u37, u38, u39, u40, u41, u42, u43, u44, u45, u46, u47, u48, u49, u50, u51, u52, u53, u54, u55, u56, u57, u58, u59, u60, u61], defers := [] })
        ?hassign ?hbody ?hdone ?hstop
      case hg => exact HFn.out
      case hRd => exact fun b hb => ⟨hb.1, fun h => by rcases h with h | h; exact hb.2.1 h; exact hb.2.2 h, rfl⟩
      case hM0 => rintro b (rfl | rfl) <;> omega
      case hps => rintro k args W _ rfl; rfl
      case hArg => exact fun _ _ _ _ _ _ h _ => h
      case hI => exact fun k M A B ⟨h1, v, h2, h3⟩ hf => ⟨h1, v, h2.fr hf, h3.trans' hf (fun b hb hm => by omega)⟩
      case hIx => exact fun c k M A B h hf => h
      case hI0 =>
        refine ⟨Nat.zero_le _, _, ⟨HK1.out, ⟨by simp [rwsD], .inr ⟨G, 1, _, rfl, by omega, HK0.out, Nat.le_refl _, by decide, rfl, ?_⟩⟩, .inr rfl, fun g hg => ?_⟩, Fr.refl _ _⟩
        · simp [rwsD, natV, HEND.out]
        · left; simpa [Value.ownBlock] using hg.symm
      case hassign =>
        rintro l k args W K _ rfl hK
        gi_wp2
        exact hK
      case hbody =>
        rintro l k M args W hk ⟨h1, v, c1, h4⟩ rfl hl hl2 hnl hrec hM
        obtain ⟨Aa, ca, rfl⟩ := c1.shape
        have v5 := h4.size
        have hbW : w.heap.size ≤ W.heap.size := by omega
        have k1 := c1.cell
        have f1 := c1.free
        have C1 := Lib.hid c1
        have H4 := Lib.hid h4
        have HM := Lib.hid hM
        obtain ⟨rk, hrk⟩ : ∃ rk : Nat, rk = rwP ds j (N - (k + 1)) := ⟨_, rfl⟩
        simp only [← hrk]
        have HRK := Lib.hid hrk
        clear c1 h4 hM hrec hrk
        gi_wp2_with (first
          | (gi_at_builtin; go_must (refine wp_appIn w.heap.size 73 3 (.int .i64 0) 1 8 (.tmp 27) (.tmp 29) rfl rfl Try.underlying73 info_int rfl (by decide) (by decide) (.slice Aa (k + 1 : Nat) ca) (k + 1) ((rwsD ds j N k).map natV) #[.int .i64 (rk : Nat)] rfl rfl C1.out.own rfl (by intro u hu; simp at hu; subst hu; rfl) (by omega) hbW ?_; intro g9 cap9 w9 ho9 hg9 hat9 hgb9 hgl9 hgs9; have s9 := grown_block hg9 C1.out.var (own_ne_block C1.out.own C1.out.var (by decide)); have c9 : w9.cell? ⟨G + 1, 0, none⟩ = some (.slice Aa (k + 1 : Nat) ca) := (by rw [cell_of_block s9]; rfl); have f9 : w9.frozen? ⟨G + 1, 0, none⟩ = false := free_of_block s9; have HO9 := Lib.hid ho9; have HG9 := Lib.hid hg9; have HAT9 := Lib.hid hat9; clear s9 ho9 hg9 hat9)))
        obtain ⟨c10, fr10⟩ := C1.out.snoc (by decide) HO9.out HG9.out HAT9.out hgl9
        have e1 : (rwsD ds j N (k + 1)).map natV = (rwsD ds j N k).map natV ++ #[Value.int .i64 (rk : Nat)].toList := by
          unfold rwsD
          rw [List.range_succ (n := k + 1), List.map_append, List.map_append, HRK.out]; rfl
        rw [← e1] at c10
        exact ⟨_, fr10, fun y hy => grM_ok (M0 := M) (lim := W.heap.size) (fun y hy => ⟨.inl hy, (HM.out y hy).2⟩) (by omega) y hy, by omega, ⟨_, c10⟩, H4.out.col HM.out fr10⟩
      case hdone =>
        rintro D M W ⟨h1, v, c1, h4⟩ hD hnD hKD hM
        obtain ⟨Aa, ca, rfl⟩ := c1.shape
        have hgr : ∃ gr, Aa = some ⟨gr, 0, none⟩ := by
          rcases c1.own.2 with ⟨_, h⟩ | ⟨g, cap, cur, he, _⟩
          · omega
          · injection he with e _ _
            exact ⟨g, e⟩
        obtain ⟨gr, rfl⟩ := hgr
        have k1 := c1.cell
        have v5 := h4.size
        have hplc : PlcO w.heap.size W (w.heap.size + 1) w.heap.size sv zv ((smL ds).take (cntB (szL ds) j)) ((szL ds).take j) (plT (smL ds) (szL ds) (cntB (szL ds) j)) := by
          have h3 := HST.out.1.fr (Fr.of_below (M := fun _ => False) (by have := HB23.out; rw [HG.out] at this; exact this)) (fun y _ h => h)
          refine h3.fr h4 (fun y hy => ?_)
          have := (HST.out.1.lt hy).2
          rw [← HG.out] at this
          omega
        have hbW : Below w.heap.size w W := HBW3.out.trans (h4.below (by omega) (fun b hb => by omega))
        have hgrG : G ≤ gr := by
          have := (hM gr (c1.mrow gr rfl)).1
          omega
        have hzl : ((szL ds).take j).length = j := by rw [List.length_take, szL_length]; omega
        obtain ⟨Az, cz, hz⟩ := own_shape hplc.szo
        rw [hzl] at hz
        subst hz
        have hzo := hplc.szo
        rw [hzl] at hzo
        have c2 : W.cell? ⟨w.heap.size + 1, 1, none⟩ = some (.slice Az j cz) := by rw [cell_of_block hplc.blk]; rfl
        have C1 := Lib.hid c1
        have H4 := Lib.hid h4
        have HKD := Lib.hid hKD
        have HPL := Lib.hid hplc
        have HBW := Lib.hid hbW
        have HZO := Lib.hid hzo
        have HZL := Lib.hid hzl
        have hbW0 : w.heap.size ≤ W.heap.size := by omega
        clear c1 h4 hM hKD hplc hbW hzo hzl
        have hw1 : IntKind.i64.wrap (((N + 1 : Nat) : Int) - 1) = (N : Nat) := by rw [show ((N + 1 : Nat) : Int) - 1 = (N : Nat) from by omega]; exact IntWalk.i64_in _ (by omega)
        have hm1 : ((N : Int) + 1) - 1 = (N : Nat) := by omega
        gi_wp2_with (first
          | (gi_at_builtin; go_must (refine wp_appIn w.heap.size 73 3 (.int .i64 0) 1 8 (.tmp 38) (.tmp 40) rfl rfl Try.underlying73 info_int rfl (by decide) (by decide) (.slice Az j cz) j (((szL ds).take j).map natV) #[.int .i64 (N : Nat)] rfl rfl HZO.out rfl (by intro u hu; simp at hu; subst hu; rfl) (by omega) hbW0 ?_; intro g9 cap9 w9 ho9 hg9 hat9 hgb9 hgl9 hgs9; have s9 := grown_block hg9 HPL.out.blk (own_ne_block HZO.out HPL.out.blk (by decide)); have c9 : w9.cell? ⟨w.heap.size + 1, 1, none⟩ = some (.slice Az j cz) := (by rw [cell_of_block s9]; rfl); have f9 : w9.frozen? ⟨w.heap.size + 1, 1, none⟩ = false := free_of_block s9; have HO9 := Lib.hid ho9; have HG9 := Lib.hid hg9; have HAT9 := Lib.hid hat9; clear s9 ho9 hg9 hat9)))
        obtain ⟨wz, hwz⟩ : ∃ wz, wz = w9.setCell ⟨w.heap.size + 1, 1, none⟩ (.slice (some ⟨g9, 0, none⟩) (j + 1 : Nat) cap9) := ⟨_, rfl⟩
        obtain ⟨hz1, hz2⟩ := HPL.out.snocz (N := N) HZL.out.symm rfl HO9.out HG9.out HAT9.out
        have htk : (szL ds).take (j + 1) = (szL ds).take j ++ [N] := by
          rw [List.take_add_one, List.getElem?_eq_getElem (by rw [szL_length]; exact hjl)]
          simp [szL, HN.out]
        rw [← htk, ← hwz] at hz1
        rw [← hwz] at hz2 ⊢
        have hrow : SlR natV W (.slice (some ⟨gr, 0, none⟩) (N + 1 : Nat) ca) (rwsD ds j N N) := SlR.of_own C1.out.own
        have hzG : ∀ y, (Value.slice Az j cz).ownBlock = some y → y < G := by
          intro y hy
          have := (HST.out.1.lt (y := y) (.inr (.inr (.inr hy)))).2
          rw [HG.out]; exact this
        have hneb : ∀ y, G ≤ y → ¬ (y = w.heap.size + 1 ∨ (Value.slice Az j cz).ownBlock = some y) := by
          intro y hy h
          rcases h with h | h
          · have := (Array.getElem?_eq_some_iff.1 HST.out.1.blk).1
            have := HG.out
            omega
          · have := hzG y h
            omega
        have hrv : wz.heap[G + 1]? = W.heap[G + 1]? := hz2.block _ ((Array.getElem?_eq_some_iff.1 C1.out.var).1) (hneb _ (by omega))
        have hrg : wz.heap[gr]? = W.heap[gr]? := hz2.block _ (own_lt C1.out.own rfl).2.1 (hneb _ hgrG)
        have hmk : ∀ D', D' ∈ D :: Ds → w.heap.size ≤ D' ∧ wz.heap[D']? = some (.deferred (some [])) := by
          intro D' hD'
          have hold : ∀ y : Nat, W.heap[y]? = some (Obj.deferred (some [])) → wz.heap[y]? = some (Obj.deferred (some [])) := by
            intro y hy
            refine hz2.obj hy ?_
            have := HPL.out.mark hy
            rintro (h | h)
            · exact this (.inl h)
            · exact this (.inr (.inr (.inr h)))
          rcases List.mem_cons.1 hD' with rfl | h
          · exact ⟨by omega, hold _ HKD.out⟩
          · obtain ⟨h1, h2⟩ := HDS.out D' h
            have h3 := (Array.getElem?_eq_some_iff.1 h2).1
            rw [← HG.out] at h3
            exact ⟨h1, hold _ ((H4.out.obj ((HB23.out.block D' h3).trans h2) (by omega)))⟩
        have hndD : (D :: Ds).Nodup := by
          refine List.nodup_cons.2 ⟨fun h => ?_, HNDu.out⟩
          have h3 := (Array.getElem?_eq_some_iff.1 (HDS.out D h).2).1
          rw [← HG.out] at h3
          omega
        have hbz : Below w.heap.size w wz := HBW.out.trans (hz2.below (by omega) (fun b hb => by
          rcases hb with hb | hb
          · omega
          · exact (own_lt HZO.out hb).1))
        have hsvr : sv.ownBlock ≠ some gr := by
          intro h
          have := (HST.out.1.lt (y := gr) (.inr (.inr (.inl h)))).2
          rw [← HG.out] at this
          omega
        have hzs := hz2.size
        have HROW := Lib.hid hrow
        have HZ1 := Lib.hid hz1
        have HRV := Lib.hid hrv
        have HRG := Lib.hid hrg
        have HMK := Lib.hid hmk
        have HNDD := Lib.hid hndD
        have HBZ := Lib.hid hbz
        have HSVR := Lib.hid hsvr
        have HVAR := Lib.hid C1.out.var
        have hlb : w.heap.size + 1 < G := by
          have := (Array.getElem?_eq_some_iff.1 HST.out.1.blk).1
          have := HG.out
          omega
        clear hwz hz1 hz2 htk hrow hzG hneb hrv hrg hmk hndD hbz hsvr HPL HZO HO9 HG9 HAT9 hgs9 hgb9 hgl9 c9 f9 c2 k1 C1 H4
        refine wpIn_loop (fun a wi => ∃ (t : Nat) (sv zv : Value) (u7 u25 u26 u27 u28 u29 u30 u31 u32 u33 u34 u35 u36 u37 u38 u39 u40 u41 u42 u43 u44 u45 u46 u47 u48 u49 u50 u51 u52 u53 u54 u55 u56 u57 u58 u59 u60 u61 : Value),
            a = { tmps := #[.pointer (some ⟨x, 0, none⟩), undef, .pointer none, .int .i64 0, .pointer (some ⟨w.heap.size + 1, 0, none⟩), .int .i64 (j : Nat), .pointer (some ⟨G + 1, 0, none⟩), u7, .int .i64 (N : Nat), .int .i64 ((32 * t : Nat) : Int), .pointer (some ⟨x, 0, none⟩), .bool false, .map (some w.heap.size), .agg #[.slice none 0 0, .slice none 0 0, .map (some w.heap.size)], .pointer (some ⟨w.heap.size + 1, 0, none⟩), .pointer (some ⟨x, 0, none⟩), .int .i64 (ND : Nat), .int .i64 (j : Nat), .bool true, .int .i64 (j : Nat), .int .i64 (j : Nat), .slice (some ⟨G, 0, none⟩) 1 1, .pointer (some ⟨x, 0, none⟩), .int .i64 (j : Nat), F, u25, u26, u27, u28, u29, u30, u31, u32, u33, u34, u35, u36, u37, u38, u39, u40, u41, u42, u43, u44, u45, u46, u47, u48, u49, u50, u51, u52, u53, u54, u55, u56, u57, u58, u59, u60, u61], defers := { target := .collected D, args := #[] } :: marks Ds } ∧
            t ≤ N / 32 + 1 ∧ NwSt w.heap.size w (w.heap.size + 1) w.heap.size ds (cntB (szL ds) j + t) (j + 1) sv zv wi ∧ sv.ownBlock ≠ some gr ∧ wi.heap[G + 1]? = W.heap[G + 1]? ∧ wi.heap[gr]? = W.heap[gr]? ∧ W.heap.size ≤ wi.heap.size ∧
            (∀ D', D' ∈ D :: Ds → w.heap.size ≤ D' ∧ wi.heap[D']? = some (.deferred (some []))))
          (fun a _ => N + 32 - (intOf (a.tmps.getD 9 undef)).toNat) ?h02 ?round2
        case h02 =>
          exact ⟨0, sv, _, _, _, _, _, _, _, _, _, _, _, _, _, _, _, _, _, _, _, _, _, _, _, _, _, _, _, _, _, _, _, _, _, _, _, _, _, _, _, rfl, Nat.zero_le _, ⟨HZ1.out, HBZ.out⟩, HSVR.out, HRV.out, HRG.out, by omega, HMK.out⟩
        case round2 =>
          rintro a wi ⟨t, sv, zv, u7, u25, u26, u27, u28, u29, u30, u31, u32, u33, u34, u35, u36, u37, u38, u39, u40, u41, u42, u43, u44, u45, u46, u47, u48, u49, u50, u51, u52, u53, u54, u55, u56, u57, u58, u59, u60, u61, rfl, ht, hst, hsvr, hrv, hrg, hwi, hmk⟩
          clear HZ1 HBZ HSVR HRV HRG HMK
          have HST2 := Lib.hid hst
          have HSVR := Lib.hid hsvr
          have HRV := Lib.hid hrv
          have HRG := Lib.hid hrg
          have HMK := Lib.hid hmk
          clear hst hsvr hrv hrg hmk
          obtain ⟨off, hoff⟩ : ∃ off, off = 32 * t := ⟨_, rfl⟩
          rw [← hoff]
          have HOFF := Lib.hid hoff
          by_cases hle : off ≤ N
          · obtain ⟨K, hK⟩ : ∃ K, K = N - off := ⟨_, rfl⟩
            obtain ⟨n, hn⟩ : ∃ n, n = cntB (szL ds) j + t := ⟨_, rfl⟩
            have hoj : off ≤ ds[j].length := by rw [← HN.out]; exact hle
            have hRlt := rwP_lt ds j hjl off hoj
            have hrb := HOK.out.2.2
            have hsg : (smL ds)[n]? = some (rwP ds j off) := by rw [hn, hoff]; exact smL_get ds j t hjl (by rw [← hoff]; exact hoj)
            have hog : (offL (szL ds))[n]? = some (j, off) := by
              rw [hn, hoff]
              exact offL_get (szL ds) j t (by rw [szL_length]; exact hjl) (by rw [szL_get ds j hjl]; omega)
            have hpt := plT_succ (smL ds) (szL ds) n (rwP ds j off) (j, off) hsg hog
            have hst1 : (smL ds).take (n + 1) = (smL ds).take n ++ [rwP ds j off] := by rw [List.take_add_one, hsg]; rfl
            have hnb : ((smL ds).take n).length ≤ 1000000 := by
              rw [List.length_take, smL_length]
              have := cntB_le ds ds.length (Nat.le_refl _)
              have := startAt_le ds ds.length (Nat.le_refl _)
              omega
            have c1 : wi.cell? ⟨G + 1, 0, none⟩ = some (.slice (some ⟨gr, 0, none⟩) (N + 1 : Nat) ca) := by rw [cell_of_block (HRV.out.trans HVAR.out)]; rfl
            have hKr : K < (rwsD ds j N N).length := by simp [rwsD]; omega
            obtain ⟨ad, ead, hcc⟩ := HROW.out.at_ K hKr
            cases ead
            have hcv : natV ((rwsD ds j N N)[K]'hKr) = .int .i64 (rwP ds j off : Nat) := by
              simp only [rwsD, List.getElem_map, List.getElem_range, natV]
              rw [hK, show N - (N - off) = off from by omega]
            rw [hcv] at hcc
            have hcc' : wi.cell? ((⟨gr, 0, none⟩ : Addr).add K) = some (.int .i64 (rwP ds j off : Nat)) := by
              rw [← hcc]
              refine World.cell?_of_block (w := W) ?_
              rw [show ((⟨gr, 0, none⟩ : Addr).add K).block = gr from by unfold Addr.add; split <;> rfl]
              exact HRG.out
            rw [addr_zero] at hcc'
            obtain ⟨R, hR⟩ : ∃ R, R = rwP ds j off := ⟨_, rfl⟩
            rw [← hn] at HST2
            rw [← hR] at hRlt hpt hst1 hcc'
            have hput := Lib.hid (plc_put w.heap.size (w.heap.size + 1) w.heap.size sv zv ((smL ds).take n) ((szL ds).take (j + 1)) (plT (smL ds) (szL ds) n) R j off wi HST2.out.1 (by omega) hnb (by omega))
            rw [← hpt, ← hst1] at hput
            have HNn := Lib.hid hn
            have hm1 : (N : Int) - (off : Int) = (K : Nat) := by omega
            have hwm : IntKind.i64.wrap ((K : Nat) : Int) = (K : Nat) := IntWalk.i64_in _ (by omega)
            have hwo : IntKind.i64.wrap ((off : Int) + 32) = (off : Int) + 32 := IntWalk.i64_in _ (by omega)
            have hKl : (K : Int) < (N : Int) + 1 := by omega
            have hKl2 : K < N + 1 := by omega
            clear hcc hcv hK hn hR hpt hst1 hsg hog hnb hoff hrb hoj hRlt
            gi_wp2_with (refine ⟨trivial, ?_⟩; gi_at_call 88; go_must (refine (callsIn_wide.2 hput.out).mono ?_; rintro e w8 ⟨⟨v8, rfl⟩, sv8, hp8, hf8, ha8⟩; have HP8 := Lib.hid hp8; have HF8 := Lib.hid hf8; have HA8 := Lib.hid ha8; clear hp8 hf8 ha8))
            have hsz8 := HF8.out.size
            have hne8 : ∀ y, G ≤ y → (sv.ownBlock ≠ some y) → ¬ (y = w.heap.size + 1 ∨ y = w.heap.size ∨ sv.ownBlock = some y) := by
              rintro y hy hs (h | h | h)
              · omega
              · omega
              · exact hs h
            have hsvG : sv.ownBlock ≠ some (G + 1) := own_ne_block HST2.out.1.smo (HRV.out.trans HVAR.out) (by decide)
            have hgl := (Array.getElem?_eq_some_iff.1 (HRV.out.trans HVAR.out)).1
            have hgl2 : gr < wi.heap.size := World.block_lt_of_cell? wi ⟨gr, K, none⟩ hcc'
            have hoo := HOFF.out
            have e9 : (off : Int) + 32 = ((32 * (t + 1) : Nat) : Int) := by omega
            rw [e9]
            refine ⟨⟨t + 1, sv8, zv, _, _, _, _, _, _, _, _, _, _, _, _, _, _, _, _, _, _, _, _, _, _, _, _, _, _, _, _, _, _, _, _, _, _, _, _, _, _, rfl, by omega, ⟨by rw [show cntB (szL ds) j + (t + 1) = n + 1 from by rw [HNn.out]; omega]; exact HP8.out, HST2.out.2.trans (HF8.out.below (by omega) (fun b hb => ?_))⟩, ?_, ?_, ?_, by omega, fun D' hD' => ⟨(HMK.out D' hD').1, ?_⟩⟩, by simp [intOf]; omega⟩
            · exact (HST2.out.1.lt (y := b) (by
                rcases hb with hb | hb | hb
                · exact .inl hb
                · exact .inr (.inl hb)
                · exact .inr (.inr (.inl hb)))).1
            · intro h
              rcases HA8.out with h2 | ⟨g, h2, h3⟩
              · exact HSVR.out (h2.symm.trans h)
              · rw [h2] at h
                cases h
                omega
            · exact (HF8.out.block _ hgl (hne8 _ (by omega) hsvG)).trans HRV.out
            · exact (HF8.out.block _ hgl2 (hne8 _ hgrG HSVR.out)).trans HRG.out
            · refine HF8.out.obj (HMK.out D' hD').2 ?_
              have := HST2.out.1.mark (HMK.out D' hD').2
              rintro (h | h | h)
              · exact this (.inl h)
              · exact this (.inr (.inl h))
              · exact this (.inr (.inr (.inl h)))
          · have hex : cntB (szL ds) (j + 1) = cntB (szL ds) j + t := by
              simp only [cntB]
              rw [szL_get ds j hjl, ← HN.out]
              omega
            have HEX := Lib.hid hex
            have hno : decide ((off : Int) ≤ (N : Int)) = false := by simp; omega
            clear hoff hex
            gi_wp2
            refine ⟨⟨j + 1, D :: Ds, sv, zv, _, _, _, _, _, _, _, _, _, _, _, _, _, _, _, _, _, _, _, _, _, _, _, _, _, _, _, _, _, _, _, _, _, _, _, _, _, _, _, _, _, _, _, _, _, _, _, _, _, rfl, by omega, HNDD.out, HMK.out, by rw [HEX.out]; exact HST2.out⟩, by simp [intOf]; omega⟩
      case hstop => exact fun D c k M W hk h => h.elim
    · obtain rfl : j = ND := by omega
      gi_wp2
      have e1 : (smL ds).take (cntB (szL ds) j) = smL ds := List.take_of_length_le (by rw [smL_length, ← HND.out]; exact Nat.le_refl _)
      have e2 : (szL ds).take j = szL ds := List.take_of_length_le (by rw [szL_length, ← HND.out]; exact Nat.le_refl _)
      have e3 := plT_all (smL ds) (szL ds) (cntB (szL ds) j) (by rw [smL_length, ← HND.out]; exact Nat.le_refl _)
      have hfin := HST.out.1
      rw [e1, e2, e3] at hfin
      refine leaves_marks Ds wr HNDu.out (fun D hD => (HDS.out D hD).2) (v := .tuple #[.pointer (some ⟨w.heap.size + 1, 0, none⟩), .int .i64 0]) (fun W2 => (results_tmp2 rfl _ _ W2).trans rfl) (fun W4 hW4 => ?_)
      refine ⟨w.heap.size + 1, rfl, by omega, (hfin.fr hW4 (fun y hy h => hfin.mark (HDS.out y h).2 hy)).plcR, HST.out.2.trans (hW4.below hbs (fun D hD => (HDS.out D hD).1))⟩
end Go.Proofs.Ytinlmodkdjpocaa
