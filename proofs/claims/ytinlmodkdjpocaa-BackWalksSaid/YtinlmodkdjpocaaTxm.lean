/- the document's answer: Strings, Find. -/
import Derived.Test.YtinlmodkdjpocaaTxl
set_option linter.unusedVariables false
namespace Go.Proofs.Ytinlmodkdjpocaa
open Go.RowKit Go.Shelf

theorem own_base {w : World} {base s n : Nat} {e : TypeId} {v : Value} {xs : List Value} (h : w.ownsRow base e s v n xs) {g : Nat} (hg : v.ownBlock = some g) : base ≤ g := by
  rcases h.2 with ⟨rfl, -⟩ | ⟨g', cap, cur, rfl, hb, -⟩
  · cases hg
  · cases hg; exact hb
theorem own_form {w : World} {base s n : Nat} {e : TypeId} {v : Value} {xs : List Value} (h : w.ownsRow base e s v n xs) : ∃ A c, v = .slice A n c := by
  rcases h.2 with ⟨rfl, h0⟩ | ⟨g, cap, cur, rfl, _⟩
  · exact ⟨none, 0, by rw [h0]⟩
  · exact ⟨_, _, rfl⟩
theorem info_str : (Try.prog.info? 9).map (fun i => (i.zero, i.size, i.bytes)) = some (some (.string ⟨#[]⟩), 1, 16) := by kernel_rfl

set_option maxRecDepth 100000 in
set_option maxHeartbeats 1000000 in
theorem ref_strings (ds : List (List UInt8)) (v : Value) (w : World) (hd : DocsR w v ds) (hb : ds.length ≤ 1000000) :
    Calls Try.prog 28 #[v] w fun e w' => ∃ v', e = .returned v' ∧ SlR strV w' v' ds ∧ Below w.heap.size w w' := by
  obtain ⟨A, c, rfl, h1, h2, -⟩ := hd.form
  have HD := Lib.hid hd
  clear hd
  go_enter Try.func28, Try.ntmps28
  go_wp2
  go_loopw [3, 4] (fun ov iv wr => ∃ k : Nat, k ≤ ds.length ∧ iv = .int .i64 k ∧ wr.ownsRow w.heap.size 9 1 ov k ((ds.take k).map strV) ∧ Below w.heap.size w wr) (fun _ iv _ => ds.length - (intOf iv).toNat)
  case atStart => exact ⟨0, Nat.zero_le _, rfl, World.ownsRow_nil _ _ _ _, Below.refl _ _⟩
  case round =>
    obtain ⟨k, hk, rfl, ho, hbe⟩ := hrel
    have hlen : (ds.take k).length = k := by simp; omega
    obtain ⟨Ao, co, rfl⟩ := own_form ho
    by_cases hlt : k < ds.length
    · obtain ⟨ad, B, c', rfl, hc, hs⟩ := HD.out.at_ k hlt
      have hcw : wr.cell? (ad.add k) = some (.slice B ds[k].length c') := (hbe.cell (World.block_lt_of_cell? w _ hc)).trans hc
      have hcv := conv_back wr _ _ (hs.later hbe)
      have HO := Lib.hid ho
      have HB := Lib.hid hbe
      have hsz := hbe.size
      have HT : Hid ((ds.take (k + 1)).map strV = (ds.take k).map strV ++ [strV ds[k]]) := Lib.hid (by rw [List.take_succ_eq_append_getElem hlt, List.map_append]; rfl)
      clear hs hc ho hbe
      simp only [strV] at hcv HT
      generalize (⟨ds[k].toArray⟩ : ByteArray) = X at *
      go_wp2_with (first
        | (at_builtin; refine wp_app w.heap.size 37 9 (.string ⟨#[]⟩) 1 16 (.tmp 11) (.tmp 17) rfl rfl Try.underlying37 info_str rfl (by decide) (by decide) (.slice Ao k co) k ((ds.take k).map strV) #[.string X] rfl rfl HO.out rfl (by intro u hu; simp at hu; subst hu; rfl) (by omega) hsz ?_; intro g cap w9 ho9 hg9 hat9 hgb9 hgl9 hgs9; have HO9 := Lib.hid ho9; have HG9 := Lib.hid hg9; clear ho9 hg9 hat9))
      go_roundw
      case rel => exact ⟨k + 1, by omega, by go_num, by rw [HT.out]; exact HO9.out, HB.out.grown HG9.out hsz (fun g hg => own_base HO.out hg)⟩
      case measure => simp [intOf]; omega
    · have hk' : k = ds.length := by omega
      subst hk'
      rw [List.take_length] at ho
      have HO := Lib.hid ho
      have HB := Lib.hid hbe
      clear ho hbe
      go_wp2
      go_ret
      exact ⟨_, rfl, SlR.of_own HO.out, HB.out⟩

/-- the hits that the document's Find has found so far: those of the first i documents, and those of the i-th before place k -/
def refAcc (p : List UInt8) (ds : List (List UInt8)) (i k : Nat) : List (Nat × Nat) := hits p (ds.take i) ++ ((List.range k).filter (Lib.occAt (ds.getD i []) p)).map fun a => (i, a)
theorem refAcc_zero (p : List UInt8) (ds : List (List UInt8)) (i : Nat) : refAcc p ds i 0 = hits p (ds.take i) := by simp [refAcc]
theorem refAcc_yes (p : List UInt8) (ds : List (List UInt8)) (i k : Nat) (h : Lib.occAt (ds.getD i []) p k = true) : refAcc p ds i (k + 1) = refAcc p ds i k ++ [(i, k)] := by
  simp only [refAcc, List.range_succ, List.filter_append, List.filter_cons, List.filter_nil, h, if_true, List.map_append, List.append_assoc]; simp
theorem refAcc_no (p : List UInt8) (ds : List (List UInt8)) (i k : Nat) (h : Lib.occAt (ds.getD i []) p k = false) : refAcc p ds i (k + 1) = refAcc p ds i k := by
  simp only [refAcc, List.range_succ, List.filter_append, List.filter_cons, List.filter_nil, h]; simp
theorem refAcc_done (p : List UInt8) (ds : List (List UInt8)) (i k : Nat) (hp : p ≠ []) (hi : i < ds.length) (hk : k ≤ ds[i].length + 1) (hd : ds[i].length < k + p.length) : refAcc p ds i k = refAcc p ds (i + 1) 0 := by
  rw [refAcc_zero, hits_take_succ p ds i hi, refAcc]
  have e : ds.getD i [] = ds[i] := by simp [List.getD, hi]
  rw [e, occ, if_neg hp, occF, List.range_eq_range']
  congr 2
  rw [show ds[i].length + 1 - 0 = k + (ds[i].length + 1 - k) from by omega, ← List.range'_append_1, List.filter_append]
  have h2 : (List.range' (0 + k) (ds[i].length + 1 - k)).filter (Lib.occAt ds[i] p) = [] := by
    rw [List.filter_eq_nil_iff]
    intro x hx hb
    rw [List.mem_range'_1] at hx
    have := occAt_len hb
    omega
  rw [h2, List.append_nil]
theorem refAcc_end (p : List UInt8) (ds : List (List UInt8)) : refAcc p ds ds.length 0 = hits p ds := by rw [refAcc_zero, List.take_length]
theorem hits_empty (ds : List (List UInt8)) : hits [] ds = [] := by
  have h : ∀ i (ds : List (List UInt8)), hitsF [] i ds = [] := by
    intro i ds
    induction ds generalizing i with
    | nil => rfl
    | cons d ds ih => simp [hitsF, occ, ih]
  exact h 0 ds
/-- at place k the text stands iff the piece there is it -/
theorem occAt_piece (d p : List UInt8) (k : Nat) (h : k + p.length ≤ d.length) : Lib.occAt d p k = decide ((d.drop k).take p.length = p) := by
  unfold Lib.occAt
  rw [Bool.eq_iff_iff, List.isPrefixOf_iff_prefix, decide_eq_true_eq]
  constructor
  · rintro ⟨t, ht⟩
    rw [← ht]; simp
  · intro h'
    have e := List.take_append_drop p.length (d.drop k)
    rw [h'] at e
    exact ⟨(d.drop k).drop p.length, e⟩

theorem str_piece (d p : List UInt8) (k : Nat) (h : k + p.length ≤ d.length) (W : World) :
    (Instr.slice 9 (.string ⟨d.toArray⟩) (some (.int .i64 (k : Nat))) (some (.int .i64 ((k : Int) + (p.length : Nat)))) none).run Try.prog W = .ok (.string ⟨((d.drop k).take p.length).toArray⟩) W := by
  have hsz : (⟨d.toArray⟩ : ByteArray).size = d.length := by simp [ByteArray.size]
  rw [run_slice_string W 9 ⟨d.toArray⟩ .i64 .i64 k ((k : Int) + (p.length : Nat)) Try.underlying9 (by omega) (by omega) (by rw [hsz]; omega)]
  rw [ByteArray.extract_mk, show ((k : Int) + (p.length : Nat)).toNat - (k : Int).toNat = p.length from by omega, Int.toNat_natCast]

set_option maxRecDepth 100000 in
set_option maxHeartbeats 1000000 in
/-- the document's Find: all hits, in order -/
theorem ref_find (ds : List (List UInt8)) (v : Value) (p : List UInt8) (w : World) (hd : SlR strV w v ds) (hb : (rowOf ds).length ≤ 1000000) (hp : p.length ≤ 1000000) :
    Calls Try.prog 27 #[v, strV p] w fun e w' => ∃ v', e = .returned v' ∧ HitsR w' v' (hits p ds) ∧ Below w.heap.size w w' := by
  have hbl : ds.length ≤ 1000000 := by have := rowLen_eq ds; omega
  have hone : ∀ i (h : i < ds.length), ds[i].length ≤ 1000000 := fun i h => by
    have h1 := startAt_le ds (i + 1) (by omega)
    rw [startAt_succ ds i h] at h1
    omega
  have hhl := hits_length p ds
  obtain ⟨A, c, rfl, h1, h2, -⟩ := hd.form
  have HD := Lib.hid hd
  have HON := Lib.hid hone
  clear hd hone
  by_cases hp0 : p = []
  · subst hp0
    rw [hits_empty]
    simp only [strV]
    go_enter Try.func27, Try.ntmps27
    go_wp2
    go_loop [5, 6] (fun ov iv => ov = .slice none 0 0 ∧ iv = .int .i64 0) (fun _ _ => 1)
    case atStart => exact ⟨rfl, rfl⟩
    case round =>
      obtain ⟨rfl, rfl⟩ := hrel
      go_wp2
      all_goals
        go_ret
        exact ⟨_, rfl, ⟨none, 0, rfl, Nat.le_refl 0, by omega, .inl rfl⟩, Below.refl _ _⟩
  have hplen : 0 < p.length := List.length_pos_iff.2 hp0
  have hpe : p.isEmpty = false := by simpa using hp0
  simp only [strV]
  go_enter Try.func27, Try.ntmps27
  go_wp2
  go_loopw [5, 6] (fun ov iv wr => ∃ i : Nat, i ≤ ds.length ∧ iv = .int .i64 i ∧ wr.ownsRow w.heap.size 77 2 ov (refAcc p ds i 0).length (flatH (refAcc p ds i 0)) ∧ Below w.heap.size w wr) (fun _ iv _ => ds.length - (intOf iv).toNat)
  case atStart => exact ⟨0, Nat.zero_le _, rfl, by rw [refAcc_zero]; exact World.ownsRow_nil _ _ _ _, Below.refl _ _⟩
  case round =>
    obtain ⟨i, hi, rfl, ho, hbe⟩ := hrel
    by_cases hlt : i < ds.length
    · have HO := Lib.hid ho
      have HB := Lib.hid hbe
      have hli := HON.out i hlt
      clear ho hbe
      obtain ⟨ad, rfl, hc⟩ := HD.out.at_ i hlt
      have hcw : wr.cell? (ad.add i) = some (.string ⟨ds[i].toArray⟩) := (HB.out.cell (World.block_lt_of_cell? w _ hc)).trans hc
      go_wp2
      go_loopw [5, 7] (fun ov kv wr => ∃ k : Nat, k ≤ ds[i].length + 1 ∧ kv = .int .i64 k ∧ wr.ownsRow w.heap.size 77 2 ov (refAcc p ds i k).length (flatH (refAcc p ds i k)) ∧ Below w.heap.size w wr) (fun _ kv _ => ds[i].length + 1 - (intOf kv).toNat)
      case atStart => exact ⟨0, Nat.zero_le _, rfl, HO.out, HB.out⟩
      case round =>
        clear HO HB hcw
        obtain ⟨k, hk, rfl, ho, hbe⟩ := hrel
        have hcw : wr.cell? (ad.add i) = some (.string ⟨ds[i].toArray⟩) := (hbe.cell (World.block_lt_of_cell? w _ hc)).trans hc
        obtain ⟨Ao, co, rfl⟩ := own_form ho
        have HO := Lib.hid ho
        have HB := Lib.hid hbe
        have hsz := hbe.size
        clear ho hbe
        have hgd : ds.getD i [] = ds[i] := by simp [List.getD, hlt]
        have HGD := Lib.hid hgd
        have hst := startAt_le ds (i + 1) (by omega)
        rw [startAt_succ ds i hlt] at hst
        have hacc : (refAcc p ds i k).length ≤ 1000000 := by
          have h1 := hits_length p (ds.take i)
          have h2 := List.length_filter_le (Lib.occAt (ds.getD i []) p) (List.range k)
          have h3 : (refAcc p ds i k).length = (hits p (ds.take i)).length + ((List.range k).filter (Lib.occAt (ds.getD i []) p)).length := by simp [refAcc]
          rw [List.length_range] at h2
          unfold startAt at hst
          omega
        clear hgd hst
        have hsd : (⟨ds[i].toArray⟩ : ByteArray).size = ds[i].length := by simp [ByteArray.size]
        by_cases hin : k + p.length ≤ ds[i].length
        · have hsl := fun W => str_piece ds[i] p k hin W
          have hpc := occAt_piece ds[i] p k hin
          cases hocc : Lib.occAt ds[i] p k with
          | true =>
            have HT : Hid (flatH (refAcc p ds i (k + 1)) = flatH (refAcc p ds i k) ++ [.int .i64 (i : Nat), .int .i64 (k : Nat)]) := Lib.hid (by rw [refAcc_yes p ds i k (by rw [HGD.out]; exact hocc), flatH_snoc]; rfl)
            have HL : Hid ((refAcc p ds i (k + 1)).length = (refAcc p ds i k).length + 1) := Lib.hid (by rw [refAcc_yes p ds i k (by rw [HGD.out]; exact hocc)]; simp)
            rw [hocc] at hpc
            have hcmp : (ds[i].drop k).take p.length = p := by simpa using hpc.symm
            rw [hcmp] at hsl
            clear hpc hcmp hocc
            generalize hR : (refAcc p ds i k).length = R at *
            have HR := Lib.hid hR
            clear hR
            go_wp2_with (first
              | (at_builtin; refine wp_app w.heap.size 32 77 (.agg #[.int .i64 0, .int .i64 0]) 2 16 (.tmp 42) (.tmp 46) rfl rfl Try.underlying32 info_hit rfl (by decide) (by decide) (.slice Ao R co) R (flatH (refAcc p ds i k)) #[.int .i64 (i : Nat), .int .i64 (k : Nat)] rfl rfl HO.out rfl (by intro u hu; simp at hu; rcases hu with rfl | rfl <;> rfl) (by omega) hsz ?_; intro g cap w9 ho9 hg9 hat9 hgb9 hgl9 hgs9; have HO9 := Lib.hid ho9; have HG9 := Lib.hid hg9; clear ho9 hg9 hat9))
            go_roundw
            case rel => exact ⟨k + 1, by omega, by go_num, by rw [HT.out, HL.out]; exact HO9.out, HB.out.grown HG9.out hsz (fun g hg => own_base HO.out hg)⟩
            case measure => simp [intOf]; omega
          | false =>
            have HT : Hid (refAcc p ds i (k + 1) = refAcc p ds i k) := Lib.hid (refAcc_no p ds i k (by rw [HGD.out]; exact hocc))
            rw [hocc] at hpc
            have hcmp : ¬ (ds[i].drop k).take p.length = p := by simpa using hpc.symm
            generalize hpce : (ds[i].drop k).take p.length = pc at *
            have hcmp2 : (pc == p) = false := by simpa using hcmp
            clear hpc hocc hpce
            generalize hR : (refAcc p ds i k).length = R at *
            have HR := Lib.hid hR
            clear hR
            go_wp2
            go_roundw
            case rel => exact ⟨k + 1, by omega, by go_num, by rw [HT.out, HR.out]; exact HO.out, HB.out⟩
            case measure => simp [intOf]; omega
        · have HT : Hid (refAcc p ds i k = refAcc p ds (i + 1) 0) := Lib.hid (refAcc_done p ds i k hp0 hlt hk (by omega))
          generalize hR : (refAcc p ds i k).length = R at *
          have HR := Lib.hid hR
          clear hR
          go_wp2
          go_roundw
          case rel => exact ⟨i + 1, by omega, by go_num, by rw [← HT.out, HR.out]; exact HO.out, HB.out⟩
          case measure => simp [intOf]; omega
    · have hi' : i = ds.length := by omega
      subst hi'
      rw [refAcc_end] at ho
      have HO := Lib.hid ho
      have HB := Lib.hid hbe
      clear ho hbe
      go_wp2
      go_ret
      exact ⟨_, rfl, HitsR.of_own HO.out, HB.out⟩
end Go.Proofs.Ytinlmodkdjpocaa
