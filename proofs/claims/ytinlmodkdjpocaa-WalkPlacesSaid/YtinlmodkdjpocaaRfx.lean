/- the document: Range. the document: Len, SameSyms. the document: SameInts, SameTexts at rows that are the same. -/
import Derived.Test.YtinlmodkdjpocaaPlm
import Derived.Test.YtinlmodkdjpocaaBna
set_option linter.unusedVariables false
namespace Go.Proofs.Ytinlmodkdjpocaa
open Go.RowKit Go.Shelf

theorem toList_top (X : ByteArray) (k : Nat) : (X.extract 0 k).toList = X.toList.take k := by
  cases X with
  | mk D =>
    rw [ByteArray.toList_eq, ByteArray.toList_eq, ByteArray.extract_mk]
    simp
theorem size_toList (X : ByteArray) : X.size = X.toList.length := by
  rw [ByteArray.toList_eq, Array.length_toList]; rfl

set_option maxRecDepth 100000 in
set_option maxHeartbeats 4000000 in
theorem ref_range (ds : List (List UInt8)) (hs : List (Nat × Nat)) (dv rv : Value) (p : List UInt8) (w : World) (hd : SlR strV w dv ds) (hr : HitsR w rv hs) (hrows : IsRows ds hs) (hb : (rowOf ds).length ≤ 1000000) (hpl : p.length ≤ 1000000) :
    Calls Try.prog 54 #[dv, rv, strV p] w fun e w' => e = .returned (.tuple #[.int .i64 (rangeL (bwtOf (rowOf ds)) (upS' p)).1, .int .i64 (rangeL (bwtOf (rowOf ds)) (upS' p)).2]) ∧ ∃ q, w' = w.drewN q := by
  have hord := rangeL_order (bwtOf (rowOf ds)) (upS' p)
  have hrg := rangeH hrows p
  obtain ⟨rg, hrge⟩ : ∃ rg, rg = rangeL (bwtOf (rowOf ds)) (upS' p) := ⟨_, rfl⟩
  rw [← hrge] at hord hrg ⊢
  have hln : hs.length ≤ 1000000 := by rw [hrows.length]; exact hb
  have HDS := Lib.hid (dsOk_row ds hb)
  obtain ⟨A, c, rfl, h1, h2, -⟩ := hd.form
  obtain ⟨B, c', rfl, h3, h4, -⟩ := id hr
  have HD := Lib.hid hd
  have HH := Lib.hid hr
  have HRW := Lib.hid hrows
  have HRG := Lib.hid hrg
  have HORD := Lib.hid hord
  clear hd hr hrows hrg hord hrge
  simp only [strV]
  have hpt : (⟨p.toArray⟩ : ByteArray).toList = p := ByteArray.toList_mk p
  have hps : (⟨p.toArray⟩ : ByteArray).size = p.length := by simp [ByteArray.size]
  obtain ⟨PB, hPB⟩ : ∃ PB, PB = (⟨p.toArray⟩ : ByteArray) := ⟨_, rfl⟩
  rw [← hPB] at hpt hps ⊢
  clear hPB
  go_enter Try.func54, Try.ntmps54
  go_wp2
  go_loopw [8, 9, 10] (fun lv hv iv wr => ∃ i : Nat, i ≤ hs.length ∧ iv = .int .i64 i ∧ lv = .int .i64 (cntF (belH ds p false) hs i : Nat) ∧ hv = .int .i64 (cntF (belH ds p true) hs i : Nat) ∧ ∃ q, wr = w.drewN q) (fun _ _ iv _ => hs.length - (intOf iv).toNat)
  case atStart => exact ⟨0, Nat.zero_le _, rfl, rfl, rfl, 0, rfl⟩
  case round =>
    obtain ⟨i, hi, rfl, rfl, rfl, q, rfl⟩ := hrel
    by_cases hlt : i < hs.length
    · obtain ⟨ad, rfl, c1, c2⟩ := HH.out.at_ i hlt
      obtain ⟨hda, hoa⟩ := HRW.out.mem (List.getElem_mem hlt)
      have hlenO := HDS.out.2 _ hda
      have hb0 := belH_false hda hoa p
      have hb1 := belH_true hda hoa p
      have my0 : belH ds p false hs[i] = true → cntF (belH ds p false) hs (i + 1) = i + 1 := cntF_yes (belH_mono HRW.out p false) i hlt
      have my1 : belH ds p true hs[i] = true → cntF (belH ds p true) hs (i + 1) = i + 1 := cntF_yes (belH_mono HRW.out p true) i hlt
      have mn0 : belH ds p false hs[i] = false → cntF (belH ds p false) hs (i + 1) = cntF (belH ds p false) hs i := cntF_no i hlt
      have mn1 : belH ds p true hs[i] = false → cntF (belH ds p true) hs (i + 1) = cntF (belH ds p true) hs i := cntF_no i hlt
      rw [hb0] at my0 mn0
      rw [hb1] at my1 mn1
      clear hb0 hb1
      generalize hs[i] = a at *
      obtain ⟨d, o⟩ := a
      simp only [natV] at c1 c2 hda hoa hlenO my0 my1 mn0 mn1
      have c2' := hit_second c2
      obtain ⟨ad2, rfl, cs⟩ := HD.out.at_ d hda
      simp only [strV] at cs
      have hx1 := toList_str ds[d] o hoa
      have hz : (⟨ds[d].toArray⟩ : ByteArray).size = ds[d].length := by simp [ByteArray.size]
      obtain ⟨S, hS⟩ : ∃ S, S = (⟨ds[d].toArray⟩ : ByteArray) := ⟨_, rfl⟩
      rw [← hS] at hx1 hz cs
      have hoS : (o : Int) ≤ S.size := by omega
      have hx2 := size_toList (S.extract o S.size)
      rw [hx1] at hx2
      have MY0 := Lib.hid my0
      have MY1 := Lib.hid my1
      have MN0 := Lib.hid mn0
      have MN1 := Lib.hid mn1
      have hyl : (ds[d].drop o).length ≤ 1000000 := by simp; omega
      obtain ⟨y, hy⟩ : ∃ y, y = ds[d].drop o := ⟨_, rfl⟩
      rw [← hy] at hx1 hx2 hyl MY0 MY1 MN0 MN1
      clear my0 my1 mn0 mn1 hS hy hlenO hz
      go_wp2
      go_quiet (fail)
      obtain ⟨X, hX⟩ : ∃ X, X = S.extract o S.size := ⟨_, rfl⟩
      rw [← hX] at hx1 hx2 ⊢
      have hxt := toList_top X p.length
      rw [hx1] at hxt
      clear hX
      cases hb0 : Op.bytesLess y p with
      | true =>
        rw [hb0] at MY0 MY1
        have HL0 := Lib.hid (MY0.out rfl)
        have HL1 := Lib.hid (MY1.out rfl)
        clear MY0 MY1 MN0 MN1
        go_wp2
        go_roundw
        case rel => exact ⟨i + 1, by omega, by go_num, by rw [HL0.out]; go_num, by rw [HL1.out]; go_num, _, rfl⟩
        case measure => simp [intOf]; omega
      | false =>
        rw [hb0] at MN0 MY1 MN1
        have HL0 := Lib.hid (MN0.out rfl)
        by_cases hle : p.length ≤ y.length
        · have hpre := pre_take p y hle
          have hleX : (p.length : Int) ≤ X.size := by omega
          cases hq : (y.take p.length == p) with
          | true =>
            rw [hpre, hq] at MY1
            have HL1 := Lib.hid (MY1.out rfl)
            clear MY0 MY1 MN0 MN1 hpre
            go_wp2
            go_roundw
            case rel => exact ⟨i + 1, by omega, by go_num, by rw [HL0.out], by rw [HL1.out]; go_num, _, rfl⟩
            case measure => simp [intOf]; omega
          | false =>
            rw [hpre, hq] at MN1
            have HL1 := Lib.hid (MN1.out rfl)
            clear MY0 MY1 MN0 MN1 hpre
            go_wp2
            go_roundw
            case rel => exact ⟨i + 1, by omega, by go_num, by rw [HL0.out], by rw [HL1.out], _, rfl⟩
            case measure => simp [intOf]; omega
        · rw [pre_short p y (by omega)] at MN1
          have HL1 := Lib.hid (MN1.out rfl)
          clear MY0 MY1 MN0 MN1
          go_wp2
          go_roundw
          case rel => exact ⟨i + 1, by omega, by go_num, by rw [HL0.out], by rw [HL1.out], _, rfl⟩
          case measure => simp [intOf]; omega
    · obtain rfl : i = hs.length := by omega
      rw [← show rg.1 = cntF (belH ds p false) hs hs.length from by rw [HRG.out], ← show rg.2 = cntF (belH ds p true) hs hs.length from by rw [HRG.out]]
      have hord := HORD.out
      rcases Nat.lt_or_ge rg.1 rg.2 with hl | hl
      · have hmx : max ((rg.1 : Nat) : Int) ((rg.2 : Nat) : Int) = (rg.2 : Nat) := by omega
        clear hord
        go_wp2
        go_ret2
        exact ⟨rfl, _, rfl⟩
      · have he : rg.1 = rg.2 := by omega
        rw [he]
        clear hord hl
        go_wp2
        go_ret2
        exact ⟨by rw [he]; rfl, _, rfl⟩
end Go.Proofs.Ytinlmodkdjpocaa

set_option linter.unusedVariables false
namespace Go.Proofs.Ytinlmodkdjpocaa
open Go.RowKit Go.Shelf

set_option maxRecDepth 100000 in
set_option maxHeartbeats 1000000 in
theorem ref_len (ds : List (List UInt8)) (dv : Value) (w : World) (hd : SlR strV w dv ds) (hb : (rowOf ds).length ≤ 1000000) :
    Calls Try.prog 44 #[dv] w fun e w' => e = .returned (.int .i64 ((rowOf ds).length : Nat)) ∧ w' = w := by
  have HDS := Lib.hid (dsOk_row ds hb)
  have hbl := HDS.out.1
  obtain ⟨A, c, rfl, h1, h2, -⟩ := hd.form
  have HD := Lib.hid hd
  clear hd
  go_enter Try.func44, Try.ntmps44
  go_wp2
  go_loopw [3, 4] (fun nv iv wr => ∃ i n : Nat, i ≤ ds.length ∧ iv = .int .i64 i ∧ nv = .int .i64 n ∧ n + i = ds.length + startAt ds i ∧ wr = w) (fun _ iv _ => ds.length - (intOf iv).toNat)
  case atStart => exact ⟨0, ds.length, Nat.zero_le _, rfl, rfl, by simp [startAt, rowOf], rfl⟩
  case round =>
    obtain ⟨i, n, hi, rfl, rfl, hn, rfl⟩ := hrel
    have hst := startAt_le ds i hi
    by_cases hlt : i < ds.length
    · obtain ⟨ad, rfl, hc⟩ := HD.out.at_ i hlt
      simp only [strV] at hc
      have hlen := HDS.out.2 i hlt
      have hss := startAt_succ ds i hlt
      have hz : (⟨ds[i].toArray⟩ : ByteArray).size = ds[i].length := by simp [ByteArray.size]
      obtain ⟨S, hS⟩ : ∃ S, S = (⟨ds[i].toArray⟩ : ByteArray) := ⟨_, rfl⟩
      rw [← hS] at hz hc
      obtain ⟨m, hm⟩ : ∃ m, m = ds[i].length := ⟨_, rfl⟩
      rw [← hm] at hz hlen hss
      have hws : IntKind.i64.wrap ((n : Int) + (m : Nat)) = (n : Int) + (m : Nat) := IntWalk.i64_in _ (by omega)
      have HN : Hid (n + m + (i + 1) = ds.length + startAt ds (i + 1)) := Lib.hid (by omega)
      clear hS hm hss hn hst
      go_wp2
      go_roundw
      case rel => exact ⟨i + 1, n + m, by omega, by go_num, by go_num, HN.out, trivial⟩
      case measure => simp [intOf]; omega
    · obtain rfl : i = ds.length := by omega
      have hfin : n = (rowOf ds).length := by
        unfold startAt at hn
        rw [List.take_length] at hn
        omega
      have HF := Lib.hid hfin
      clear hfin hn hst
      go_wp2
      go_ret
      exact ⟨by rw [← HF.out]; rfl, rfl⟩

set_option maxRecDepth 100000 in
set_option maxHeartbeats 1000000 in
/-- SameSyms at two rows that are the same. -/
theorem same_syms (va vb : Value) (L : List Nat) (w : World) (ha : SlR symV w va L) (hb : SlR symV w vb L) :
    Calls Try.prog 51 #[va, vb] w fun e w' => e = .returned (.bool true) ∧ ∃ q, w' = w.drewN q := by
  obtain ⟨A, c, rfl, h1, h2, -⟩ := id ha.form
  obtain ⟨B, c', rfl, h3, h4, -⟩ := id hb.form
  have HA := Lib.hid ha
  have HB := Lib.hid hb
  clear ha hb
  go_enter Try.func51, Try.ntmps51
  go_wp2
  go_loopw [5] (fun i wr => ∃ k : Nat, k ≤ L.length ∧ i = .int .i64 k ∧ ∃ q, wr = w.drewN q) (fun i _ => L.length - (intOf i).toNat)
  case atStart => exact ⟨0, Nat.zero_le _, rfl, 0, rfl⟩
  case round =>
    obtain ⟨k, hk, rfl, q, rfl⟩ := hrel
    by_cases hlt : k < L.length
    · obtain ⟨ad, rfl, ha1⟩ := HA.out.at_ k hlt
      obtain ⟨ad2, rfl, hb1⟩ := HB.out.at_ k hlt
      clear HA HB
      simp only [symV] at ha1 hb1
      generalize L[k] = x1 at *
      go_wp2
      go_quiet (fail)
      go_wp2
      go_roundw
      case rel => exact ⟨k + 1, by omega, by go_num, _, rfl⟩
      case measure => simp [intOf]; omega
    · have hk' : k = L.length := by omega
      subst hk'
      go_wp2
      go_ret
      exact ⟨rfl, q, rfl⟩
end Go.Proofs.Ytinlmodkdjpocaa

set_option linter.unusedVariables false
namespace Go.Proofs.Ytinlmodkdjpocaa
open Go.RowKit Go.Shelf

theorem SlR.ints {w : World} {v : Value} {xs : List Nat} (h : SlR natV w v xs) : SlR intV w v (xs.map fun (n : Nat) => (n : Int)) := by
  obtain ⟨A, c, rfl, h1, h2, h3⟩ := h
  refine ⟨A, c, by simp, by simpa using h1, h2, ?_⟩
  rcases h3 with h3 | ⟨ad, e, hc⟩
  · left; rw [h3]; rfl
  · refine .inr ⟨ad, e, fun j hj => ?_⟩
    rw [hc j (by simpa using hj)]
    simp [natV, intV]

set_option maxRecDepth 100000 in
set_option maxHeartbeats 1000000 in
theorem same_ints (va vb : Value) (L : List Int) (w : World) (ha : SlR intV w va L) (hb : SlR intV w vb L) :
    Calls Try.prog 58 #[va, vb] w fun e w' => e = .returned (.bool true) ∧ ∃ q, w' = w.drewN q := by
  obtain ⟨A, c, rfl, h1, h2, -⟩ := id ha.form
  obtain ⟨B, c', rfl, h3, h4, -⟩ := id hb.form
  have HA := Lib.hid ha
  have HB := Lib.hid hb
  clear ha hb
  go_enter Try.func58, Try.ntmps58
  go_wp2
  go_loopw [5] (fun i wr => ∃ k : Nat, k ≤ L.length ∧ i = .int .i64 k ∧ ∃ q, wr = w.drewN q) (fun i _ => L.length - (intOf i).toNat)
  case atStart => exact ⟨0, Nat.zero_le _, rfl, 0, rfl⟩
  case round =>
    obtain ⟨k, hk, rfl, q, rfl⟩ := hrel
    by_cases hlt : k < L.length
    · obtain ⟨ad, rfl, ha1⟩ := HA.out.at_ k hlt
      obtain ⟨ad2, rfl, hb1⟩ := HB.out.at_ k hlt
      clear HA HB
      simp only [intV] at ha1 hb1
      generalize L[k] = x1 at *
      go_wp2
      go_quiet (fail)
      go_wp2
      go_roundw
      case rel => exact ⟨k + 1, by omega, by go_num, _, rfl⟩
      case measure => simp [intOf]; omega
    · have hk' : k = L.length := by omega
      subst hk'
      go_wp2
      go_ret
      exact ⟨rfl, q, rfl⟩

set_option maxRecDepth 100000 in
set_option maxHeartbeats 1000000 in
theorem same_texts (va vb : Value) (L : List (List UInt8)) (w : World) (ha : SlR strV w va L) (hb : SlR strV w vb L) :
    Calls Try.prog 50 #[va, vb] w fun e w' => e = .returned (.bool true) ∧ ∃ q, w' = w.drewN q := by
  obtain ⟨A, c, rfl, h1, h2, -⟩ := id ha.form
  obtain ⟨B, c', rfl, h3, h4, -⟩ := id hb.form
  have HA := Lib.hid ha
  have HB := Lib.hid hb
  clear ha hb
  go_enter Try.func50, Try.ntmps50
  go_wp2
  go_loopw [5] (fun i wr => ∃ k : Nat, k ≤ L.length ∧ i = .int .i64 k ∧ ∃ q, wr = w.drewN q) (fun i _ => L.length - (intOf i).toNat)
  case atStart => exact ⟨0, Nat.zero_le _, rfl, 0, rfl⟩
  case round =>
    obtain ⟨k, hk, rfl, q, rfl⟩ := hrel
    by_cases hlt : k < L.length
    · obtain ⟨ad, rfl, ha1⟩ := HA.out.at_ k hlt
      obtain ⟨ad2, rfl, hb1⟩ := HB.out.at_ k hlt
      clear HA HB
      generalize L[k] = x1 at *
      obtain ⟨S, hS⟩ : ∃ S, S = strV x1 := ⟨_, rfl⟩
      simp only [strV] at ha1 hb1 hS
      go_wp2
      go_quiet (fail)
      go_wp2
      go_roundw
      case rel => exact ⟨k + 1, by omega, by go_num, _, rfl⟩
      case measure => simp [intOf]; omega
    · have hk' : k = L.length := by omega
      subst hk'
      go_wp2
      go_ret
      exact ⟨rfl, q, rfl⟩
end Go.Proofs.Ytinlmodkdjpocaa
