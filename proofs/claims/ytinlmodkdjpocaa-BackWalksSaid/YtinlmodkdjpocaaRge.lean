/- the document: Range. -/
import Derived.Test.YtinlmodkdjpocaaRngM
import Derived.Test.YtinlmodkdjpocaaBna
set_option linter.unusedVariables false
namespace Go.Proofs.Ytinlmodkdjpocaa
open Go.RowKit Go.Shelf

theorem toList_top (X : ByteArray) (k : Nat) : (X.extract 0 k).toList = X.toList.take k := by
  cases X with
  | mk D =>
    rw [ByteArray.toList_eq, ByteArray.toList_eq, ByteArray.extract_mk]
    simp
theorem size_toList (X : ByteArray) : X.size = X.toList.length := by
  rw [ByteArray.toList_eq, Array.length_toList]; rfl

set_option maxRecDepth 100000 in
set_option maxHeartbeats 4000000 in
theorem ref_range (ds : List (List UInt8)) (hs : List (Nat × Nat)) (dv rv : Value) (p : List UInt8) (w : World) (hd : SlR strV w dv ds) (hr : HitsR w rv hs) (hrows : IsRows ds hs) (hb : (rowOf ds).length ≤ 1000000) (hpl : p.length ≤ 1000000) :
    Calls Try.prog 54 #[dv, rv, strV p] w fun e w' => e = .returned (.tuple #[.int .i64 (rangeL (bwtOf (rowOf ds)) (upS' p)).1, .int .i64 (rangeL (bwtOf (rowOf ds)) (upS' p)).2]) ∧ ∃ q, w' = w.drewN q := by
  have hord := rangeL_order (bwtOf (rowOf ds)) (upS' p)
  have hrg := rangeH hrows p
  obtain ⟨rg, hrge⟩ : ∃ rg, rg = rangeL (bwtOf (rowOf ds)) (upS' p) := ⟨_, rfl⟩
  rw [← hrge] at hord hrg ⊢
  have hln : hs.length ≤ 1000000 := by rw [hrows.length]; exact hb
  have HDS := Lib.hid (dsOk_row ds hb)
  obtain ⟨A, c, rfl, h1, h2, -⟩ := hd.form
  obtain ⟨B, c', rfl, h3, h4, -⟩ := id hr
  have HD := Lib.hid hd
  have HH := Lib.hid hr
  have HRW := Lib.hid hrows
  have HRG := Lib.hid hrg
  have HORD := Lib.hid hord
  clear hd hr hrows hrg hord hrge
  simp only [strV]
  have hpt : (⟨p.toArray⟩ : ByteArray).toList = p := ByteArray.toList_mk p
  have hps : (⟨p.toArray⟩ : ByteArray).size = p.length := by simp [ByteArray.size]
  obtain ⟨PB, hPB⟩ : ∃ PB, PB = (⟨p.toArray⟩ : ByteArray) := ⟨_, rfl⟩
  rw [← hPB] at hpt hps ⊢
  clear hPB
  go_enter Try.func54, Try.ntmps54
  go_wp2
  go_loopw [8, 9, 10] (fun lv hv iv wr => ∃ i : Nat, i ≤ hs.length ∧ iv = .int .i64 i ∧ lv = .int .i64 (cntF (belH ds p false) hs i : Nat) ∧ hv = .int .i64 (cntF (belH ds p true) hs i : Nat) ∧ ∃ q, wr = w.drewN q) (fun _ _ iv _ => hs.length - (intOf iv).toNat)
  case atStart => exact ⟨0, Nat.zero_le _, rfl, rfl, rfl, 0, rfl⟩
  case round =>
    obtain ⟨i, hi, rfl, rfl, rfl, q, rfl⟩ := hrel
    by_cases hlt : i < hs.length
    · obtain ⟨ad, rfl, c1, c2⟩ := HH.out.at_ i hlt
      obtain ⟨hda, hoa⟩ := HRW.out.mem (List.getElem_mem hlt)
      have hlenO := HDS.out.2 _ hda
      have hb0 := belH_false hda hoa p
      have hb1 := belH_true hda hoa p
      have my0 : belH ds p false hs[i] = true → cntF (belH ds p false) hs (i + 1) = i + 1 := cntF_yes (belH_mono HRW.out p false) i hlt
      have my1 : belH ds p true hs[i] = true → cntF (belH ds p true) hs (i + 1) = i + 1 := cntF_yes (belH_mono HRW.out p true) i hlt
      have mn0 : belH ds p false hs[i] = false → cntF (belH ds p false) hs (i + 1) = cntF (belH ds p false) hs i := cntF_no i hlt
      have mn1 : belH ds p true hs[i] = false → cntF (belH ds p true) hs (i + 1) = cntF (belH ds p true) hs i := cntF_no i hlt
      rw [hb0] at my0 mn0
      rw [hb1] at my1 mn1
      clear hb0 hb1
      generalize hs[i] = a at *
      obtain ⟨d, o⟩ := a
      simp only [natV] at c1 c2 hda hoa hlenO my0 my1 mn0 mn1
      have c2' := hit_second c2
      obtain ⟨ad2, rfl, cs⟩ := HD.out.at_ d hda
      simp only [strV] at cs
      have hx1 := toList_str ds[d] o hoa
      have hz : (⟨ds[d].toArray⟩ : ByteArray).size = ds[d].length := by simp [ByteArray.size]
      obtain ⟨S, hS⟩ : ∃ S, S = (⟨ds[d].toArray⟩ : ByteArray) := ⟨_, rfl⟩
      rw [← hS] at hx1 hz cs
      have hoS : (o : Int) ≤ S.size := by omega
      have hx2 := size_toList (S.extract o S.size)
      rw [hx1] at hx2
      have MY0 := Lib.hid my0
      have MY1 := Lib.hid my1
      have MN0 := Lib.hid mn0
      have MN1 := Lib.hid mn1
      have hyl : (ds[d].drop o).length ≤ 1000000 := by simp; omega
      obtain ⟨y, hy⟩ : ∃ y, y = ds[d].drop o := ⟨_, rfl⟩
      rw [← hy] at hx1 hx2 hyl MY0 MY1 MN0 MN1
      clear my0 my1 mn0 mn1 hS hy hlenO hz
      go_wp2
      go_quiet (fail)
      obtain ⟨X, hX⟩ : ∃ X, X = S.extract o S.size := ⟨_, rfl⟩
      rw [← hX] at hx1 hx2 ⊢
      have hxt := toList_top X p.length
      rw [hx1] at hxt
      clear hX
      cases hb0 : Op.bytesLess y p with
      | true =>
        rw [hb0] at MY0 MY1
        have HL0 := Lib.hid (MY0.out rfl)
        have HL1 := Lib.hid (MY1.out rfl)
        clear MY0 MY1 MN0 MN1
        go_wp2
        go_roundw
        case rel => exact ⟨i + 1, by omega, by go_num, by rw [HL0.out]; go_num, by rw [HL1.out]; go_num, _, rfl⟩
        case measure => simp [intOf]; omega
      | false =>
        rw [hb0] at MN0 MY1 MN1
        have HL0 := Lib.hid (MN0.out rfl)
        by_cases hle : p.length ≤ y.length
        · have hpre := pre_take p y hle
          have hleX : (p.length : Int) ≤ X.size := by omega
          cases hq : (y.take p.length == p) with
          | true =>
            rw [hpre, hq] at MY1
            have HL1 := Lib.hid (MY1.out rfl)
            clear MY0 MY1 MN0 MN1 hpre
            go_wp2
            go_roundw
            case rel => exact ⟨i + 1, by omega, by go_num, by rw [HL0.out], by rw [HL1.out]; go_num, _, rfl⟩
            case measure => simp [intOf]; omega
          | false =>
            rw [hpre, hq] at MN1
            have HL1 := Lib.hid (MN1.out rfl)
            clear MY0 MY1 MN0 MN1 hpre
            go_wp2
            go_roundw
            case rel => exact ⟨i + 1, by omega, by go_num, by rw [HL0.out], by rw [HL1.out], _, rfl⟩
            case measure => simp [intOf]; omega
        · rw [pre_short p y (by omega)] at MN1
          have HL1 := Lib.hid (MN1.out rfl)
          clear MY0 MY1 MN0 MN1
          go_wp2
          go_roundw
          case rel => exact ⟨i + 1, by omega, by go_num, by rw [HL0.out], by rw [HL1.out], _, rfl⟩
          case measure => simp [intOf]; omega
    · obtain rfl : i = hs.length := by omega
      rw [← show rg.1 = cntF (belH ds p false) hs hs.length from by rw [HRG.out], ← show rg.2 = cntF (belH ds p true) hs hs.length from by rw [HRG.out]]
      have hord := HORD.out
      rcases Nat.lt_or_ge rg.1 rg.2 with hl | hl
      · have hmx : max ((rg.1 : Nat) : Int) ((rg.2 : Nat) : Int) = (rg.2 : Nat) := by omega
        clear hord
        go_wp2
        go_ret2
        exact ⟨rfl, _, rfl⟩
      · have he : rg.1 = rg.2 := by omega
        rw [he]
        clear hord hl
        go_wp2
        go_ret2
        exact ⟨by rw [he]; rfl, _, rfl⟩
end Go.Proofs.Ytinlmodkdjpocaa
