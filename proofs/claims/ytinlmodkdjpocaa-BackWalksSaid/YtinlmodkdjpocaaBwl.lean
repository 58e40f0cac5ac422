/- law 12: BackWalks. -/
import Derived.Test.YtinlmodkdjpocaaBwa
import Derived.Test.YtinlmodkdjpocaaSmi
set_option linter.unusedVariables false
namespace Go.Proofs.Ytinlmodkdjpocaa
open Go.RowKit Go.Shelf

/-- the rows and bytes of a walk through a document -/
theorem wkB_doc (ds : List (List UInt8)) (d : Nat) (hd : d < ds.length) (o : Nat) (ho : o ≤ ds[d].length) (k : Nat) (hk : k < o) :
    UInt8.ofNat ((symAt (bwtOf (rowOf ds)) (rwP ds d (o - k) : Nat)).toNat - 1) = ds[d][o - 1 - k] := by
  rw [symAt_rw ds d hd (o - k) (by omega), dif_pos (by omega)]
  simp only [show o - k - 1 = o - 1 - k from by omega]
  simp
theorem wkB_take (L : List Nat) (r : Nat → Int) (m n : Nat) (h : m ≤ n) : wkB L r m = (wkB L r n).take m := by
  unfold wkB
  rw [← List.map_take, List.take_range, Nat.min_eq_left h]
theorem wkR_take (r : Nat → Int) (m n : Nat) (h : m ≤ n) : wkR r m = (wkR r n).take m := by
  unfold wkR
  rw [← List.map_take, List.take_range, Nat.min_eq_left h]
theorem wkB_at (ds : List (List UInt8)) (d : Nat) (hd : d < ds.length) (o : Nat) (ho : o ≤ ds[d].length) (k : Nat) (hk : k < o) :
    (wkB (bwtOf (rowOf ds)) (fun k => (rwP ds d (o - k) : Nat)) o)[k]? = some ds[d][o - 1 - k] := by
  unfold wkB
  rw [List.getElem?_map, List.getElem?_range hk, Option.map_some, wkB_doc ds d hd o ho k hk]
theorem wkR_at (ds : List (List UInt8)) (d o k : Nat) (hk : k < o) : (wkR (fun k => (rwP ds d (o - k) : Nat)) o)[k]? = some ((rwP ds d (o - 1 - k) : Nat) : Int) := by
  unfold wkR
  rw [List.getElem?_map, List.getElem?_range hk, Option.map_some]
  simp only [show o - (k + 1) = o - 1 - k from by omega]

theorem slice_ints (A : Option Addr) (n c m : Nat) (hm : m ≤ n) (hc : n ≤ c) (W : World) : (Instr.slice 73 (.slice A n c) none (some (.int .i64 (m : Nat))) none).run Try.prog W = .ok (.slice A m c) W := by
  have h1 := Try.underlying73
  have h2 := Try.underlying3
  cases A with
  | none => go_simp; intro h; omega
  | some a => go_simp; intro h; omega

set_option maxRecDepth 100000 in
set_option maxHeartbeats 4000000 in
theorem law12_walks_main (ds : List (List UInt8)) (v : Value) (i most : Int) (w : World) (hd : DocsR w v ds) (hf : fewB ds = true) :
    Calls Try.prog 13 #[v, .int .i64 i, .int .i64 most] w fun e w' => e = .returned (.bool true) ∧ Below w.heap.size w w' := by
  have hfew := Lib.hid (law_few ds v w hd)
  rw [hf] at hfew
  have hawk := Lib.hid law12_awake
  obtain ⟨A, c, rfl, h1, h2, -⟩ := hd.form
  have hok := few_ok hf
  obtain ⟨hf1, hf2, hf3, hf4, -⟩ := few_facts hf
  have hm := Lib.hid (law_made ds _ w hd hok)
  have HD := Lib.hid hd
  have HF2 := Lib.hid hf2
  obtain ⟨NL, hNL⟩ : ∃ NL, NL = (rowOf ds).length := ⟨_, rfl⟩
  rw [← hNL] at hf4
  have HNL := Lib.hid hNL
  have HST := Lib.hid (fun dv W (a : DocsR W dv ds) => ref_strings ds dv W a (by omega))
  have HRO := Lib.hid (fun dv W (a : SlR strV W dv ds) => ref_rows ds dv W a (by rw [← hNL]; omega))
  clear hd hf hok hf2 hNL
  go_enter Try.func13, Try.ntmps13
  go_wp2_with (first
    | (go_at_call 20; go_must ((refine hfew.out.mono ?_); rintro e w1 ⟨rfl, rfl⟩))
    | (go_at_call 33; go_must ((refine hm.out.mono ?_); rintro e w3 ⟨x, rfl, hx0, hx, hb3⟩; have HX := Lib.hid (fun W (hW : Below w3.heap.size w3 W) => hx.later hW); have HD3 := Lib.hid (HD.out.below (Nat.le_refl _) hb3); have HB3 := Lib.hid hb3; clear hx0 hx hb3))
    | (go_at_call 28; go_must ((with_reducible refine (HST.out _ w3 HD3.out).mono ?_); rintro e w4 ⟨v4, rfl, hs4, hb4⟩; have HS4 := Lib.hid hs4; have HB4 := Lib.hid hb4; clear hs4 hb4))
    | (go_at_call 55; go_must ((with_reducible refine (HRO.out v4 w4 HS4.out).mono ?_); rintro e w5 ⟨v5, hs5, rfl, hh5, hr5, hb5⟩; have HH5 := Lib.hid hh5; have HR5 := Lib.hid hr5; have HB5 := Lib.hid (HB4.out.trans (hb5.mono HB4.out.size)); have HS5 := Lib.hid (HS4.out.later hb5); clear hh5 hr5 hb5)))
  clear HS4 HB4
  obtain ⟨BV, hBV⟩ : ∃ BV, BV = hs5.length := ⟨_, rfl⟩
  have hlen : hs5.length = NL := by rw [HR5.out.length, HNL.out]
  obtain ⟨A5, c5, rfl, h51, h52, -⟩ := id HH5.out
  obtain ⟨A4, c4, rfl, h41, h42, -⟩ := HS5.out.form
  rw [hlen] at h51
  rw [hlen]
  clear hBV BV
  by_cases hin : 0 ≤ i ∧ i < (NL : Int)
  · obtain ⟨d, hdl, o, ho, hi⟩ := row_ex ds i.toNat (by rw [← HNL.out]; omega)
    have hi2 : i = (rwP ds d o : Nat) := by omega
    have ho2 : o ≤ 2000 := Nat.le_trans ho (HF2.out _ (List.getElem_mem hdl))
    have hwk := Lib.hid (fun W hW (mo : Int) => law12_walk x (bwtOf (rowOf ds)) (rwP ds d o : Nat) o (fun k => (rwP ds d (o - k) : Nat)) mo W (HX.out W hW) (wkS_at ds d hdl o ho))
    have hrow := HR5.out.at_row d hdl o ho
    have hIlt := rwP_lt ds d hdl o ho
    rw [← HNL.out] at hIlt
    obtain ⟨L, hL⟩ : ∃ L, L = bwtOf (rowOf ds) := ⟨_, rfl⟩
    obtain ⟨r, hr⟩ : ∃ r : Nat → Int, r = (fun k => ((rwP ds d (o - k) : Nat) : Int)) := ⟨_, rfl⟩
    have hbat := Lib.hid (wkB_at ds d hdl o ho)
    have hrat := Lib.hid (wkR_at ds d o)
    rw [← hL, ← hr] at hwk hbat
    rw [← hr] at hrat
    obtain ⟨ad5, rfl, c51, c52⟩ := HH5.out.at_ (rwP ds d o) (by rw [hlen]; exact hIlt)
    obtain ⟨_, hget⟩ := List.getElem?_eq_some_iff.1 hrow
    rw [hget] at c51 c52
    simp only [natV] at c51 c52
    have c52' := hit_second c52
    have hw1 := Lib.hid (hwk.out w5 HB5.out 100000)
    rw [show min (100000 : Int).toNat o = o from by have : (100000 : Int).toNat = 100000 := rfl; omega] at hw1
    obtain ⟨I, hI⟩ : ∃ I, I = rwP ds d o := ⟨_, rfl⟩
    rw [← hI] at hi2 hw1 hwk hIlt c51 c52'
    subst hi2
    have hbl := wkB_length L r o
    obtain ⟨BS, hBS⟩ : ∃ BS, BS = wkB L r o := ⟨_, rfl⟩
    rw [← hBS] at hw1 hbl hbat
    simp only [strV] at hw1
    have hpt : (⟨BS.toArray⟩ : ByteArray).size = o := by rw [← hbl]; simp [ByteArray.size]
    obtain ⟨PB, hPB⟩ : ∃ PB, PB = (⟨BS.toArray⟩ : ByteArray) := ⟨_, rfl⟩
    rw [← hPB] at hpt hw1
    have HI := Lib.hid hI
    have HBS := Lib.hid hBS
    have HPB := Lib.hid hPB
    clear hin hi hrow hget c52 hL hr hI hBS hPB
    go_wp2_with (first
      | (go_at_call 57; go_must ((with_reducible refine hw1.out.mono ?_); rintro e w6 ⟨v6, rfl, hs6, hb6⟩; have HS6 := Lib.hid hs6; have HB6 := Lib.hid (HB5.out.trans (hb6.mono HB5.out.size)); have d51 := (World.cell?_of_block (w := w5) (hb6.block _ (World.block_lt_of_cell? w5 _ c51))).trans c51; have d52 := (World.cell?_of_block (w := w5) (hb6.block _ (World.block_lt_of_cell? w5 _ c52'))).trans c52'; have HS56 := Lib.hid (HS5.out.later hb6); have HH56 := Lib.hid (HH5.out.later hb6); obtain ⟨A6, c6, hv6, _, _, -⟩ := hs6.form; rw [wkR_length] at hv6; subst hv6; clear hb6 hs6)))
    obtain ⟨w7, hw7⟩ : ∃ w7, w7 = w6.alloc (.cells #[.int .i64 (d : Nat), .int .i64 (o : Nat)] 77) := ⟨_, rfl⟩
    have hb67 : Below w6.heap.size w6 w7 := by rw [hw7]; exact (Below.refl _ _).alloc (Nat.le_refl _) _
    obtain ⟨HB, hHB⟩ : ∃ HB, HB = w6.heap.size := ⟨_, rfl⟩
    have hblk : w7.heap[HB]? = some (.cells #[.int .i64 (d : Nat), .int .i64 (o : Nat)] 77 (0, 0)) := by rw [hw7, hHB]; exact heap_alloc_new w6 _
    have b0 : w7.cell? ⟨HB, 0, none⟩ = some (.int .i64 (d : Nat)) := by rw [cell_of_block hblk]; rfl
    have b1 : w7.cell? ⟨HB, 1, none⟩ = some (.int .i64 (o : Nat)) := by rw [cell_of_block hblk]; rfl
    rw [← hw7, ← hHB]
    have HS7 := Lib.hid (HS56.out.later hb67)
    have HH7 := Lib.hid (HH56.out.later hb67)
    have HS67 := Lib.hid (HS6.out.later hb67)
    have HB7 := Lib.hid (HB6.out.trans (hb67.mono HB6.out.size))
    clear hw7 hb67 hHB hblk d51 d52 HS56 HH56 HS6 HB6 HS5 HH5
    go_loopw [13] (fun kv wr => ∃ k : Nat, k ≤ o ∧ kv = .int .i64 k ∧ ∃ q, wr = w7.drewN q) (fun kv _ => o - (intOf kv).toNat)
    case atStart => exact ⟨0, Nat.zero_le _, rfl, 0, rfl⟩
    case round =>
      obtain ⟨k, hk, rfl, q, rfl⟩ := hrel
      by_cases hlt : k < o
      · have h1 := hbat.out k hlt
        have h2 := hrat.out k hlt
        obtain ⟨ads, rfl, hcs⟩ := HS7.out.at_ d hdl
        obtain ⟨ad6, rfl, hc6⟩ := HS67.out.at_ k (by rw [wkR_length]; exact hlt)
        have h2' := (List.getElem?_eq_some_iff.1 h2).2
        rw [h2'] at hc6
        obtain ⟨R1, hR1⟩ : ∃ R1, R1 = rwP ds d (o - 1 - k) := ⟨_, rfl⟩
        have hrow := HR5.out.at_row d hdl (o - 1 - k) (by omega)
        have hRlt := rwP_lt ds d hdl (o - 1 - k) (by omega)
        rw [← HNL.out, ← hR1] at hRlt
        rw [← hR1] at hc6 hrow
        obtain ⟨ad5', e5, c51, c52⟩ := HH7.out.at_ R1 (by rw [hlen]; exact hRlt)
        cases e5
        obtain ⟨_, hget⟩ := List.getElem?_eq_some_iff.1 hrow
        rw [hget] at c51 c52
        simp only [natV] at c51 c52
        have c52' := hit_second c52
        simp only [strV] at hcs
        simp only [intV] at hc6
        obtain ⟨J, hJ⟩ : ∃ J, J = o - 1 - k := ⟨_, rfl⟩
        have hJd : J < ds[d].length := by omega
        have hm1 : (o : Int) - 1 - (k : Int) = (J : Nat) := by omega
        have hw1' : IntKind.i64.wrap ((o : Int) - 1) = (o : Int) - 1 := IntWalk.i64_in _ (by omega)
        have hw2' : IntKind.i64.wrap ((J : Nat) : Int) = (J : Nat) := IntWalk.i64_in _ (by omega)
        simp only [← hJ] at h1 c52'
        obtain ⟨S, hS⟩ : ∃ S, S = (⟨ds[d].toArray⟩ : ByteArray) := ⟨_, rfl⟩
        have hz : S.size = ds[d].length := by rw [hS]; simp [ByteArray.size]
        rw [← hS] at hcs
        have hJS : (J : Int) < (S.size : Int) := by omega
        have hJS2 : J < S.size := by omega
        have hkS : k < PB.size := by omega
        have hsub : S[J]'hJS2 = PB[k]'hkS := by
          subst hS
          have e1 : PB = ⟨BS.toArray⟩ := HPB.out
          subst e1
          exact (List.getElem?_eq_some_iff.1 h1).2.symm
        have HJ := Lib.hid hJ
        have hq1 : (((PB[k]'hkS).toNat : Int) != ((S[J]'hJS2).toNat : Int)) = false := by rw [hsub]; simp
        have hq2 : decide ((R1 : Int) < 0) = false := by simp
        have hq3 : decide (NL ≤ R1) = false := by simp; omega
        clear h1 h2' c52 hget hrow hS hJ hsub hR1
        go_wp2
        go_quiet (fail)
        go_wp2
        go_roundw
        case rel => exact ⟨k + 1, by omega, by go_num, _, rfl⟩
        case measure => simp [intOf]; omega
      · obtain rfl : k = o := by omega
        obtain ⟨m, hm⟩ : ∃ m : Nat, most % 16 = (m : Nat) := ⟨(most % 16).toNat, by omega⟩
        have hand : bits .and .i64 most 15 = (m : Nat) := by rw [i64_and15, hm]
        have hw2 := hwk.out (w7.drewN q) (below_drewN HB7.out q) (m : Nat)
        rw [Int.toNat_natCast] at hw2
        obtain ⟨n, hn⟩ : ∃ n, n = min m k := ⟨_, rfl⟩
        have hnk : n ≤ k := by omega
        have hmin : min (m : Int) (k : Nat) = (n : Nat) := by omega
        rw [← hn, wkR_take r n k hnk, wkB_take L r n k hnk, ← HBS.out] at hw2
        obtain ⟨A7, c7, he7, k71, k72, -⟩ := HS67.out.form
        injection he7 with e71 e72 e7
        clear e71 e72
        subst e7
        rw [wkR_length] at k71
        have hsl := fun W => slice_ints A6 k c6 n hnk k71 W
        have HTK := Lib.hid (HS67.out.take n hnk)
        have hex : PB.extract 0 n = ⟨(BS.take n).toArray⟩ := by rw [HPB.out, ByteArray.extract_mk]; simp
        obtain ⟨P2, hP2⟩ : ∃ P2, P2 = (⟨(BS.take n).toArray⟩ : ByteArray) := ⟨_, rfl⟩
        simp only [strV] at hw2
        rw [← hP2] at hex hw2
        have HW2 := Lib.hid hw2
        clear hn hP2 hw2 hm hwk hbat hrat
        go_wp2_with (first
          | (go_at_call 57; go_must ((with_reducible refine HW2.out.mono ?_); rintro e w8 ⟨v8, rfl, hs8, hb8⟩; have HS8 := Lib.hid hs8; have HT8 := Lib.hid (HTK.out.below (Nat.le_refl _) (below_drewN (Below.refl _ _) q) |>.later hb8); have HB8 := Lib.hid ((below_drewN HB7.out q).trans (hb8.mono HB7.out.size)); clear hb8 hs8))
          | (go_at_call 58; go_must ((with_reducible refine (same_ints v8 _ _ w8 HS8.out HT8.out).mono ?_); rintro e w9 ⟨rfl, q9, rfl⟩; have HB9 := Lib.hid (below_drewN HB8.out q9)))
          | (go_at_call 32; go_must ((refine (hawk.out _).mono ?_); rintro e w11 ⟨rfl, hb11⟩; have HB11 := Lib.hid (HB9.out.trans (hb11.mono HB9.out.size)); clear hb11)))
        go_ret
        exact ⟨rfl, HB3.out.trans (HB11.out.mono HB3.out.size)⟩
  · have hsy : symAt (bwtOf (rowOf ds)) i ≤ 0 := by rw [symAt_out (by rw [bwtOf_length (rowOk_rowOf ds), ← HNL.out]; omega)]; decide
    have hwk := Lib.hid (law12_walk x (bwtOf (rowOf ds)) i 0 (fun _ => i) 100000 w5 (HX.out _ HB5.out) (wkS_none _ _ hsy))
    rw [show min (100000 : Int).toNat 0 = 0 from rfl, show strV (wkB (bwtOf (rowOf ds)) (fun _ => i) 0) = .string ⟨#[]⟩ from rfl, show wkR (fun _ => i) 0 = [] from rfl] at hwk
    clear hsy
    by_cases h0 : i < 0
    · have hg : decide (i < 0) = true := by simp; omega
      clear hin h0
      (go_wp2_with (first
        | (go_at_call 57; go_must ((with_reducible refine hwk.out.mono ?_); rintro e w6 ⟨v6, rfl, hs6, hb6⟩; obtain ⟨A6, c6, rfl, _, _, -⟩ := hs6; have HB6 := Lib.hid (HB3.out.trans ((HB5.out.trans (hb6.mono HB5.out.size)).mono HB3.out.size)); clear hb6))
        | (go_at_call 32; go_must ((refine (hawk.out _).mono ?_); rintro e w11 ⟨rfl, hb11⟩; have HB11 := Lib.hid (HB6.out.trans (hb11.mono HB6.out.size)); clear hb11))))
      go_ret
      exact ⟨rfl, HB11.out⟩
    · have hg : decide (i < 0) = false := by simp; omega
      have hg2 : decide ((NL : Int) ≤ i) = true := by simp; omega
      clear hin h0
      (go_wp2_with (first
        | (go_at_call 57; go_must ((with_reducible refine hwk.out.mono ?_); rintro e w6 ⟨v6, rfl, hs6, hb6⟩; obtain ⟨A6, c6, rfl, _, _, -⟩ := hs6; have HB6 := Lib.hid (HB3.out.trans ((HB5.out.trans (hb6.mono HB5.out.size)).mono HB3.out.size)); clear hb6))
        | (go_at_call 32; go_must ((refine (hawk.out _).mono ?_); rintro e w11 ⟨rfl, hb11⟩; have HB11 := Lib.hid (HB6.out.trans (hb11.mono HB6.out.size)); clear hb11))))
      go_ret
      exact ⟨rfl, HB11.out⟩

set_option maxRecDepth 100000 in
set_option maxHeartbeats 1000000 in
theorem law12_walks (ds : List (List UInt8)) (v : Value) (i most : Int) (w : World) (hd : DocsR w v ds) :
    Calls Try.prog 13 #[v, .int .i64 i, .int .i64 most] w fun e w' => e = .returned (.bool true) ∧ Below w.heap.size w w' := by
  cases hf : fewB ds with
  | true => exact law12_walks_main ds v i most w hd hf
  | false =>
    have hfew := Lib.hid (law_few ds v w hd)
    have hawk := Lib.hid law12_awake
    obtain ⟨A, c, rfl, h1, h2, -⟩ := hd.form
    rw [hf] at hfew
    clear hd hf
    go_enter Try.func13, Try.ntmps13
    go_wp2_with (first
      | (go_at_call 20; go_must ((refine hfew.out.mono ?_); rintro e w1 ⟨rfl, rfl⟩))
      | (go_at_call 32; go_must ((refine (hawk.out _).mono ?_); rintro e w2 ⟨rfl, hb2⟩; have HB2 := Lib.hid hb2; clear hb2)))
    go_ret
    exact ⟨rfl, HB2.out⟩
end Go.Proofs.Ytinlmodkdjpocaa
