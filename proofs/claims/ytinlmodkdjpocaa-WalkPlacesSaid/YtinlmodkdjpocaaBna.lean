/- law 12: BackNests. -/
import Derived.Test.YtinlmodkdjpocaaBla
import Derived.Test.YtinlmodkdjpocaaPlm
set_option linter.unusedVariables false
namespace Go.Proofs.Ytinlmodkdjpocaa
open Go.RowKit Go.Shelf

theorem own_new (w : World) (base : Nat) (e : TypeId) (x : Value) (hb : base ≤ w.heap.size) : (w.alloc (.cells #[x] e)).ownsRow base e 1 (.slice (some ⟨w.heap.size, 0, none⟩) 1 1) 1 [x] :=
  ⟨rfl, .inr ⟨w.heap.size, 1, #[x], rfl, hb, heap_alloc_new w _, Nat.le_refl 1, (by decide), rfl, rfl⟩⟩
theorem SlR.news {α : Type} {enc : α → Value} {w : World} {ad : Addr} {n c : Nat} {xs : List α} (h : SlR enc w (.slice (some ad) n c) xs) : ∀ j u, (xs.map enc)[j]? = some u → w.cell? (ad.add j) = some u := by
  intro j u hj
  have hlt : j < xs.length := by
    have := (List.getElem?_eq_some_iff.1 hj).1
    simpa using this
  obtain ⟨ad2, e, hc⟩ := h.at_ j hlt
  injection e with e
  subst e
  rw [hc, ← hj]
  simp [hlt]

theorem pre_take (p d : List UInt8) (h : p.length ≤ d.length) : p.isPrefixOf d = (d.take p.length == p) := by
  rw [Bool.eq_iff_iff, List.isPrefixOf_iff_prefix, beq_iff_eq]
  constructor
  · rintro ⟨t, ht⟩
    rw [← ht]; simp
  · intro h'
    have e := List.take_append_drop p.length d
    rw [h'] at e
    exact ⟨_, e⟩
theorem pre_short (p d : List UInt8) (h : d.length < p.length) : p.isPrefixOf d = false := by
  rw [← Bool.not_eq_true, List.isPrefixOf_iff_prefix]
  intro h2
  have := h2.length_le
  omega

set_option maxRecDepth 100000 in
set_option maxHeartbeats 4000000 in
theorem law12_nests_main (ds : List (List UInt8)) (v : Value) (p : List UInt8) (pv : Value) (w : World) (hd : DocsR w v ds) (hp : SlR byV w pv p) (hf : fewB ds = true) (hp0 : 0 < p.length) (hp1 : p.length ≤ 50) :
    Calls Try.prog 8 #[v, pv] w fun e w' => e = .returned (.bool true) ∧ Below w.heap.size w w' := by
  have hfew := Lib.hid (law_few ds v w hd)
  rw [hf] at hfew
  have hawk := Lib.hid law12_awake
  obtain ⟨A, c, rfl, h1, h2, -⟩ := hd.form
  obtain ⟨Ap, cp, rfl, h3, h4, h5⟩ := hp.form
  obtain ⟨ad, rfl, -⟩ := h5 0 hp0
  have hok := few_ok hf
  obtain ⟨hf1, hf2, hf3, hf4, -⟩ := few_facts hf
  have hm := Lib.hid (law_made ds _ w hd hok)
  have HP := Lib.hid hp
  have HD := Lib.hid hd
  have hpe : p ≠ [] := fun e => by subst e; simp at hp0
  have HALL := Lib.hid (nest_all ds p hpe)
  have hNH := hits_length p ds
  have HCN := Lib.hid (fun q => countL_bwt ds q)
  obtain ⟨L, hL⟩ : ∃ L, L = bwtOf (rowOf ds) := ⟨_, rfl⟩
  rw [← hL] at hm HCN
  obtain ⟨NH, hNHe⟩ : ∃ NH, NH = (hits p ds).length := ⟨_, rfl⟩
  rw [← hNHe] at HALL hNH
  have HNH := Lib.hid hNHe
  obtain ⟨pl, hpll⟩ : ∃ pl, pl = p.length := ⟨_, rfl⟩
  rw [← hpll] at hp0 hp1 h3 HP ⊢
  have HPL := Lib.hid hpll
  have hz0 : ((pl : Int) == 0) = false := by simp; omega
  have hz1 : decide ((50 : Int) < (pl : Int)) = false := by simp; omega
  clear hd hp hf hok hpe hL hNHe hpll h5 hf2
  go_enter Try.func8, Try.ntmps8
  go_wp2_with (first
    | (go_at_call 20; go_must ((refine hfew.out.mono ?_); rintro e w1 ⟨rfl, rfl⟩))
    | (go_at_call 33; go_must ((refine hm.out.mono ?_); rintro e w3 ⟨x, rfl, hx0, hx, hb3⟩; have HX := Lib.hid (fun W (hW : Below w3.heap.size w3 W) => hx.later hW); have HP3 := Lib.hid (HP.out.later hb3); have HB3 := Lib.hid hb3; clear hx0 hx hb3))
    | (go_at_call 34; go_must ((with_reducible refine (back_count x L (.slice (some ad) pl cp) p w3 (HX.out w3 (Below.refl _ _)) HP3.out (by rw [← HPL.out]; omega)).mono ?_); rintro e w4 ⟨rfl, hb4⟩; rw [HCN.out p, ← HNH.out]; have HB4 := Lib.hid hb4; clear hb4)))
  go_loopw [7, 8] (fun sv kv wr => ∃ k : Nat, k ≤ 256 ∧ kv = .int .i64 k ∧ sv = .int .i64 (nestS ds p k : Nat) ∧ Below w3.heap.size w3 wr) (fun _ kv _ => 256 - (intOf kv).toNat)
  case atStart => exact ⟨0, Nat.zero_le _, rfl, rfl, HB4.out⟩
  case round =>
    obtain ⟨k, hk, rfl, rfl, hbe⟩ := hrel
    by_cases hlt : k < 256
    · have hsu := nestS_succ ds p k
      have hmo := nestS_mono ds p (k + 1) 256 (by omega)
      have hall := HALL.out
      obtain ⟨S0, hS0⟩ : ∃ S0, S0 = nestS ds p k := ⟨_, rfl⟩
      obtain ⟨n, hn⟩ : ∃ n, n = (hits (UInt8.ofNat k :: p) ds).length := ⟨_, rfl⟩
      rw [← hS0, ← hn] at hsu
      rw [← hS0]
      have HS := Lib.hid hsu
      have HN := Lib.hid hn
      have hbound : S0 + n ≤ NH := by omega
      have hNb : NH ≤ 1000000 := by omega
      clear hS0 hn hsu hmo hall
      have hwk : IntKind.u8.wrap (k : Int) = (k : Nat) := IntWalk.u8_in _ (by omega)
      have hws : IntKind.i64.wrap ((S0 : Int) + (n : Nat)) = (S0 : Int) + (n : Nat) := IntWalk.i64_in _ (by omega)
      have hbv : byV (UInt8.ofNat k) = .int .u8 (k : Nat) := by unfold byV; rw [show (UInt8.ofNat k).toNat = k from by simp; omega]
      have hps := Lib.hid ((HP3.out.later hbe).later ((Below.refl _ wr).alloc (Nat.le_refl _) (.cells #[.int .u8 (k : Nat)] 5)))
      have HB := Lib.hid hbe
      have hpsl : (p.map byV).length = pl * 1 := by rw [List.length_map, HPL.out, Nat.mul_one]
      have HPSL := Lib.hid hpsl
      have HBV := Lib.hid hbv
      clear hbe hpsl hbv
      go_wp2_with (first
        | (at_builtin; refine wp_app_sl (W := wr.alloc (.cells #[.int .u8 (k : Nat)] 5)) wr.heap.size 29 5 (.int .u8 0) 1 1 (.tmp 39) (.tmp 40) rfl rfl Try.underlying29 info_u8 rfl (by decide) (by decide) (.slice (some ⟨wr.heap.size, 0, none⟩) 1 1) 1 [.int .u8 (k : Nat)] ad pl cp (p.map byV) rfl rfl (own_new wr wr.heap.size _ _ (Nat.le_refl _)) HPSL.out hps.out.news (oneCell_map (fun _ => rfl) p) (by omega) (by simp) ?_; intro v9 w9 ho9 hg9; have HO9 := Lib.hid ho9; have HB9 := Lib.hid (((Below.refl wr.heap.size wr).alloc (Nat.le_refl _) _).grown hg9 (by simp) (fun g hg => by cases hg; exact Nat.le_refl _)); clear ho9 hg9)
        | (go_at_call 34; go_must (have hs9 : SlR byV w9 v9 (UInt8.ofNat k :: p) := SlR.of_own (enc := byV) (by rw [List.map_cons, HBV.out]; exact HO9.out)); go_must ((with_reducible refine (back_count x L v9 (UInt8.ofNat k :: p) w9 (HX.out w9 (HB.out.trans (HB9.out.mono HB.out.size))) hs9 (by rw [List.length_cons, ← HPL.out]; omega)).mono ?_); rintro e w10 ⟨rfl, hb10⟩; rw [HCN.out (UInt8.ofNat k :: p), ← HN.out]; have HB10 := Lib.hid ((HB.out.trans (HB9.out.mono HB.out.size)).trans (hb10.mono (by have := HB.out.size; have := HB9.out.size; omega))); clear hb10)))
      go_roundw
      case rel => exact ⟨k + 1, by omega, by go_num, by rw [HS.out]; go_num, HB10.out⟩
      case measure => simp [intOf]; omega
    · obtain rfl : k = 256 := by omega
      have hall := HALL.out
      have hbg := begs_le ds p
      obtain ⟨S0, hS0⟩ : ∃ S0, S0 = nestS ds p 256 := ⟨_, rfl⟩
      rw [← hS0] at hall ⊢
      have HS := Lib.hid hS0
      have HA2 := Lib.hid hall
      have HBG := Lib.hid hbg
      have HB := Lib.hid hbe
      have hS9 : S0 ≤ 1000000 := by omega
      clear hS0 hall hbe hbg
      go_wp2
      go_loopw [7, 10] (fun sv jv wr => ∃ j : Nat, j ≤ ds.length ∧ jv = .int .i64 j ∧ sv = .int .i64 (S0 + begs ds p j : Nat) ∧ Below w3.heap.size w3 wr) (fun _ jv _ => ds.length - (intOf jv).toNat)
      case atStart => exact ⟨0, Nat.zero_le _, rfl, rfl, HB.out⟩
      case round =>
        clear HB
        obtain ⟨j, hj, rfl, rfl, hbe⟩ := hrel
        by_cases hjl : j < ds.length
        · obtain ⟨ad2, B, c', rfl, hcell, hsd⟩ := ((HD.out.below (Nat.le_refl _) HB3.out).below (Nat.le_refl _) hbe).at_ j hjl
          have hbs := begs_succ ds p j hjl
          have hbj := HBG.out (j + 1)
          obtain ⟨b0, hb0⟩ : ∃ b0, b0 = begs ds p j := ⟨_, rfl⟩
          rw [← hb0] at hbs ⊢
          have HBS := Lib.hid hbs
          have HB := Lib.hid hbe
          have hb40 : b0 ≤ 1000 := by rw [hbs] at hbj; split at hbj <;> omega
          have hwx : IntKind.i64.wrap ((S0 + b0 : Nat) : Int) = (S0 + b0 : Nat) := IntWalk.i64_in _ (by omega)
          have hws : IntKind.i64.wrap (((S0 + b0 : Nat) : Int) + 1) = ((S0 + b0 : Nat) : Int) + 1 := IntWalk.i64_in _ (by omega)
          obtain ⟨sb, hsb⟩ : ∃ sb, sb = S0 + b0 := ⟨_, rfl⟩
          rw [← hsb] at hws hwx ⊢
          have HSB := Lib.hid hsb
          have hp3 := HP3.out.later hbe
          have hcc : ds[j].length ≤ c' := by
            obtain ⟨_, _, e, k1, _, _⟩ := hsd.form
            injection e with e1 e2 e3
            rw [e3]; exact k1
          by_cases hle : pl ≤ ds[j].length
          · have hcv1 := fun q => conv_back (wr.drewN q) _ _ ((hsd.take pl hle).later (below_drewN (Below.refl _ _) q))
            have hcv2 := fun q => conv_back (wr.drewN q) _ _ (hp3.later (below_drewN (Below.refl _ _) q))
            simp only [strV] at hcv1 hcv2
            have hci : (pl : Int) ≤ (c' : Int) := by omega
            have hpre := pre_take p ds[j] (by rw [← HPL.out]; exact hle)
            rw [← HPL.out] at hpre
            obtain ⟨tk, htk⟩ : ∃ tk, tk = ds[j].take pl := ⟨_, rfl⟩
            rw [← htk] at hcv1 hpre
            obtain ⟨N, hN⟩ : ∃ N, N = ds[j].length := ⟨_, rfl⟩
            rw [← hN] at hle hcell
            have hde : decide ((pl : Int) ≤ (N : Int)) = true := by simp; omega
            clear hb0 hbe hbs hbj hsb hp3 hsd htk hN
            cases hb : (tk == p) with
            | true =>
              rw [hb] at hpre
              have HPRE := Lib.hid hpre
              clear hpre
              go_wp2
              go_quiet (fail)
              go_wp2
              go_roundw
              case rel => exact ⟨j + 1, by omega, by go_num, by rw [HBS.out, HPRE.out, HSB.out]; go_num, below_drewN HB.out _⟩
              case measure => simp [intOf]; omega
            | false =>
              rw [hb] at hpre
              have HPRE := Lib.hid hpre
              clear hpre
              go_wp2
              go_quiet (fail)
              go_wp2
              go_roundw
              case rel => exact ⟨j + 1, by omega, by go_num, by rw [HBS.out, HPRE.out, HSB.out]; rfl, below_drewN HB.out _⟩
              case measure => simp [intOf]; omega
          · have HPRE : Hid (p.isPrefixOf ds[j] = false) := Lib.hid (pre_short p ds[j] (by rw [← HPL.out]; omega))
            obtain ⟨N, hN⟩ : ∃ N, N = ds[j].length := ⟨_, rfl⟩
            rw [← hN] at hle hcell
            have hde : decide ((pl : Int) ≤ (N : Int)) = false := by simp; omega
            clear hb0 hbe hbs hbj hsb hp3 hsd hN
            go_wp2
            go_quiet (fail)
            go_wp2
            go_roundw
            case rel => exact ⟨j + 1, by omega, by go_num, by rw [HBS.out, HPRE.out, HSB.out]; rfl, below_drewN HB.out _⟩
            case measure => simp [intOf]; omega
        · obtain rfl : j = ds.length := by omega
          have hfin : S0 + begs ds p ds.length = NH := HA2.out
          rw [hfin]
          have HB := Lib.hid hbe
          clear hfin hbe
          go_wp2_with (first
            | (go_at_call 32; go_must ((refine (hawk.out _).mono ?_); rintro e w11 ⟨rfl, hb11⟩; have HB11 := Lib.hid (HB.out.trans (hb11.mono HB.out.size)); clear hb11)))
          go_ret
          exact ⟨rfl, HB3.out.trans (HB11.out.mono HB3.out.size)⟩
set_option maxRecDepth 100000 in
set_option maxHeartbeats 1000000 in
theorem law12_nests (ds : List (List UInt8)) (v : Value) (p : List UInt8) (pv : Value) (w : World) (hd : DocsR w v ds) (hp : SlR byV w pv p) :
    Calls Try.prog 8 #[v, pv] w fun e w' => e = .returned (.bool true) ∧ Below w.heap.size w w' := by
  by_cases hmain : fewB ds = true ∧ 0 < p.length ∧ p.length ≤ 50
  · exact law12_nests_main ds v p pv w hd hp hmain.1 hmain.2.1 hmain.2.2
  have hfew := Lib.hid (law_few ds v w hd)
  have hawk := Lib.hid law12_awake
  obtain ⟨A, c, rfl, h1, h2, -⟩ := hd.form
  obtain ⟨Ap, cp, rfl, h3, h4, -⟩ := hp.form
  obtain ⟨pl, hpll⟩ : ∃ pl, pl = p.length := ⟨_, rfl⟩
  rw [← hpll] at hmain h3 ⊢
  cases hf : fewB ds with
  | false =>
    rw [hf] at hfew
    clear hd hp hf hmain hpll
    go_enter Try.func8, Try.ntmps8
    go_wp2_with (first
      | (go_at_call 20; go_must ((refine hfew.out.mono ?_); rintro e w1 ⟨rfl, rfl⟩))
      | (go_at_call 32; go_must ((refine (hawk.out _).mono ?_); rintro e w2 ⟨rfl, hb2⟩; have HB2 := Lib.hid hb2; clear hb2)))
    go_ret
    exact ⟨rfl, HB2.out⟩
  | true =>
    rw [hf] at hfew hmain
    by_cases hz : pl = 0
    · subst hz
      clear hd hp hf hmain hpll
      go_enter Try.func8, Try.ntmps8
      go_wp2_with (first
        | (go_at_call 20; go_must ((refine hfew.out.mono ?_); rintro e w1 ⟨rfl, rfl⟩))
        | (go_at_call 32; go_must ((refine (hawk.out _).mono ?_); rintro e w2 ⟨rfl, hb2⟩; have HB2 := Lib.hid hb2; clear hb2)))
      go_ret
      exact ⟨rfl, HB2.out⟩
    · have hz0 : ((pl : Int) == 0) = false := by simp; omega
      have hbig : 50 < pl := by
        rcases Nat.lt_or_ge 50 pl with h | h
        · exact h
        · exact absurd ⟨rfl, by omega, h⟩ hmain
      have hz1 : decide ((50 : Int) < (pl : Int)) = true := by simp; omega
      clear hd hp hf hmain hpll
      go_enter Try.func8, Try.ntmps8
      go_wp2_with (first
        | (go_at_call 20; go_must ((refine hfew.out.mono ?_); rintro e w1 ⟨rfl, rfl⟩))
        | (go_at_call 32; go_must ((refine (hawk.out _).mono ?_); rintro e w2 ⟨rfl, hb2⟩; have HB2 := Lib.hid hb2; clear hb2)))
      go_ret
      exact ⟨rfl, HB2.out⟩
end Go.Proofs.Ytinlmodkdjpocaa
