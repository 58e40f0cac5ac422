/- walk: Row. -/
import Derived.Test.YtinlmodkdjpocaaWla
set_option linter.unusedVariables false
namespace Go.Proofs.Ytinlmodkdjpocaa
open Go.RowKit Go.Shelf

def rowG (sz : List Nat) (doc off : Int) : Bool := decide (0 ≤ doc ∧ doc < sz.length ∧ 0 ≤ off ∧ off ≤ (sz.getD doc.toNat 0 : Nat) ∧ off % 32 = 0)
def rowV (sm sz : List Nat) (doc off : Int) : Nat := if rowG sz doc off then sm.getD (cntB sz doc.toNat + off.toNat / 32) 0 else 0
theorem cntB_lt (sz : List Nat) (d t : Nat) (hd : d < sz.length) (ht : t ≤ sz.getD d 0 / 32) : cntB sz d + t < cntB sz sz.length := by
  have h := cntB_mono sz (d + 1) sz.length (by omega)
  simp only [cntB] at h
  omega

theorem slice_ints2 (A : Option Addr) (n c m : Nat) (hm : m ≤ n) (hc : n ≤ c) (W : World) : (Instr.slice 73 (.slice A n c) none (some (.int .i64 (m : Nat))) none).run Try.prog W = .ok (.slice A m c) W := by
  have h1 := Try.underlying73
  have h2 := Try.underlying3
  cases A with
  | none => go_simp; intro h; omega
  | some a => go_simp; intro h; omega

set_option maxRecDepth 100000 in
set_option maxHeartbeats 4000000 in
theorem plc_row (b : Nat) (sm sz : List Nat) (f : Int → Option (Nat × Nat)) (w : World) (doc off : Int) (h : PlcR w b sm sz f) (hl : sm.length = cntB sz sz.length) (hzb : ∀ z ∈ sz, z ≤ 1000000) (hsb : sm.length ≤ 1000000) (hlb : sz.length ≤ 1000000) :
    Calls Try.prog 66 #[.pointer (some ⟨b, 0, none⟩), .int .i64 doc, .int .i64 off] w fun e w' => e = .returned (.tuple #[.int .i64 (rowV sm sz doc off : Nat), .bool (rowG sz doc off)]) ∧ w' = w := by
  obtain ⟨sv, zv, mb, p0, p1, p2, p3, p4, p5⟩ := h
  obtain ⟨A, c, rfl, a1, a2, -⟩ := p1.form
  obtain ⟨Az, cz, rfl, z1, z2, -⟩ := p3.form
  have P1 := Lib.hid p1
  have P3 := Lib.hid p3
  obtain ⟨NZ, hNZ⟩ : ∃ NZ, NZ = sz.length := ⟨_, rfl⟩
  obtain ⟨NS, hNS⟩ : ∃ NS, NS = sm.length := ⟨_, rfl⟩
  rw [← hNZ] at p2 z1 hlb P3
  rw [← hNS] at p0 a1 hsb P1
  have HNZ := Lib.hid hNZ
  have HNS := Lib.hid hNS
  have HL := Lib.hid hl
  have HZB := Lib.hid hzb
  clear p1 p3 p4 p5 hNZ hNS hl hzb
  by_cases hg : rowG sz doc off = true
  · have hv : rowV sm sz doc off = sm.getD (cntB sz doc.toNat + off.toNat / 32) 0 := by unfold rowV; rw [if_pos hg]
    rw [hg, hv]
    unfold rowG at hg
    rw [decide_eq_true_iff] at hg
    obtain ⟨g1, g2, g3, g4, g5⟩ := hg
    obtain ⟨d, rfl⟩ : ∃ d : Nat, doc = (d : Nat) := ⟨doc.toNat, by omega⟩
    obtain ⟨o, rfl⟩ : ∃ o : Nat, off = (o : Nat) := ⟨off.toNat, by omega⟩
    rw [Int.toNat_natCast, Int.toNat_natCast]
    rw [Int.toNat_natCast] at g4
    have hdl : d < sz.length := by omega
    obtain ⟨t, ht⟩ : ∃ t, t = o / 32 := ⟨_, rfl⟩
    rw [← ht]
    have hot : o = 32 * t := by omega
    have hgd : sz.getD d 0 = sz[d] := by simp [List.getD, hdl]
    have hidx := cntB_lt sz d t hdl (by omega)
    rw [← HL.out, ← HNS.out] at hidx
    obtain ⟨ads, eas, hcs⟩ := P1.out.at_ (cntB sz d + t) (by rw [← HNS.out]; exact hidx)
    cases eas
    have hcs' : w.cell? (ads.add (cntB sz d + t)) = some (.int .i64 (sm.getD (cntB sz d + t) 0 : Nat)) := by
      rw [hcs]; simp [natV, List.getD, show cntB sz d + t < sm.length from by rw [← HNS.out]; exact hidx]
    obtain ⟨adz, eaz, hcz⟩ := P3.out.at_ d hdl
    cases eaz
    have hcz' : w.cell? (adz.add d) = some (.int .i64 (sz[d] : Nat)) := hcz
    have hzd := HZB.out _ (List.getElem_mem hdl)
    obtain ⟨zd, hzde⟩ : ∃ zd, zd = sz[d] := ⟨_, rfl⟩
    rw [← hzde] at hcz' hzd
    have hod : o ≤ zd := by rw [hzde, ← hgd]; omega
    obtain ⟨RV, hRV⟩ : ∃ RV, RV = sm.getD (cntB sz d + t) 0 := ⟨_, rfl⟩
    rw [← hRV] at hcs' ⊢
    have hdN : d < NZ := by rw [HNZ.out]; exact hdl
    have q1 : decide ((d : Int) < 0) = false := by simp
    have q2 : decide (NZ ≤ d) = false := by simp; omega
    have q3 : decide ((o : Int) < 0) = false := by simp
    have q4 : decide (zd < o) = false := by simp; omega
    have q5 : (o : Int).tmod 32 = 0 := by rw [Int.tmod_eq_emod_of_nonneg (by omega)]; omega
    have q6 : (o : Int).tdiv 32 = (t : Nat) := by rw [Int.tdiv_eq_ediv_of_nonneg (by omega)]; omega
    have hsl := fun W => slice_ints2 (some adz) NZ cz d (by omega) z1 W
    have hcb : ∀ k, k ≤ d → cntB sz k ≤ 1000000 := fun k hk => by
      have := cntB_mono sz k d hk
      omega
    have HCB := Lib.hid hcb
    have HIX := Lib.hid hidx
    clear g1 g2 g3 g4 g5 ht hgd hcs hcz hzde hRV hdl hv hcb
    go_enter Try.func66, Try.ntmps66
    go_wp2_with fail
    go_loopw [8, 51] (fun nv kv wr => ∃ k : Nat, k ≤ d ∧ kv = .int .i64 k ∧ nv = .int .i64 (cntB sz k + t : Nat) ∧ wr = w) (fun _ kv _ => d - (intOf kv).toNat)
    case atStart => exact ⟨0, Nat.zero_le _, rfl, by simp [cntB], rfl⟩
    case round =>
      obtain ⟨k, hk, rfl, rfl, hw⟩ := hrel
      have hw2 := hw.symm
      subst hw2
      by_cases hlt : k < d
      · have hkl : k < sz.length := by have := HNZ.out; omega
        obtain ⟨adz', eaz, hck⟩ := P3.out.at_ k hkl
        cases eaz
        have hck' : w.cell? (adz.add k) = some (.int .i64 (sz[k] : Nat)) := hck
        have hzk := HZB.out _ (List.getElem_mem hkl)
        have hnx : cntB sz (k + 1) = cntB sz k + (sz[k] / 32 + 1) := by simp [cntB, List.getD, hkl]
        have hcb := HCB.out k hk
        have hcb1 := HCB.out (k + 1) hlt
        generalize sz[k] = zk at *
        obtain ⟨q, hq⟩ : ∃ q, q = zk / 32 := ⟨_, rfl⟩
        have q7 : (zk : Int).tdiv 32 = (q : Nat) := by rw [Int.tdiv_eq_ediv_of_nonneg (by omega)]; omega
        rw [← hq] at hnx
        obtain ⟨n, hn⟩ : ∃ n, n = cntB sz k + t := ⟨_, rfl⟩
        rw [← hn]
        have HNX : Hid (cntB sz (k + 1) + t = n + (q + 1)) := Lib.hid (by omega)
        have hix := HIX.out
        have q8 : IntKind.i64.wrap ((n : Int) + ((q : Int) + 1)) = (n : Int) + ((q : Int) + 1) := IntWalk.i64_in _ (by omega)
        have q9 : IntKind.i64.wrap ((q : Int) + 1) = (q : Int) + 1 := IntWalk.i64_in _ (by omega)
        have q10 : IntKind.i64.wrap ((q : Nat) : Int) = (q : Nat) := IntWalk.i64_in _ (by omega)
        have hqb : q ≤ 1000000 := by omega
        have hnb : n ≤ 3000000 := by omega
        clear hck hnx hcb hcb1 hq hn hix hkl
        go_wp2_with fail
        go_roundw
        case rel => exact ⟨k + 1, by omega, by go_num, by rw [HNX.out]; first | go_num | (rw [q9, q8]; go_num), trivial⟩
        case measure => simp [intOf]; omega
      · obtain rfl : k = d := by omega
        obtain ⟨n, hn⟩ : ∃ n, n = cntB sz k + t := ⟨_, rfl⟩
        rw [← hn] at hcs' HIX ⊢
        have hix := HIX.out
        clear hn hlt
        go_wp2_with fail
        go_ret2
        exact ⟨rfl, rfl⟩
  · have hg' : rowG sz doc off = false := by simpa using hg
    have hv : rowV sm sz doc off = 0 := by unfold rowV; rw [hg']; rfl
    rw [hg', hv]
    have hng : ¬ (0 ≤ doc ∧ doc < sz.length ∧ 0 ≤ off ∧ off ≤ (sz.getD doc.toNat 0 : Nat) ∧ off % 32 = 0) := by
      unfold rowG at hg
      rwa [decide_eq_true_iff] at hg
    clear hg hg' hv P1 p0 HL HNS
    by_cases h1 : doc < 0
    · have q1 : decide (doc < 0) = true := by simp; omega
      clear hng h1
      go_enter Try.func66, Try.ntmps66
      go_wp2_with fail
      go_ret2
      exact ⟨rfl, rfl⟩
    · obtain ⟨d, rfl⟩ : ∃ d : Nat, doc = (d : Nat) := ⟨doc.toNat, by omega⟩
      rw [Int.toNat_natCast] at hng
      have q1 : decide ((d : Int) < 0) = false := by simp
      by_cases h2 : NZ ≤ d
      · have q2 : decide (NZ ≤ d) = true := by simp; omega
        clear hng h1
        go_enter Try.func66, Try.ntmps66
        go_wp2_with fail
        go_ret2
        exact ⟨rfl, rfl⟩
      · have q2 : decide (NZ ≤ d) = false := by simp; omega
        have hdN : d < NZ := by omega
        by_cases h3 : off < 0
        · have q3 : decide (off < 0) = true := by simp; omega
          clear hng h1 h2 h3
          go_enter Try.func66, Try.ntmps66
          go_wp2_with fail
          go_ret2
          exact ⟨rfl, rfl⟩
        · obtain ⟨o, rfl⟩ : ∃ o : Nat, off = (o : Nat) := ⟨off.toNat, by omega⟩
          have q3 : decide ((o : Int) < 0) = false := by simp
          have hdl : d < sz.length := by rw [← HNZ.out]; exact hdN
          obtain ⟨adz, eaz, hcz⟩ := P3.out.at_ d hdl
          cases eaz
          have hcz' : w.cell? (adz.add d) = some (.int .i64 (sz[d] : Nat)) := hcz
          have hgd : sz.getD d 0 = sz[d] := by simp [List.getD, hdl]
          rw [hgd] at hng
          obtain ⟨zd, hzde⟩ : ∃ zd, zd = sz[d] := ⟨_, rfl⟩
          rw [← hzde] at hcz' hng
          have hdl2 := HNZ.out
          by_cases h4 : zd < o
          · have q4 : decide (zd < o) = true := by simp; omega
            clear hng h1 h2 h3 h4 hcz hgd hzde hdl hdl2
            go_enter Try.func66, Try.ntmps66
            go_wp2_with fail
            go_ret2
            exact ⟨rfl, rfl⟩
          · have q4 : decide (zd < o) = false := by simp; omega
            obtain ⟨m, hm⟩ : ∃ m, m = o % 32 := ⟨_, rfl⟩
            have q5 : (o : Int).tmod 32 = (m : Nat) := by rw [Int.tmod_eq_emod_of_nonneg (by omega)]; omega
            have hm0 : 0 < m := by omega
            have q6 : decide (0 < m) = true := by simp; omega
            clear hng h1 h2 h3 h4 hcz hgd hzde hm hdl hdl2
            go_enter Try.func66, Try.ntmps66
            go_wp2_with fail
            go_ret2
            exact ⟨rfl, rfl⟩
end Go.Proofs.Ytinlmodkdjpocaa
