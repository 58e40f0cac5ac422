/- the document: less. the document: sorted. the document: Rows. -/
import Derived.Test.YtinlmodkdjpocaaTxw
import Derived.Test.YtinlmodkdjpocaaQpl
import Derived.Test.YtinlmodkdjpocaaQbt
set_option linter.unusedVariables false
namespace Go.Proofs.Ytinlmodkdjpocaa
open Go.RowKit Go.Shelf

/-- documents that this world can hold -/
def DsOk (ds : List (List UInt8)) : Prop := ds.length ≤ 1000000 ∧ ∀ i (h : i < ds.length), ds[i].length ≤ 1000000
def HitOk (ds : List (List UInt8)) (a : Nat × Nat) : Prop := a.1 < ds.length ∧ a.2 ≤ (ds.getD a.1 []).length
def hitV (a : Nat × Nat) : Value := .agg #[natV a.1, natV a.2]

theorem toList_str (d : List UInt8) (k : Nat) (hk : k ≤ d.length) : ((⟨d.toArray⟩ : ByteArray).extract k (⟨d.toArray⟩ : ByteArray).size).toList = d.drop k := by
  rw [ByteArray.toList_eq]
  have hsz : (⟨d.toArray⟩ : ByteArray).size = d.length := by simp [ByteArray.size]
  rw [hsz, ByteArray.extract_mk]
  simp
  rw [List.take_of_length_le (by simp)]

set_option maxRecDepth 100000 in
set_option maxHeartbeats 2000000 in
theorem ref_less (ds : List (List UInt8)) (v : Value) (a b : Nat × Nat) (w : World) (hd : SlR strV w v ds) (hok : DsOk ds) (ha : HitOk ds a) (hb : HitOk ds b) :
    Calls Try.prog 113 #[v, hitV a, hitV b] w fun e w' => e = .returned (.bool (lessH ds a b)) ∧ Below w.heap.size w w' := by
  obtain ⟨A, c, rfl, h1, h2, -⟩ := hd.form
  obtain ⟨a1, a2⟩ := a
  obtain ⟨b1, b2⟩ := b
  obtain ⟨ha1, ha2⟩ := ha
  obtain ⟨hb1, hb2⟩ := hb
  obtain ⟨hk1, hk2⟩ := hok
  have ga : ds.getD a1 [] = ds[a1] := by simp [List.getD, ha1]
  have gb : ds.getD b1 [] = ds[b1] := by simp [List.getD, hb1]
  simp only [ga, gb] at ha1 ha2 hb1 hb2
  have hla := hk2 a1 ha1
  have hlb := hk2 b1 hb1
  unfold hitV natV
  obtain ⟨W1, hW1⟩ : ∃ W1, W1 = (w.alloc (.cells #[.int .i64 (a1 : Nat), .int .i64 (a2 : Nat)] 77)).alloc (.cells #[.int .i64 (b1 : Nat), .int .i64 (b2 : Nat)] 77) := ⟨_, rfl⟩
  have hB : Below w.heap.size w W1 := by rw [hW1]; exact ((Below.refl _ w).alloc (Nat.le_refl _) _).alloc (by simp) _
  obtain ⟨ad, rfl, ca⟩ := hd.at_ a1 ha1
  obtain ⟨ad2, e2, cb⟩ := hd.at_ b1 hb1
  injection e2 with e2
  subst e2
  have da := (hB.cell (World.block_lt_of_cell? w _ ca)).trans ca
  have db := (hB.cell (World.block_lt_of_cell? w _ cb)).trans cb
  have x0 : W1.heap[w.heap.size]? = some (.cells #[.int .i64 (a1 : Nat), .int .i64 (a2 : Nat)] 77 (0, 0)) := by
    rw [hW1]; exact heap_old (heap_alloc_new w _)
  have y0 : W1.heap[w.heap.size + 1]? = some (.cells #[.int .i64 (b1 : Nat), .int .i64 (b2 : Nat)] 77 (0, 0)) := by
    rw [hW1]
    have := heap_alloc_new (w.alloc (.cells #[.int .i64 (a1 : Nat), .int .i64 (a2 : Nat)] 77)) (.cells #[.int .i64 (b1 : Nat), .int .i64 (b2 : Nat)] 77)
    rw [World.size_alloc] at this
    exact this
  have x1 : W1.cell? ⟨w.heap.size, 0, none⟩ = some (.int .i64 (a1 : Nat)) := by rw [cell_of_block x0]; rfl
  have x2 : W1.cell? ⟨w.heap.size, 1, none⟩ = some (.int .i64 (a2 : Nat)) := by rw [cell_of_block x0]; rfl
  have y1 : W1.cell? ⟨w.heap.size + 1, 0, none⟩ = some (.int .i64 (b1 : Nat)) := by rw [cell_of_block y0]; rfl
  have y2 : W1.cell? ⟨w.heap.size + 1, 1, none⟩ = some (.int .i64 (b2 : Nat)) := by rw [cell_of_block y0]; rfl
  have sa := toList_str ds[a1] a2 ha2
  have sb := toList_str ds[b1] b2 hb2
  have za : (⟨ds[a1].toArray⟩ : ByteArray).size = ds[a1].length := by simp [ByteArray.size]
  have zb : (⟨ds[b1].toArray⟩ : ByteArray).size = ds[b1].length := by simp [ByteArray.size]
  have hpost : lessH ds (a1, a2) (b1, b2) = if ds[a1].drop a2 = ds[b1].drop b2 then decide (a1 < b1) else Op.bytesLess (ds[a1].drop a2) (ds[b1].drop b2) := by
    unfold lessH sufH; simp only [ga, gb]
  rw [hpost]
  simp only [strV] at da db
  obtain ⟨SA, hSA⟩ : ∃ SA, SA = (⟨ds[a1].toArray⟩ : ByteArray) := ⟨_, rfl⟩
  obtain ⟨SB, hSB⟩ : ∃ SB, SB = (⟨ds[b1].toArray⟩ : ByteArray) := ⟨_, rfl⟩
  rw [← hSA] at da sa za
  rw [← hSB] at db sb zb
  obtain ⟨LA, hLA⟩ : ∃ LA, LA = ds[a1].drop a2 := ⟨_, rfl⟩
  obtain ⟨LB, hLB⟩ : ∃ LB, LB = ds[b1].drop b2 := ⟨_, rfl⟩
  rw [← hLA] at sa ⊢
  rw [← hLB] at sb ⊢
  have ha2' : (a2 : Int) ≤ SA.size := by omega
  have hb2' : (b2 : Int) ≤ SB.size := by omega
  have hn1 : a1 < 9223372036854775808 := by omega
  have hn2 : b1 < 9223372036854775808 := by omega
  have HW1 := Lib.hid hW1
  have HB := Lib.hid hB
  clear hSA hSB hLA hLB hpost hd ca cb hW1 hB x0 y0 hla hlb hk2 ga gb za zb hk1
  by_cases he : LA = LB
  · rw [if_pos he]
    have hbeq : (LA == LB) = true := by simp [he]
    clear he
    go_enter Try.func113, Try.ntmps113
    go_wp2
    rw [← HW1.out]
    go_quiet (fail)
    go_wp2
    all_goals
      go_ret
      exact ⟨rfl, below_drewN HB.out _⟩
  · rw [if_neg he]
    have hbeq : (LA == LB) = false := by simp [he]
    clear he
    go_enter Try.func113, Try.ntmps113
    go_wp2
    rw [← HW1.out]
    go_quiet (fail)
    go_wp2
    all_goals
      go_ret
      exact ⟨rfl, below_drewN HB.out _⟩
end Go.Proofs.Ytinlmodkdjpocaa

set_option linter.unusedVariables false
namespace Go.Proofs.Ytinlmodkdjpocaa
open Go.RowKit Go.Shelf

/-- append of a slice onto a row of the call's own, in a plain region -/
theorem wp_app_sl {P : Program} {ops : Array Oper} {rest : List Oper} {o : Oper} {a : Act} {Q : Exit → Act → World → Prop} {W : World} (base : Nat) (t : TypeId) (e : TypeId) (z : Value) (size bytes : Nat) (s x : Operand) (hgd : o.guard = none)
    (ho : o.op = .call { callee := .builtin .append, args := #[s, x], argTypes := #[t, t] })
    (ht : P.underlying t = some (.slice e)) (hinfo : (P.info? e).map (fun i => (i.zero, i.size, i.bytes)) = some (some z, size, bytes)) (hzs : z.cells.size = size) (hsz : 0 < size) (hby : 0 < bytes)
    (v : Value) (n : Nat) (xs : List Value) (ad : Addr) (m c : Nat) (news : List Value) (hs : a.eval s = v) (hx : a.eval x = .slice (some ad) m c) (HO : W.ownsRow base e size v n xs)
    (hl : news.length = m * size) (hnews : ∀ j u, news[j]? = some u → W.cell? (ad.add j) = some u) (h1 : ∀ u ∈ news, u.oneCell' = true) (hb : (n + m) * bytes ≤ 140737488355328) (hbase : base ≤ W.heap.size)
    (h : ∀ v' w', w'.ownsRow base e size v' (n + m) (xs ++ news) → W.grownBy w' v.ownBlock → wpList P ops Q rest (a.put o.dst v') w') :
    wpList P ops Q (o :: rest) a W := by
  refine wpList_plain hgd fun K hK => ?_
  obtain ⟨i0, hi, hzz⟩ := Option.map_eq_some_iff.1 hinfo
  simp only [Prod.mk.injEq] at hzz
  obtain ⟨hz0, hz1, hz2⟩ := hzz
  have hlen : n + m ≤ 140737488355328 := Nat.le_trans (Nat.le_mul_of_pos_right _ hby) hb
  obtain ⟨v', w', h2, h3, h4, -, -⟩ := run_append_own_at (P := P) W base t o.type e i0 z size bytes ht hi hz0 hz1 hz2 hzs hsz v n xs HO ad m c news hl hnews h1 (by unfold maxLen; omega) hb hbase
  unfold Oper.wp execOp
  simp only [ho, resolve, invoke, builtin, Sem.run_bind, Sem.run_pure, Result.andThen_ok, List.map_toArray, List.map_cons, List.map_nil, hs, hx, h2]
  exact hK _ _ (h v' w' h3 h4)

theorem HitsR.news {w : World} {ad : Addr} {n c : Nat} {hs : List (Nat × Nat)} (h : HitsR w (.slice (some ad) n c) hs) : (flatH hs).length = n * 2 ∧ (∀ j u, (flatH hs)[j]? = some u → w.cell? (ad.add j) = some u) ∧ ∀ u ∈ flatH hs, u.oneCell' = true := by
  obtain ⟨A, c', he, h1, h2, h3⟩ := id h
  injection he with e1 e2 e3
  refine ⟨by rw [flatH_length, e2], fun j u hj => ?_, fun u hu => ?_⟩
  · have hlt : j < (flatH hs).length := (List.getElem?_eq_some_iff.1 hj).1
    rw [flatH_length] at hlt
    have hq : j / 2 < hs.length := by omega
    obtain ⟨ad2, e4, c1, c2⟩ := h.at_ (j / 2) hq
    injection e4 with e4
    subst e4
    obtain ⟨f1, f2⟩ := flatH_get hs (j / 2) hq
    rcases Nat.mod_two_eq_zero_or_one j with hm | hm
    · have e : j = j / 2 * 2 := by omega
      rw [e, f1] at hj
      rw [e, c1, hj]
    · have e : j = j / 2 * 2 + 1 := by omega
      rw [e, f2] at hj
      rw [e, c2, hj]
  · simp only [flatH, List.mem_flatMap] at hu
    obtain ⟨x, _, hu⟩ := hu
    simp at hu
    rcases hu with rfl | rfl <;> rfl
theorem HitsR.slc {w : World} {ad : Addr} {n c : Nat} {hs : List (Nat × Nat)} (h : HitsR w (.slice (some ad) n c) hs) (k : Nat) (hk : k ≤ n) : HitsR w (.slice (some (if c = k then ad else ad.add (k * 2))) (n - k) (c - k)) (hs.drop k) := by
  obtain ⟨A, c', he, h1, h2, h3⟩ := id h
  injection he with e1 e2 e3
  subst e1; subst e2; subst e3
  refine ⟨_, _, by rw [List.length_drop], by simp; omega, by omega, ?_⟩
  by_cases hc : c = k
  · left; apply List.eq_nil_of_length_eq_zero; simp; omega
  · rw [if_neg hc]
    rcases h3 with h3 | ⟨ad', h3, h4⟩
    · left; rw [h3]; simp
    · right
      injection h3 with h3
      subst h3
      refine ⟨_, rfl, fun j hj => ?_⟩
      have hj2 : k + j < hs.length := by simp at hj; omega
      obtain ⟨c1, c2⟩ := h4 (k + j) hj2
      rw [addr_add_add, addr_add_add, show k * 2 + j * 2 = (k + j) * 2 from by omega, show k * 2 + (j * 2 + 1) = (k + j) * 2 + 1 from by omega, List.getElem_drop]
      exact ⟨c1, c2⟩
theorem HitsR.top {w : World} {A : Option Addr} {n c : Nat} {hs : List (Nat × Nat)} (h : HitsR w (.slice A n c) hs) (k : Nat) (hk : k ≤ n) : HitsR w (.slice A k c) (hs.take k) := by
  obtain ⟨A', c', he, h1, h2, h3⟩ := id h
  injection he with e1 e2 e3
  subst e1; subst e2; subst e3
  refine ⟨_, _, by rw [List.length_take, Nat.min_eq_left hk], by simp; omega, by omega, ?_⟩
  rcases h3 with h3 | ⟨ad', h3, h4⟩
  · left; rw [h3]; simp
  · right
    refine ⟨_, h3, fun j hj => ?_⟩
    have hj2 : j < hs.length := by simp at hj; omega
    rw [List.getElem_take]
    exact h4 j hj2

theorem HitsR.some {w : World} {v : Value} {hs : List (Nat × Nat)} (h : HitsR w v hs) (hne : 0 < hs.length) : ∃ ad c, v = .slice (some ad) hs.length c ∧ hs.length ≤ c ∧ c ≤ 9223372036854775807 := by
  obtain ⟨A, c, rfl, h1, h2, h3⟩ := h
  rcases h3 with h3 | ⟨ad, rfl, _⟩
  · subst h3; exact absurd hne (Nat.lt_irrefl 0)
  · exact ⟨ad, c, rfl, h1, h2⟩
def vLen : Value → Nat
  | .slice _ n _ => n
  | _ => 0
/-- what the merge loop holds -/
def MrgSt (ds : List (List UInt8)) (w1 : World) (M : List (Nat × Nat)) (av bv ov : Value) (wr : World) : Prop :=
  ∃ xa xb xo ad ca bd cb, av = .slice (some ad) xa.length ca ∧ bv = .slice (some bd) xb.length cb ∧ HitsR w1 av xa ∧ HitsR w1 bv xb ∧ wr.ownsRow w1.heap.size 77 2 ov xo.length (flatH xo) ∧ Below w1.heap.size w1 wr ∧
    xo ++ List.merge xa xb (leH ds) = M ∧ (∀ x ∈ xa, HitOk ds x) ∧ (∀ x ∈ xb, HitOk ds x)

set_option maxRecDepth 100000 in
set_option maxHeartbeats 4000000 in
theorem ref_sorted (ds : List (List UInt8)) (dv : Value) (hok : DsOk ds) (n : Nat) : ∀ (hs : List (Nat × Nat)) (v : Value) (w : World), hs.length ≤ n → hs.length ≤ 10000000 → SlR strV w dv ds → HitsR w v hs → (∀ h ∈ hs, HitOk ds h) →
    Calls Try.prog 86 #[dv, v] w fun e w' => ∃ v' hs', e = .returned v' ∧ HitsR w' v' hs' ∧ hs'.Perm hs ∧ hs'.Pairwise (fun a b => leH ds a b = true) ∧ Below w.heap.size w w' := by
  induction n with
  | zero =>
    intro hs v w hn hb hd hh ho
    obtain ⟨A, c, rfl, h1, h2, -⟩ := hd.form
    obtain ⟨B, c', rfl, h3, h4, h5⟩ := id hh
    obtain rfl : hs = [] := List.eq_nil_of_length_eq_zero (by omega)
    clear h5 hd
    have HH := Lib.hid hh
    clear hh ho
    go_enter Try.func86, Try.ntmps86
    go_wp2
    go_ret
    exact ⟨_, [], rfl, HH.out, List.Perm.refl _, List.Pairwise.nil, Below.refl _ _⟩
  | succ n ih =>
    intro hs v w hn hb hd hh ho
    obtain ⟨A, c, rfl, h1, h2, -⟩ := hd.form
    obtain ⟨B, c', rfl, h3, h4, h5⟩ := id hh
    by_cases hlt : hs.length < 2
    · have HH := Lib.hid hh
      have hpw : hs.Pairwise (fun a b => leH ds a b = true) := by
        match hs, hlt with
        | [], _ => exact List.Pairwise.nil
        | [x], _ => exact List.pairwise_singleton _ _
      have HP := Lib.hid hpw
      clear hh ho h5 hpw ih hd
      obtain ⟨N, hN⟩ : ∃ N, N = hs.length := ⟨_, rfl⟩
      rw [← hN] at h3 hlt ⊢
      have HN := Lib.hid hN
      clear hN
      go_enter Try.func86, Try.ntmps86
      go_wp2
      go_ret
      have HH2 := HH.out
      rw [← HN.out] at HH2
      exact ⟨_, hs, rfl, HH2, List.Perm.refl _, HP.out, Below.refl _ _⟩
    · obtain ⟨ad, rfl⟩ : ∃ ad, B = some ad := by
        rcases h5 with h5 | ⟨ad, h5, _⟩
        · subst h5; simp at hlt
        · exact ⟨ad, h5⟩
      obtain ⟨m, hm⟩ : ∃ m, m = hs.length / 2 := ⟨_, rfl⟩
      have hne : ¬ c' = m := by omega
      have hc1 := fun W (hW : Below w.heap.size w W) => ih (hs.take m) (.slice (some ad) m c') W (by simp; omega) (by simp; omega) (hd.later hW) ((hh.top m (by omega)).later hW) (fun x hx => ho x (List.mem_of_mem_take hx))
      have hc2 := fun W (hW : Below w.heap.size w W) => ih (hs.drop m) (.slice (some (ad.add (m * 2))) (hs.length - m) (c' - m)) W (by simp; omega) (by simp; omega) (hd.later hW) (by have h := hh.slc m (by omega); rw [if_neg hne] at h; exact h.later hW) (fun x hx => ho x (List.mem_of_mem_drop hx))
      have HC1 := Lib.hid hc1
      have HC2 := Lib.hid hc2
      have HD := Lib.hid hd
      have HO := Lib.hid ho
      have HM := Lib.hid hm
      clear hc1 hc2 hd ho ih hh h5
      obtain ⟨N, hN⟩ : ∃ N, N = hs.length := ⟨_, rfl⟩
      rw [← hN] at hn hb h3 hlt hm
      rw [← hN] at HC2
      have HN := Lib.hid hN
      have hmd : (N : Int).tdiv 2 = (m : Nat) := by rw [hm]; exact (Int.ofNat_tdiv N 2).symm
      have hml : (m : Int) ≤ N := by omega
      have hmc : (m : Int) ≤ c' := by omega
      have hc63 : (c' : Int) ≤ 9223372036854775807 := by omega
      rw [← hN]
      have hwm : IntKind.i64.wrap (m : Int) = (m : Nat) := IntWalk.i64_in _ (by omega)
      clear hN hm
      go_enter Try.func86, Try.ntmps86
      go_wp2
      go_cut [5, 6] (fun av bv wc => ∃ xa xb ad ca bd cb, av = .slice (some ad) xa.length ca ∧ bv = .slice (some bd) xb.length cb ∧ HitsR wc av xa ∧ HitsR wc bv xb ∧ Below w.heap.size w wc ∧
        xa.Perm (hs.take m) ∧ xa.Pairwise (fun a b => leH ds a b = true) ∧ xb.Perm (hs.drop m) ∧ xb.Pairwise (fun a b => leH ds a b = true))
      case first =>
        go_region_law (first
          | (go_simp; go_at_call 86; (with_reducible refine (HC1.out _ ((Below.refl _ w).drew)).mono ?_); rintro e w5 ⟨v5, x5, rfl, hh5, hp5, hq5, hb5⟩; have H5 := Lib.hid hh5; have P5 := Lib.hid hp5; have Q5 := Lib.hid hq5; have B5 := Lib.hid (below_undrew hb5); clear hh5 hp5 hq5 hb5)
          | (go_simp; go_at_call 86; (with_reducible refine (HC2.out w5 B5.out).mono ?_); rintro e w6 ⟨v6, x6, rfl, hh6, hp6, hq6, hb6⟩; have H6 := Lib.hid hh6; have P6 := Lib.hid hp6; have Q6 := Lib.hid hq6; have B6 := Lib.hid hb6; clear hh6 hp6 hq6 hb6))
        all_goals
          go_wp2_with fail
          go_meet
          have hmN := HM.out
          rw [← HN.out] at hmN
          have hx5 : x5.length = m := by rw [P5.out.length_eq, List.length_take]; have := HN.out; omega
          have hx6 : x6.length = N - m := by rw [P6.out.length_eq, List.length_drop, HN.out]
          obtain ⟨ad5, c5, e5, -⟩ := H5.out.some (by omega)
          obtain ⟨ad6, c6, e6, -⟩ := H6.out.some (by omega)
          exact ⟨x5, x6, ad5, c5, ad6, c6, e5, e6, H5.out.later B6.out, H6.out, B5.out.trans (B6.out.mono B5.out.size), P5.out, Q5.out, P6.out, Q6.out⟩
      case rest =>
        obtain ⟨xa, xb, a1, ca, b1, cb, rfl, rfl, ha, hb2, hbel, pa, qa, pb, qb⟩ := hcut
        have hM : (List.merge xa xb (leH ds)).length = N := by
          rw [(List.merge_perm_append (le := leH ds)).length_eq, List.length_append, pa.length_eq, pb.length_eq, List.length_take, List.length_drop]
          have := HN.out; omega
        have hoa : ∀ x ∈ xa, HitOk ds x := fun x hx => HO.out x (List.mem_of_mem_take (pa.mem_iff.1 hx))
        have hob : ∀ x ∈ xb, HitOk ds x := fun x hx => HO.out x (List.mem_of_mem_drop (pb.mem_iff.1 hx))
        have hperm : (List.merge xa xb (leH ds)).Perm hs := by
          refine (List.merge_perm_append (le := leH ds)).trans ((pa.append pb).trans ?_)
          rw [List.take_append_drop]
        have hpw : (List.merge xa xb (leH ds)).Pairwise (fun a b => leH ds a b = true) := List.pairwise_merge (leH_trans ds) (leH_total ds) xa xb qa qb
        have hst : MrgSt ds wc (List.merge xa xb (leH ds)) (.slice (some a1) xa.length ca) (.slice (some b1) xb.length cb) (.slice none 0 0) wc :=
          ⟨xa, xb, [], a1, ca, b1, cb, rfl, rfl, ha, hb2, World.ownsRow_nil _ _ _ _, Below.refl _ _, rfl, hoa, hob⟩
        have HST := Lib.hid hst
        generalize List.merge xa xb (leH ds) = M at *
        have HP := Lib.hid hperm
        have HQ := Lib.hid hpw
        have HBel := Lib.hid hbel
        have HDC := Lib.hid (HD.out.later hbel)
        have HOK := Lib.hid hok
        clear ha hb2 hbel pa qa pb qb hoa hob hperm hpw hst HC1 HC2 HD HO HM HN hok
        go_wp2
        go_loopw [5, 6, 7] (fun av bv ov wr => MrgSt ds wc M av bv ov wr) (fun av bv _ _ => vLen av + vLen bv)
        case atStart => exact HST.out
        case round =>
          clear HST
          obtain ⟨ya, yb, xo, a2, ca2, b2, cb2, rfl, rfl, ha, hb2, ho, hbel, hmrg, hoa, hob⟩ := hrel
          have hlenM : xo.length + ya.length + yb.length = N := by
            have := congrArg List.length hmrg
            rw [List.length_append, (List.merge_perm_append (le := leH ds)).length_eq, List.length_append] at this
            omega
          have hsz := hbel.size
          obtain ⟨Ao, co, rfl⟩ := own_form ho
          by_cases hend : ya = [] ∨ yb = []
          · have hfl : flatH xo ++ flatH ya ++ flatH yb = flatH M := by
              rw [← hmrg]
              rcases hend with rfl | rfl <;> simp [flatH]
            have hcond : ¬ (0 < ya.length) ∨ ¬ (0 < yb.length) := by
              rcases hend with rfl | rfl
              · exact .inl (by simp)
              · exact .inr (by simp)
            have HFL := Lib.hid hfl
            have HO := Lib.hid ho
            have HB := Lib.hid hbel
            obtain ⟨na1, na2, na3⟩ := (ha.later hbel).news
            obtain ⟨nb1, nb2, nb3⟩ := hb2.news
            have NA1 := Lib.hid na1
            have NA2 := Lib.hid na2
            have NA3 := Lib.hid na3
            have NB1 := Lib.hid nb1
            have NB2 := Lib.hid (fun W' (hW : Below wc.heap.size wc W') => (hb2.later hW).news.2.1)
            have NB3 := Lib.hid nb3
            clear ha hb2 ho hbel hmrg hoa hob hend hfl na1 na2 na3 nb1 nb2 nb3
            obtain ⟨ka, hka⟩ : ∃ ka, ka = ya.length := ⟨_, rfl⟩
            obtain ⟨kb, hkb⟩ : ∃ kb, kb = yb.length := ⟨_, rfl⟩
            obtain ⟨ko, hko⟩ : ∃ ko, ko = xo.length := ⟨_, rfl⟩
            rw [← hka] at NA1 hcond hlenM ⊢
            rw [← hkb] at NB1 hcond hlenM ⊢
            rw [← hko] at HO hlenM ⊢
            clear hka hkb hko
            have hca : 0 < ka ∨ ka = 0 := by omega
            rcases hca with hca | hca
            · have hkb0 : kb = 0 := by omega
              subst hkb0
              go_wp2_with (first
                | (at_builtin; refine wp_app_sl wc.heap.size 32 77 (.agg #[.int .i64 0, .int .i64 0]) 2 16 (.tmp 58) (.tmp 59) rfl rfl Try.underlying32 info_hit rfl (by decide) (by decide) (.slice Ao ko co) ko (flatH xo) a2 ka ca2 (flatH ya) rfl rfl HO.out NA1.out NA2.out NA3.out (by omega) hsz ?_; intro v9 w9 ho9 hg9; have HO9 := Lib.hid ho9; have hb9 := HB.out.grown hg9 hsz (fun g hg => own_base HO.out hg); have hsz9 := hb9.size; have HB9 := Lib.hid hb9; clear ho9 hg9 hb9)
                | (at_builtin; refine wp_app_sl wc.heap.size 32 77 (.agg #[.int .i64 0, .int .i64 0]) 2 16 (.tmp 60) (.tmp 61) rfl rfl Try.underlying32 info_hit rfl (by decide) (by decide) v9 (ko + ka) (flatH xo ++ flatH ya) b2 0 cb2 (flatH yb) rfl rfl HO9.out NB1.out (NB2.out w9 HB9.out) NB3.out (by omega) hsz9 ?_; intro v10 w10 ho10 hg10; have HO10 := Lib.hid ho10; have HB10 := Lib.hid (HB9.out.grown hg10 hsz9 (fun g hg => own_base HO9.out hg)); clear ho10 hg10))
              go_ret
              have hfin := HO10.out
              rw [HFL.out] at hfin
              exact ⟨_, M, rfl, HitsR.of_own hfin, HP.out, HQ.out, HBel.out.trans (HB10.out.mono HBel.out.size)⟩
            · subst hca
              go_wp2_with (first
                | (at_builtin; refine wp_app_sl wc.heap.size 32 77 (.agg #[.int .i64 0, .int .i64 0]) 2 16 (.tmp 58) (.tmp 59) rfl rfl Try.underlying32 info_hit rfl (by decide) (by decide) (.slice Ao ko co) ko (flatH xo) a2 0 ca2 (flatH ya) rfl rfl HO.out NA1.out NA2.out NA3.out (by omega) hsz ?_; intro v9 w9 ho9 hg9; have HO9 := Lib.hid ho9; have hb9 := HB.out.grown hg9 hsz (fun g hg => own_base HO.out hg); have hsz9 := hb9.size; have HB9 := Lib.hid hb9; clear ho9 hg9 hb9)
                | (at_builtin; refine wp_app_sl wc.heap.size 32 77 (.agg #[.int .i64 0, .int .i64 0]) 2 16 (.tmp 60) (.tmp 61) rfl rfl Try.underlying32 info_hit rfl (by decide) (by decide) v9 (ko + 0) (flatH xo ++ flatH ya) b2 kb cb2 (flatH yb) rfl rfl HO9.out NB1.out (NB2.out w9 HB9.out) NB3.out (by omega) hsz9 ?_; intro v10 w10 ho10 hg10; have HO10 := Lib.hid ho10; have HB10 := Lib.hid (HB9.out.grown hg10 hsz9 (fun g hg => own_base HO9.out hg)); clear ho10 hg10))
              go_ret
              have hfin := HO10.out
              rw [HFL.out] at hfin
              exact ⟨_, M, rfl, HitsR.of_own hfin, HP.out, HQ.out, HBel.out.trans (HB10.out.mono HBel.out.size)⟩
          · cases ya with
            | nil => exact absurd (.inl rfl) hend
            | cons y ya =>
            cases yb with
            | nil => exact absurd (.inr rfl) hend
            | cons z yb =>
              obtain ⟨ad3, e3, c1, c2⟩ := ha.at_ 0 (by simp)
              injection e3 with e3
              subst e3
              obtain ⟨ad4, e4, d1, d2⟩ := hb2.at_ 0 (by simp)
              injection e4 with e4
              subst e4
              have hsa := ha.slc 1 (by simp)
              have hsb := hb2.slc 1 (by simp)
              have hless := ref_less ds (.slice A ds.length c) z y wr.drew (((HDC.out.later hbel).later (below_drewN (Below.refl _ _) 1))) HOK.out (hob z (List.mem_cons_self ..)) (hoa y (List.mem_cons_self ..))
              have hoa1 : ∀ x ∈ ya, HitOk ds x := fun x hx => hoa x (List.mem_cons_of_mem _ hx)
              have hob1 : ∀ x ∈ yb, HitOk ds x := fun x hx => hob x (List.mem_cons_of_mem _ hx)
              obtain ⟨y1, y2⟩ := y
              obtain ⟨z1, z2⟩ := z
              simp only [List.getElem_cons_zero, Nat.zero_mul, Nat.zero_add, List.length_cons, List.drop_succ_cons, List.drop_zero, natV] at c1 c2 d1 d2 hsa hsb hlenM ⊢
              unfold hitV natV at hless
              simp only [] at hless
              have c1' : wr.cell? (a2.add (0 * 2)) = some (.int .i64 (y1 : Nat)) := by rw [Nat.zero_mul]; exact (hbel.cell (World.block_lt_of_cell? wc _ c1)).trans c1
              have c2' : wr.cell? (a2.add (0 * 2 + 1)) = some (.int .i64 (y2 : Nat)) := by rw [Nat.zero_mul, Nat.zero_add]; exact (hbel.cell (World.block_lt_of_cell? wc _ c2)).trans c2
              have d1' : wr.cell? (b2.add (0 * 2)) = some (.int .i64 (z1 : Nat)) := by rw [Nat.zero_mul]; exact (hbel.cell (World.block_lt_of_cell? wc _ d1)).trans d1
              have d2' : wr.cell? (b2.add (0 * 2 + 1)) = some (.int .i64 (z2 : Nat)) := by rw [Nat.zero_mul, Nat.zero_add]; exact (hbel.cell (World.block_lt_of_cell? wc _ d2)).trans d2
              have c3 := hit_second c2'
              have d3 := hit_second d2'
              rw [Nat.zero_mul] at c1' d1' c3 d3
              have e0 : a2.add 0 = a2 := by simp [Addr.add]
              have e1 : b2.add 0 = b2 := by simp [Addr.add]
              rw [e0] at c1' c3
              rw [e1] at d1' d3
              have hmrg2 := hmrg
              rw [List.cons_merge_cons] at hmrg2
              unfold leH at hmrg2
              simp only [Bool.not_eq_true'] at hmrg2
              have HL := Lib.hid hless
              have HA := Lib.hid hsa
              have HBb := Lib.hid hsb
              have HA0 := Lib.hid ha
              have HB0 := Lib.hid hb2
              have HO := Lib.hid ho
              have HB := Lib.hid hbel
              have HOA := Lib.hid hoa
              have HOB := Lib.hid hob
              have HOA1 := Lib.hid hoa1
              have HOB1 := Lib.hid hob1
              clear ha hb2 ho hbel hmrg hoa hob hoa1 hob1 hless hsa hsb hend c1 c2 c2' d1 d2 d2' e0 e1
              obtain ⟨ka, hka⟩ : ∃ ka, ka = ya.length := ⟨_, rfl⟩
              obtain ⟨kb, hkb⟩ : ∃ kb, kb = yb.length := ⟨_, rfl⟩
              obtain ⟨ko, hko⟩ : ∃ ko, ko = xo.length := ⟨_, rfl⟩
              rw [← hka] at hlenM ⊢
              rw [← hkb] at hlenM ⊢
              rw [← hko] at HO hlenM ⊢
              have HKA := Lib.hid hka
              have HKB := Lib.hid hkb
              have HKO := Lib.hid hko
              clear hka hkb hko
              have HPB : Hid (cb2 = 1 → HitsR wc (.slice (some b2) kb 0) yb) := Lib.hid (fun h => by have h2 := HBb.out; rw [if_pos h, h] at h2; rw [HKB.out]; exact h2)
              have HNB : Hid (¬ cb2 = 1 → HitsR wc (.slice (some ⟨b2.block, b2.off + 2, none⟩) kb (cb2 - 1)) yb) := Lib.hid (fun h => by have h2 := HBb.out; rw [if_neg h] at h2; rw [HKB.out]; exact h2)
              have HPA : Hid (ca2 = 1 → HitsR wc (.slice (some a2) ka 0) ya) := Lib.hid (fun h => by have h2 := HA.out; rw [if_pos h, h] at h2; rw [HKA.out]; exact h2)
              have HNA : Hid (¬ ca2 = 1 → HitsR wc (.slice (some ⟨a2.block, a2.off + 2, none⟩) ka (ca2 - 1)) ya) := Lib.hid (fun h => by have h2 := HA.out; rw [if_neg h] at h2; rw [HKA.out]; exact h2)
              have HFA : Hid (HitsR wc (.slice (some a2) (ka + 1) ca2) ((y1, y2) :: ya)) := Lib.hid (by rw [HKA.out]; exact HA0.out)
              have HFB : Hid (HitsR wc (.slice (some b2) (kb + 1) cb2) ((z1, z2) :: yb)) := Lib.hid (by rw [HKB.out]; exact HB0.out)
              have HLA : Hid (ka + 1 = ((y1, y2) :: ya).length) := Lib.hid (by rw [List.length_cons, HKA.out])
              have HLB : Hid (kb + 1 = ((z1, z2) :: yb).length) := Lib.hid (by rw [List.length_cons, HKB.out])
              cases hl : lessH ds (z1, z2) (y1, y2) with
              | true =>
                rw [hl] at HL hmrg2
                simp only [if_false, Bool.true_eq_false] at hmrg2
                have HMR := Lib.hid hmrg2
                clear hmrg2 hl
                have hbnd : (1 : Int) ≤ (kb : Int) + 1 := by omega
                by_cases hcap : cb2 = 1
                all_goals
                  have HCAP := Lib.hid hcap
                  go_wp2
                  go_region_law ((go_simp; go_at_call 113; (with_reducible refine HL.out.mono ?_); rintro e w6 ⟨rfl, hb6⟩; have B6 := Lib.hid (below_undrew hb6); clear hb6))
                  all_goals
                    have hs6 : wr.heap.size ≤ w6.heap.size := B6.out.size
                    have w1d := (B6.out.cell (World.block_lt_of_cell? wr _ d1')).trans d1'
                    have w3d := (B6.out.cell (World.block_lt_of_cell? wr _ d3)).trans d3
                    have HO6 := Lib.hid (own_below HO.out B6.out)
                    have HB6 := Lib.hid (HB.out.trans (B6.out.mono hsz))
                    have hsz6 : wc.heap.size ≤ w6.heap.size := Nat.le_trans hsz hs6
                    go_wp2_with (first
                      | (at_builtin; refine wp_app wc.heap.size 32 77 (.agg #[.int .i64 0, .int .i64 0]) 2 16 (.tmp 42) (.tmp 46) rfl rfl Try.underlying32 info_hit rfl (by decide) (by decide) (.slice Ao ko co) ko (flatH xo) #[.int .i64 (z1 : Nat), .int .i64 (z2 : Nat)] rfl rfl HO6.out rfl (by intro u hu; simp at hu; rcases hu with rfl | rfl <;> rfl) (by omega) hsz6 ?_; intro g cap w9 ho9 hg9 hat9 hgb9 hgl9 hgs9; have HO9 := Lib.hid ho9; have HB9 := Lib.hid (HB6.out.grown hg9 hsz6 (fun g hg => own_base HO6.out hg)); clear ho9 hg9 hat9))
                    go_roundw
                    case rel =>
                      have ho2 := HO9.out
                      rw [show flatH xo ++ (#[.int .i64 (z1 : Nat), .int .i64 (z2 : Nat)] : Array Value).toList = flatH (xo ++ [(z1, z2)]) from (flatH_snoc xo (z1, z2)).symm, HKO.out, show xo.length + 1 = (xo ++ [(z1, z2)]).length from by simp] at ho2
                      rw [HKO.out, show xo.length + 1 = (xo ++ [(z1, z2)]).length from by simp]
                      first
                        | exact ⟨(y1, y2) :: ya, yb, xo ++ [(z1, z2)], a2, ca2, _, _, by rw [HLA.out], by rw [← HKB.out], HFA.out, HPB.out HCAP.out, ho2, HB9.out, by rw [List.append_assoc]; exact HMR.out, HOA.out, HOB1.out⟩
                        | exact ⟨(y1, y2) :: ya, yb, xo ++ [(z1, z2)], a2, ca2, _, _, by rw [HLA.out], by rw [← HKB.out], HFA.out, HNB.out HCAP.out, ho2, HB9.out, by rw [List.append_assoc]; exact HMR.out, HOA.out, HOB1.out⟩
                    case measure => simp only [vLen]; omega
              | false =>
                rw [hl] at HL hmrg2
                simp only [if_true] at hmrg2
                have HMR := Lib.hid hmrg2
                clear hmrg2 hl
                have hbnd : (1 : Int) ≤ (ka : Int) + 1 := by omega
                by_cases hcap : ca2 = 1
                all_goals
                  have HCAP := Lib.hid hcap
                  go_wp2
                  go_region_law ((go_simp; go_at_call 113; (with_reducible refine HL.out.mono ?_); rintro e w6 ⟨rfl, hb6⟩; have B6 := Lib.hid (below_undrew hb6); clear hb6))
                  all_goals
                    have hs6 : wr.heap.size ≤ w6.heap.size := B6.out.size
                    have w1d := (B6.out.cell (World.block_lt_of_cell? wr _ c1')).trans c1'
                    have w3d := (B6.out.cell (World.block_lt_of_cell? wr _ c3)).trans c3
                    have HO6 := Lib.hid (own_below HO.out B6.out)
                    have HB6 := Lib.hid (HB.out.trans (B6.out.mono hsz))
                    have hsz6 : wc.heap.size ≤ w6.heap.size := Nat.le_trans hsz hs6
                    go_wp2_with (first
                      | (at_builtin; refine wp_app wc.heap.size 32 77 (.agg #[.int .i64 0, .int .i64 0]) 2 16 (.tmp 50) (.tmp 54) rfl rfl Try.underlying32 info_hit rfl (by decide) (by decide) (.slice Ao ko co) ko (flatH xo) #[.int .i64 (y1 : Nat), .int .i64 (y2 : Nat)] rfl rfl HO6.out rfl (by intro u hu; simp at hu; rcases hu with rfl | rfl <;> rfl) (by omega) hsz6 ?_; intro g cap w9 ho9 hg9 hat9 hgb9 hgl9 hgs9; have HO9 := Lib.hid ho9; have HB9 := Lib.hid (HB6.out.grown hg9 hsz6 (fun g hg => own_base HO6.out hg)); clear ho9 hg9 hat9))
                    go_roundw
                    case rel =>
                      have ho2 := HO9.out
                      rw [show flatH xo ++ (#[.int .i64 (y1 : Nat), .int .i64 (y2 : Nat)] : Array Value).toList = flatH (xo ++ [(y1, y2)]) from (flatH_snoc xo (y1, y2)).symm, HKO.out, show xo.length + 1 = (xo ++ [(y1, y2)]).length from by simp] at ho2
                      rw [HKO.out, show xo.length + 1 = (xo ++ [(y1, y2)]).length from by simp]
                      first
                        | exact ⟨ya, (z1, z2) :: yb, xo ++ [(y1, y2)], _, _, b2, cb2, by rw [← HKA.out], by rw [HLB.out], HPA.out HCAP.out, HFB.out, ho2, HB9.out, by rw [List.append_assoc]; exact HMR.out, HOA1.out, HOB.out⟩
                        | exact ⟨ya, (z1, z2) :: yb, xo ++ [(y1, y2)], _, _, b2, cb2, by rw [← HKA.out], by rw [HLB.out], HNA.out HCAP.out, HFB.out, ho2, HB9.out, by rw [List.append_assoc]; exact HMR.out, HOA1.out, HOB.out⟩
                    case measure => simp only [vLen]; omega
end Go.Proofs.Ytinlmodkdjpocaa

set_option linter.unusedVariables false
namespace Go.Proofs.Ytinlmodkdjpocaa
open Go.RowKit Go.Shelf

/-- the places of the first i documents, and the first k of the next -/
def rowAcc (ds : List (List UInt8)) (i k : Nat) : List (Nat × Nat) := (List.range i).flatMap (fun d => (List.range ((ds.getD d []).length + 1)).map (fun o => (d, o))) ++ (List.range k).map (fun o => (i, o))
theorem rowAcc_next (ds : List (List UInt8)) (i k : Nat) : rowAcc ds i (k + 1) = rowAcc ds i k ++ [(i, k)] := by
  unfold rowAcc; rw [List.range_succ, List.map_append, List.append_assoc]; rfl
theorem rowAcc_doc (ds : List (List UInt8)) (i : Nat) (hi : i < ds.length) : rowAcc ds i (ds[i].length + 1) = rowAcc ds (i + 1) 0 := by
  have g : ds.getD i [] = ds[i] := by simp [List.getD, hi]
  unfold rowAcc
  rw [List.range_succ (n := i), List.flatMap_append, List.flatMap_singleton, g]
  simp
theorem rowAcc_end (ds : List (List UInt8)) : rowAcc ds ds.length 0 = placesH ds := by unfold rowAcc placesH; simp
theorem rowAcc_length (ds : List (List UInt8)) (i k : Nat) (hi : i ≤ ds.length) : (rowAcc ds i k).length = startAt ds i + k := by
  induction i generalizing k with
  | zero => simp [rowAcc, startAt, rowOf]
  | succ i ih =>
    have h := ih (ds[i].length + 1) (by omega)
    rw [rowAcc_doc ds i hi] at h
    have e : (rowAcc ds (i + 1) k).length = (rowAcc ds (i + 1) 0).length + k := by unfold rowAcc; simp
    rw [e, h, startAt_succ ds i hi]
theorem dsOk_row (ds : List (List UInt8)) (hb : (rowOf ds).length ≤ 1000000) : DsOk ds := by
  refine ⟨by have := rowLen_eq ds; omega, fun i h => ?_⟩
  have h1 := startAt_le ds (i + 1) (by omega)
  rw [startAt_succ ds i h] at h1
  omega

set_option maxRecDepth 100000 in
set_option maxHeartbeats 4000000 in
theorem ref_rows (ds : List (List UInt8)) (dv : Value) (w : World) (hd : SlR strV w dv ds) (hb : (rowOf ds).length ≤ 1000000) :
    Calls Try.prog 55 #[dv] w fun e w' => ∃ v' hs, e = .returned v' ∧ HitsR w' v' hs ∧ IsRows ds hs ∧ Below w.heap.size w w' := by
  have hok := dsOk_row ds hb
  have hbl := hok.1
  obtain ⟨A, c, rfl, h1, h2, -⟩ := hd.form
  have HD := Lib.hid hd
  have HOK := Lib.hid hok
  clear hd hok
  go_enter Try.func55, Try.ntmps55
  go_wp2
  go_loopw [3, 4] (fun ov iv wr => ∃ i : Nat, i ≤ ds.length ∧ iv = .int .i64 i ∧ wr.ownsRow w.heap.size 77 2 ov (rowAcc ds i 0).length (flatH (rowAcc ds i 0)) ∧ Below w.heap.size w wr) (fun _ iv _ => ds.length - (intOf iv).toNat)
  case atStart => exact ⟨0, Nat.zero_le _, rfl, World.ownsRow_nil _ _ _ _, Below.refl _ _⟩
  case round =>
    obtain ⟨i, hi, rfl, ho, hbe⟩ := hrel
    by_cases hlt : i < ds.length
    · have HO := Lib.hid ho
      have HB := Lib.hid hbe
      have hli := HOK.out.2 i hlt
      clear ho hbe
      obtain ⟨ad, rfl, hc⟩ := HD.out.at_ i hlt
      go_wp2
      go_loopw [3, 5] (fun ov kv wr => ∃ k : Nat, k ≤ ds[i].length + 1 ∧ kv = .int .i64 k ∧ wr.ownsRow w.heap.size 77 2 ov (rowAcc ds i k).length (flatH (rowAcc ds i k)) ∧ Below w.heap.size w wr) (fun _ kv _ => ds[i].length + 2 - (intOf kv).toNat)
      case atStart => exact ⟨0, Nat.zero_le _, rfl, HO.out, HB.out⟩
      case round =>
        clear HO HB
        obtain ⟨k, hk, rfl, ho, hbe⟩ := hrel
        have hcw : wr.cell? (ad.add i) = some (.string ⟨ds[i].toArray⟩) := (hbe.cell (World.block_lt_of_cell? w _ hc)).trans hc
        obtain ⟨Ao, co, rfl⟩ := own_form ho
        have HO := Lib.hid ho
        have HB := Lib.hid hbe
        have hsz := hbe.size
        clear ho hbe
        have hsd : (⟨ds[i].toArray⟩ : ByteArray).size = ds[i].length := by simp [ByteArray.size]
        have hacc : (rowAcc ds i k).length ≤ 3000000 := by
          rw [rowAcc_length ds i k hi]
          have := startAt_le ds i hi
          omega
        by_cases hin : k ≤ ds[i].length
        · have HT : Hid (flatH (rowAcc ds i (k + 1)) = flatH (rowAcc ds i k) ++ [.int .i64 (i : Nat), .int .i64 (k : Nat)]) := Lib.hid (by rw [rowAcc_next, flatH_snoc]; rfl)
          have HL : Hid ((rowAcc ds i (k + 1)).length = (rowAcc ds i k).length + 1) := Lib.hid (by rw [rowAcc_next]; simp)
          generalize hR : (rowAcc ds i k).length = R at *
          have HR := Lib.hid hR
          clear hR
          go_wp2_with (first
            | (at_builtin; refine wp_app w.heap.size 32 77 (.agg #[.int .i64 0, .int .i64 0]) 2 16 (.tmp 21) (.tmp 25) rfl rfl Try.underlying32 info_hit rfl (by decide) (by decide) (.slice Ao R co) R (flatH (rowAcc ds i k)) #[.int .i64 (i : Nat), .int .i64 (k : Nat)] rfl rfl HO.out rfl (by intro u hu; simp at hu; rcases hu with rfl | rfl <;> rfl) (by omega) hsz ?_; intro g cap w9 ho9 hg9 hat9 hgb9 hgl9 hgs9; have HO9 := Lib.hid ho9; have HG9 := Lib.hid hg9; clear ho9 hg9 hat9))
          go_roundw
          case rel => exact ⟨k + 1, by omega, by go_num, by rw [HT.out, HL.out]; exact HO9.out, HB.out.grown HG9.out hsz (fun g hg => own_base HO.out hg)⟩
          case measure => simp [intOf]; omega
        · have hk' : k = ds[i].length + 1 := by omega
          have HT : Hid (rowAcc ds i k = rowAcc ds (i + 1) 0) := Lib.hid (by rw [hk']; exact rowAcc_doc ds i hlt)
          generalize hR : (rowAcc ds i k).length = R at *
          have HR := Lib.hid hR
          clear hR
          go_wp2
          go_roundw
          case rel => exact ⟨i + 1, by omega, by go_num, by rw [← HT.out, HR.out]; exact HO.out, HB.out⟩
          case measure => simp [intOf]; omega
    · have hi' : i = ds.length := by omega
      subst hi'
      obtain ⟨Ao, co, rfl⟩ := own_form ho
      rw [rowAcc_end] at ho ⊢
      have hln : (placesH ds).length ≤ 3000000 := by
        rw [← rowAcc_end, rowAcc_length ds _ _ (Nat.le_refl _)]
        have := startAt_le ds ds.length (Nat.le_refl _)
        omega
      have hso := Lib.hid (ref_sorted ds (.slice A ds.length c) HOK.out (placesH ds).length (placesH ds) (.slice Ao (placesH ds).length co) wr (Nat.le_refl _) (by omega) (HD.out.later hbe) (HitsR.of_own ho) (fun a ha => by
        obtain ⟨hda, hoa⟩ := (placesH_mem ds a).1 ha
        have g : ds.getD a.1 [] = ds[a.1] := by simp [List.getD, hda]
        exact ⟨hda, by rw [g]; exact hoa⟩))
      have HB := Lib.hid hbe
      clear ho hbe
      go_wp2_with (first
        | (go_at_call 86; go_must (with_reducible refine hso.out.mono ?_; rintro e w5 ⟨v5, x5, rfl, hh5, hp5, hq5, hb5⟩; have H5 := Lib.hid hh5; have P5 := Lib.hid hp5; have Q5 := Lib.hid hq5; have B5 := Lib.hid hb5; clear hh5 hp5 hq5 hb5)))
      go_ret
      exact ⟨_, x5, rfl, H5.out, ⟨P5.out, Q5.out⟩, HB.out.trans (B5.out.mono HB.out.size)⟩
end Go.Proofs.Ytinlmodkdjpocaa
