/- TopOnce: its rounds, its end, in general. -/
import Derived.Test.YtchikbhlojpolaaGreatOS
set_option linter.unusedVariables false
namespace Go.Proofs.YtchikbhlojpolaaGreat
open Go Go.Ab
theorem bnK_rt {α : Type} (a : AV) (f : AV → M α) : bnK (rt a) f = f a := rfl
theorem w3app (f : AV → AV → AV → M Out) (a b c : AV) : w3 f [a, b, c] = f a b c := rfl
theorem gdtt (m : M AV) : gd true tt m = m := rfl
theorem AHp_bin : AHp.bin = bin := rfl
theorem binLss (a b : Int) : (bin .lss (i a) (i b) : M AV) = ret (.bool (decide (a < b))) := by simp [bin, binA, intA, need]
theorem binLeq (a b : Int) : (bin .leq (i a) (i b) : M AV) = ret (.bool (decide (a ≤ b))) := by simp [bin, binA, intA, need]
theorem binGtr (a b : Int) : (bin .gtr (i a) (i b) : M AV) = ret (.bool (decide (a > b))) := by simp [bin, binA, intA, need]
theorem binAdd (a b : Int) : (bin .add (i a) (i b) : M AV) = ret (i (IntKind.i64.wrap (a + b))) := by simp [bin, binA, intA, need]
theorem wrapSmall (n : Int) (h0 : 0 ≤ n) (h : n < 1000) : IntKind.i64.wrap n = n := by
  rw [← wrapF_eq]
  obtain ⟨m, rfl⟩ := Int.eq_ofNat_of_zero_le h0
  show sgn 18446744073709551616 (m % 18446744073709551616) = _
  rw [sgn_eq 18446744073709551616 9223372036854775808 _ (by omega) (Nat.mod_lt _ (by omega))]
  rw [if_neg (by omega)]; omega
theorem wrapSmall16 (n : Int) (h0 : 0 ≤ n) (h : n < 1000) : IntKind.u16.wrap n = n := by
  rw [← wrapF_eq]
  obtain ⟨m, rfl⟩ := Int.eq_ofNat_of_zero_le h0
  show ((m % 65536 : Nat) : Int) = _
  omega
theorem and3 (t : Int) : ∃ c : Nat, c < 4 ∧ (bin .and (i t) (i 3) : M AV) = ret (i c) := by
  have hm : ∀ x : Nat, Nat.land x 3 = x % 4 := fun x => Nat.and_two_pow_sub_one_eq_mod x 2
  refine ⟨wrapU (modN .i64) t % 4, Nat.mod_lt _ (by omega), ?_⟩
  have h := intF_eq .and .i64 t 3
  simp only [intF] at h
  have h3 : wrapU (modN .i64) 3 = 3 := by decide
  simp only [bin, binA, if_true, ← h, h3, hm, wrapF_eq, need]
  have := Nat.mod_lt (wrapU (modN .i64) t) (show 0 < 4 by omega)
  rw [wrapSmall _ (by simp only [Int.ofNat_eq_natCast]; omega) (by simp only [Int.ofNat_eq_natCast]; omega)]
  rfl
section
variable {K : KS AH} {hp ns : AV} {t : Int} {c : Nat}
theorem times4 (h : (bin .and (i t) (i 3) : M AV) = ret (i c)) (hc : (bin .and (i c) (i 3) : M AV) = ret (i c)) (a b d x y : AV) : g4_4 AHp K loopW hp a b d (i t) x y = g4_4 AHp K loopW hp a b d (i c) x y := by
  unfold g4_4 g4_3 g4_2
  simp only [bnK_rt, AHp_bin, h, hc]
theorem times6 (h : (bin .and (i t) (i 3) : M AV) = ret (i c)) (hc : (bin .and (i c) (i 3) : M AV) = ret (i c)) : g4_6 AHp K loopW hp ns (i t) = g4_6 AHp K loopW hp ns (i c) := by
  unfold g4_6 g4_5
  simp only [times4 h hc]
variable {tv n late n' late' : AV} {k len : Nat} {H H' : AH} (hns : (lnS ns : M AV) = ret (i len))
include hns
theorem round (hk : k < 30) (hl : k < len) (hr : g4_4 AHp K loopW hp (i k) late n tv (.int .u16 k) (i k) H = some (.nrm [n', late'], H')) :
    g4_6 AHp K loopW hp ns tv [n, late, i k] H = some (.nrm [n', late', i (k + 1 : Nat)], H') := by
  unfold g4_6
  rw [w3app]
  refine stp (a := i k) (H1 := H) (by rfl) ?_
  refine stp (a := ns) (H1 := H) (by rfl) ?_
  refine stp (a := i len) (H1 := H) (by rw [hns]; rfl) ?_
  refine stp (a := tt) (H1 := H) (by
    show (bin .lss (i k) (i len) : M AV) H = _
    rw [binLss, decide_eq_true (show (k : Int) < len by omega)]; rfl) ?_
  refine stp (a := tt) (H1 := H) (by rfl) ?_
  refine stp (a := i k) (H1 := H) (by rfl) ?_
  unfold g4_5
  refine stp (a := tt) (H1 := H) (by
    show (bin .lss (i k) (i 30) : M AV) H = _
    rw [binLss, decide_eq_true (show (k : Int) < 30 by omega)]; rfl) ?_
  refine stp (a := tt) (H1 := H) (by rfl) ?_
  refine stp_w0 (ws := []) (H1 := H) (by rfl) ?_
  refine stp_b2 (a := n') (b := late') (H1 := H') (.inr ?_) ?_
  · refine stp (a := i k) (H1 := H) (by rfl) ?_
    refine stp (a := .int .u16 k) (H1 := H) (by
      show (ret (.int .u16 (IntKind.u16.wrap k)) : M AV) H = _
      rw [wrapSmall16 _ (by omega) (by omega)]; rfl) ?_
    refine stp (a := i k) (H1 := H) (by rfl) ?_
    exact hr
  · refine stp (a := i k) (H1 := H') (by rfl) ?_
    refine stp (a := i (k + 1 : Nat)) (H1 := H') (by
      show (bin .add (i k) (i 1) : M AV) H' = _
      rw [binAdd, wrapSmall _ (by omega) (by omega)]; rfl) ?_
    refine stp (a := i (k + 1 : Nat)) (H1 := H') (by rfl) ?_
    rfl
theorem exit (hx : ¬ (k < len ∧ k < 30)) : g4_6 AHp K loopW hp ns tv [n, late, i k] H = some (.ext 0 [n, late], H) := by
  unfold g4_6
  rw [w3app]
  refine stp (a := i k) (H1 := H) (by rfl) ?_
  refine stp (a := ns) (H1 := H) (by rfl) ?_
  refine stp (a := i len) (H1 := H) (by rw [hns]; rfl) ?_
  by_cases hl : k < len
  · refine stp (a := tt) (H1 := H) (by
      show (bin .lss (i k) (i len) : M AV) H = _
      rw [binLss, decide_eq_true (show (k : Int) < len by omega)]; rfl) ?_
    refine stp (a := tt) (H1 := H) (by rfl) ?_
    refine stp (a := i k) (H1 := H) (by rfl) ?_
    unfold g4_5
    refine stp (a := ff) (H1 := H) (by
      show (bin .lss (i k) (i 30) : M AV) H = _
      rw [binLss, decide_eq_false (show ¬ (k : Int) < 30 by omega)]; rfl) ?_
    refine stp (a := ff) (H1 := H) (by rfl) ?_
    exact stp_ext (by rfl)
  · refine stp (a := ff) (H1 := H) (by
      show (bin .lss (i k) (i len) : M AV) H = _
      rw [binLss, decide_eq_false (show ¬ (k : Int) < len by omega)]; rfl) ?_
    refine stp (a := ff) (H1 := H) (by rfl) ?_
    refine stp (a := undefA) (H1 := H) (by rfl) ?_
    unfold g4_5
    refine stp (a := undefA) (H1 := H) (by rfl) ?_
    refine stp (a := ff) (H1 := H) (by rfl) ?_
    exact stp_ext (by rfl)
omit hns
end
/-- How the rounds end. -/
def FinP (len : Nat) (hp : AV) (o : Out) (H : AH) : Prop := ∃ nk lk : Int, o = .ext 0 [i nk, i lk] ∧ nk ≤ len ∧ nk ≤ 30 ∧ (2 ≤ len → 0 < nk) ∧ ∃ a b d H', CS S1 17 [hp] H = some (.agg [a, i lk, b, d], H')
def GoP (hp tv : AV) (k : Nat) (n late : Int) (H : AH) : Prop := ∀ (len : Nat) (ns : AV), (lnS ns : M AV) = ret (i len) → k ≤ len → ∃ o H', loopW (g4_6 AHp (CS S1) loopW hp ns tv) [i n, i late, i k] H = some (o, H') ∧ FinP len hp o H'
theorem go_last {hp tv a b d : AV} {n late : Int} {H H' : AH} (hn : n ≤ 30) (h0 : 0 < n) (hs : CS S1 17 [hp] H = some (.agg [a, i late, b, d], H')) : GoP hp tv 30 n late H := by
  intro len ns hns hl
  exact ⟨_, H, loop_out (exit hns (by omega)) (fun _ h => by cases h), n, late, rfl, by omega, hn, fun _ => h0, a, b, d, H', hs⟩
theorem go_step {hp tv a b d : AV} {k : Nat} {n late n' late' : Int} {H H1 H' : AH} (hk : k < 30) (hn : n ≤ k) (h0 : 2 ≤ k → 0 < n) (hs : CS S1 17 [hp] H = some (.agg [a, i late, b, d], H'))
    (hr : g4_4 AHp (CS S1) loopW hp (i k) (i late) (i n) tv (.int .u16 k) (i k) H = some (.nrm [i n', i late'], H1)) (hg : GoP hp tv (k + 1) n' late' H1) : GoP hp tv k n late H := by
  intro len ns hns hl
  by_cases e : len = k
  · exact ⟨_, H, loop_out (exit hns (by omega)) (fun _ h => by cases h), n, late, rfl, by omega, by omega, fun h => h0 (by omega), a, b, d, H', hs⟩
  · obtain ⟨o, H2, h1, h2⟩ := hg len ns hns (by omega)
    exact ⟨o, H2, loop_round (round hns hk (by omega) hr) h1, h2⟩
theorem mn2 (a : Int) : (need (mnA [i a, i 30]) ret : M AV) = ret (i (if 30 < a then 30 else a)) := rfl
theorem sum12 : CS S1 12 [] = ret tt := callS_sum (s := sB true) rfl []
theorem finish {hp ns : AV} {len : Nat} {o : Out} {H : AH} (hns : (lnS ns : M AV) = ret (i len)) (hf : FinP len hp o H) :
    ∃ n late H', o = .ext 0 [n, late] ∧ g4_8 AHp (CS S1) loopW hp late n ns n ns H = some (.ret [tt], H') := by
  obtain ⟨n, late, rfl, h1, h2, h3, a, b, d, H', hs⟩ := hf
  refine ⟨i n, i late, H', rfl, ?_⟩
  unfold g4_8
  refine stp (a := i len) (H1 := H) (by rw [hns]; rfl) ?_
  refine stp (a := i (if (30 : Int) < len then 30 else len)) (H1 := H) (by rw [mn2]; rfl) ?_
  refine stp (a := tt) (H1 := H) (by
    show (bin .leq (i n) (i _) : M AV) H = _
    rw [binLeq, decide_eq_true (by split <;> omega)]; rfl) ?_
  refine stp (a := tt) (H1 := H) (by rfl) ?_
  refine stp (a := ns) (H1 := H) (by rfl) ?_
  refine stp (a := i len) (H1 := H) (by show (lnS ns : M AV) H = _; rw [hns]; rfl) ?_
  have fin7 : g4_7 AHp (CS S1) loopW hp (i late) tt tt H = some (.ret [tt], H') := by
    unfold g4_7
    refine stp (a := tt) (H1 := H) (by rfl) ?_
    refine stp (a := tt) (H1 := H) (by rfl) ?_
    refine stp (a := hp) (H1 := H) (by rfl) ?_
    refine stp (a := .agg [a, i late, b, d]) (H1 := H') (by rw [gdtt]; exact hs) ?_
    refine stp (a := i late) (H1 := H') (by rfl) ?_
    refine stp (a := i late) (H1 := H') (by rfl) ?_
    refine stp (a := tt) (H1 := H') (by
      show (bin .eql (i late) (i late) : M AV) H' = _
      have : (bin .eql (i late) (i late) : M AV) = ret (.bool (late == late)) := by simp [bin, binA, intA, need]
      rw [this]; simp [ret]) ?_
    refine stp (a := tt) (H1 := H') (by rfl) ?_
    refine stp (a := tt) (H1 := H') (by rfl) ?_
    refine stp (a := tt) (H1 := H') (by rw [gdtt, sum12]; rfl) ?_
    refine stp (a := tt) (H1 := H') (by rfl) ?_
    refine stp (a := tt) (H1 := H') (by rfl) ?_
    rfl
  by_cases hl : len < 2
  · refine stp (a := tt) (H1 := H) (by
      show (bin .lss (i len) (i 2) : M AV) H = _
      rw [binLss, decide_eq_true (show (len : Int) < 2 by omega)]; rfl) ?_
    refine stp (a := tt) (H1 := H) (by rfl) ?_
    refine stp (a := undefA) (H1 := H) (by rfl) ?_
    refine stp (a := undefA) (H1 := H) (by rfl) ?_
    refine stp (a := tt) (H1 := H) (by rfl) ?_
    exact fin7
  · refine stp (a := ff) (H1 := H) (by
      show (bin .lss (i len) (i 2) : M AV) H = _
      rw [binLss, decide_eq_false (show ¬ (len : Int) < 2 by omega)]; rfl) ?_
    refine stp (a := ff) (H1 := H) (by rfl) ?_
    refine stp (a := i n) (H1 := H) (by rfl) ?_
    refine stp (a := tt) (H1 := H) (by
      show (bin .gtr (i n) (i 0) : M AV) H = _
      have := h3 (by omega)
      rw [binGtr, decide_eq_true (by omega)]; rfl) ?_
    refine stp (a := tt) (H1 := H) (by rfl) ?_
    exact fin7
end Go.Proofs.YtchikbhlojpolaaGreat
