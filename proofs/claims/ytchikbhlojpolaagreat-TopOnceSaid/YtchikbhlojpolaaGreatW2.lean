/- awake comes to true, whatever there is. -/
import Derived.Test.YtchikbhlojpolaaGreatW1
set_option linter.unusedVariables false
namespace Go.Proofs.YtchikbhlojpolaaGreat
open Go Go.Ab
theorem awP {H : AH} (h : Has H 671 A0) : ∃ H', CS S0 34 [p 2 0, i 0, i 20] H = some (sk 18907 0 22 22, H') ∧ Has H' 19115 A5 := by
  obtain ⟨H1, a1, h1⟩ := aw1 h
  obtain ⟨H2, a2, h2⟩ := aw2 h1
  obtain ⟨H3, a3, h3⟩ := aw3 h2
  obtain ⟨H4, a4, h4⟩ := aw4 h3
  obtain ⟨H5, a5, h5⟩ := aw5 h4
  refine ⟨H5, ?_, h5⟩
  rw [c34 rfl]
  unfold g34
  refine fnR_ret' (vs := [sk 18907 0 22 22]) ?_
  refine stp (a := s0) (H1 := H) (by rfl) ?_
  refine stp (a := p 2 0) (H1 := H) (by rfl) ?_
  refine stp (a := ff) (H1 := H) (by rfl) ?_
  unfold g34_7
  refine stp_w0 (ws := []) (H1 := H) (by rfl) ?_
  refine stp (a := s0) (H1 := H) (by rfl) ?_
  refine stp (a := i 20) (H1 := H) (by rfl) ?_
  refine stp (a := i 20) (H1 := H) (by rfl) ?_
  refine stp (a := i 20) (H1 := H) (by rfl) ?_
  refine stp (a := i 0) (H1 := H) (by rfl) ?_
  refine stp_b1 (a := su 18907 0 22) (H1 := H4) (.inl ?_) ?_
  · refine stp_ext ?_
    refine loop_rnd a1 (loop_rnd a2 (loop_rnd a3 (loop_rnd a4 ?_)))
    refine loop_out ?_ (fun _ h => by cases h)
    rfl
  · refine stp (a := su 18907 0 22) (H1 := H4) (by rfl) ?_
    refine stp a5 ?_
    rfl
theorem awake_run : ∃ H', CS S0 12 [] AH0 = some (.bool true, H') := by
  obtain ⟨H1, a1, h1⟩ := aw0 (H := ⟨1, fun b => if b = 0 then some (.cells [i 100000] 1 false true) else none⟩) ⟨rfl, fun p hp => by
    simp only [List.mem_singleton] at hp; subst hp; rfl⟩
  obtain ⟨H2, a2, h2⟩ := awP h1
  obtain ⟨H3, a3⟩ := awZ h2
  refine ⟨H3, ?_⟩
  rw [c12 rfl]
  unfold g12
  refine fnR_ret' (vs := [tt]) ?_
  refine stp (a := ff) (H1 := AH0) (by rfl) ?_
  refine stp (a := sk 0 0 1 1) (H1 := ⟨1, fun b => if b = 0 then some (.cells [i 100000] 1 false true) else none⟩) (by rfl) ?_
  refine stp a1 ?_
  unfold g12_3
  refine stp (a := p 2 0) (H1 := H1) (by rfl) ?_
  refine stp (a := p 2 0) (H1 := H1) (by rfl) ?_
  refine stp (a := ff) (H1 := H1) (by rfl) ?_
  refine stp_w0 (ws := []) (H1 := H1) (by rfl) ?_
  refine stp (a := p 2 0) (H1 := H1) (by rfl) ?_
  refine stp a2 ?_
  exact a3
theorem follows : Tryz.prog.follows .mixedOrders = true := by kernel_rfl
theorem awake_good : Go.Ab.Good Tryz.prog 12 (sB true) := by
  obtain ⟨H', h⟩ := awake_run
  refine Go.Ab.Good.closed follows (S := S0) (A := An) (fun f s h => by cases h) ?_ h
  exact ⟨Tryz.f12, _, Tryz.func12, rfl, by decide⟩
end Go.Proofs.YtchikbhlojpolaaGreat
