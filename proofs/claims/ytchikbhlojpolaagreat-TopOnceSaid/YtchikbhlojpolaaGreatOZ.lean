/- TopOnce comes to true. -/
import Derived.Test.YtchikbhlojpolaaGreatO0
import Derived.Test.YtchikbhlojpolaaGreatO1
import Derived.Test.YtchikbhlojpolaaGreatO2
import Derived.Test.YtchikbhlojpolaaGreatO3
import Derived.Test.YtchikbhlojpolaaGreatOY
set_option linter.unusedVariables false
namespace Go.Proofs.YtchikbhlojpolaaGreat
open Go Go.Ab Go.RowKit
namespace O0
theorem go30 {H : AH} (h : Has H 17339 A30) : GoP (p 3 0) (i (0 : Nat)) 30 29 0 H := by
  obtain ⟨H', hs⟩ := s30 h
  exact go_last (by decide) (by decide) hs
theorem go29 {H : AH} (h : Has H 16779 A29) : GoP (p 3 0) (i (0 : Nat)) 29 28 0 H := by
  obtain ⟨H', hs⟩ := s29 h
  obtain ⟨H1, h1, h2⟩ := r29 h
  exact go_step (by decide) (by decide) (by decide) hs h1 (go30 h2)
theorem go28 {H : AH} (h : Has H 16219 A28) : GoP (p 3 0) (i (0 : Nat)) 28 27 0 H := by
  obtain ⟨H', hs⟩ := s28 h
  obtain ⟨H1, h1, h2⟩ := r28 h
  exact go_step (by decide) (by decide) (by decide) hs h1 (go29 h2)
theorem go27 {H : AH} (h : Has H 15659 A27) : GoP (p 3 0) (i (0 : Nat)) 27 26 0 H := by
  obtain ⟨H', hs⟩ := s27 h
  obtain ⟨H1, h1, h2⟩ := r27 h
  exact go_step (by decide) (by decide) (by decide) hs h1 (go28 h2)
theorem go26 {H : AH} (h : Has H 15099 A26) : GoP (p 3 0) (i (0 : Nat)) 26 25 0 H := by
  obtain ⟨H', hs⟩ := s26 h
  obtain ⟨H1, h1, h2⟩ := r26 h
  exact go_step (by decide) (by decide) (by decide) hs h1 (go27 h2)
theorem go25 {H : AH} (h : Has H 14539 A25) : GoP (p 3 0) (i (0 : Nat)) 25 24 0 H := by
  obtain ⟨H', hs⟩ := s25 h
  obtain ⟨H1, h1, h2⟩ := r25 h
  exact go_step (by decide) (by decide) (by decide) hs h1 (go26 h2)
theorem go24 {H : AH} (h : Has H 13979 A24) : GoP (p 3 0) (i (0 : Nat)) 24 23 0 H := by
  obtain ⟨H', hs⟩ := s24 h
  obtain ⟨H1, h1, h2⟩ := r24 h
  exact go_step (by decide) (by decide) (by decide) hs h1 (go25 h2)
theorem go23 {H : AH} (h : Has H 13419 A23) : GoP (p 3 0) (i (0 : Nat)) 23 22 0 H := by
  obtain ⟨H', hs⟩ := s23 h
  obtain ⟨H1, h1, h2⟩ := r23 h
  exact go_step (by decide) (by decide) (by decide) hs h1 (go24 h2)
theorem go22 {H : AH} (h : Has H 12859 A22) : GoP (p 3 0) (i (0 : Nat)) 22 21 0 H := by
  obtain ⟨H', hs⟩ := s22 h
  obtain ⟨H1, h1, h2⟩ := r22 h
  exact go_step (by decide) (by decide) (by decide) hs h1 (go23 h2)
theorem go21 {H : AH} (h : Has H 12299 A21) : GoP (p 3 0) (i (0 : Nat)) 21 20 0 H := by
  obtain ⟨H', hs⟩ := s21 h
  obtain ⟨H1, h1, h2⟩ := r21 h
  exact go_step (by decide) (by decide) (by decide) hs h1 (go22 h2)
theorem go20 {H : AH} (h : Has H 11739 A20) : GoP (p 3 0) (i (0 : Nat)) 20 19 0 H := by
  obtain ⟨H', hs⟩ := s20 h
  obtain ⟨H1, h1, h2⟩ := r20 h
  exact go_step (by decide) (by decide) (by decide) hs h1 (go21 h2)
theorem go19 {H : AH} (h : Has H 11179 A19) : GoP (p 3 0) (i (0 : Nat)) 19 18 0 H := by
  obtain ⟨H', hs⟩ := s19 h
  obtain ⟨H1, h1, h2⟩ := r19 h
  exact go_step (by decide) (by decide) (by decide) hs h1 (go20 h2)
theorem go18 {H : AH} (h : Has H 10619 A18) : GoP (p 3 0) (i (0 : Nat)) 18 17 0 H := by
  obtain ⟨H', hs⟩ := s18 h
  obtain ⟨H1, h1, h2⟩ := r18 h
  exact go_step (by decide) (by decide) (by decide) hs h1 (go19 h2)
theorem go17 {H : AH} (h : Has H 10059 A17) : GoP (p 3 0) (i (0 : Nat)) 17 16 0 H := by
  obtain ⟨H', hs⟩ := s17 h
  obtain ⟨H1, h1, h2⟩ := r17 h
  exact go_step (by decide) (by decide) (by decide) hs h1 (go18 h2)
theorem go16 {H : AH} (h : Has H 9499 A16) : GoP (p 3 0) (i (0 : Nat)) 16 15 0 H := by
  obtain ⟨H', hs⟩ := s16 h
  obtain ⟨H1, h1, h2⟩ := r16 h
  exact go_step (by decide) (by decide) (by decide) hs h1 (go17 h2)
theorem go15 {H : AH} (h : Has H 8939 A15) : GoP (p 3 0) (i (0 : Nat)) 15 14 0 H := by
  obtain ⟨H', hs⟩ := s15 h
  obtain ⟨H1, h1, h2⟩ := r15 h
  exact go_step (by decide) (by decide) (by decide) hs h1 (go16 h2)
theorem go14 {H : AH} (h : Has H 8379 A14) : GoP (p 3 0) (i (0 : Nat)) 14 13 0 H := by
  obtain ⟨H', hs⟩ := s14 h
  obtain ⟨H1, h1, h2⟩ := r14 h
  exact go_step (by decide) (by decide) (by decide) hs h1 (go15 h2)
theorem go13 {H : AH} (h : Has H 7819 A13) : GoP (p 3 0) (i (0 : Nat)) 13 12 0 H := by
  obtain ⟨H', hs⟩ := s13 h
  obtain ⟨H1, h1, h2⟩ := r13 h
  exact go_step (by decide) (by decide) (by decide) hs h1 (go14 h2)
theorem go12 {H : AH} (h : Has H 7259 A12) : GoP (p 3 0) (i (0 : Nat)) 12 11 0 H := by
  obtain ⟨H', hs⟩ := s12 h
  obtain ⟨H1, h1, h2⟩ := r12 h
  exact go_step (by decide) (by decide) (by decide) hs h1 (go13 h2)
theorem go11 {H : AH} (h : Has H 6699 A11) : GoP (p 3 0) (i (0 : Nat)) 11 10 0 H := by
  obtain ⟨H', hs⟩ := s11 h
  obtain ⟨H1, h1, h2⟩ := r11 h
  exact go_step (by decide) (by decide) (by decide) hs h1 (go12 h2)
theorem go10 {H : AH} (h : Has H 6139 A10) : GoP (p 3 0) (i (0 : Nat)) 10 9 0 H := by
  obtain ⟨H', hs⟩ := s10 h
  obtain ⟨H1, h1, h2⟩ := r10 h
  exact go_step (by decide) (by decide) (by decide) hs h1 (go11 h2)
theorem go9 {H : AH} (h : Has H 5579 A9) : GoP (p 3 0) (i (0 : Nat)) 9 8 0 H := by
  obtain ⟨H', hs⟩ := s9 h
  obtain ⟨H1, h1, h2⟩ := r9 h
  exact go_step (by decide) (by decide) (by decide) hs h1 (go10 h2)
theorem go8 {H : AH} (h : Has H 5019 A8) : GoP (p 3 0) (i (0 : Nat)) 8 7 0 H := by
  obtain ⟨H', hs⟩ := s8 h
  obtain ⟨H1, h1, h2⟩ := r8 h
  exact go_step (by decide) (by decide) (by decide) hs h1 (go9 h2)
theorem go7 {H : AH} (h : Has H 4459 A7) : GoP (p 3 0) (i (0 : Nat)) 7 6 0 H := by
  obtain ⟨H', hs⟩ := s7 h
  obtain ⟨H1, h1, h2⟩ := r7 h
  exact go_step (by decide) (by decide) (by decide) hs h1 (go8 h2)
theorem go6 {H : AH} (h : Has H 3899 A6) : GoP (p 3 0) (i (0 : Nat)) 6 5 0 H := by
  obtain ⟨H', hs⟩ := s6 h
  obtain ⟨H1, h1, h2⟩ := r6 h
  exact go_step (by decide) (by decide) (by decide) hs h1 (go7 h2)
theorem go5 {H : AH} (h : Has H 3339 A5) : GoP (p 3 0) (i (0 : Nat)) 5 4 0 H := by
  obtain ⟨H', hs⟩ := s5 h
  obtain ⟨H1, h1, h2⟩ := r5 h
  exact go_step (by decide) (by decide) (by decide) hs h1 (go6 h2)
theorem go4 {H : AH} (h : Has H 2779 A4) : GoP (p 3 0) (i (0 : Nat)) 4 3 0 H := by
  obtain ⟨H', hs⟩ := s4 h
  obtain ⟨H1, h1, h2⟩ := r4 h
  exact go_step (by decide) (by decide) (by decide) hs h1 (go5 h2)
theorem go3 {H : AH} (h : Has H 2219 A3) : GoP (p 3 0) (i (0 : Nat)) 3 2 0 H := by
  obtain ⟨H', hs⟩ := s3 h
  obtain ⟨H1, h1, h2⟩ := r3 h
  exact go_step (by decide) (by decide) (by decide) hs h1 (go4 h2)
theorem go2 {H : AH} (h : Has H 1659 A2) : GoP (p 3 0) (i (0 : Nat)) 2 1 0 H := by
  obtain ⟨H', hs⟩ := s2 h
  obtain ⟨H1, h1, h2⟩ := r2 h
  exact go_step (by decide) (by decide) (by decide) hs h1 (go3 h2)
theorem go1 {H : AH} (h : Has H 1098 A1) : GoP (p 3 0) (i (0 : Nat)) 1 0 0 H := by
  obtain ⟨H', hs⟩ := s1 h
  obtain ⟨H1, h1, h2⟩ := r1 h
  exact go_step (by decide) (by decide) (by decide) hs h1 (go2 h2)
theorem go0 {H : AH} (h : Has H 552 A0) : GoP (p 3 0) (i (0 : Nat)) 0 0 0 H := by
  obtain ⟨H', hs⟩ := s0 h
  obtain ⟨H1, h1, h2⟩ := r0 h
  exact go_step (by decide) (by decide) (by decide) hs h1 (go1 h2)
theorem house {H : AH} (h : Has H 2 [(1, .cells [i 1048576] 1 false true)]) : ∃ H', CS S1 5 [i 1, i 500, sk 1 0 1 1] H = some ((p 3 0), H') ∧ Has H' 552 A0 :=
  ck_run (K1_sm 5 _) (by kernel_rfl) h
theorem start {H : AH} (h : Has H 2 [(1, .cells [i 1048576] 1 false true)]) : ∃ H', CS S1 5 [i 1, i 500, sk 1 0 1 1] H = some ((p 3 0), H') ∧ GoP (p 3 0) (i (0 : Nat)) 0 0 0 H' := by
  obtain ⟨H', h1, h2⟩ := house h
  exact ⟨H', h1, go0 h2⟩
end O0
namespace O1
theorem go30 {H : AH} (h : Has H 24479 A30) : GoP (p 3 0) (i (1 : Nat)) 30 29 30 H := by
  obtain ⟨H', hs⟩ := s30 h
  exact go_last (by decide) (by decide) hs
theorem go29 {H : AH} (h : Has H 23681 A29) : GoP (p 3 0) (i (1 : Nat)) 29 28 29 H := by
  obtain ⟨H', hs⟩ := s29 h
  obtain ⟨H1, h1, h2⟩ := r29 h
  exact go_step (by decide) (by decide) (by decide) hs h1 (go30 h2)
theorem go28 {H : AH} (h : Has H 22883 A28) : GoP (p 3 0) (i (1 : Nat)) 28 27 28 H := by
  obtain ⟨H', hs⟩ := s28 h
  obtain ⟨H1, h1, h2⟩ := r28 h
  exact go_step (by decide) (by decide) (by decide) hs h1 (go29 h2)
theorem go27 {H : AH} (h : Has H 22085 A27) : GoP (p 3 0) (i (1 : Nat)) 27 26 27 H := by
  obtain ⟨H', hs⟩ := s27 h
  obtain ⟨H1, h1, h2⟩ := r27 h
  exact go_step (by decide) (by decide) (by decide) hs h1 (go28 h2)
theorem go26 {H : AH} (h : Has H 21287 A26) : GoP (p 3 0) (i (1 : Nat)) 26 25 26 H := by
  obtain ⟨H', hs⟩ := s26 h
  obtain ⟨H1, h1, h2⟩ := r26 h
  exact go_step (by decide) (by decide) (by decide) hs h1 (go27 h2)
theorem go25 {H : AH} (h : Has H 20489 A25) : GoP (p 3 0) (i (1 : Nat)) 25 24 25 H := by
  obtain ⟨H', hs⟩ := s25 h
  obtain ⟨H1, h1, h2⟩ := r25 h
  exact go_step (by decide) (by decide) (by decide) hs h1 (go26 h2)
theorem go24 {H : AH} (h : Has H 19691 A24) : GoP (p 3 0) (i (1 : Nat)) 24 23 24 H := by
  obtain ⟨H', hs⟩ := s24 h
  obtain ⟨H1, h1, h2⟩ := r24 h
  exact go_step (by decide) (by decide) (by decide) hs h1 (go25 h2)
theorem go23 {H : AH} (h : Has H 18893 A23) : GoP (p 3 0) (i (1 : Nat)) 23 22 23 H := by
  obtain ⟨H', hs⟩ := s23 h
  obtain ⟨H1, h1, h2⟩ := r23 h
  exact go_step (by decide) (by decide) (by decide) hs h1 (go24 h2)
theorem go22 {H : AH} (h : Has H 18095 A22) : GoP (p 3 0) (i (1 : Nat)) 22 21 22 H := by
  obtain ⟨H', hs⟩ := s22 h
  obtain ⟨H1, h1, h2⟩ := r22 h
  exact go_step (by decide) (by decide) (by decide) hs h1 (go23 h2)
theorem go21 {H : AH} (h : Has H 17297 A21) : GoP (p 3 0) (i (1 : Nat)) 21 20 21 H := by
  obtain ⟨H', hs⟩ := s21 h
  obtain ⟨H1, h1, h2⟩ := r21 h
  exact go_step (by decide) (by decide) (by decide) hs h1 (go22 h2)
theorem go20 {H : AH} (h : Has H 16499 A20) : GoP (p 3 0) (i (1 : Nat)) 20 19 20 H := by
  obtain ⟨H', hs⟩ := s20 h
  obtain ⟨H1, h1, h2⟩ := r20 h
  exact go_step (by decide) (by decide) (by decide) hs h1 (go21 h2)
theorem go19 {H : AH} (h : Has H 15701 A19) : GoP (p 3 0) (i (1 : Nat)) 19 18 19 H := by
  obtain ⟨H', hs⟩ := s19 h
  obtain ⟨H1, h1, h2⟩ := r19 h
  exact go_step (by decide) (by decide) (by decide) hs h1 (go20 h2)
theorem go18 {H : AH} (h : Has H 14903 A18) : GoP (p 3 0) (i (1 : Nat)) 18 17 18 H := by
  obtain ⟨H', hs⟩ := s18 h
  obtain ⟨H1, h1, h2⟩ := r18 h
  exact go_step (by decide) (by decide) (by decide) hs h1 (go19 h2)
theorem go17 {H : AH} (h : Has H 14105 A17) : GoP (p 3 0) (i (1 : Nat)) 17 16 17 H := by
  obtain ⟨H', hs⟩ := s17 h
  obtain ⟨H1, h1, h2⟩ := r17 h
  exact go_step (by decide) (by decide) (by decide) hs h1 (go18 h2)
theorem go16 {H : AH} (h : Has H 13307 A16) : GoP (p 3 0) (i (1 : Nat)) 16 15 16 H := by
  obtain ⟨H', hs⟩ := s16 h
  obtain ⟨H1, h1, h2⟩ := r16 h
  exact go_step (by decide) (by decide) (by decide) hs h1 (go17 h2)
theorem go15 {H : AH} (h : Has H 12509 A15) : GoP (p 3 0) (i (1 : Nat)) 15 14 15 H := by
  obtain ⟨H', hs⟩ := s15 h
  obtain ⟨H1, h1, h2⟩ := r15 h
  exact go_step (by decide) (by decide) (by decide) hs h1 (go16 h2)
theorem go14 {H : AH} (h : Has H 11711 A14) : GoP (p 3 0) (i (1 : Nat)) 14 13 14 H := by
  obtain ⟨H', hs⟩ := s14 h
  obtain ⟨H1, h1, h2⟩ := r14 h
  exact go_step (by decide) (by decide) (by decide) hs h1 (go15 h2)
theorem go13 {H : AH} (h : Has H 10913 A13) : GoP (p 3 0) (i (1 : Nat)) 13 12 13 H := by
  obtain ⟨H', hs⟩ := s13 h
  obtain ⟨H1, h1, h2⟩ := r13 h
  exact go_step (by decide) (by decide) (by decide) hs h1 (go14 h2)
theorem go12 {H : AH} (h : Has H 10115 A12) : GoP (p 3 0) (i (1 : Nat)) 12 11 12 H := by
  obtain ⟨H', hs⟩ := s12 h
  obtain ⟨H1, h1, h2⟩ := r12 h
  exact go_step (by decide) (by decide) (by decide) hs h1 (go13 h2)
theorem go11 {H : AH} (h : Has H 9317 A11) : GoP (p 3 0) (i (1 : Nat)) 11 10 11 H := by
  obtain ⟨H', hs⟩ := s11 h
  obtain ⟨H1, h1, h2⟩ := r11 h
  exact go_step (by decide) (by decide) (by decide) hs h1 (go12 h2)
theorem go10 {H : AH} (h : Has H 8519 A10) : GoP (p 3 0) (i (1 : Nat)) 10 9 10 H := by
  obtain ⟨H', hs⟩ := s10 h
  obtain ⟨H1, h1, h2⟩ := r10 h
  exact go_step (by decide) (by decide) (by decide) hs h1 (go11 h2)
theorem go9 {H : AH} (h : Has H 7721 A9) : GoP (p 3 0) (i (1 : Nat)) 9 8 9 H := by
  obtain ⟨H', hs⟩ := s9 h
  obtain ⟨H1, h1, h2⟩ := r9 h
  exact go_step (by decide) (by decide) (by decide) hs h1 (go10 h2)
theorem go8 {H : AH} (h : Has H 6923 A8) : GoP (p 3 0) (i (1 : Nat)) 8 7 8 H := by
  obtain ⟨H', hs⟩ := s8 h
  obtain ⟨H1, h1, h2⟩ := r8 h
  exact go_step (by decide) (by decide) (by decide) hs h1 (go9 h2)
theorem go7 {H : AH} (h : Has H 6125 A7) : GoP (p 3 0) (i (1 : Nat)) 7 6 7 H := by
  obtain ⟨H', hs⟩ := s7 h
  obtain ⟨H1, h1, h2⟩ := r7 h
  exact go_step (by decide) (by decide) (by decide) hs h1 (go8 h2)
theorem go6 {H : AH} (h : Has H 5327 A6) : GoP (p 3 0) (i (1 : Nat)) 6 5 6 H := by
  obtain ⟨H', hs⟩ := s6 h
  obtain ⟨H1, h1, h2⟩ := r6 h
  exact go_step (by decide) (by decide) (by decide) hs h1 (go7 h2)
theorem go5 {H : AH} (h : Has H 4529 A5) : GoP (p 3 0) (i (1 : Nat)) 5 4 5 H := by
  obtain ⟨H', hs⟩ := s5 h
  obtain ⟨H1, h1, h2⟩ := r5 h
  exact go_step (by decide) (by decide) (by decide) hs h1 (go6 h2)
theorem go4 {H : AH} (h : Has H 3731 A4) : GoP (p 3 0) (i (1 : Nat)) 4 3 4 H := by
  obtain ⟨H', hs⟩ := s4 h
  obtain ⟨H1, h1, h2⟩ := r4 h
  exact go_step (by decide) (by decide) (by decide) hs h1 (go5 h2)
theorem go3 {H : AH} (h : Has H 2933 A3) : GoP (p 3 0) (i (1 : Nat)) 3 2 3 H := by
  obtain ⟨H', hs⟩ := s3 h
  obtain ⟨H1, h1, h2⟩ := r3 h
  exact go_step (by decide) (by decide) (by decide) hs h1 (go4 h2)
theorem go2 {H : AH} (h : Has H 2135 A2) : GoP (p 3 0) (i (1 : Nat)) 2 1 2 H := by
  obtain ⟨H', hs⟩ := s2 h
  obtain ⟨H1, h1, h2⟩ := r2 h
  exact go_step (by decide) (by decide) (by decide) hs h1 (go3 h2)
theorem go1 {H : AH} (h : Has H 1336 A1) : GoP (p 3 0) (i (1 : Nat)) 1 0 1 H := by
  obtain ⟨H', hs⟩ := s1 h
  obtain ⟨H1, h1, h2⟩ := r1 h
  exact go_step (by decide) (by decide) (by decide) hs h1 (go2 h2)
theorem go0 {H : AH} (h : Has H 552 A0) : GoP (p 3 0) (i (1 : Nat)) 0 0 0 H := by
  obtain ⟨H', hs⟩ := s0 h
  obtain ⟨H1, h1, h2⟩ := r0 h
  exact go_step (by decide) (by decide) (by decide) hs h1 (go1 h2)
theorem house {H : AH} (h : Has H 2 [(1, .cells [i 1048576] 1 false true)]) : ∃ H', CS S1 5 [i 1, i 500, sk 1 0 1 1] H = some ((p 3 0), H') ∧ Has H' 552 A0 :=
  ck_run (K1_sm 5 _) (by kernel_rfl) h
theorem start {H : AH} (h : Has H 2 [(1, .cells [i 1048576] 1 false true)]) : ∃ H', CS S1 5 [i 1, i 500, sk 1 0 1 1] H = some ((p 3 0), H') ∧ GoP (p 3 0) (i (1 : Nat)) 0 0 0 H' := by
  obtain ⟨H', h1, h2⟩ := house h
  exact ⟨H', h1, go0 h2⟩
end O1
namespace O2
theorem go30 {H : AH} (h : Has H 31619 A30) : GoP (p 3 0) (i (2 : Nat)) 30 29 60 H := by
  obtain ⟨H', hs⟩ := s30 h
  exact go_last (by decide) (by decide) hs
theorem go29 {H : AH} (h : Has H 30583 A29) : GoP (p 3 0) (i (2 : Nat)) 29 28 58 H := by
  obtain ⟨H', hs⟩ := s29 h
  obtain ⟨H1, h1, h2⟩ := r29 h
  exact go_step (by decide) (by decide) (by decide) hs h1 (go30 h2)
theorem go28 {H : AH} (h : Has H 29547 A28) : GoP (p 3 0) (i (2 : Nat)) 28 27 56 H := by
  obtain ⟨H', hs⟩ := s28 h
  obtain ⟨H1, h1, h2⟩ := r28 h
  exact go_step (by decide) (by decide) (by decide) hs h1 (go29 h2)
theorem go27 {H : AH} (h : Has H 28511 A27) : GoP (p 3 0) (i (2 : Nat)) 27 26 54 H := by
  obtain ⟨H', hs⟩ := s27 h
  obtain ⟨H1, h1, h2⟩ := r27 h
  exact go_step (by decide) (by decide) (by decide) hs h1 (go28 h2)
theorem go26 {H : AH} (h : Has H 27475 A26) : GoP (p 3 0) (i (2 : Nat)) 26 25 52 H := by
  obtain ⟨H', hs⟩ := s26 h
  obtain ⟨H1, h1, h2⟩ := r26 h
  exact go_step (by decide) (by decide) (by decide) hs h1 (go27 h2)
theorem go25 {H : AH} (h : Has H 26439 A25) : GoP (p 3 0) (i (2 : Nat)) 25 24 50 H := by
  obtain ⟨H', hs⟩ := s25 h
  obtain ⟨H1, h1, h2⟩ := r25 h
  exact go_step (by decide) (by decide) (by decide) hs h1 (go26 h2)
theorem go24 {H : AH} (h : Has H 25403 A24) : GoP (p 3 0) (i (2 : Nat)) 24 23 48 H := by
  obtain ⟨H', hs⟩ := s24 h
  obtain ⟨H1, h1, h2⟩ := r24 h
  exact go_step (by decide) (by decide) (by decide) hs h1 (go25 h2)
theorem go23 {H : AH} (h : Has H 24367 A23) : GoP (p 3 0) (i (2 : Nat)) 23 22 46 H := by
  obtain ⟨H', hs⟩ := s23 h
  obtain ⟨H1, h1, h2⟩ := r23 h
  exact go_step (by decide) (by decide) (by decide) hs h1 (go24 h2)
theorem go22 {H : AH} (h : Has H 23331 A22) : GoP (p 3 0) (i (2 : Nat)) 22 21 44 H := by
  obtain ⟨H', hs⟩ := s22 h
  obtain ⟨H1, h1, h2⟩ := r22 h
  exact go_step (by decide) (by decide) (by decide) hs h1 (go23 h2)
theorem go21 {H : AH} (h : Has H 22295 A21) : GoP (p 3 0) (i (2 : Nat)) 21 20 42 H := by
  obtain ⟨H', hs⟩ := s21 h
  obtain ⟨H1, h1, h2⟩ := r21 h
  exact go_step (by decide) (by decide) (by decide) hs h1 (go22 h2)
theorem go20 {H : AH} (h : Has H 21259 A20) : GoP (p 3 0) (i (2 : Nat)) 20 19 40 H := by
  obtain ⟨H', hs⟩ := s20 h
  obtain ⟨H1, h1, h2⟩ := r20 h
  exact go_step (by decide) (by decide) (by decide) hs h1 (go21 h2)
theorem go19 {H : AH} (h : Has H 20223 A19) : GoP (p 3 0) (i (2 : Nat)) 19 18 38 H := by
  obtain ⟨H', hs⟩ := s19 h
  obtain ⟨H1, h1, h2⟩ := r19 h
  exact go_step (by decide) (by decide) (by decide) hs h1 (go20 h2)
theorem go18 {H : AH} (h : Has H 19187 A18) : GoP (p 3 0) (i (2 : Nat)) 18 17 36 H := by
  obtain ⟨H', hs⟩ := s18 h
  obtain ⟨H1, h1, h2⟩ := r18 h
  exact go_step (by decide) (by decide) (by decide) hs h1 (go19 h2)
theorem go17 {H : AH} (h : Has H 18151 A17) : GoP (p 3 0) (i (2 : Nat)) 17 16 34 H := by
  obtain ⟨H', hs⟩ := s17 h
  obtain ⟨H1, h1, h2⟩ := r17 h
  exact go_step (by decide) (by decide) (by decide) hs h1 (go18 h2)
theorem go16 {H : AH} (h : Has H 17115 A16) : GoP (p 3 0) (i (2 : Nat)) 16 15 32 H := by
  obtain ⟨H', hs⟩ := s16 h
  obtain ⟨H1, h1, h2⟩ := r16 h
  exact go_step (by decide) (by decide) (by decide) hs h1 (go17 h2)
theorem go15 {H : AH} (h : Has H 16079 A15) : GoP (p 3 0) (i (2 : Nat)) 15 14 30 H := by
  obtain ⟨H', hs⟩ := s15 h
  obtain ⟨H1, h1, h2⟩ := r15 h
  exact go_step (by decide) (by decide) (by decide) hs h1 (go16 h2)
theorem go14 {H : AH} (h : Has H 15043 A14) : GoP (p 3 0) (i (2 : Nat)) 14 13 28 H := by
  obtain ⟨H', hs⟩ := s14 h
  obtain ⟨H1, h1, h2⟩ := r14 h
  exact go_step (by decide) (by decide) (by decide) hs h1 (go15 h2)
theorem go13 {H : AH} (h : Has H 14007 A13) : GoP (p 3 0) (i (2 : Nat)) 13 12 26 H := by
  obtain ⟨H', hs⟩ := s13 h
  obtain ⟨H1, h1, h2⟩ := r13 h
  exact go_step (by decide) (by decide) (by decide) hs h1 (go14 h2)
theorem go12 {H : AH} (h : Has H 12971 A12) : GoP (p 3 0) (i (2 : Nat)) 12 11 24 H := by
  obtain ⟨H', hs⟩ := s12 h
  obtain ⟨H1, h1, h2⟩ := r12 h
  exact go_step (by decide) (by decide) (by decide) hs h1 (go13 h2)
theorem go11 {H : AH} (h : Has H 11935 A11) : GoP (p 3 0) (i (2 : Nat)) 11 10 22 H := by
  obtain ⟨H', hs⟩ := s11 h
  obtain ⟨H1, h1, h2⟩ := r11 h
  exact go_step (by decide) (by decide) (by decide) hs h1 (go12 h2)
theorem go10 {H : AH} (h : Has H 10899 A10) : GoP (p 3 0) (i (2 : Nat)) 10 9 20 H := by
  obtain ⟨H', hs⟩ := s10 h
  obtain ⟨H1, h1, h2⟩ := r10 h
  exact go_step (by decide) (by decide) (by decide) hs h1 (go11 h2)
theorem go9 {H : AH} (h : Has H 9863 A9) : GoP (p 3 0) (i (2 : Nat)) 9 8 18 H := by
  obtain ⟨H', hs⟩ := s9 h
  obtain ⟨H1, h1, h2⟩ := r9 h
  exact go_step (by decide) (by decide) (by decide) hs h1 (go10 h2)
theorem go8 {H : AH} (h : Has H 8827 A8) : GoP (p 3 0) (i (2 : Nat)) 8 7 16 H := by
  obtain ⟨H', hs⟩ := s8 h
  obtain ⟨H1, h1, h2⟩ := r8 h
  exact go_step (by decide) (by decide) (by decide) hs h1 (go9 h2)
theorem go7 {H : AH} (h : Has H 7791 A7) : GoP (p 3 0) (i (2 : Nat)) 7 6 14 H := by
  obtain ⟨H', hs⟩ := s7 h
  obtain ⟨H1, h1, h2⟩ := r7 h
  exact go_step (by decide) (by decide) (by decide) hs h1 (go8 h2)
theorem go6 {H : AH} (h : Has H 6755 A6) : GoP (p 3 0) (i (2 : Nat)) 6 5 12 H := by
  obtain ⟨H', hs⟩ := s6 h
  obtain ⟨H1, h1, h2⟩ := r6 h
  exact go_step (by decide) (by decide) (by decide) hs h1 (go7 h2)
theorem go5 {H : AH} (h : Has H 5719 A5) : GoP (p 3 0) (i (2 : Nat)) 5 4 10 H := by
  obtain ⟨H', hs⟩ := s5 h
  obtain ⟨H1, h1, h2⟩ := r5 h
  exact go_step (by decide) (by decide) (by decide) hs h1 (go6 h2)
theorem go4 {H : AH} (h : Has H 4683 A4) : GoP (p 3 0) (i (2 : Nat)) 4 3 8 H := by
  obtain ⟨H', hs⟩ := s4 h
  obtain ⟨H1, h1, h2⟩ := r4 h
  exact go_step (by decide) (by decide) (by decide) hs h1 (go5 h2)
theorem go3 {H : AH} (h : Has H 3647 A3) : GoP (p 3 0) (i (2 : Nat)) 3 2 6 H := by
  obtain ⟨H', hs⟩ := s3 h
  obtain ⟨H1, h1, h2⟩ := r3 h
  exact go_step (by decide) (by decide) (by decide) hs h1 (go4 h2)
theorem go2 {H : AH} (h : Has H 2611 A2) : GoP (p 3 0) (i (2 : Nat)) 2 1 4 H := by
  obtain ⟨H', hs⟩ := s2 h
  obtain ⟨H1, h1, h2⟩ := r2 h
  exact go_step (by decide) (by decide) (by decide) hs h1 (go3 h2)
theorem go1 {H : AH} (h : Has H 1574 A1) : GoP (p 3 0) (i (2 : Nat)) 1 0 2 H := by
  obtain ⟨H', hs⟩ := s1 h
  obtain ⟨H1, h1, h2⟩ := r1 h
  exact go_step (by decide) (by decide) (by decide) hs h1 (go2 h2)
theorem go0 {H : AH} (h : Has H 552 A0) : GoP (p 3 0) (i (2 : Nat)) 0 0 0 H := by
  obtain ⟨H', hs⟩ := s0 h
  obtain ⟨H1, h1, h2⟩ := r0 h
  exact go_step (by decide) (by decide) (by decide) hs h1 (go1 h2)
theorem house {H : AH} (h : Has H 2 [(1, .cells [i 1048576] 1 false true)]) : ∃ H', CS S1 5 [i 1, i 500, sk 1 0 1 1] H = some ((p 3 0), H') ∧ Has H' 552 A0 :=
  ck_run (K1_sm 5 _) (by kernel_rfl) h
theorem start {H : AH} (h : Has H 2 [(1, .cells [i 1048576] 1 false true)]) : ∃ H', CS S1 5 [i 1, i 500, sk 1 0 1 1] H = some ((p 3 0), H') ∧ GoP (p 3 0) (i (2 : Nat)) 0 0 0 H' := by
  obtain ⟨H', h1, h2⟩ := house h
  exact ⟨H', h1, go0 h2⟩
end O2
namespace O3
theorem go30 {H : AH} (h : Has H 38759 A30) : GoP (p 3 0) (i (3 : Nat)) 30 29 90 H := by
  obtain ⟨H', hs⟩ := s30 h
  exact go_last (by decide) (by decide) hs
theorem go29 {H : AH} (h : Has H 37485 A29) : GoP (p 3 0) (i (3 : Nat)) 29 28 87 H := by
  obtain ⟨H', hs⟩ := s29 h
  obtain ⟨H1, h1, h2⟩ := r29 h
  exact go_step (by decide) (by decide) (by decide) hs h1 (go30 h2)
theorem go28 {H : AH} (h : Has H 36211 A28) : GoP (p 3 0) (i (3 : Nat)) 28 27 84 H := by
  obtain ⟨H', hs⟩ := s28 h
  obtain ⟨H1, h1, h2⟩ := r28 h
  exact go_step (by decide) (by decide) (by decide) hs h1 (go29 h2)
theorem go27 {H : AH} (h : Has H 34937 A27) : GoP (p 3 0) (i (3 : Nat)) 27 26 81 H := by
  obtain ⟨H', hs⟩ := s27 h
  obtain ⟨H1, h1, h2⟩ := r27 h
  exact go_step (by decide) (by decide) (by decide) hs h1 (go28 h2)
theorem go26 {H : AH} (h : Has H 33663 A26) : GoP (p 3 0) (i (3 : Nat)) 26 25 78 H := by
  obtain ⟨H', hs⟩ := s26 h
  obtain ⟨H1, h1, h2⟩ := r26 h
  exact go_step (by decide) (by decide) (by decide) hs h1 (go27 h2)
theorem go25 {H : AH} (h : Has H 32389 A25) : GoP (p 3 0) (i (3 : Nat)) 25 24 75 H := by
  obtain ⟨H', hs⟩ := s25 h
  obtain ⟨H1, h1, h2⟩ := r25 h
  exact go_step (by decide) (by decide) (by decide) hs h1 (go26 h2)
theorem go24 {H : AH} (h : Has H 31115 A24) : GoP (p 3 0) (i (3 : Nat)) 24 23 72 H := by
  obtain ⟨H', hs⟩ := s24 h
  obtain ⟨H1, h1, h2⟩ := r24 h
  exact go_step (by decide) (by decide) (by decide) hs h1 (go25 h2)
theorem go23 {H : AH} (h : Has H 29841 A23) : GoP (p 3 0) (i (3 : Nat)) 23 22 69 H := by
  obtain ⟨H', hs⟩ := s23 h
  obtain ⟨H1, h1, h2⟩ := r23 h
  exact go_step (by decide) (by decide) (by decide) hs h1 (go24 h2)
theorem go22 {H : AH} (h : Has H 28567 A22) : GoP (p 3 0) (i (3 : Nat)) 22 21 66 H := by
  obtain ⟨H', hs⟩ := s22 h
  obtain ⟨H1, h1, h2⟩ := r22 h
  exact go_step (by decide) (by decide) (by decide) hs h1 (go23 h2)
theorem go21 {H : AH} (h : Has H 27293 A21) : GoP (p 3 0) (i (3 : Nat)) 21 20 63 H := by
  obtain ⟨H', hs⟩ := s21 h
  obtain ⟨H1, h1, h2⟩ := r21 h
  exact go_step (by decide) (by decide) (by decide) hs h1 (go22 h2)
theorem go20 {H : AH} (h : Has H 26019 A20) : GoP (p 3 0) (i (3 : Nat)) 20 19 60 H := by
  obtain ⟨H', hs⟩ := s20 h
  obtain ⟨H1, h1, h2⟩ := r20 h
  exact go_step (by decide) (by decide) (by decide) hs h1 (go21 h2)
theorem go19 {H : AH} (h : Has H 24745 A19) : GoP (p 3 0) (i (3 : Nat)) 19 18 57 H := by
  obtain ⟨H', hs⟩ := s19 h
  obtain ⟨H1, h1, h2⟩ := r19 h
  exact go_step (by decide) (by decide) (by decide) hs h1 (go20 h2)
theorem go18 {H : AH} (h : Has H 23471 A18) : GoP (p 3 0) (i (3 : Nat)) 18 17 54 H := by
  obtain ⟨H', hs⟩ := s18 h
  obtain ⟨H1, h1, h2⟩ := r18 h
  exact go_step (by decide) (by decide) (by decide) hs h1 (go19 h2)
theorem go17 {H : AH} (h : Has H 22197 A17) : GoP (p 3 0) (i (3 : Nat)) 17 16 51 H := by
  obtain ⟨H', hs⟩ := s17 h
  obtain ⟨H1, h1, h2⟩ := r17 h
  exact go_step (by decide) (by decide) (by decide) hs h1 (go18 h2)
theorem go16 {H : AH} (h : Has H 20923 A16) : GoP (p 3 0) (i (3 : Nat)) 16 15 48 H := by
  obtain ⟨H', hs⟩ := s16 h
  obtain ⟨H1, h1, h2⟩ := r16 h
  exact go_step (by decide) (by decide) (by decide) hs h1 (go17 h2)
theorem go15 {H : AH} (h : Has H 19649 A15) : GoP (p 3 0) (i (3 : Nat)) 15 14 45 H := by
  obtain ⟨H', hs⟩ := s15 h
  obtain ⟨H1, h1, h2⟩ := r15 h
  exact go_step (by decide) (by decide) (by decide) hs h1 (go16 h2)
theorem go14 {H : AH} (h : Has H 18375 A14) : GoP (p 3 0) (i (3 : Nat)) 14 13 42 H := by
  obtain ⟨H', hs⟩ := s14 h
  obtain ⟨H1, h1, h2⟩ := r14 h
  exact go_step (by decide) (by decide) (by decide) hs h1 (go15 h2)
theorem go13 {H : AH} (h : Has H 17101 A13) : GoP (p 3 0) (i (3 : Nat)) 13 12 39 H := by
  obtain ⟨H', hs⟩ := s13 h
  obtain ⟨H1, h1, h2⟩ := r13 h
  exact go_step (by decide) (by decide) (by decide) hs h1 (go14 h2)
theorem go12 {H : AH} (h : Has H 15827 A12) : GoP (p 3 0) (i (3 : Nat)) 12 11 36 H := by
  obtain ⟨H', hs⟩ := s12 h
  obtain ⟨H1, h1, h2⟩ := r12 h
  exact go_step (by decide) (by decide) (by decide) hs h1 (go13 h2)
theorem go11 {H : AH} (h : Has H 14553 A11) : GoP (p 3 0) (i (3 : Nat)) 11 10 33 H := by
  obtain ⟨H', hs⟩ := s11 h
  obtain ⟨H1, h1, h2⟩ := r11 h
  exact go_step (by decide) (by decide) (by decide) hs h1 (go12 h2)
theorem go10 {H : AH} (h : Has H 13279 A10) : GoP (p 3 0) (i (3 : Nat)) 10 9 30 H := by
  obtain ⟨H', hs⟩ := s10 h
  obtain ⟨H1, h1, h2⟩ := r10 h
  exact go_step (by decide) (by decide) (by decide) hs h1 (go11 h2)
theorem go9 {H : AH} (h : Has H 12005 A9) : GoP (p 3 0) (i (3 : Nat)) 9 8 27 H := by
  obtain ⟨H', hs⟩ := s9 h
  obtain ⟨H1, h1, h2⟩ := r9 h
  exact go_step (by decide) (by decide) (by decide) hs h1 (go10 h2)
theorem go8 {H : AH} (h : Has H 10731 A8) : GoP (p 3 0) (i (3 : Nat)) 8 7 24 H := by
  obtain ⟨H', hs⟩ := s8 h
  obtain ⟨H1, h1, h2⟩ := r8 h
  exact go_step (by decide) (by decide) (by decide) hs h1 (go9 h2)
theorem go7 {H : AH} (h : Has H 9457 A7) : GoP (p 3 0) (i (3 : Nat)) 7 6 21 H := by
  obtain ⟨H', hs⟩ := s7 h
  obtain ⟨H1, h1, h2⟩ := r7 h
  exact go_step (by decide) (by decide) (by decide) hs h1 (go8 h2)
theorem go6 {H : AH} (h : Has H 8183 A6) : GoP (p 3 0) (i (3 : Nat)) 6 5 18 H := by
  obtain ⟨H', hs⟩ := s6 h
  obtain ⟨H1, h1, h2⟩ := r6 h
  exact go_step (by decide) (by decide) (by decide) hs h1 (go7 h2)
theorem go5 {H : AH} (h : Has H 6909 A5) : GoP (p 3 0) (i (3 : Nat)) 5 4 15 H := by
  obtain ⟨H', hs⟩ := s5 h
  obtain ⟨H1, h1, h2⟩ := r5 h
  exact go_step (by decide) (by decide) (by decide) hs h1 (go6 h2)
theorem go4 {H : AH} (h : Has H 5635 A4) : GoP (p 3 0) (i (3 : Nat)) 4 3 12 H := by
  obtain ⟨H', hs⟩ := s4 h
  obtain ⟨H1, h1, h2⟩ := r4 h
  exact go_step (by decide) (by decide) (by decide) hs h1 (go5 h2)
theorem go3 {H : AH} (h : Has H 4361 A3) : GoP (p 3 0) (i (3 : Nat)) 3 2 9 H := by
  obtain ⟨H', hs⟩ := s3 h
  obtain ⟨H1, h1, h2⟩ := r3 h
  exact go_step (by decide) (by decide) (by decide) hs h1 (go4 h2)
theorem go2 {H : AH} (h : Has H 3087 A2) : GoP (p 3 0) (i (3 : Nat)) 2 1 6 H := by
  obtain ⟨H', hs⟩ := s2 h
  obtain ⟨H1, h1, h2⟩ := r2 h
  exact go_step (by decide) (by decide) (by decide) hs h1 (go3 h2)
theorem go1 {H : AH} (h : Has H 1812 A1) : GoP (p 3 0) (i (3 : Nat)) 1 0 3 H := by
  obtain ⟨H', hs⟩ := s1 h
  obtain ⟨H1, h1, h2⟩ := r1 h
  exact go_step (by decide) (by decide) (by decide) hs h1 (go2 h2)
theorem go0 {H : AH} (h : Has H 552 A0) : GoP (p 3 0) (i (3 : Nat)) 0 0 0 H := by
  obtain ⟨H', hs⟩ := s0 h
  obtain ⟨H1, h1, h2⟩ := r0 h
  exact go_step (by decide) (by decide) (by decide) hs h1 (go1 h2)
theorem house {H : AH} (h : Has H 2 [(1, .cells [i 1048576] 1 false true)]) : ∃ H', CS S1 5 [i 1, i 500, sk 1 0 1 1] H = some ((p 3 0), H') ∧ Has H' 552 A0 :=
  ck_run (K1_sm 5 _) (by kernel_rfl) h
theorem start {H : AH} (h : Has H 2 [(1, .cells [i 1048576] 1 false true)]) : ∃ H', CS S1 5 [i 1, i 500, sk 1 0 1 1] H = some ((p 3 0), H') ∧ GoP (p 3 0) (i (3 : Nat)) 0 0 0 H' := by
  obtain ⟨H', h1, h2⟩ := house h
  exact ⟨H', h1, go0 h2⟩
end O3
def Hc : AH := ⟨2, fun b => if b = 1 then some (.cells [i 1048576] 1 false true) else none⟩
theorem start (c : Nat) (hc : c < 4) : (bin .and (i c) (i 3) : M AV) = ret (i c) ∧ ∃ H', CS S1 5 [i 1, i 500, sk 1 0 1 1] Hc = some ((p 3 0), H') ∧ GoP (p 3 0) (i c) 0 0 0 H' := by
  have h : Has Hc 2 [(1, .cells [i 1048576] 1 false true)] := ⟨rfl, fun p hp => by simp only [List.mem_singleton] at hp; subst hp; rfl⟩
  match c, hc with
  | 0, _ => exact ⟨rfl, O0.start h⟩
  | 1, _ => exact ⟨rfl, O1.start h⟩
  | 2, _ => exact ⟨rfl, O2.start h⟩
  | 3, _ => exact ⟨rfl, O3.start h⟩
def H1 : AH := ⟨1, fun _ => none⟩
theorem once_run (t : Int) {ns : AV} {len : Nat} (hns : (lnS ns : M AV) = ret (i len)) : ∃ H', CS S1 4 [ns, i t] H1 = some (tt, H') := by
  obtain ⟨c, hc, h3⟩ := and3 t
  obtain ⟨hc3, Ha, ha, hg⟩ := start c hc
  obtain ⟨o, Hb, hb, hf⟩ := hg len ns hns (by omega)
  obtain ⟨n, late, Hd, rfl, hd⟩ := finish hns hf
  refine ⟨Hd, ?_⟩
  rw [c4 rfl]
  unfold g4
  refine fnR_ret' (vs := [tt]) ?_
  refine stp (a := ff) (H1 := H1) (by rfl) ?_
  refine stp (a := sk 1 0 1 1) (H1 := Hc) (by rfl) ?_
  refine stp ha ?_
  unfold g4_10
  refine stp (a := (p 3 0)) (H1 := Ha) (by rfl) ?_
  refine stp (a := (p 3 0)) (H1 := Ha) (by rfl) ?_
  unfold g4_9
  refine stp (a := ff) (H1 := Ha) (by rfl) ?_
  refine stp_w0 (ws := []) (H1 := Ha) (by rfl) ?_
  refine stp (a := i 0) (H1 := Ha) (by rfl) ?_
  refine stp (a := i 0) (H1 := Ha) (by rfl) ?_
  refine stp (a := i 0) (H1 := Ha) (by rfl) ?_
  refine stp_b2 (a := n) (b := late) (H1 := Hb) (.inl (stp_ext ?_)) ?_
  · rw [times6 h3 hc3]; exact hb
  · refine stp (a := n) (H1 := Hb) (by rfl) ?_
    refine stp (a := ns) (H1 := Hb) (by rfl) ?_
    exact hd
theorem relG1 (w : World) (μ : Mu) (hμ : ∀ b, 1 ≤ b → μ b = none) : RelG w μ w H1 (fun _ => none) := by
  refine ⟨⟨Below.refl _ _, ?_, ?_, ?_, fun b hb => hμ b hb⟩, fun _ _ => rfl⟩
  · intro b cs es g own h; simp [AH.plus, H1] at h
  · intro b s pos h; simp [AH.plus, H1] at h
  · intro b b' x y l m _ h; simp [AH.plus, H1] at h
theorem once_calls {μ : Mu} {w : World} {ns : AV} {v : Value} {len : Nat} (hμ : ∀ b, 1 ≤ b → μ b = none) (hv : VR μ ns v) (hns : (lnS ns : M AV) = ret (i len)) (t : Int) :
    Calls Tryz.prog 4 #[v, .int .i64 t] w fun e w' => e = .returned (.bool true) ∧ Below w.heap.size w w' := by
  obtain ⟨H', h⟩ := once_run t hns
  refine Calls.mono (calls_ofS follows goodS1 (relG1 w μ hμ) (.cons hv (.cons (.int _ _) .nil)) h) fun e w' ⟨v', μ', he, hl, hg, hvr⟩ => ?_
  cases hvr
  exact ⟨he, hg.rel.below⟩
theorem once_walk (a0 : Option Addr) (len0 cap0 : Nat) (z0 : List Int) (a1 : Int) (w : World)
    (w0 : (a0 = none ∧ len0 = 0 ∧ cap0 = 0 ∧ z0 = []) ∨ ∃ x, a0 = some x ∧ len0 ≤ cap0 ∧ cap0 ≤ maxLen ∧ z0.length = cap0 ∧ (∀ i, i < z0.length → w.cell? (x.add i) = some (.int .i64 (z0.getD i 0))) ∧ ∀ n ∈ z0, (Lit.int .i64 n).wf = true) :
    Calls Tryz.prog 4 #[.slice a0 len0 cap0, .int .i64 a1] w fun e w' => e = .returned (.bool true) ∧ Below w.heap.size w w' := by
  rcases w0 with ⟨rfl, rfl, rfl, _⟩ | ⟨x, rfl, hl, hm, hz, hcell, _⟩
  · exact once_calls (μ := fun _ => none) (fun _ _ => rfl) .sl0 (len := 0) rfl a1
  · have hμ : ∀ b, 1 ≤ b → (fun b : Nat => if b = 0 then some (⟨x.block, 0, 0, 0, 1⟩ : Go.Ab.Loc) else none) b = none := fun b hb => if_neg (by omega)
    by_cases hc : cap0 = 0
    · subst hc
      have : len0 = 0 := by omega
      subst this
      exact once_calls (ns := .sl (some (0, 0)) 0 (some 0)) hμ (VR.slX0 (l := ⟨x.block, 0, 0, 0, 1⟩) rfl) (len := 0) rfl a1
    · have h0 := hcell 0 (by omega)
      have hs : x.spot = none := by
        obtain ⟨b, o, s⟩ := x
        simp only [Addr.add, if_true, World.cell?] at h0
        cases s with
        | none => rfl
        | some s => split at h0 <;> simp at h0
      have hx : x = ⟨x.block, 0 + x.off, none⟩ := by
        obtain ⟨b, o, s⟩ := x
        simp only at hs; subst hs; simp
      have hv : VR (fun b : Nat => if b = 0 then some (⟨x.block, 0, 0, 0, 1⟩ : Go.Ab.Loc) else none) (.sl (some (0, x.off)) len0 (some cap0)) (.slice (some x) len0 cap0) := by
        have := VR.slX (μ := fun b : Nat => if b = 0 then some (⟨x.block, 0, 0, 0, 1⟩ : Go.Ab.Loc) else none) (b := 0) (o := x.off) (l := ⟨x.block, 0, 0, 0, 1⟩) rfl hl
        rw [← hx] at this
        exact this
      exact once_calls hμ hv (len := len0) rfl a1
end Go.Proofs.YtchikbhlojpolaaGreat
