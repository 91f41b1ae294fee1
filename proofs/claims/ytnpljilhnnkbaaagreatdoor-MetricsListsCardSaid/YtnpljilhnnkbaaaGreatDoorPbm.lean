/- A part of the proof. -/
import Derived.Test.YtnpljilhnnkbaaaGreatDoorPaj
import Derived.Test.YtnpljilhnnkbaaaGreatDoorPbk
set_option linter.all false
namespace AvT
open Go Go.Proofs Av
set_option maxRecDepth 100000
abbrev q1 : Pos := .h
abbrev q2 : Pos := (.o .h)
abbrev q3 : Pos := (.i .h)
abbrev q4 : Pos := (.o (.o .h))
abbrev q5 : Pos := (.i (.o .h))
abbrev q6 : Pos := (.o (.i .h))
abbrev q7 : Pos := (.i (.i .h))
abbrev q8 : Pos := (.o (.o (.o .h)))
abbrev q9 : Pos := (.i (.o (.o .h)))
abbrev q10 : Pos := (.o (.i (.o .h)))
abbrev q11 : Pos := (.i (.i (.o .h)))
abbrev q12 : Pos := (.o (.o (.i .h)))
abbrev q13 : Pos := (.i (.o (.i .h)))
abbrev q14 : Pos := (.o (.i (.i .h)))
abbrev q15 : Pos := (.i (.i (.i .h)))
abbrev q16 : Pos := (.o (.o (.o (.o .h))))
abbrev q17 : Pos := (.i (.o (.o (.o .h))))
abbrev q18 : Pos := (.o (.i (.o (.o .h))))
abbrev i : Int → AV := AV.int
noncomputable def mI : Ent := ⟨[.agg [.sl q1 0 2 2, .nils, .nils]],
 [⟨q1, [.str [109, 97, 105, 110], i (.ofNat 0), i (.ofNat 1), i (.ofNat 0), .bool false, .sl q2 0 4 4, .str [119, 111, 114, 107], i (.ofNat 0), i (.ofNat 1), i (.ofNat 0), .bool false, .sl q3 0 2 2], 43, 0⟩,
  ⟨q2, [i (.ofNat 35), i (.negSucc 0), i (.negSucc 0), i (.ofNat 3), .nils, i (.ofNat 34), i (.ofNat 0), i (.ofNat 1), i (.ofNat 0), .nils, i (.ofNat 38), i (.ofNat 0), i (.ofNat 0), i (.ofNat 0), .nils, i (.ofNat 36), i (.ofNat 0), i (.ofNat 0), i (.ofNat 0), .nils], 40, 0⟩,
  ⟨q3, [i (.ofNat 1), i (.ofNat 0), i (.ofNat 5), i (.ofNat 0), .nils, i (.ofNat 41), i (.ofNat 0), i (.ofNat 0), i (.ofNat 0), .nils], 40, 0⟩],
 q4, .tup [.agg [i (.ofNat 0), i (.ofNat 0), .sl q4 0 1 1, .su q5 0 1 0, .nils, .nils, .nils, .nils], i (.ofNat 0)],
 [⟨q4, [i (.ofNat 0), i (.ofNat 0), i (.ofNat 0), i (.ofNat 1), i (.ofNat 0), i (.ofNat 0), .bool false, .sl q6 0 1 1, .sl q7 0 1 1, i (.ofNat 0), .bool false, i (.ofNat 0), i (.ofNat 0), i (.ofNat 0)], 144, 0⟩,
  ⟨q5, [i (.negSucc 0), i (.negSucc 0), i (.ofNat 1), i (.ofNat 0), i (.ofNat 0), i (.negSucc 0), .bool false], 194, 7⟩,
  ⟨q6, [i (.ofNat 0), i (.ofNat 0), .sl q8 0 1 1, i (.negSucc 0), .bool false], 188, 0⟩,
  ⟨q7, [i (.negSucc 0), i (.ofNat 0), i (.ofNat 0), i (.ofNat 0), .nils], 191, 0⟩,
  ⟨q8, [i (.ofNat 0)], 3, 0⟩]⟩
noncomputable def mS0 : Ent := ⟨[.agg [.sl q1 0 2 2, .nils, .nils], .agg [i (.ofNat 0), i (.ofNat 0), .sl q2 0 1 1, .su q3 0 1 0, .nils, .nils, .nils, .nils], .agg [i (.ofNat 0), i (.ofNat 0)]],
 [⟨q1, [.str [109, 97, 105, 110], i (.ofNat 0), i (.ofNat 1), i (.ofNat 0), .bool false, .sl q4 0 4 4, .str [119, 111, 114, 107], i (.ofNat 0), i (.ofNat 1), i (.ofNat 0), .bool false, .sl q5 0 2 2], 43, 0⟩,
  ⟨q2, [i (.ofNat 0), i (.ofNat 0), i (.ofNat 0), i (.ofNat 1), i (.ofNat 0), i (.ofNat 0), .bool false, .sl q6 0 1 1, .sl q7 0 1 1, i (.ofNat 0), .bool false, i (.ofNat 0), i (.ofNat 0), i (.ofNat 0)], 144, 0⟩,
  ⟨q3, [i (.negSucc 0), i (.negSucc 0), i (.ofNat 1), i (.ofNat 0), i (.ofNat 0), i (.negSucc 0), .bool false], 194, 7⟩,
  ⟨q4, [i (.ofNat 35), i (.negSucc 0), i (.negSucc 0), i (.ofNat 3), .nils, i (.ofNat 34), i (.ofNat 0), i (.ofNat 1), i (.ofNat 0), .nils, i (.ofNat 38), i (.ofNat 0), i (.ofNat 0), i (.ofNat 0), .nils, i (.ofNat 36), i (.ofNat 0), i (.ofNat 0), i (.ofNat 0), .nils], 40, 0⟩,
  ⟨q5, [i (.ofNat 1), i (.ofNat 0), i (.ofNat 5), i (.ofNat 0), .nils, i (.ofNat 41), i (.ofNat 0), i (.ofNat 0), i (.ofNat 0), .nils], 40, 0⟩,
  ⟨q6, [i (.ofNat 0), i (.ofNat 0), .sl q8 0 1 1, i (.negSucc 0), .bool false], 188, 0⟩,
  ⟨q7, [i (.negSucc 0), i (.ofNat 0), i (.ofNat 0), i (.ofNat 0), .nils], 191, 0⟩,
  ⟨q8, [i (.ofNat 0)], 3, 0⟩],
 q9, .tup [.agg [i (.ofNat 0), i (.ofNat 1), .su q9 0 1 0, .su q10 0 2 0, .nils, .nils, .nils, .nils], .su q11 0 1 0, i (.ofNat 0)],
 [⟨q9, [i (.ofNat 0), i (.ofNat 0), i (.ofNat 0), i (.ofNat 1), i (.ofNat 0), i (.ofNat 0), .bool false, .su q12 0 1 0, .su q13 0 2 0, i (.ofNat 0), .bool false, i (.ofNat 0), i (.ofNat 0), i (.ofNat 0)], 144, 14⟩,
  ⟨q10, [i (.negSucc 0), i (.negSucc 0), i (.ofNat 1), i (.ofNat 0), i (.ofNat 0), i (.negSucc 0), .bool false, i (.ofNat 0), i (.ofNat 0), i (.ofNat 0), i (.ofNat 0), i (.ofNat 0), i (.negSucc 0), .bool false], 194, 7⟩,
  ⟨q11, [i (.ofNat 1), i (.ofNat 0), i (.ofNat 0), i (.ofNat 35), i (.negSucc 0), i (.ofNat 1), i (.ofNat 0), i (.negSucc 0)], 97, 8⟩,
  ⟨q12, [i (.ofNat 0), i (.ofNat 1), .su q14 0 1 0, i (.negSucc 0), .bool false], 188, 5⟩,
  ⟨q13, [i (.negSucc 0), i (.ofNat 0), i (.ofNat 0), i (.ofNat 0), .nils, i (.ofNat 1), i (.ofNat 1), i (.ofNat 3), i (.ofNat 0), .nils], 191, 5⟩,
  ⟨q14, [i (.ofNat 0)], 3, 1⟩]⟩
noncomputable def mS1 : Ent := ⟨[.agg [.sl q1 0 2 2, .nils, .nils], .agg [i (.ofNat 0), i (.ofNat 1), .su q2 0 1 0, .su q3 0 2 0, .nils, .nils, .nils, .nils], .agg [i (.ofNat 0), i (.ofNat 0)]],
 [⟨q1, [.str [109, 97, 105, 110], i (.ofNat 0), i (.ofNat 1), i (.ofNat 0), .bool false, .sl q4 0 4 4, .str [119, 111, 114, 107], i (.ofNat 0), i (.ofNat 1), i (.ofNat 0), .bool false, .sl q5 0 2 2], 43, 0⟩,
  ⟨q2, [i (.ofNat 0), i (.ofNat 0), i (.ofNat 0), i (.ofNat 1), i (.ofNat 0), i (.ofNat 0), .bool false, .su q6 0 1 0, .su q7 0 2 0, i (.ofNat 0), .bool false, i (.ofNat 0), i (.ofNat 0), i (.ofNat 0)], 144, 14⟩,
  ⟨q3, [i (.negSucc 0), i (.negSucc 0), i (.ofNat 1), i (.ofNat 0), i (.ofNat 0), i (.negSucc 0), .bool false, i (.ofNat 0), i (.ofNat 0), i (.ofNat 0), i (.ofNat 0), i (.ofNat 0), i (.negSucc 0), .bool false], 194, 7⟩,
  ⟨q4, [i (.ofNat 35), i (.negSucc 0), i (.negSucc 0), i (.ofNat 3), .nils, i (.ofNat 34), i (.ofNat 0), i (.ofNat 1), i (.ofNat 0), .nils, i (.ofNat 38), i (.ofNat 0), i (.ofNat 0), i (.ofNat 0), .nils, i (.ofNat 36), i (.ofNat 0), i (.ofNat 0), i (.ofNat 0), .nils], 40, 0⟩,
  ⟨q5, [i (.ofNat 1), i (.ofNat 0), i (.ofNat 5), i (.ofNat 0), .nils, i (.ofNat 41), i (.ofNat 0), i (.ofNat 0), i (.ofNat 0), .nils], 40, 0⟩,
  ⟨q6, [i (.ofNat 0), i (.ofNat 1), .su q8 0 1 0, i (.negSucc 0), .bool false], 188, 5⟩,
  ⟨q7, [i (.negSucc 0), i (.ofNat 0), i (.ofNat 0), i (.ofNat 0), .nils, i (.ofNat 1), i (.ofNat 1), i (.ofNat 3), i (.ofNat 0), .nils], 191, 5⟩,
  ⟨q8, [i (.ofNat 0)], 3, 1⟩],
 q9, .tup [.agg [i (.ofNat 0), i (.ofNat 2), .su q9 0 2 0, .su q10 0 2 0, .nils, .nils, .nils, .nils], .su q11 0 2 0, i (.ofNat 0)],
 [⟨q9, [i (.ofNat 0), i (.ofNat 0), i (.ofNat 0), i (.ofNat 1), i (.ofNat 0), i (.ofNat 0), .bool false, .su q12 0 1 0, .su q13 0 2 0, i (.ofNat 0), .bool false, i (.ofNat 0), i (.ofNat 0), i (.ofNat 0), i (.ofNat 1), i (.ofNat 1), i (.ofNat 0), i (.ofNat 1), i (.ofNat 0), i (.ofNat 0), .bool false, .sl q14 0 1 1, .sl q15 0 1 1, i (.ofNat 0), .bool false, i (.ofNat 0), i (.ofNat 0), i (.ofNat 0)], 144, 14⟩,
  ⟨q10, [i (.negSucc 0), i (.negSucc 0), i (.ofNat 1), i (.ofNat 0), i (.ofNat 0), i (.negSucc 0), .bool false, i (.ofNat 0), i (.ofNat 0), i (.ofNat 1), i (.ofNat 0), i (.ofNat 0), i (.negSucc 0), .bool false], 194, 7⟩,
  ⟨q11, [i (.ofNat 2), i (.ofNat 0), i (.ofNat 0), i (.ofNat 34), i (.negSucc 0), i (.ofNat 1), i (.ofNat 1), i (.negSucc 0), i (.ofNat 2), i (.ofNat 0), i (.ofNat 1), i (.ofNat 204), i (.negSucc 0), i (.ofNat 1), i (.ofNat 1), i (.ofNat 0)], 97, 8⟩,
  ⟨q12, [i (.ofNat 0), i (.ofNat 2), .su q16 0 1 0, i (.negSucc 0), .bool false], 188, 5⟩,
  ⟨q13, [i (.negSucc 0), i (.ofNat 0), i (.ofNat 0), i (.ofNat 0), .nils, i (.ofNat 1), i (.ofNat 1), i (.ofNat 3), i (.ofNat 0), .nils], 191, 5⟩,
  ⟨q14, [i (.ofNat 1), i (.ofNat 0), .sl q17 0 1 1, i (.negSucc 0), .bool false], 188, 0⟩,
  ⟨q15, [i (.negSucc 0), i (.ofNat 0), i (.ofNat 0), i (.ofNat 0), .nils], 191, 0⟩,
  ⟨q16, [i (.ofNat 1)], 3, 1⟩,
  ⟨q17, [i (.ofNat 0)], 3, 0⟩]⟩
noncomputable def mS2 : Ent := ⟨[.agg [.sl q1 0 2 2, .nils, .nils], .agg [i (.ofNat 0), i (.ofNat 2), .su q2 0 2 0, .su q3 0 2 0, .nils, .nils, .nils, .nils], .agg [i (.ofNat 0), i (.ofNat 0)]],
 [⟨q1, [.str [109, 97, 105, 110], i (.ofNat 0), i (.ofNat 1), i (.ofNat 0), .bool false, .sl q4 0 4 4, .str [119, 111, 114, 107], i (.ofNat 0), i (.ofNat 1), i (.ofNat 0), .bool false, .sl q5 0 2 2], 43, 0⟩,
  ⟨q2, [i (.ofNat 0), i (.ofNat 0), i (.ofNat 0), i (.ofNat 1), i (.ofNat 0), i (.ofNat 0), .bool false, .su q6 0 1 0, .su q7 0 2 0, i (.ofNat 0), .bool false, i (.ofNat 0), i (.ofNat 0), i (.ofNat 0), i (.ofNat 1), i (.ofNat 1), i (.ofNat 0), i (.ofNat 1), i (.ofNat 0), i (.ofNat 0), .bool false, .sl q8 0 1 1, .sl q9 0 1 1, i (.ofNat 0), .bool false, i (.ofNat 0), i (.ofNat 0), i (.ofNat 0)], 144, 14⟩,
  ⟨q3, [i (.negSucc 0), i (.negSucc 0), i (.ofNat 1), i (.ofNat 0), i (.ofNat 0), i (.negSucc 0), .bool false, i (.ofNat 0), i (.ofNat 0), i (.ofNat 1), i (.ofNat 0), i (.ofNat 0), i (.negSucc 0), .bool false], 194, 7⟩,
  ⟨q4, [i (.ofNat 35), i (.negSucc 0), i (.negSucc 0), i (.ofNat 3), .nils, i (.ofNat 34), i (.ofNat 0), i (.ofNat 1), i (.ofNat 0), .nils, i (.ofNat 38), i (.ofNat 0), i (.ofNat 0), i (.ofNat 0), .nils, i (.ofNat 36), i (.ofNat 0), i (.ofNat 0), i (.ofNat 0), .nils], 40, 0⟩,
  ⟨q5, [i (.ofNat 1), i (.ofNat 0), i (.ofNat 5), i (.ofNat 0), .nils, i (.ofNat 41), i (.ofNat 0), i (.ofNat 0), i (.ofNat 0), .nils], 40, 0⟩,
  ⟨q6, [i (.ofNat 0), i (.ofNat 2), .su q10 0 1 0, i (.negSucc 0), .bool false], 188, 5⟩,
  ⟨q7, [i (.negSucc 0), i (.ofNat 0), i (.ofNat 0), i (.ofNat 0), .nils, i (.ofNat 1), i (.ofNat 1), i (.ofNat 3), i (.ofNat 0), .nils], 191, 5⟩,
  ⟨q8, [i (.ofNat 1), i (.ofNat 0), .sl q11 0 1 1, i (.negSucc 0), .bool false], 188, 0⟩,
  ⟨q9, [i (.negSucc 0), i (.ofNat 0), i (.ofNat 0), i (.ofNat 0), .nils], 191, 0⟩,
  ⟨q10, [i (.ofNat 1)], 3, 1⟩,
  ⟨q11, [i (.ofNat 0)], 3, 0⟩],
 q12, .tup [.agg [i (.ofNat 0), i (.ofNat 3), .su q12 0 2 0, .su q13 0 2 0, .nils, .nils, .nils, .nils], .su q14 0 1 0, i (.ofNat 0)],
 [⟨q12, [i (.ofNat 0), i (.ofNat 0), i (.ofNat 0), i (.ofNat 1), i (.ofNat 0), i (.ofNat 0), .bool false, .su q15 0 1 0, .su q16 0 2 0, i (.ofNat 0), .bool false, i (.ofNat 0), i (.ofNat 0), i (.ofNat 0), i (.ofNat 1), i (.ofNat 1), i (.ofNat 0), i (.ofNat 1), i (.ofNat 0), i (.ofNat 0), .bool false, .sl q8 0 1 1, .sl q9 0 1 1, i (.ofNat 0), .bool false, i (.ofNat 0), i (.ofNat 0), i (.ofNat 0)], 144, 14⟩,
  ⟨q13, [i (.negSucc 0), i (.negSucc 0), i (.ofNat 1), i (.ofNat 0), i (.ofNat 0), i (.negSucc 0), .bool false, i (.ofNat 0), i (.ofNat 0), i (.ofNat 1), i (.ofNat 0), i (.ofNat 0), i (.negSucc 0), .bool false], 194, 7⟩,
  ⟨q14, [i (.ofNat 3), i (.ofNat 0), i (.ofNat 0), i (.ofNat 38), i (.negSucc 0), i (.negSucc 0), i (.ofNat 0), i (.negSucc 0)], 97, 8⟩,
  ⟨q15, [i (.ofNat 0), i (.ofNat 3), .su q17 0 1 0, i (.negSucc 0), .bool false], 188, 5⟩,
  ⟨q16, [i (.negSucc 0), i (.ofNat 0), i (.ofNat 0), i (.ofNat 0), .nils, i (.ofNat 1), i (.ofNat 1), i (.ofNat 3), i (.ofNat 0), .nils], 191, 5⟩,
  ⟨q17, [i (.ofNat 1)], 3, 1⟩]⟩
noncomputable def mS3 : Ent := ⟨[.agg [.sl q1 0 2 2, .nils, .nils], .agg [i (.ofNat 0), i (.ofNat 3), .su q2 0 2 0, .su q3 0 2 0, .nils, .nils, .nils, .nils], .agg [i (.ofNat 0), i (.ofNat 0)]],
 [⟨q1, [.str [109, 97, 105, 110], i (.ofNat 0), i (.ofNat 1), i (.ofNat 0), .bool false, .sl q4 0 4 4, .str [119, 111, 114, 107], i (.ofNat 0), i (.ofNat 1), i (.ofNat 0), .bool false, .sl q5 0 2 2], 43, 0⟩,
  ⟨q2, [i (.ofNat 0), i (.ofNat 0), i (.ofNat 0), i (.ofNat 1), i (.ofNat 0), i (.ofNat 0), .bool false, .su q6 0 1 0, .su q7 0 2 0, i (.ofNat 0), .bool false, i (.ofNat 0), i (.ofNat 0), i (.ofNat 0), i (.ofNat 1), i (.ofNat 1), i (.ofNat 0), i (.ofNat 1), i (.ofNat 0), i (.ofNat 0), .bool false, .sl q8 0 1 1, .sl q9 0 1 1, i (.ofNat 0), .bool false, i (.ofNat 0), i (.ofNat 0), i (.ofNat 0)], 144, 14⟩,
  ⟨q3, [i (.negSucc 0), i (.negSucc 0), i (.ofNat 1), i (.ofNat 0), i (.ofNat 0), i (.negSucc 0), .bool false, i (.ofNat 0), i (.ofNat 0), i (.ofNat 1), i (.ofNat 0), i (.ofNat 0), i (.negSucc 0), .bool false], 194, 7⟩,
  ⟨q4, [i (.ofNat 35), i (.negSucc 0), i (.negSucc 0), i (.ofNat 3), .nils, i (.ofNat 34), i (.ofNat 0), i (.ofNat 1), i (.ofNat 0), .nils, i (.ofNat 38), i (.ofNat 0), i (.ofNat 0), i (.ofNat 0), .nils, i (.ofNat 36), i (.ofNat 0), i (.ofNat 0), i (.ofNat 0), .nils], 40, 0⟩,
  ⟨q5, [i (.ofNat 1), i (.ofNat 0), i (.ofNat 5), i (.ofNat 0), .nils, i (.ofNat 41), i (.ofNat 0), i (.ofNat 0), i (.ofNat 0), .nils], 40, 0⟩,
  ⟨q6, [i (.ofNat 0), i (.ofNat 3), .su q10 0 1 0, i (.negSucc 0), .bool false], 188, 5⟩,
  ⟨q7, [i (.negSucc 0), i (.ofNat 0), i (.ofNat 0), i (.ofNat 0), .nils, i (.ofNat 1), i (.ofNat 1), i (.ofNat 3), i (.ofNat 0), .nils], 191, 5⟩,
  ⟨q8, [i (.ofNat 1), i (.ofNat 0), .sl q11 0 1 1, i (.negSucc 0), .bool false], 188, 0⟩,
  ⟨q9, [i (.negSucc 0), i (.ofNat 0), i (.ofNat 0), i (.ofNat 0), .nils], 191, 0⟩,
  ⟨q10, [i (.ofNat 1)], 3, 1⟩,
  ⟨q11, [i (.ofNat 0)], 3, 0⟩],
 q12, .tup [.agg [i (.ofNat 0), i (.ofNat 4), .su q12 0 2 0, .su q13 0 2 0, .nils, .nils, .nils, .nils], .su q14 0 1 0, i (.ofNat 0)],
 [⟨q12, [i (.ofNat 0), i (.ofNat 0), i (.ofNat 0), i (.ofNat 2), i (.ofNat 4), i (.ofNat 1), .bool false, .sl q15 0 1 1, .su q16 0 2 0, i (.ofNat 0), .bool false, i (.ofNat 0), i (.ofNat 0), i (.ofNat 0), i (.ofNat 1), i (.ofNat 1), i (.ofNat 0), i (.ofNat 1), i (.ofNat 0), i (.ofNat 0), .bool false, .sl q8 0 1 1, .sl q9 0 1 1, i (.ofNat 0), .bool false, i (.ofNat 0), i (.ofNat 0), i (.ofNat 0)], 144, 14⟩,
  ⟨q13, [i (.negSucc 0), i (.negSucc 0), i (.ofNat 1), i (.ofNat 0), i (.ofNat 0), i (.negSucc 0), .bool false, i (.ofNat 0), i (.ofNat 0), i (.ofNat 1), i (.ofNat 0), i (.ofNat 0), i (.negSucc 0), .bool false], 194, 7⟩,
  ⟨q14, [i (.ofNat 4), i (.ofNat 0), i (.ofNat 0), i (.ofNat 202), i (.negSucc 0), i (.ofNat 1), i (.ofNat 0), i (.negSucc 0)], 97, 8⟩,
  ⟨q15, [i (.ofNat 0), i (.ofNat 3), .su q17 0 1 0, i (.negSucc 0), .bool false], 188, 5⟩,
  ⟨q16, [i (.negSucc 0), i (.ofNat 0), i (.ofNat 0), i (.ofNat 0), .nils, i (.ofNat 1), i (.ofNat 1), i (.ofNat 3), i (.ofNat 0), .nils], 191, 5⟩,
  ⟨q17, [i (.ofNat 1)], 3, 1⟩]⟩
noncomputable def mS4 : Ent := ⟨[.agg [.sl q1 0 2 2, .nils, .nils], .agg [i (.ofNat 0), i (.ofNat 4), .su q2 0 2 0, .su q3 0 2 0, .nils, .nils, .nils, .nils], .agg [i (.ofNat 1), i (.ofNat 0)]],
 [⟨q1, [.str [109, 97, 105, 110], i (.ofNat 0), i (.ofNat 1), i (.ofNat 0), .bool false, .sl q4 0 4 4, .str [119, 111, 114, 107], i (.ofNat 0), i (.ofNat 1), i (.ofNat 0), .bool false, .sl q5 0 2 2], 43, 0⟩,
  ⟨q2, [i (.ofNat 0), i (.ofNat 0), i (.ofNat 0), i (.ofNat 2), i (.ofNat 4), i (.ofNat 1), .bool false, .sl q6 0 1 1, .su q7 0 2 0, i (.ofNat 0), .bool false, i (.ofNat 0), i (.ofNat 0), i (.ofNat 0), i (.ofNat 1), i (.ofNat 1), i (.ofNat 0), i (.ofNat 1), i (.ofNat 0), i (.ofNat 0), .bool false, .sl q8 0 1 1, .sl q9 0 1 1, i (.ofNat 0), .bool false, i (.ofNat 0), i (.ofNat 0), i (.ofNat 0)], 144, 14⟩,
  ⟨q3, [i (.negSucc 0), i (.negSucc 0), i (.ofNat 1), i (.ofNat 0), i (.ofNat 0), i (.negSucc 0), .bool false, i (.ofNat 0), i (.ofNat 0), i (.ofNat 1), i (.ofNat 0), i (.ofNat 0), i (.negSucc 0), .bool false], 194, 7⟩,
  ⟨q4, [i (.ofNat 35), i (.negSucc 0), i (.negSucc 0), i (.ofNat 3), .nils, i (.ofNat 34), i (.ofNat 0), i (.ofNat 1), i (.ofNat 0), .nils, i (.ofNat 38), i (.ofNat 0), i (.ofNat 0), i (.ofNat 0), .nils, i (.ofNat 36), i (.ofNat 0), i (.ofNat 0), i (.ofNat 0), .nils], 40, 0⟩,
  ⟨q5, [i (.ofNat 1), i (.ofNat 0), i (.ofNat 5), i (.ofNat 0), .nils, i (.ofNat 41), i (.ofNat 0), i (.ofNat 0), i (.ofNat 0), .nils], 40, 0⟩,
  ⟨q6, [i (.ofNat 0), i (.ofNat 3), .su q10 0 1 0, i (.negSucc 0), .bool false], 188, 5⟩,
  ⟨q7, [i (.negSucc 0), i (.ofNat 0), i (.ofNat 0), i (.ofNat 0), .nils, i (.ofNat 1), i (.ofNat 1), i (.ofNat 3), i (.ofNat 0), .nils], 191, 5⟩,
  ⟨q8, [i (.ofNat 1), i (.ofNat 0), .sl q11 0 1 1, i (.negSucc 0), .bool false], 188, 0⟩,
  ⟨q9, [i (.negSucc 0), i (.ofNat 0), i (.ofNat 0), i (.ofNat 0), .nils], 191, 0⟩,
  ⟨q10, [i (.ofNat 1)], 3, 1⟩,
  ⟨q11, [i (.ofNat 0)], 3, 0⟩],
 q12, .tup [.agg [i (.ofNat 0), i (.ofNat 5), .su q12 0 2 0, .su q13 0 2 0, .nils, .nils, .nils, .su q14 0 1 0], .su q15 0 1 0, i (.ofNat 0)],
 [⟨q12, [i (.ofNat 0), i (.ofNat 0), i (.ofNat 0), i (.ofNat 2), i (.ofNat 4), i (.ofNat 1), .bool false, .sl q6 0 1 1, .su q7 0 2 0, i (.ofNat 0), .bool false, i (.ofNat 0), i (.ofNat 0), i (.ofNat 0), i (.ofNat 1), i (.ofNat 1), i (.ofNat 0), i (.ofNat 1), i (.ofNat 0), i (.ofNat 0), .bool false, .su q16 0 1 0, .su q17 0 1 0, i (.ofNat 0), .bool false, i (.ofNat 0), i (.ofNat 0), i (.ofNat 0)], 144, 14⟩,
  ⟨q13, [i (.negSucc 0), i (.negSucc 0), i (.ofNat 1), i (.ofNat 0), i (.ofNat 0), i (.negSucc 0), .bool false, i (.ofNat 0), i (.ofNat 0), i (.ofNat 1), i (.ofNat 0), i (.ofNat 0), i (.negSucc 0), .bool false], 194, 7⟩,
  ⟨q14, [i (.ofNat 5)], 3, 1⟩,
  ⟨q15, [i (.ofNat 5), i (.ofNat 0), i (.ofNat 1), i (.ofNat 41), i (.negSucc 0), i (.negSucc 0), i (.ofNat 5), i (.negSucc 0)], 97, 8⟩,
  ⟨q16, [i (.ofNat 1), i (.ofNat 2), .su q18 0 1 0, i (.negSucc 0), .bool false], 188, 5⟩,
  ⟨q17, [i (.negSucc 0), i (.ofNat 0), i (.ofNat 0), i (.ofNat 0), .nils], 191, 5⟩,
  ⟨q18, [i (.ofNat 5)], 3, 1⟩]⟩
noncomputable def mS5 : Ent := ⟨[.agg [.sl q1 0 2 2, .nils, .nils], .agg [i (.ofNat 0), i (.ofNat 5), .su q2 0 2 0, .su q3 0 2 0, .nils, .nils, .nils, .su q4 0 1 0], .agg [i (.ofNat 1), i (.ofNat 0)]],
 [⟨q1, [.str [109, 97, 105, 110], i (.ofNat 0), i (.ofNat 1), i (.ofNat 0), .bool false, .sl q5 0 4 4, .str [119, 111, 114, 107], i (.ofNat 0), i (.ofNat 1), i (.ofNat 0), .bool false, .sl q6 0 2 2], 43, 0⟩,
  ⟨q2, [i (.ofNat 0), i (.ofNat 0), i (.ofNat 0), i (.ofNat 2), i (.ofNat 4), i (.ofNat 1), .bool false, .sl q7 0 1 1, .su q8 0 2 0, i (.ofNat 0), .bool false, i (.ofNat 0), i (.ofNat 0), i (.ofNat 0), i (.ofNat 1), i (.ofNat 1), i (.ofNat 0), i (.ofNat 1), i (.ofNat 0), i (.ofNat 0), .bool false, .su q9 0 1 0, .su q10 0 1 0, i (.ofNat 0), .bool false, i (.ofNat 0), i (.ofNat 0), i (.ofNat 0)], 144, 14⟩,
  ⟨q3, [i (.negSucc 0), i (.negSucc 0), i (.ofNat 1), i (.ofNat 0), i (.ofNat 0), i (.negSucc 0), .bool false, i (.ofNat 0), i (.ofNat 0), i (.ofNat 1), i (.ofNat 0), i (.ofNat 0), i (.negSucc 0), .bool false], 194, 7⟩,
  ⟨q4, [i (.ofNat 5)], 3, 1⟩,
  ⟨q5, [i (.ofNat 35), i (.negSucc 0), i (.negSucc 0), i (.ofNat 3), .nils, i (.ofNat 34), i (.ofNat 0), i (.ofNat 1), i (.ofNat 0), .nils, i (.ofNat 38), i (.ofNat 0), i (.ofNat 0), i (.ofNat 0), .nils, i (.ofNat 36), i (.ofNat 0), i (.ofNat 0), i (.ofNat 0), .nils], 40, 0⟩,
  ⟨q6, [i (.ofNat 1), i (.ofNat 0), i (.ofNat 5), i (.ofNat 0), .nils, i (.ofNat 41), i (.ofNat 0), i (.ofNat 0), i (.ofNat 0), .nils], 40, 0⟩,
  ⟨q7, [i (.ofNat 0), i (.ofNat 3), .su q11 0 1 0, i (.negSucc 0), .bool false], 188, 5⟩,
  ⟨q8, [i (.negSucc 0), i (.ofNat 0), i (.ofNat 0), i (.ofNat 0), .nils, i (.ofNat 1), i (.ofNat 1), i (.ofNat 3), i (.ofNat 0), .nils], 191, 5⟩,
  ⟨q9, [i (.ofNat 1), i (.ofNat 2), .su q12 0 1 0, i (.negSucc 0), .bool false], 188, 5⟩,
  ⟨q10, [i (.negSucc 0), i (.ofNat 0), i (.ofNat 0), i (.ofNat 0), .nils], 191, 5⟩,
  ⟨q11, [i (.ofNat 1)], 3, 1⟩,
  ⟨q12, [i (.ofNat 5)], 3, 1⟩],
 q13, .tup [.agg [i (.ofNat 0), i (.ofNat 6), .su q13 0 2 0, .su q14 0 2 0, .nils, .nils, .nils, .su q15 0 1 0], .su q16 0 2 0, i (.ofNat 0)],
 [⟨q13, [i (.ofNat 0), i (.ofNat 0), i (.ofNat 0), i (.ofNat 1), i (.ofNat 0), i (.ofNat 0), .bool false, .sl q7 0 1 1, .su q8 0 2 0, i (.ofNat 0), .bool false, i (.ofNat 0), i (.ofNat 0), i (.ofNat 0), i (.ofNat 1), i (.ofNat 1), i (.ofNat 0), i (.ofNat 3), i (.ofNat 0), i (.ofNat 0), .bool false, .nils, .nils, i (.ofNat 0), .bool false, i (.ofNat 0), i (.ofNat 0), i (.ofNat 0)], 144, 14⟩,
  ⟨q14, [i (.negSucc 0), i (.negSucc 0), i (.ofNat 1), i (.ofNat 0), i (.ofNat 0), i (.negSucc 0), .bool false, i (.ofNat 0), i (.ofNat 0), i (.ofNat 0), i (.ofNat 0), i (.ofNat 0), i (.negSucc 0), .bool false], 194, 7⟩,
  ⟨q15, [i (.ofNat 5)], 3, 1⟩,
  ⟨q16, [i (.ofNat 6), i (.ofNat 0), i (.ofNat 1), i (.ofNat 205), i (.negSucc 0), i (.ofNat 1), i (.ofNat 0), i (.negSucc 0), i (.ofNat 6), i (.ofNat 0), i (.ofNat 0), i (.ofNat 203), i (.negSucc 0), i (.ofNat 1), i (.ofNat 0), i (.negSucc 0)], 97, 8⟩]⟩
noncomputable def mS6 : Ent := ⟨[.agg [.sl q1 0 2 2, .nils, .nils], .agg [i (.ofNat 0), i (.ofNat 6), .su q2 0 2 0, .su q3 0 2 0, .nils, .nils, .nils, .su q4 0 1 0], .agg [i (.ofNat 0), i (.ofNat 0)]],
 [⟨q1, [.str [109, 97, 105, 110], i (.ofNat 0), i (.ofNat 1), i (.ofNat 0), .bool false, .sl q5 0 4 4, .str [119, 111, 114, 107], i (.ofNat 0), i (.ofNat 1), i (.ofNat 0), .bool false, .sl q6 0 2 2], 43, 0⟩,
  ⟨q2, [i (.ofNat 0), i (.ofNat 0), i (.ofNat 0), i (.ofNat 1), i (.ofNat 0), i (.ofNat 0), .bool false, .sl q7 0 1 1, .su q8 0 2 0, i (.ofNat 0), .bool false, i (.ofNat 0), i (.ofNat 0), i (.ofNat 0), i (.ofNat 1), i (.ofNat 1), i (.ofNat 0), i (.ofNat 3), i (.ofNat 0), i (.ofNat 0), .bool false, .nils, .nils, i (.ofNat 0), .bool false, i (.ofNat 0), i (.ofNat 0), i (.ofNat 0)], 144, 14⟩,
  ⟨q3, [i (.negSucc 0), i (.negSucc 0), i (.ofNat 1), i (.ofNat 0), i (.ofNat 0), i (.negSucc 0), .bool false, i (.ofNat 0), i (.ofNat 0), i (.ofNat 0), i (.ofNat 0), i (.ofNat 0), i (.negSucc 0), .bool false], 194, 7⟩,
  ⟨q4, [i (.ofNat 5)], 3, 1⟩,
  ⟨q5, [i (.ofNat 35), i (.negSucc 0), i (.negSucc 0), i (.ofNat 3), .nils, i (.ofNat 34), i (.ofNat 0), i (.ofNat 1), i (.ofNat 0), .nils, i (.ofNat 38), i (.ofNat 0), i (.ofNat 0), i (.ofNat 0), .nils, i (.ofNat 36), i (.ofNat 0), i (.ofNat 0), i (.ofNat 0), .nils], 40, 0⟩,
  ⟨q6, [i (.ofNat 1), i (.ofNat 0), i (.ofNat 5), i (.ofNat 0), .nils, i (.ofNat 41), i (.ofNat 0), i (.ofNat 0), i (.ofNat 0), .nils], 40, 0⟩,
  ⟨q7, [i (.ofNat 0), i (.ofNat 3), .su q9 0 1 0, i (.negSucc 0), .bool false], 188, 5⟩,
  ⟨q8, [i (.negSucc 0), i (.ofNat 0), i (.ofNat 0), i (.ofNat 0), .nils, i (.ofNat 1), i (.ofNat 1), i (.ofNat 3), i (.ofNat 0), .nils], 191, 5⟩,
  ⟨q9, [i (.ofNat 1)], 3, 1⟩],
 q10, .tup [.agg [i (.ofNat 0), i (.ofNat 7), .su q10 0 2 0, .su q11 0 2 0, .nils, .nils, .nils, .su q12 0 1 0], .su q13 0 2 0, i (.ofNat 0)],
 [⟨q10, [i (.ofNat 0), i (.ofNat 0), i (.ofNat 0), i (.ofNat 1), i (.ofNat 0), i (.ofNat 0), .bool false, .su q14 0 1 0, .su q15 0 1 0, i (.ofNat 0), .bool false, i (.ofNat 0), i (.ofNat 0), i (.ofNat 0), i (.ofNat 1), i (.ofNat 1), i (.ofNat 0), i (.ofNat 3), i (.ofNat 0), i (.ofNat 0), .bool false, .nils, .nils, i (.ofNat 0), .bool false, i (.ofNat 0), i (.ofNat 0), i (.ofNat 0)], 144, 14⟩,
  ⟨q11, [i (.negSucc 0), i (.negSucc 0), i (.ofNat 1), i (.ofNat 0), i (.ofNat 0), i (.negSucc 0), .bool false, i (.ofNat 0), i (.ofNat 0), i (.ofNat 0), i (.ofNat 0), i (.ofNat 0), i (.negSucc 0), .bool true], 194, 7⟩,
  ⟨q12, [i (.ofNat 5)], 3, 1⟩,
  ⟨q13, [i (.ofNat 7), i (.ofNat 0), i (.ofNat 0), i (.ofNat 36), i (.negSucc 0), i (.ofNat 1), i (.ofNat 0), i (.negSucc 0), i (.ofNat 7), i (.ofNat 0), i (.ofNat 0), i (.ofNat 212), i (.negSucc 0), i (.ofNat 1), i (.ofNat 0), i (.negSucc 0)], 97, 8⟩,
  ⟨q14, [i (.ofNat 0), i (.ofNat 4), .su q16 0 1 0, i (.negSucc 0), .bool false], 188, 5⟩,
  ⟨q15, [i (.negSucc 0), i (.ofNat 0), i (.ofNat 0), i (.ofNat 0), .nils], 191, 5⟩,
  ⟨q16, [i (.ofNat 0)], 3, 1⟩]⟩
noncomputable def mS7 : Ent := ⟨[.agg [.sl q1 0 2 2, .nils, .nils], .agg [i (.ofNat 0), i (.ofNat 7), .su q2 0 2 0, .su q3 0 2 0, .nils, .nils, .nils, .su q4 0 1 0], .agg [i (.ofNat 0), i (.ofNat 0)]],
 [⟨q1, [.str [109, 97, 105, 110], i (.ofNat 0), i (.ofNat 1), i (.ofNat 0), .bool false, .sl q5 0 4 4, .str [119, 111, 114, 107], i (.ofNat 0), i (.ofNat 1), i (.ofNat 0), .bool false, .sl q6 0 2 2], 43, 0⟩,
  ⟨q2, [i (.ofNat 0), i (.ofNat 0), i (.ofNat 0), i (.ofNat 1), i (.ofNat 0), i (.ofNat 0), .bool false, .su q7 0 1 0, .su q8 0 1 0, i (.ofNat 0), .bool false, i (.ofNat 0), i (.ofNat 0), i (.ofNat 0), i (.ofNat 1), i (.ofNat 1), i (.ofNat 0), i (.ofNat 3), i (.ofNat 0), i (.ofNat 0), .bool false, .nils, .nils, i (.ofNat 0), .bool false, i (.ofNat 0), i (.ofNat 0), i (.ofNat 0)], 144, 14⟩,
  ⟨q3, [i (.negSucc 0), i (.negSucc 0), i (.ofNat 1), i (.ofNat 0), i (.ofNat 0), i (.negSucc 0), .bool false, i (.ofNat 0), i (.ofNat 0), i (.ofNat 0), i (.ofNat 0), i (.ofNat 0), i (.negSucc 0), .bool true], 194, 7⟩,
  ⟨q4, [i (.ofNat 5)], 3, 1⟩,
  ⟨q5, [i (.ofNat 35), i (.negSucc 0), i (.negSucc 0), i (.ofNat 3), .nils, i (.ofNat 34), i (.ofNat 0), i (.ofNat 1), i (.ofNat 0), .nils, i (.ofNat 38), i (.ofNat 0), i (.ofNat 0), i (.ofNat 0), .nils, i (.ofNat 36), i (.ofNat 0), i (.ofNat 0), i (.ofNat 0), .nils], 40, 0⟩,
  ⟨q6, [i (.ofNat 1), i (.ofNat 0), i (.ofNat 5), i (.ofNat 0), .nils, i (.ofNat 41), i (.ofNat 0), i (.ofNat 0), i (.ofNat 0), .nils], 40, 0⟩,
  ⟨q7, [i (.ofNat 0), i (.ofNat 4), .su q9 0 1 0, i (.negSucc 0), .bool false], 188, 5⟩,
  ⟨q8, [i (.negSucc 0), i (.ofNat 0), i (.ofNat 0), i (.ofNat 0), .nils], 191, 5⟩,
  ⟨q9, [i (.ofNat 0)], 3, 1⟩],
 q10, .tup [.agg [i (.ofNat 0), i (.ofNat 8), .su q10 0 2 0, .su q11 0 2 0, .nils, .nils, .nils, .su q12 0 1 0], .su q13 0 2 0, i (.ofNat 0)],
 [⟨q10, [i (.ofNat 0), i (.ofNat 0), i (.ofNat 0), i (.ofNat 3), i (.ofNat 0), i (.ofNat 0), .bool false, .nils, .nils, i (.ofNat 0), .bool false, i (.ofNat 0), i (.ofNat 0), i (.ofNat 0), i (.ofNat 1), i (.ofNat 1), i (.ofNat 0), i (.ofNat 3), i (.ofNat 0), i (.ofNat 0), .bool false, .nils, .nils, i (.ofNat 0), .bool false, i (.ofNat 0), i (.ofNat 0), i (.ofNat 0)], 144, 14⟩,
  ⟨q11, [i (.negSucc 0), i (.negSucc 0), i (.ofNat 0), i (.ofNat 0), i (.ofNat 0), i (.negSucc 0), .bool true, i (.ofNat 0), i (.ofNat 0), i (.ofNat 0), i (.ofNat 0), i (.ofNat 0), i (.negSucc 0), .bool true], 194, 7⟩,
  ⟨q12, [i (.ofNat 5)], 3, 1⟩,
  ⟨q13, [i (.ofNat 8), i (.ofNat 0), i (.ofNat 0), i (.ofNat 205), i (.negSucc 0), i (.ofNat 0), i (.ofNat 0), i (.negSucc 0), i (.ofNat 8), i (.ofNat 0), i (.ofNat 0), i (.ofNat 212), i (.negSucc 0), i (.ofNat 0), i (.ofNat 0), i (.negSucc 0)], 97, 8⟩]⟩
noncomputable def entI : List Ent := [mI]
noncomputable def entS : List Ent := [mS0, mS1, mS2, mS3, mS4, mS5, mS6, mS7]
noncomputable def entF : List Ent := []
noncomputable def hks : List (Nat × Hook) := [(42, hkS), (7, hkP)]
noncomputable def dhs : List (Nat × DHook) := [(440, Go.Proofs.Seat4.dhR)]
noncomputable def e0 : Hd := hdN fs rs (hkOf hks) (hkOf dhs) 200
noncomputable def e1 : Hd := hdN fs rs (hkOf ((91, memo entS) :: hks)) (hkOf dhs) 200
noncomputable def e2 : Hd := hdN fs rs (hkOf ((57, memo entI) :: (91, memo entS) :: hks)) (hkOf dhs) 200
end AvT
