/- A part of the proof. -/
import Derived.Test.YtdimfodgmaelhaaGreatDoorPak
import Derived.Test.YtdimfodgmaelhaaGreatDoorPbg
import Derived.Test.YtdimfodgmaelhaaGreatDoorPbj
import Derived.Test.YtdimfodgmaelhaaGreatDoorPbb
set_option linter.all false
namespace AvT
open Go Go.Proofs Av
set_option maxRecDepth 100000
abbrev q1 : Pos := .h
abbrev q2 : Pos := (.o .h)
abbrev q3 : Pos := (.i .h)
abbrev q4 : Pos := (.o (.o .h))
abbrev q5 : Pos := (.i (.o .h))
abbrev q6 : Pos := (.o (.i .h))
abbrev q7 : Pos := (.i (.i .h))
abbrev q8 : Pos := (.o (.o (.o .h)))
abbrev q9 : Pos := (.i (.o (.o .h)))
abbrev q10 : Pos := (.o (.i (.o .h)))
abbrev q11 : Pos := (.i (.i (.o .h)))
abbrev q12 : Pos := (.o (.o (.i .h)))
abbrev q13 : Pos := (.i (.o (.i .h)))
abbrev q14 : Pos := (.o (.i (.i .h)))
abbrev q15 : Pos := (.i (.i (.i .h)))
abbrev q16 : Pos := (.o (.o (.o (.o .h))))
abbrev q17 : Pos := (.i (.o (.o (.o .h))))
abbrev i : Int → AV := AV.int
noncomputable def sI : Ent := ⟨[.agg [.sl q1 0 2 2, .nils, .nils]],
 [⟨q1, [.str [109, 97, 105, 110], i (.ofNat 0), i (.ofNat 1), i (.ofNat 0), .bool false, .sl q2 0 3 3, .str [119, 111, 114, 107], i (.ofNat 0), i (.ofNat 0), i (.ofNat 0), .bool false, .sl q3 0 1 1], 70, 0⟩,
  ⟨q2, [i (.ofNat 35), i (.negSucc 0), i (.negSucc 0), i (.ofNat 2), .nils, i (.ofNat 34), i (.ofNat 0), i (.ofNat 1), i (.ofNat 0), .nils, i (.ofNat 36), i (.ofNat 0), i (.ofNat 0), i (.ofNat 0), .nils], 67, 0⟩,
  ⟨q3, [i (.ofNat 39), i (.ofNat 0), i (.ofNat 0), i (.ofNat 0), .nils], 67, 0⟩],
 q4, .tup [.agg [i (.ofNat 0), i (.ofNat 0), .sl q4 0 1 1, .su q5 0 1 0, .nils, .nils, .nils, .nils], i (.ofNat 0)],
 [⟨q4, [i (.ofNat 0), i (.ofNat 0), i (.ofNat 0), i (.ofNat 1), i (.ofNat 0), i (.ofNat 0), .bool false, .sl q6 0 1 1, .sl q7 0 1 1, i (.ofNat 0), .bool false, i (.ofNat 0), i (.ofNat 0), i (.ofNat 0)], 112, 0⟩,
  ⟨q5, [i (.negSucc 0), i (.negSucc 0), i (.ofNat 1), i (.ofNat 0), i (.ofNat 0), i (.negSucc 0), .bool false], 130, 7⟩,
  ⟨q6, [i (.ofNat 0), i (.ofNat 0), .sl q8 0 1 1, i (.negSucc 0), .bool false], 161, 0⟩,
  ⟨q7, [i (.negSucc 0), i (.ofNat 0), i (.ofNat 0), i (.ofNat 0), .nils], 164, 0⟩,
  ⟨q8, [i (.ofNat 0)], 3, 0⟩]⟩
noncomputable def sS0 : Ent := ⟨[.agg [.sl q1 0 2 2, .nils, .nils], .agg [i (.ofNat 0), i (.ofNat 0), .sl q2 0 1 1, .su q3 0 1 0, .nils, .nils, .nils, .nils], .agg [i (.ofNat 0), i (.ofNat 0)]],
 [⟨q1, [.str [109, 97, 105, 110], i (.ofNat 0), i (.ofNat 1), i (.ofNat 0), .bool false, .sl q4 0 3 3, .str [119, 111, 114, 107], i (.ofNat 0), i (.ofNat 0), i (.ofNat 0), .bool false, .sl q5 0 1 1], 70, 0⟩,
  ⟨q2, [i (.ofNat 0), i (.ofNat 0), i (.ofNat 0), i (.ofNat 1), i (.ofNat 0), i (.ofNat 0), .bool false, .sl q6 0 1 1, .sl q7 0 1 1, i (.ofNat 0), .bool false, i (.ofNat 0), i (.ofNat 0), i (.ofNat 0)], 112, 0⟩,
  ⟨q3, [i (.negSucc 0), i (.negSucc 0), i (.ofNat 1), i (.ofNat 0), i (.ofNat 0), i (.negSucc 0), .bool false], 130, 7⟩,
  ⟨q4, [i (.ofNat 35), i (.negSucc 0), i (.negSucc 0), i (.ofNat 2), .nils, i (.ofNat 34), i (.ofNat 0), i (.ofNat 1), i (.ofNat 0), .nils, i (.ofNat 36), i (.ofNat 0), i (.ofNat 0), i (.ofNat 0), .nils], 67, 0⟩,
  ⟨q5, [i (.ofNat 39), i (.ofNat 0), i (.ofNat 0), i (.ofNat 0), .nils], 67, 0⟩,
  ⟨q6, [i (.ofNat 0), i (.ofNat 0), .sl q8 0 1 1, i (.negSucc 0), .bool false], 161, 0⟩,
  ⟨q7, [i (.negSucc 0), i (.ofNat 0), i (.ofNat 0), i (.ofNat 0), .nils], 164, 0⟩,
  ⟨q8, [i (.ofNat 0)], 3, 0⟩],
 q9, .tup [.agg [i (.ofNat 0), i (.ofNat 1), .su q9 0 1 0, .su q10 0 2 0, .nils, .nils, .nils, .nils], .su q11 0 1 0, i (.ofNat 0)],
 [⟨q9, [i (.ofNat 0), i (.ofNat 0), i (.ofNat 0), i (.ofNat 1), i (.ofNat 0), i (.ofNat 0), .bool false, .su q12 0 1 0, .su q13 0 2 0, i (.ofNat 0), .bool false, i (.ofNat 0), i (.ofNat 0), i (.ofNat 0)], 112, 14⟩,
  ⟨q10, [i (.negSucc 0), i (.negSucc 0), i (.ofNat 1), i (.ofNat 0), i (.ofNat 0), i (.negSucc 0), .bool false, i (.ofNat 0), i (.ofNat 0), i (.ofNat 0), i (.ofNat 0), i (.ofNat 0), i (.negSucc 0), .bool false], 130, 7⟩,
  ⟨q11, [i (.ofNat 1), i (.ofNat 0), i (.ofNat 0), i (.ofNat 35), i (.negSucc 0), i (.ofNat 1), i (.ofNat 0), i (.negSucc 0)], 248, 8⟩,
  ⟨q12, [i (.ofNat 0), i (.ofNat 1), .su q14 0 1 0, i (.negSucc 0), .bool false], 161, 5⟩,
  ⟨q13, [i (.negSucc 0), i (.ofNat 0), i (.ofNat 0), i (.ofNat 0), .nils, i (.ofNat 1), i (.ofNat 1), i (.ofNat 2), i (.ofNat 0), .nils], 164, 5⟩,
  ⟨q14, [i (.ofNat 0)], 3, 1⟩]⟩
noncomputable def sF0 : Ent := ⟨[.agg [.sl q1 0 2 2, .nils, .nils], .agg [i (.ofNat 0), i (.ofNat 0), .sl q2 0 1 1, .su q3 0 1 0, .nils, .nils, .nils, .nils], .agg [i (.ofNat 0), i (.ofNat 0)]],
 [⟨q1, [.str [109, 97, 105, 110], i (.ofNat 0), i (.ofNat 1), i (.ofNat 0), .bool false, .sl q4 0 3 3, .str [119, 111, 114, 107], i (.ofNat 0), i (.ofNat 0), i (.ofNat 0), .bool false, .sl q5 0 1 1], 70, 0⟩,
  ⟨q2, [i (.ofNat 0), i (.ofNat 0), i (.ofNat 0), i (.ofNat 1), i (.ofNat 0), i (.ofNat 0), .bool false, .sl q6 0 1 1, .sl q7 0 1 1, i (.ofNat 0), .bool false, i (.ofNat 0), i (.ofNat 0), i (.ofNat 0)], 112, 0⟩,
  ⟨q3, [i (.negSucc 0), i (.negSucc 0), i (.ofNat 1), i (.ofNat 0), i (.ofNat 0), i (.negSucc 0), .bool false], 130, 7⟩,
  ⟨q4, [i (.ofNat 35), i (.negSucc 0), i (.negSucc 0), i (.ofNat 2), .nils, i (.ofNat 34), i (.ofNat 0), i (.ofNat 1), i (.ofNat 0), .nils, i (.ofNat 36), i (.ofNat 0), i (.ofNat 0), i (.ofNat 0), .nils], 67, 0⟩,
  ⟨q5, [i (.ofNat 39), i (.ofNat 0), i (.ofNat 0), i (.ofNat 0), .nils], 67, 0⟩,
  ⟨q6, [i (.ofNat 0), i (.ofNat 0), .sl q8 0 1 1, i (.negSucc 0), .bool false], 161, 0⟩,
  ⟨q7, [i (.negSucc 0), i (.ofNat 0), i (.ofNat 0), i (.ofNat 0), .nils], 164, 0⟩,
  ⟨q8, [i (.ofNat 0)], 3, 0⟩],
 q9, .tup [.su q9 0 3 0, i (.ofNat 0)],
 [⟨q9, [i (.ofNat 1), i (.ofNat 0), .bool true, i (.ofNat 4), i (.ofNat 1), .bool true, i (.ofNat 5), i (.ofNat 0), .bool true], 144, 3⟩]⟩
noncomputable def sS1 : Ent := ⟨[.agg [.sl q1 0 2 2, .nils, .nils], .agg [i (.ofNat 0), i (.ofNat 1), .su q2 0 1 0, .su q3 0 2 0, .nils, .nils, .nils, .nils], .agg [i (.ofNat 0), i (.ofNat 0)]],
 [⟨q1, [.str [109, 97, 105, 110], i (.ofNat 0), i (.ofNat 1), i (.ofNat 0), .bool false, .sl q4 0 3 3, .str [119, 111, 114, 107], i (.ofNat 0), i (.ofNat 0), i (.ofNat 0), .bool false, .sl q5 0 1 1], 70, 0⟩,
  ⟨q2, [i (.ofNat 0), i (.ofNat 0), i (.ofNat 0), i (.ofNat 1), i (.ofNat 0), i (.ofNat 0), .bool false, .su q6 0 1 0, .su q7 0 2 0, i (.ofNat 0), .bool false, i (.ofNat 0), i (.ofNat 0), i (.ofNat 0)], 112, 14⟩,
  ⟨q3, [i (.negSucc 0), i (.negSucc 0), i (.ofNat 1), i (.ofNat 0), i (.ofNat 0), i (.negSucc 0), .bool false, i (.ofNat 0), i (.ofNat 0), i (.ofNat 0), i (.ofNat 0), i (.ofNat 0), i (.negSucc 0), .bool false], 130, 7⟩,
  ⟨q4, [i (.ofNat 35), i (.negSucc 0), i (.negSucc 0), i (.ofNat 2), .nils, i (.ofNat 34), i (.ofNat 0), i (.ofNat 1), i (.ofNat 0), .nils, i (.ofNat 36), i (.ofNat 0), i (.ofNat 0), i (.ofNat 0), .nils], 67, 0⟩,
  ⟨q5, [i (.ofNat 39), i (.ofNat 0), i (.ofNat 0), i (.ofNat 0), .nils], 67, 0⟩,
  ⟨q6, [i (.ofNat 0), i (.ofNat 1), .su q8 0 1 0, i (.negSucc 0), .bool false], 161, 5⟩,
  ⟨q7, [i (.negSucc 0), i (.ofNat 0), i (.ofNat 0), i (.ofNat 0), .nils, i (.ofNat 1), i (.ofNat 1), i (.ofNat 2), i (.ofNat 0), .nils], 164, 5⟩,
  ⟨q8, [i (.ofNat 0)], 3, 1⟩],
 q9, .tup [.agg [i (.ofNat 0), i (.ofNat 2), .su q9 0 2 0, .su q10 0 2 0, .nils, .nils, .nils, .nils], .su q11 0 2 0, i (.ofNat 0)],
 [⟨q9, [i (.ofNat 0), i (.ofNat 0), i (.ofNat 0), i (.ofNat 1), i (.ofNat 0), i (.ofNat 0), .bool false, .su q12 0 1 0, .su q13 0 2 0, i (.ofNat 0), .bool false, i (.ofNat 0), i (.ofNat 0), i (.ofNat 0), i (.ofNat 1), i (.ofNat 1), i (.ofNat 0), i (.ofNat 1), i (.ofNat 0), i (.ofNat 0), .bool false, .sl q14 0 1 1, .sl q15 0 1 1, i (.ofNat 0), .bool false, i (.ofNat 0), i (.ofNat 0), i (.ofNat 0)], 112, 14⟩,
  ⟨q10, [i (.negSucc 0), i (.negSucc 0), i (.ofNat 1), i (.ofNat 0), i (.ofNat 0), i (.negSucc 0), .bool false, i (.ofNat 0), i (.ofNat 0), i (.ofNat 1), i (.ofNat 0), i (.ofNat 0), i (.negSucc 0), .bool false], 130, 7⟩,
  ⟨q11, [i (.ofNat 2), i (.ofNat 0), i (.ofNat 0), i (.ofNat 34), i (.negSucc 0), i (.ofNat 1), i (.ofNat 1), i (.negSucc 0), i (.ofNat 2), i (.ofNat 0), i (.ofNat 1), i (.ofNat 204), i (.negSucc 0), i (.ofNat 1), i (.ofNat 1), i (.ofNat 0)], 248, 8⟩,
  ⟨q12, [i (.ofNat 0), i (.ofNat 2), .su q16 0 1 0, i (.negSucc 0), .bool false], 161, 5⟩,
  ⟨q13, [i (.negSucc 0), i (.ofNat 0), i (.ofNat 0), i (.ofNat 0), .nils, i (.ofNat 1), i (.ofNat 1), i (.ofNat 2), i (.ofNat 0), .nils], 164, 5⟩,
  ⟨q14, [i (.ofNat 1), i (.ofNat 0), .sl q17 0 0 0, i (.negSucc 0), .bool false], 161, 0⟩,
  ⟨q15, [i (.negSucc 0), i (.ofNat 0), i (.ofNat 0), i (.ofNat 0), .nils], 164, 0⟩,
  ⟨q16, [i (.ofNat 1)], 3, 1⟩,
  ⟨q17, [], 3, 0⟩]⟩
noncomputable def sF1 : Ent := ⟨[.agg [.sl q1 0 2 2, .nils, .nils], .agg [i (.ofNat 0), i (.ofNat 1), .su q2 0 1 0, .su q3 0 2 0, .nils, .nils, .nils, .nils], .agg [i (.ofNat 0), i (.ofNat 0)]],
 [⟨q1, [.str [109, 97, 105, 110], i (.ofNat 0), i (.ofNat 1), i (.ofNat 0), .bool false, .sl q4 0 3 3, .str [119, 111, 114, 107], i (.ofNat 0), i (.ofNat 0), i (.ofNat 0), .bool false, .sl q5 0 1 1], 70, 0⟩,
  ⟨q2, [i (.ofNat 0), i (.ofNat 0), i (.ofNat 0), i (.ofNat 1), i (.ofNat 0), i (.ofNat 0), .bool false, .su q6 0 1 0, .su q7 0 2 0, i (.ofNat 0), .bool false, i (.ofNat 0), i (.ofNat 0), i (.ofNat 0)], 112, 14⟩,
  ⟨q3, [i (.negSucc 0), i (.negSucc 0), i (.ofNat 1), i (.ofNat 0), i (.ofNat 0), i (.negSucc 0), .bool false, i (.ofNat 0), i (.ofNat 0), i (.ofNat 0), i (.ofNat 0), i (.ofNat 0), i (.negSucc 0), .bool false], 130, 7⟩,
  ⟨q4, [i (.ofNat 35), i (.negSucc 0), i (.negSucc 0), i (.ofNat 2), .nils, i (.ofNat 34), i (.ofNat 0), i (.ofNat 1), i (.ofNat 0), .nils, i (.ofNat 36), i (.ofNat 0), i (.ofNat 0), i (.ofNat 0), .nils], 67, 0⟩,
  ⟨q5, [i (.ofNat 39), i (.ofNat 0), i (.ofNat 0), i (.ofNat 0), .nils], 67, 0⟩,
  ⟨q6, [i (.ofNat 0), i (.ofNat 1), .su q8 0 1 0, i (.negSucc 0), .bool false], 161, 5⟩,
  ⟨q7, [i (.negSucc 0), i (.ofNat 0), i (.ofNat 0), i (.ofNat 0), .nils, i (.ofNat 1), i (.ofNat 1), i (.ofNat 2), i (.ofNat 0), .nils], 164, 5⟩,
  ⟨q8, [i (.ofNat 0)], 3, 1⟩],
 q9, .tup [.su q9 0 4 0, i (.ofNat 0)],
 [⟨q9, [i (.ofNat 1), i (.ofNat 0), .bool true, i (.ofNat 1), i (.ofNat 1), .bool true, i (.ofNat 4), i (.ofNat 1), .bool true, i (.ofNat 5), i (.ofNat 0), .bool true], 144, 3⟩]⟩
noncomputable def sS2 : Ent := ⟨[.agg [.sl q1 0 2 2, .nils, .nils], .agg [i (.ofNat 0), i (.ofNat 2), .su q2 0 2 0, .su q3 0 2 0, .nils, .nils, .nils, .nils], .agg [i (.ofNat 0), i (.ofNat 0)]],
 [⟨q1, [.str [109, 97, 105, 110], i (.ofNat 0), i (.ofNat 1), i (.ofNat 0), .bool false, .sl q4 0 3 3, .str [119, 111, 114, 107], i (.ofNat 0), i (.ofNat 0), i (.ofNat 0), .bool false, .sl q5 0 1 1], 70, 0⟩,
  ⟨q2, [i (.ofNat 0), i (.ofNat 0), i (.ofNat 0), i (.ofNat 1), i (.ofNat 0), i (.ofNat 0), .bool false, .su q6 0 1 0, .su q7 0 2 0, i (.ofNat 0), .bool false, i (.ofNat 0), i (.ofNat 0), i (.ofNat 0), i (.ofNat 1), i (.ofNat 1), i (.ofNat 0), i (.ofNat 1), i (.ofNat 0), i (.ofNat 0), .bool false, .sl q8 0 1 1, .sl q9 0 1 1, i (.ofNat 0), .bool false, i (.ofNat 0), i (.ofNat 0), i (.ofNat 0)], 112, 14⟩,
  ⟨q3, [i (.negSucc 0), i (.negSucc 0), i (.ofNat 1), i (.ofNat 0), i (.ofNat 0), i (.negSucc 0), .bool false, i (.ofNat 0), i (.ofNat 0), i (.ofNat 1), i (.ofNat 0), i (.ofNat 0), i (.negSucc 0), .bool false], 130, 7⟩,
  ⟨q4, [i (.ofNat 35), i (.negSucc 0), i (.negSucc 0), i (.ofNat 2), .nils, i (.ofNat 34), i (.ofNat 0), i (.ofNat 1), i (.ofNat 0), .nils, i (.ofNat 36), i (.ofNat 0), i (.ofNat 0), i (.ofNat 0), .nils], 67, 0⟩,
  ⟨q5, [i (.ofNat 39), i (.ofNat 0), i (.ofNat 0), i (.ofNat 0), .nils], 67, 0⟩,
  ⟨q6, [i (.ofNat 0), i (.ofNat 2), .su q10 0 1 0, i (.negSucc 0), .bool false], 161, 5⟩,
  ⟨q7, [i (.negSucc 0), i (.ofNat 0), i (.ofNat 0), i (.ofNat 0), .nils, i (.ofNat 1), i (.ofNat 1), i (.ofNat 2), i (.ofNat 0), .nils], 164, 5⟩,
  ⟨q8, [i (.ofNat 1), i (.ofNat 0), .sl q11 0 0 0, i (.negSucc 0), .bool false], 161, 0⟩,
  ⟨q9, [i (.negSucc 0), i (.ofNat 0), i (.ofNat 0), i (.ofNat 0), .nils], 164, 0⟩,
  ⟨q10, [i (.ofNat 1)], 3, 1⟩,
  ⟨q11, [], 3, 0⟩],
 q12, .tup [.agg [i (.ofNat 0), i (.ofNat 3), .su q12 0 2 0, .su q13 0 2 0, .nils, .nils, .nils, .nils], .su q14 0 1 0, i (.ofNat 0)],
 [⟨q12, [i (.ofNat 0), i (.ofNat 0), i (.ofNat 0), i (.ofNat 2), i (.ofNat 4), i (.ofNat 1), .bool false, .sl q15 0 1 1, .su q16 0 2 0, i (.ofNat 0), .bool false, i (.ofNat 0), i (.ofNat 0), i (.ofNat 0), i (.ofNat 1), i (.ofNat 1), i (.ofNat 0), i (.ofNat 1), i (.ofNat 0), i (.ofNat 0), .bool false, .sl q8 0 1 1, .sl q9 0 1 1, i (.ofNat 0), .bool false, i (.ofNat 0), i (.ofNat 0), i (.ofNat 0)], 112, 14⟩,
  ⟨q13, [i (.negSucc 0), i (.negSucc 0), i (.ofNat 1), i (.ofNat 0), i (.ofNat 0), i (.negSucc 0), .bool false, i (.ofNat 0), i (.ofNat 0), i (.ofNat 1), i (.ofNat 0), i (.ofNat 0), i (.negSucc 0), .bool false], 130, 7⟩,
  ⟨q14, [i (.ofNat 3), i (.ofNat 0), i (.ofNat 0), i (.ofNat 202), i (.negSucc 0), i (.ofNat 1), i (.ofNat 0), i (.negSucc 0)], 248, 8⟩,
  ⟨q15, [i (.ofNat 0), i (.ofNat 2), .su q17 0 1 0, i (.negSucc 0), .bool false], 161, 5⟩,
  ⟨q16, [i (.negSucc 0), i (.ofNat 0), i (.ofNat 0), i (.ofNat 0), .nils, i (.ofNat 1), i (.ofNat 1), i (.ofNat 2), i (.ofNat 0), .nils], 164, 5⟩,
  ⟨q17, [i (.ofNat 1)], 3, 1⟩]⟩
noncomputable def sF2 : Ent := ⟨[.agg [.sl q1 0 2 2, .nils, .nils], .agg [i (.ofNat 0), i (.ofNat 2), .su q2 0 2 0, .su q3 0 2 0, .nils, .nils, .nils, .nils], .agg [i (.ofNat 0), i (.ofNat 0)]],
 [⟨q1, [.str [109, 97, 105, 110], i (.ofNat 0), i (.ofNat 1), i (.ofNat 0), .bool false, .sl q4 0 3 3, .str [119, 111, 114, 107], i (.ofNat 0), i (.ofNat 0), i (.ofNat 0), .bool false, .sl q5 0 1 1], 70, 0⟩,
  ⟨q2, [i (.ofNat 0), i (.ofNat 0), i (.ofNat 0), i (.ofNat 1), i (.ofNat 0), i (.ofNat 0), .bool false, .su q6 0 1 0, .su q7 0 2 0, i (.ofNat 0), .bool false, i (.ofNat 0), i (.ofNat 0), i (.ofNat 0), i (.ofNat 1), i (.ofNat 1), i (.ofNat 0), i (.ofNat 1), i (.ofNat 0), i (.ofNat 0), .bool false, .sl q8 0 1 1, .sl q9 0 1 1, i (.ofNat 0), .bool false, i (.ofNat 0), i (.ofNat 0), i (.ofNat 0)], 112, 14⟩,
  ⟨q3, [i (.negSucc 0), i (.negSucc 0), i (.ofNat 1), i (.ofNat 0), i (.ofNat 0), i (.negSucc 0), .bool false, i (.ofNat 0), i (.ofNat 0), i (.ofNat 1), i (.ofNat 0), i (.ofNat 0), i (.negSucc 0), .bool false], 130, 7⟩,
  ⟨q4, [i (.ofNat 35), i (.negSucc 0), i (.negSucc 0), i (.ofNat 2), .nils, i (.ofNat 34), i (.ofNat 0), i (.ofNat 1), i (.ofNat 0), .nils, i (.ofNat 36), i (.ofNat 0), i (.ofNat 0), i (.ofNat 0), .nils], 67, 0⟩,
  ⟨q5, [i (.ofNat 39), i (.ofNat 0), i (.ofNat 0), i (.ofNat 0), .nils], 67, 0⟩,
  ⟨q6, [i (.ofNat 0), i (.ofNat 2), .su q10 0 1 0, i (.negSucc 0), .bool false], 161, 5⟩,
  ⟨q7, [i (.negSucc 0), i (.ofNat 0), i (.ofNat 0), i (.ofNat 0), .nils, i (.ofNat 1), i (.ofNat 1), i (.ofNat 2), i (.ofNat 0), .nils], 164, 5⟩,
  ⟨q8, [i (.ofNat 1), i (.ofNat 0), .sl q11 0 0 0, i (.negSucc 0), .bool false], 161, 0⟩,
  ⟨q9, [i (.negSucc 0), i (.ofNat 0), i (.ofNat 0), i (.ofNat 0), .nils], 164, 0⟩,
  ⟨q10, [i (.ofNat 1)], 3, 1⟩,
  ⟨q11, [], 3, 0⟩],
 q12, .tup [.su q12 0 2 0, i (.ofNat 0)],
 [⟨q12, [i (.ofNat 1), i (.ofNat 0), .bool true, i (.ofNat 4), i (.ofNat 1), .bool true], 144, 3⟩]⟩
noncomputable def sS3 : Ent := ⟨[.agg [.sl q1 0 2 2, .nils, .nils], .agg [i (.ofNat 0), i (.ofNat 3), .su q2 0 2 0, .su q3 0 2 0, .nils, .nils, .nils, .nils], .agg [i (.ofNat 1), i (.ofNat 0)]],
 [⟨q1, [.str [109, 97, 105, 110], i (.ofNat 0), i (.ofNat 1), i (.ofNat 0), .bool false, .sl q4 0 3 3, .str [119, 111, 114, 107], i (.ofNat 0), i (.ofNat 0), i (.ofNat 0), .bool false, .sl q5 0 1 1], 70, 0⟩,
  ⟨q2, [i (.ofNat 0), i (.ofNat 0), i (.ofNat 0), i (.ofNat 2), i (.ofNat 4), i (.ofNat 1), .bool false, .sl q6 0 1 1, .su q7 0 2 0, i (.ofNat 0), .bool false, i (.ofNat 0), i (.ofNat 0), i (.ofNat 0), i (.ofNat 1), i (.ofNat 1), i (.ofNat 0), i (.ofNat 1), i (.ofNat 0), i (.ofNat 0), .bool false, .sl q8 0 1 1, .sl q9 0 1 1, i (.ofNat 0), .bool false, i (.ofNat 0), i (.ofNat 0), i (.ofNat 0)], 112, 14⟩,
  ⟨q3, [i (.negSucc 0), i (.negSucc 0), i (.ofNat 1), i (.ofNat 0), i (.ofNat 0), i (.negSucc 0), .bool false, i (.ofNat 0), i (.ofNat 0), i (.ofNat 1), i (.ofNat 0), i (.ofNat 0), i (.negSucc 0), .bool false], 130, 7⟩,
  ⟨q4, [i (.ofNat 35), i (.negSucc 0), i (.negSucc 0), i (.ofNat 2), .nils, i (.ofNat 34), i (.ofNat 0), i (.ofNat 1), i (.ofNat 0), .nils, i (.ofNat 36), i (.ofNat 0), i (.ofNat 0), i (.ofNat 0), .nils], 67, 0⟩,
  ⟨q5, [i (.ofNat 39), i (.ofNat 0), i (.ofNat 0), i (.ofNat 0), .nils], 67, 0⟩,
  ⟨q6, [i (.ofNat 0), i (.ofNat 2), .su q10 0 1 0, i (.negSucc 0), .bool false], 161, 5⟩,
  ⟨q7, [i (.negSucc 0), i (.ofNat 0), i (.ofNat 0), i (.ofNat 0), .nils, i (.ofNat 1), i (.ofNat 1), i (.ofNat 2), i (.ofNat 0), .nils], 164, 5⟩,
  ⟨q8, [i (.ofNat 1), i (.ofNat 0), .sl q11 0 0 0, i (.negSucc 0), .bool false], 161, 0⟩,
  ⟨q9, [i (.negSucc 0), i (.ofNat 0), i (.ofNat 0), i (.ofNat 0), .nils], 164, 0⟩,
  ⟨q10, [i (.ofNat 1)], 3, 1⟩,
  ⟨q11, [], 3, 0⟩],
 q12, .tup [.agg [i (.ofNat 0), i (.ofNat 4), .su q12 0 2 0, .su q13 0 2 0, .nils, .nils, .nils, .nils], .su q14 0 1 0, i (.ofNat 0)],
 [⟨q12, [i (.ofNat 0), i (.ofNat 0), i (.ofNat 0), i (.ofNat 2), i (.ofNat 4), i (.ofNat 1), .bool false, .sl q6 0 1 1, .su q7 0 2 0, i (.ofNat 0), .bool false, i (.ofNat 0), i (.ofNat 0), i (.ofNat 0), i (.ofNat 1), i (.ofNat 1), i (.ofNat 0), i (.ofNat 1), i (.ofNat 0), i (.ofNat 0), .bool false, .su q15 0 1 0, .su q16 0 1 0, i (.ofNat 0), .bool false, i (.ofNat 0), i (.ofNat 0), i (.ofNat 0)], 112, 14⟩,
  ⟨q13, [i (.negSucc 0), i (.negSucc 0), i (.ofNat 1), i (.ofNat 0), i (.ofNat 0), i (.negSucc 0), .bool false, i (.ofNat 0), i (.ofNat 0), i (.ofNat 1), i (.ofNat 0), i (.ofNat 0), i (.negSucc 0), .bool false], 130, 7⟩,
  ⟨q14, [i (.ofNat 4), i (.ofNat 0), i (.ofNat 1), i (.ofNat 39), i (.negSucc 0), i (.negSucc 0), i (.ofNat 0), i (.negSucc 0)], 248, 8⟩,
  ⟨q15, [i (.ofNat 1), i (.ofNat 1), .sl q17 0 0 0, i (.negSucc 0), .bool false], 161, 5⟩,
  ⟨q16, [i (.negSucc 0), i (.ofNat 0), i (.ofNat 0), i (.ofNat 0), .nils], 164, 5⟩,
  ⟨q17, [], 3, 0⟩]⟩
noncomputable def sF3 : Ent := ⟨[.agg [.sl q1 0 2 2, .nils, .nils], .agg [i (.ofNat 0), i (.ofNat 3), .su q2 0 2 0, .su q3 0 2 0, .nils, .nils, .nils, .nils], .agg [i (.ofNat 1), i (.ofNat 0)]],
 [⟨q1, [.str [109, 97, 105, 110], i (.ofNat 0), i (.ofNat 1), i (.ofNat 0), .bool false, .sl q4 0 3 3, .str [119, 111, 114, 107], i (.ofNat 0), i (.ofNat 0), i (.ofNat 0), .bool false, .sl q5 0 1 1], 70, 0⟩,
  ⟨q2, [i (.ofNat 0), i (.ofNat 0), i (.ofNat 0), i (.ofNat 2), i (.ofNat 4), i (.ofNat 1), .bool false, .sl q6 0 1 1, .su q7 0 2 0, i (.ofNat 0), .bool false, i (.ofNat 0), i (.ofNat 0), i (.ofNat 0), i (.ofNat 1), i (.ofNat 1), i (.ofNat 0), i (.ofNat 1), i (.ofNat 0), i (.ofNat 0), .bool false, .sl q8 0 1 1, .sl q9 0 1 1, i (.ofNat 0), .bool false, i (.ofNat 0), i (.ofNat 0), i (.ofNat 0)], 112, 14⟩,
  ⟨q3, [i (.negSucc 0), i (.negSucc 0), i (.ofNat 1), i (.ofNat 0), i (.ofNat 0), i (.negSucc 0), .bool false, i (.ofNat 0), i (.ofNat 0), i (.ofNat 1), i (.ofNat 0), i (.ofNat 0), i (.negSucc 0), .bool false], 130, 7⟩,
  ⟨q4, [i (.ofNat 35), i (.negSucc 0), i (.negSucc 0), i (.ofNat 2), .nils, i (.ofNat 34), i (.ofNat 0), i (.ofNat 1), i (.ofNat 0), .nils, i (.ofNat 36), i (.ofNat 0), i (.ofNat 0), i (.ofNat 0), .nils], 67, 0⟩,
  ⟨q5, [i (.ofNat 39), i (.ofNat 0), i (.ofNat 0), i (.ofNat 0), .nils], 67, 0⟩,
  ⟨q6, [i (.ofNat 0), i (.ofNat 2), .su q10 0 1 0, i (.negSucc 0), .bool false], 161, 5⟩,
  ⟨q7, [i (.negSucc 0), i (.ofNat 0), i (.ofNat 0), i (.ofNat 0), .nils, i (.ofNat 1), i (.ofNat 1), i (.ofNat 2), i (.ofNat 0), .nils], 164, 5⟩,
  ⟨q8, [i (.ofNat 1), i (.ofNat 0), .sl q11 0 0 0, i (.negSucc 0), .bool false], 161, 0⟩,
  ⟨q9, [i (.negSucc 0), i (.ofNat 0), i (.ofNat 0), i (.ofNat 0), .nils], 164, 0⟩,
  ⟨q10, [i (.ofNat 1)], 3, 1⟩,
  ⟨q11, [], 3, 0⟩],
 q12, .tup [.su q12 0 1 0, i (.ofNat 0)],
 [⟨q12, [i (.ofNat 1), i (.ofNat 1), .bool true], 144, 3⟩]⟩
noncomputable def sS4 : Ent := ⟨[.agg [.sl q1 0 2 2, .nils, .nils], .agg [i (.ofNat 0), i (.ofNat 4), .su q2 0 2 0, .su q3 0 2 0, .nils, .nils, .nils, .nils], .agg [i (.ofNat 1), i (.ofNat 0)]],
 [⟨q1, [.str [109, 97, 105, 110], i (.ofNat 0), i (.ofNat 1), i (.ofNat 0), .bool false, .sl q4 0 3 3, .str [119, 111, 114, 107], i (.ofNat 0), i (.ofNat 0), i (.ofNat 0), .bool false, .sl q5 0 1 1], 70, 0⟩,
  ⟨q2, [i (.ofNat 0), i (.ofNat 0), i (.ofNat 0), i (.ofNat 2), i (.ofNat 4), i (.ofNat 1), .bool false, .sl q6 0 1 1, .su q7 0 2 0, i (.ofNat 0), .bool false, i (.ofNat 0), i (.ofNat 0), i (.ofNat 0), i (.ofNat 1), i (.ofNat 1), i (.ofNat 0), i (.ofNat 1), i (.ofNat 0), i (.ofNat 0), .bool false, .su q8 0 1 0, .su q9 0 1 0, i (.ofNat 0), .bool false, i (.ofNat 0), i (.ofNat 0), i (.ofNat 0)], 112, 14⟩,
  ⟨q3, [i (.negSucc 0), i (.negSucc 0), i (.ofNat 1), i (.ofNat 0), i (.ofNat 0), i (.negSucc 0), .bool false, i (.ofNat 0), i (.ofNat 0), i (.ofNat 1), i (.ofNat 0), i (.ofNat 0), i (.negSucc 0), .bool false], 130, 7⟩,
  ⟨q4, [i (.ofNat 35), i (.negSucc 0), i (.negSucc 0), i (.ofNat 2), .nils, i (.ofNat 34), i (.ofNat 0), i (.ofNat 1), i (.ofNat 0), .nils, i (.ofNat 36), i (.ofNat 0), i (.ofNat 0), i (.ofNat 0), .nils], 67, 0⟩,
  ⟨q5, [i (.ofNat 39), i (.ofNat 0), i (.ofNat 0), i (.ofNat 0), .nils], 67, 0⟩,
  ⟨q6, [i (.ofNat 0), i (.ofNat 2), .su q10 0 1 0, i (.negSucc 0), .bool false], 161, 5⟩,
  ⟨q7, [i (.negSucc 0), i (.ofNat 0), i (.ofNat 0), i (.ofNat 0), .nils, i (.ofNat 1), i (.ofNat 1), i (.ofNat 2), i (.ofNat 0), .nils], 164, 5⟩,
  ⟨q8, [i (.ofNat 1), i (.ofNat 1), .sl q11 0 0 0, i (.negSucc 0), .bool false], 161, 5⟩,
  ⟨q9, [i (.negSucc 0), i (.ofNat 0), i (.ofNat 0), i (.ofNat 0), .nils], 164, 5⟩,
  ⟨q10, [i (.ofNat 1)], 3, 1⟩,
  ⟨q11, [], 3, 0⟩],
 q12, .tup [.agg [i (.ofNat 0), i (.ofNat 5), .su q12 0 2 0, .su q13 0 2 0, .nils, .nils, .nils, .nils], .su q14 0 2 0, i (.ofNat 0)],
 [⟨q12, [i (.ofNat 0), i (.ofNat 0), i (.ofNat 0), i (.ofNat 1), i (.ofNat 0), i (.ofNat 0), .bool false, .sl q6 0 1 1, .su q7 0 2 0, i (.ofNat 0), .bool false, i (.ofNat 0), i (.ofNat 0), i (.ofNat 0), i (.ofNat 1), i (.ofNat 1), i (.ofNat 0), i (.ofNat 3), i (.ofNat 0), i (.ofNat 0), .bool false, .nils, .nils, i (.ofNat 0), .bool false, i (.ofNat 0), i (.ofNat 0), i (.ofNat 0)], 112, 14⟩,
  ⟨q13, [i (.negSucc 0), i (.negSucc 0), i (.ofNat 1), i (.ofNat 0), i (.ofNat 0), i (.negSucc 0), .bool false, i (.ofNat 0), i (.ofNat 0), i (.ofNat 0), i (.ofNat 0), i (.ofNat 0), i (.negSucc 0), .bool false], 130, 7⟩,
  ⟨q14, [i (.ofNat 5), i (.ofNat 0), i (.ofNat 1), i (.ofNat 205), i (.negSucc 0), i (.ofNat 1), i (.ofNat 0), i (.negSucc 0), i (.ofNat 5), i (.ofNat 0), i (.ofNat 0), i (.ofNat 203), i (.negSucc 0), i (.ofNat 1), i (.ofNat 0), i (.negSucc 0)], 248, 8⟩]⟩
noncomputable def sF4 : Ent := ⟨[.agg [.sl q1 0 2 2, .nils, .nils], .agg [i (.ofNat 0), i (.ofNat 4), .su q2 0 2 0, .su q3 0 2 0, .nils, .nils, .nils, .nils], .agg [i (.ofNat 1), i (.ofNat 0)]],
 [⟨q1, [.str [109, 97, 105, 110], i (.ofNat 0), i (.ofNat 1), i (.ofNat 0), .bool false, .sl q4 0 3 3, .str [119, 111, 114, 107], i (.ofNat 0), i (.ofNat 0), i (.ofNat 0), .bool false, .sl q5 0 1 1], 70, 0⟩,
  ⟨q2, [i (.ofNat 0), i (.ofNat 0), i (.ofNat 0), i (.ofNat 2), i (.ofNat 4), i (.ofNat 1), .bool false, .sl q6 0 1 1, .su q7 0 2 0, i (.ofNat 0), .bool false, i (.ofNat 0), i (.ofNat 0), i (.ofNat 0), i (.ofNat 1), i (.ofNat 1), i (.ofNat 0), i (.ofNat 1), i (.ofNat 0), i (.ofNat 0), .bool false, .su q8 0 1 0, .su q9 0 1 0, i (.ofNat 0), .bool false, i (.ofNat 0), i (.ofNat 0), i (.ofNat 0)], 112, 14⟩,
  ⟨q3, [i (.negSucc 0), i (.negSucc 0), i (.ofNat 1), i (.ofNat 0), i (.ofNat 0), i (.negSucc 0), .bool false, i (.ofNat 0), i (.ofNat 0), i (.ofNat 1), i (.ofNat 0), i (.ofNat 0), i (.negSucc 0), .bool false], 130, 7⟩,
  ⟨q4, [i (.ofNat 35), i (.negSucc 0), i (.negSucc 0), i (.ofNat 2), .nils, i (.ofNat 34), i (.ofNat 0), i (.ofNat 1), i (.ofNat 0), .nils, i (.ofNat 36), i (.ofNat 0), i (.ofNat 0), i (.ofNat 0), .nils], 67, 0⟩,
  ⟨q5, [i (.ofNat 39), i (.ofNat 0), i (.ofNat 0), i (.ofNat 0), .nils], 67, 0⟩,
  ⟨q6, [i (.ofNat 0), i (.ofNat 2), .su q10 0 1 0, i (.negSucc 0), .bool false], 161, 5⟩,
  ⟨q7, [i (.negSucc 0), i (.ofNat 0), i (.ofNat 0), i (.ofNat 0), .nils, i (.ofNat 1), i (.ofNat 1), i (.ofNat 2), i (.ofNat 0), .nils], 164, 5⟩,
  ⟨q8, [i (.ofNat 1), i (.ofNat 1), .sl q11 0 0 0, i (.negSucc 0), .bool false], 161, 5⟩,
  ⟨q9, [i (.negSucc 0), i (.ofNat 0), i (.ofNat 0), i (.ofNat 0), .nils], 164, 5⟩,
  ⟨q10, [i (.ofNat 1)], 3, 1⟩,
  ⟨q11, [], 3, 0⟩],
 q12, .tup [.su q12 0 3 0, i (.ofNat 0)],
 [⟨q12, [i (.ofNat 1), i (.ofNat 0), .bool true, i (.ofNat 1), i (.ofNat 1), .bool true, i (.ofNat 4), i (.ofNat 1), .bool true], 144, 3⟩]⟩
noncomputable def sS5 : Ent := ⟨[.agg [.sl q1 0 2 2, .nils, .nils], .agg [i (.ofNat 0), i (.ofNat 5), .su q2 0 2 0, .su q3 0 2 0, .nils, .nils, .nils, .nils], .agg [i (.ofNat 0), i (.ofNat 0)]],
 [⟨q1, [.str [109, 97, 105, 110], i (.ofNat 0), i (.ofNat 1), i (.ofNat 0), .bool false, .sl q4 0 3 3, .str [119, 111, 114, 107], i (.ofNat 0), i (.ofNat 0), i (.ofNat 0), .bool false, .sl q5 0 1 1], 70, 0⟩,
  ⟨q2, [i (.ofNat 0), i (.ofNat 0), i (.ofNat 0), i (.ofNat 1), i (.ofNat 0), i (.ofNat 0), .bool false, .sl q6 0 1 1, .su q7 0 2 0, i (.ofNat 0), .bool false, i (.ofNat 0), i (.ofNat 0), i (.ofNat 0), i (.ofNat 1), i (.ofNat 1), i (.ofNat 0), i (.ofNat 3), i (.ofNat 0), i (.ofNat 0), .bool false, .nils, .nils, i (.ofNat 0), .bool false, i (.ofNat 0), i (.ofNat 0), i (.ofNat 0)], 112, 14⟩,
  ⟨q3, [i (.negSucc 0), i (.negSucc 0), i (.ofNat 1), i (.ofNat 0), i (.ofNat 0), i (.negSucc 0), .bool false, i (.ofNat 0), i (.ofNat 0), i (.ofNat 0), i (.ofNat 0), i (.ofNat 0), i (.negSucc 0), .bool false], 130, 7⟩,
  ⟨q4, [i (.ofNat 35), i (.negSucc 0), i (.negSucc 0), i (.ofNat 2), .nils, i (.ofNat 34), i (.ofNat 0), i (.ofNat 1), i (.ofNat 0), .nils, i (.ofNat 36), i (.ofNat 0), i (.ofNat 0), i (.ofNat 0), .nils], 67, 0⟩,
  ⟨q5, [i (.ofNat 39), i (.ofNat 0), i (.ofNat 0), i (.ofNat 0), .nils], 67, 0⟩,
  ⟨q6, [i (.ofNat 0), i (.ofNat 2), .su q8 0 1 0, i (.negSucc 0), .bool false], 161, 5⟩,
  ⟨q7, [i (.negSucc 0), i (.ofNat 0), i (.ofNat 0), i (.ofNat 0), .nils, i (.ofNat 1), i (.ofNat 1), i (.ofNat 2), i (.ofNat 0), .nils], 164, 5⟩,
  ⟨q8, [i (.ofNat 1)], 3, 1⟩],
 q9, .tup [.agg [i (.ofNat 0), i (.ofNat 6), .su q9 0 2 0, .su q10 0 2 0, .nils, .nils, .nils, .nils], .su q11 0 2 0, i (.ofNat 0)],
 [⟨q9, [i (.ofNat 0), i (.ofNat 0), i (.ofNat 0), i (.ofNat 1), i (.ofNat 0), i (.ofNat 0), .bool false, .su q12 0 1 0, .su q13 0 1 0, i (.ofNat 0), .bool false, i (.ofNat 0), i (.ofNat 0), i (.ofNat 0), i (.ofNat 1), i (.ofNat 1), i (.ofNat 0), i (.ofNat 3), i (.ofNat 0), i (.ofNat 0), .bool false, .nils, .nils, i (.ofNat 0), .bool false, i (.ofNat 0), i (.ofNat 0), i (.ofNat 0)], 112, 14⟩,
  ⟨q10, [i (.negSucc 0), i (.negSucc 0), i (.ofNat 1), i (.ofNat 0), i (.ofNat 0), i (.negSucc 0), .bool false, i (.ofNat 0), i (.ofNat 0), i (.ofNat 0), i (.ofNat 0), i (.ofNat 0), i (.negSucc 0), .bool true], 130, 7⟩,
  ⟨q11, [i (.ofNat 6), i (.ofNat 0), i (.ofNat 0), i (.ofNat 36), i (.negSucc 0), i (.ofNat 1), i (.ofNat 0), i (.negSucc 0), i (.ofNat 6), i (.ofNat 0), i (.ofNat 0), i (.ofNat 212), i (.negSucc 0), i (.ofNat 1), i (.ofNat 0), i (.negSucc 0)], 248, 8⟩,
  ⟨q12, [i (.ofNat 0), i (.ofNat 3), .su q14 0 1 0, i (.negSucc 0), .bool false], 161, 5⟩,
  ⟨q13, [i (.negSucc 0), i (.ofNat 0), i (.ofNat 0), i (.ofNat 0), .nils], 164, 5⟩,
  ⟨q14, [i (.ofNat 0)], 3, 1⟩]⟩
noncomputable def sF5 : Ent := ⟨[.agg [.sl q1 0 2 2, .nils, .nils], .agg [i (.ofNat 0), i (.ofNat 5), .su q2 0 2 0, .su q3 0 2 0, .nils, .nils, .nils, .nils], .agg [i (.ofNat 0), i (.ofNat 0)]],
 [⟨q1, [.str [109, 97, 105, 110], i (.ofNat 0), i (.ofNat 1), i (.ofNat 0), .bool false, .sl q4 0 3 3, .str [119, 111, 114, 107], i (.ofNat 0), i (.ofNat 0), i (.ofNat 0), .bool false, .sl q5 0 1 1], 70, 0⟩,
  ⟨q2, [i (.ofNat 0), i (.ofNat 0), i (.ofNat 0), i (.ofNat 1), i (.ofNat 0), i (.ofNat 0), .bool false, .sl q6 0 1 1, .su q7 0 2 0, i (.ofNat 0), .bool false, i (.ofNat 0), i (.ofNat 0), i (.ofNat 0), i (.ofNat 1), i (.ofNat 1), i (.ofNat 0), i (.ofNat 3), i (.ofNat 0), i (.ofNat 0), .bool false, .nils, .nils, i (.ofNat 0), .bool false, i (.ofNat 0), i (.ofNat 0), i (.ofNat 0)], 112, 14⟩,
  ⟨q3, [i (.negSucc 0), i (.negSucc 0), i (.ofNat 1), i (.ofNat 0), i (.ofNat 0), i (.negSucc 0), .bool false, i (.ofNat 0), i (.ofNat 0), i (.ofNat 0), i (.ofNat 0), i (.ofNat 0), i (.negSucc 0), .bool false], 130, 7⟩,
  ⟨q4, [i (.ofNat 35), i (.negSucc 0), i (.negSucc 0), i (.ofNat 2), .nils, i (.ofNat 34), i (.ofNat 0), i (.ofNat 1), i (.ofNat 0), .nils, i (.ofNat 36), i (.ofNat 0), i (.ofNat 0), i (.ofNat 0), .nils], 67, 0⟩,
  ⟨q5, [i (.ofNat 39), i (.ofNat 0), i (.ofNat 0), i (.ofNat 0), .nils], 67, 0⟩,
  ⟨q6, [i (.ofNat 0), i (.ofNat 2), .su q8 0 1 0, i (.negSucc 0), .bool false], 161, 5⟩,
  ⟨q7, [i (.negSucc 0), i (.ofNat 0), i (.ofNat 0), i (.ofNat 0), .nils, i (.ofNat 1), i (.ofNat 1), i (.ofNat 2), i (.ofNat 0), .nils], 164, 5⟩,
  ⟨q8, [i (.ofNat 1)], 3, 1⟩],
 q9, .tup [.su q9 0 2 0, i (.ofNat 0)],
 [⟨q9, [i (.ofNat 1), i (.ofNat 0), .bool true, i (.ofNat 4), i (.ofNat 1), .bool true], 144, 3⟩]⟩
noncomputable def sS6 : Ent := ⟨[.agg [.sl q1 0 2 2, .nils, .nils], .agg [i (.ofNat 0), i (.ofNat 6), .su q2 0 2 0, .su q3 0 2 0, .nils, .nils, .nils, .nils], .agg [i (.ofNat 0), i (.ofNat 0)]],
 [⟨q1, [.str [109, 97, 105, 110], i (.ofNat 0), i (.ofNat 1), i (.ofNat 0), .bool false, .sl q4 0 3 3, .str [119, 111, 114, 107], i (.ofNat 0), i (.ofNat 0), i (.ofNat 0), .bool false, .sl q5 0 1 1], 70, 0⟩,
  ⟨q2, [i (.ofNat 0), i (.ofNat 0), i (.ofNat 0), i (.ofNat 1), i (.ofNat 0), i (.ofNat 0), .bool false, .su q6 0 1 0, .su q7 0 1 0, i (.ofNat 0), .bool false, i (.ofNat 0), i (.ofNat 0), i (.ofNat 0), i (.ofNat 1), i (.ofNat 1), i (.ofNat 0), i (.ofNat 3), i (.ofNat 0), i (.ofNat 0), .bool false, .nils, .nils, i (.ofNat 0), .bool false, i (.ofNat 0), i (.ofNat 0), i (.ofNat 0)], 112, 14⟩,
  ⟨q3, [i (.negSucc 0), i (.negSucc 0), i (.ofNat 1), i (.ofNat 0), i (.ofNat 0), i (.negSucc 0), .bool false, i (.ofNat 0), i (.ofNat 0), i (.ofNat 0), i (.ofNat 0), i (.ofNat 0), i (.negSucc 0), .bool true], 130, 7⟩,
  ⟨q4, [i (.ofNat 35), i (.negSucc 0), i (.negSucc 0), i (.ofNat 2), .nils, i (.ofNat 34), i (.ofNat 0), i (.ofNat 1), i (.ofNat 0), .nils, i (.ofNat 36), i (.ofNat 0), i (.ofNat 0), i (.ofNat 0), .nils], 67, 0⟩,
  ⟨q5, [i (.ofNat 39), i (.ofNat 0), i (.ofNat 0), i (.ofNat 0), .nils], 67, 0⟩,
  ⟨q6, [i (.ofNat 0), i (.ofNat 3), .su q8 0 1 0, i (.negSucc 0), .bool false], 161, 5⟩,
  ⟨q7, [i (.negSucc 0), i (.ofNat 0), i (.ofNat 0), i (.ofNat 0), .nils], 164, 5⟩,
  ⟨q8, [i (.ofNat 0)], 3, 1⟩],
 q9, .tup [.agg [i (.ofNat 0), i (.ofNat 7), .su q9 0 2 0, .su q10 0 2 0, .nils, .nils, .nils, .nils], .su q11 0 2 0, i (.ofNat 0)],
 [⟨q9, [i (.ofNat 0), i (.ofNat 0), i (.ofNat 0), i (.ofNat 3), i (.ofNat 0), i (.ofNat 0), .bool false, .nils, .nils, i (.ofNat 0), .bool false, i (.ofNat 0), i (.ofNat 0), i (.ofNat 0), i (.ofNat 1), i (.ofNat 1), i (.ofNat 0), i (.ofNat 3), i (.ofNat 0), i (.ofNat 0), .bool false, .nils, .nils, i (.ofNat 0), .bool false, i (.ofNat 0), i (.ofNat 0), i (.ofNat 0)], 112, 14⟩,
  ⟨q10, [i (.negSucc 0), i (.negSucc 0), i (.ofNat 0), i (.ofNat 0), i (.ofNat 0), i (.negSucc 0), .bool true, i (.ofNat 0), i (.ofNat 0), i (.ofNat 0), i (.ofNat 0), i (.ofNat 0), i (.negSucc 0), .bool true], 130, 7⟩,
  ⟨q11, [i (.ofNat 7), i (.ofNat 0), i (.ofNat 0), i (.ofNat 205), i (.negSucc 0), i (.ofNat 0), i (.ofNat 0), i (.negSucc 0), i (.ofNat 7), i (.ofNat 0), i (.ofNat 0), i (.ofNat 212), i (.negSucc 0), i (.ofNat 0), i (.ofNat 0), i (.negSucc 0)], 248, 8⟩]⟩
noncomputable def sF6 : Ent := ⟨[.agg [.sl q1 0 2 2, .nils, .nils], .agg [i (.ofNat 0), i (.ofNat 6), .su q2 0 2 0, .su q3 0 2 0, .nils, .nils, .nils, .nils], .agg [i (.ofNat 0), i (.ofNat 0)]],
 [⟨q1, [.str [109, 97, 105, 110], i (.ofNat 0), i (.ofNat 1), i (.ofNat 0), .bool false, .sl q4 0 3 3, .str [119, 111, 114, 107], i (.ofNat 0), i (.ofNat 0), i (.ofNat 0), .bool false, .sl q5 0 1 1], 70, 0⟩,
  ⟨q2, [i (.ofNat 0), i (.ofNat 0), i (.ofNat 0), i (.ofNat 1), i (.ofNat 0), i (.ofNat 0), .bool false, .su q6 0 1 0, .su q7 0 1 0, i (.ofNat 0), .bool false, i (.ofNat 0), i (.ofNat 0), i (.ofNat 0), i (.ofNat 1), i (.ofNat 1), i (.ofNat 0), i (.ofNat 3), i (.ofNat 0), i (.ofNat 0), .bool false, .nils, .nils, i (.ofNat 0), .bool false, i (.ofNat 0), i (.ofNat 0), i (.ofNat 0)], 112, 14⟩,
  ⟨q3, [i (.negSucc 0), i (.negSucc 0), i (.ofNat 1), i (.ofNat 0), i (.ofNat 0), i (.negSucc 0), .bool false, i (.ofNat 0), i (.ofNat 0), i (.ofNat 0), i (.ofNat 0), i (.ofNat 0), i (.negSucc 0), .bool true], 130, 7⟩,
  ⟨q4, [i (.ofNat 35), i (.negSucc 0), i (.negSucc 0), i (.ofNat 2), .nils, i (.ofNat 34), i (.ofNat 0), i (.ofNat 1), i (.ofNat 0), .nils, i (.ofNat 36), i (.ofNat 0), i (.ofNat 0), i (.ofNat 0), .nils], 67, 0⟩,
  ⟨q5, [i (.ofNat 39), i (.ofNat 0), i (.ofNat 0), i (.ofNat 0), .nils], 67, 0⟩,
  ⟨q6, [i (.ofNat 0), i (.ofNat 3), .su q8 0 1 0, i (.negSucc 0), .bool false], 161, 5⟩,
  ⟨q7, [i (.negSucc 0), i (.ofNat 0), i (.ofNat 0), i (.ofNat 0), .nils], 164, 5⟩,
  ⟨q8, [i (.ofNat 0)], 3, 1⟩],
 q9, .tup [.su q9 0 2 0, i (.ofNat 0)],
 [⟨q9, [i (.ofNat 1), i (.ofNat 0), .bool true, i (.ofNat 4), i (.ofNat 0), .bool true], 144, 3⟩]⟩
noncomputable def entI : List Ent := [sI]
noncomputable def entS : List Ent := [sS0, sS1, sS2, sS3, sS4, sS5, sS6]
noncomputable def entF : List Ent := [sF0, sF1, sF2, sF3, sF4, sF5, sF6]
noncomputable def hks : List (Nat × Hook) := [(405, hkL), (61, hkB), (5, hkC)]
noncomputable def dhs : List (Nat × DHook) := [(364, Go.Proofs.Seat4.dhR)]
noncomputable def e0 : Hd := hdN fs rs (hkOf hks) (hkOf dhs) 200
noncomputable def e1 : Hd := hdN fs rs (hkOf ((35, memo entS) :: hks)) (hkOf dhs) 200
noncomputable def e2 : Hd := hdN fs rs (hkOf ((33, memo entI) :: (35, memo entS) :: (217, memo entF) :: hks)) (hkOf dhs) 200
noncomputable def e3 : Hd := hdN fs rs (hkOf ((13, hkSp (hkOf dhs) e2) :: (33, memo entI) :: (35, memo entS) :: (217, memo entF) :: hks)) (hkOf dhs) 200
end AvT
