/-
  Calls of the closed check that are looked up.
-/
import Derived.Test.YtnhaainnhmmbfaaGreatFd
set_option linter.all false
set_option linter.deprecated false
namespace Go.Gx.Z
open Go Go.Gx
def m0 : Memo:=⟨35,[(.agg #[(.int .i64 3),(.slice (some ⟨3,0,none⟩) 2 2),(.slice (some ⟨0,0,none⟩) 3 3),(.int .i64 0)])],(AS.of 18 [(0,(.row [(.int .i64 0),(.int .i64 1),(.int .i64 2)] 3
 true true)),(3,(.row [(.int .i64 0),(.int .i64 1),(.int .i64 0),(.int .i64 5),(.int .i64 2),(.int .i64 0),(.int .i64 0),(.int .i64 2)] 86 true true))]),(.pointer (some ⟨21,0,none⟩)),
 (AS.of 34 [(0,(.row [(.int .i64 0),(.int .i64 1),(.int .i64 2)] 3 true true)),(3,(.row [(.int .i64 0),(.int .i64 1),(.int .i64 0),(.int .i64 5),(.int .i64 2),(.int .i64 0),(.int .i64 0),
 (.int .i64 2)] 86 true true)),(23,(.row [(.int .i64 0),(.int .i64 5),(.int .i64 0)] 3 true true)),(19,(.map [me (.int .i64 0) (.int .i64 0) 0,me (.int .i64 1) (.int .i64 1) 1,me (.int .i64
 2) (.int .i64 2) 2] 3)),(33,(.row [(.int .i64 0),(.int .i64 1),(.int .i64 2)] 3 true false)),(25,(.row [(.int .i64 2),(.int .i64 0),(.int .i64 0)] 3 true true)),(21,(.row [(.int .i64 3),
 (.slice (some ⟨3,0,none⟩) 2 2),(.slice (some ⟨0,0,none⟩) 3 3),(.int .i64 0),(.slice (some ⟨33,0,none⟩) 3 3),(.map (some 19)),(.slice (some ⟨0,0,none⟩) 0 3),(.int .i64 0),(.slice (some
 ⟨22,0,none⟩) 3 3),(.map (some 20))] 128 true true)),(24,(.row [(.int .i64 0),(.int .i64 0),(.int .i64 0)] 3 true true)),(20,(.map [] 0)),(22,(.row [(.slice (some ⟨23,0,none⟩) 3 3),
 (.slice (some ⟨24,0,none⟩) 3 3),(.slice (some ⟨25,0,none⟩) 3 3)] 25 true true))])⟩
def m1 : Memo:=⟨36,[(.pointer (some ⟨21,0,none⟩))],(AS.of 43 [(0,(.row [(.int .i64 0),(.int .i64 1),(.int .i64 2)] 3 true true)),(3,(.row [(.int .i64 0),(.int .i64 1),(.int .i64 0),(.int
 .i64 5),(.int .i64 2),(.int .i64 0),(.int .i64 0),(.int .i64 2)] 86 true true)),(23,(.row [(.int .i64 0),(.int .i64 5),(.int .i64 0)] 3 true true)),(19,(.map [me (.int .i64 0) (.int .i64
 0) 0,me (.int .i64 1) (.int .i64 1) 1,me (.int .i64 2) (.int .i64 2) 2] 3)),(33,(.row [(.int .i64 0),(.int .i64 1),(.int .i64 2)] 3 true false)),(25,(.row [(.int .i64 2),(.int .i64 0),(.int
 .i64 0)] 3 true true)),(21,(.row [(.int .i64 3),(.slice (some ⟨3,0,none⟩) 2 2),(.slice (some ⟨0,0,none⟩) 3 3),(.int .i64 0),(.slice (some ⟨33,0,none⟩) 3 3),(.map (some 19)),(.slice
 (some ⟨0,0,none⟩) 0 3),(.int .i64 0),(.slice (some ⟨22,0,none⟩) 3 3),(.map (some 20))] 128 true true)),(24,(.row [(.int .i64 0),(.int .i64 0),(.int .i64 0)] 3 true true)),(20,(.map []
 0)),(22,(.row [(.slice (some ⟨23,0,none⟩) 3 3),(.slice (some ⟨24,0,none⟩) 3 3),(.slice (some ⟨25,0,none⟩) 3 3)] 25 true true))]),(.agg #[(.int .i64 0),(.int .i64 1)]),(AS.of 590 [(0,
 (.row [(.int .i64 0),(.int .i64 1),(.int .i64 2)] 3 true true)),(3,(.row [(.int .i64 0),(.int .i64 1),(.int .i64 0),(.int .i64 5),(.int .i64 2),(.int .i64 0),(.int .i64 0),(.int .i64 2)]
 86 true true)),(23,(.row [(.int .i64 0),(.int .i64 5),(.int .i64 0)] 3 true true)),(19,(.map [me (.int .i64 0) (.int .i64 0) 0,me (.int .i64 1) (.int .i64 1) 1,me (.int .i64 2) (.int .i64 2)
 2] 3)),(33,(.row [(.int .i64 0),(.int .i64 1),(.int .i64 2)] 3 true false)),(25,(.row [(.int .i64 2),(.int .i64 0),(.int .i64 0)] 3 true true)),(21,(.row [(.int .i64 3),(.slice (some ⟨3,
 0,none⟩) 2 2),(.slice (some ⟨0,0,none⟩) 3 3),(.int .i64 0),(.slice (some ⟨33,0,none⟩) 3 3),(.map (some 19)),(.slice (some ⟨0,0,none⟩) 0 3),(.int .i64 0),(.slice (some ⟨22,0,none⟩) 3
 3),(.map (some 20))] 128 true true)),(24,(.row [(.int .i64 0),(.int .i64 0),(.int .i64 0)] 3 true true)),(20,(.map [me (.agg #[(.int .i64 3),(.int .i64 1)]) (.agg #[(.int .i64 2),(.int .i64
 0)]) 0,me (.agg #[(.int .i64 3),(.int .i64 0)]) (.agg #[(.int .i64 2),(.int .i64 0)]) 1,me (.agg #[(.int .i64 5),(.int .i64 2)]) (.agg #[(.int .i64 0),(.int .i64 1)]) 2,me (.agg #[(.int .i64
 5),(.int .i64 0)]) (.agg #[(.int .i64 0),(.int .i64 0)]) 3,me (.agg #[(.int .i64 1),(.int .i64 0)]) (.agg #[(.int .i64 2),(.int .i64 0)]) 4,me (.agg #[(.int .i64 3),(.int .i64 (-1))]) (.agg
 #[(.int .i64 2),(.int .i64 0)]) 5,me (.agg #[(.int .i64 5),(.int .i64 (-1))]) (.agg #[(.int .i64 0),(.int .i64 0)]) 6,me (.agg #[(.int .i64 1),(.int .i64 (-1))]) (.agg #[(.int .i64 2),(.int
 .i64 0)]) 7,me (.agg #[(.int .i64 6),(.int .i64 2)]) (.agg #[(.int .i64 5),(.int .i64 1)]) 8,me (.agg #[(.int .i64 6),(.int .i64 1)]) (.agg #[(.int .i64 5),(.int .i64 1)]) 9,me (.agg #[(.int
 .i64 2),(.int .i64 1)]) (.agg #[(.int .i64 5),(.int .i64 1)]) 10,me (.agg #[(.int .i64 6),(.int .i64 (-1))]) (.agg #[(.int .i64 5),(.int .i64 0)]) 11,me (.agg #[(.int .i64 2),(.int .i64
 (-1))]) (.agg #[(.int .i64 5),(.int .i64 1)]) 12,me (.agg #[(.int .i64 4),(.int .i64 2)]) (.agg #[(.int .i64 0),(.int .i64 2)]) 13,me (.agg #[(.int .i64 4),(.int .i64 (-1))]) (.agg #[(.int .i64
 0),(.int .i64 0)]) 14,me (.agg #[(.int .i64 0),(.int .i64 (-1))]) (.agg #[(.int .i64 0),(.int .i64 1)]) 15] 16)),(22,(.row [(.slice (some ⟨23,0,none⟩) 3 3),(.slice (some ⟨24,0,none⟩) 3 3),
 (.slice (some ⟨25,0,none⟩) 3 3)] 25 true true))])⟩
def m2 : Memo:=⟨36,[(.pointer (some ⟨21,0,none⟩))],(AS.of 832 [(0,(.row [(.int .i64 0),(.int .i64 1),(.int .i64 2)] 3 true true)),(3,(.row [(.int .i64 0),(.int .i64 1),(.int .i64 0),
 (.int .i64 5),(.int .i64 2),(.int .i64 0),(.int .i64 0),(.int .i64 2)] 86 true true)),(23,(.row [(.int .i64 0),(.int .i64 5),(.int .i64 0)] 3 true true)),(19,(.map [me (.int .i64 0) (.int
 .i64 0) 0,me (.int .i64 1) (.int .i64 1) 1,me (.int .i64 2) (.int .i64 2) 2] 3)),(33,(.row [(.int .i64 0),(.int .i64 1),(.int .i64 2)] 3 true false)),(25,(.row [(.int .i64 2),(.int .i64 0),
 (.int .i64 0)] 3 true true)),(21,(.row [(.int .i64 3),(.slice (some ⟨3,0,none⟩) 2 2),(.slice (some ⟨0,0,none⟩) 3 3),(.int .i64 0),(.slice (some ⟨33,0,none⟩) 3 3),(.map (some 19)),
 (.slice (some ⟨0,0,none⟩) 0 3),(.int .i64 0),(.slice (some ⟨22,0,none⟩) 3 3),(.map (some 20))] 128 true true)),(24,(.row [(.int .i64 0),(.int .i64 0),(.int .i64 0)] 3 true true)),(20,
 (.map [me (.agg #[(.int .i64 3),(.int .i64 1)]) (.agg #[(.int .i64 2),(.int .i64 0)]) 0,me (.agg #[(.int .i64 3),(.int .i64 0)]) (.agg #[(.int .i64 2),(.int .i64 0)]) 1,me (.agg #[(.int .i64
 5),(.int .i64 2)]) (.agg #[(.int .i64 0),(.int .i64 1)]) 2,me (.agg #[(.int .i64 5),(.int .i64 0)]) (.agg #[(.int .i64 0),(.int .i64 0)]) 3,me (.agg #[(.int .i64 1),(.int .i64 0)]) (.agg
 #[(.int .i64 2),(.int .i64 0)]) 4,me (.agg #[(.int .i64 3),(.int .i64 (-1))]) (.agg #[(.int .i64 2),(.int .i64 0)]) 5,me (.agg #[(.int .i64 5),(.int .i64 (-1))]) (.agg #[(.int .i64 0),(.int
 .i64 0)]) 6,me (.agg #[(.int .i64 1),(.int .i64 (-1))]) (.agg #[(.int .i64 2),(.int .i64 0)]) 7,me (.agg #[(.int .i64 6),(.int .i64 2)]) (.agg #[(.int .i64 5),(.int .i64 1)]) 8,me (.agg
 #[(.int .i64 6),(.int .i64 1)]) (.agg #[(.int .i64 5),(.int .i64 1)]) 9,me (.agg #[(.int .i64 2),(.int .i64 1)]) (.agg #[(.int .i64 5),(.int .i64 1)]) 10,me (.agg #[(.int .i64 6),(.int .i64
 (-1))]) (.agg #[(.int .i64 5),(.int .i64 0)]) 11,me (.agg #[(.int .i64 2),(.int .i64 (-1))]) (.agg #[(.int .i64 5),(.int .i64 1)]) 12,me (.agg #[(.int .i64 4),(.int .i64 2)]) (.agg #[(.int .i64
 0),(.int .i64 2)]) 13,me (.agg #[(.int .i64 4),(.int .i64 (-1))]) (.agg #[(.int .i64 0),(.int .i64 0)]) 14,me (.agg #[(.int .i64 0),(.int .i64 (-1))]) (.agg #[(.int .i64 0),(.int .i64 1)]) 15]
 16)),(22,(.row [(.slice (some ⟨23,0,none⟩) 3 3),(.slice (some ⟨24,0,none⟩) 3 3),(.slice (some ⟨25,0,none⟩) 3 3)] 25 true true))]),(.agg #[(.int .i64 0),(.int .i64 1)]),(AS.of 844 [(0,
 (.row [(.int .i64 0),(.int .i64 1),(.int .i64 2)] 3 true true)),(3,(.row [(.int .i64 0),(.int .i64 1),(.int .i64 0),(.int .i64 5),(.int .i64 2),(.int .i64 0),(.int .i64 0),(.int .i64 2)]
 86 true true)),(23,(.row [(.int .i64 0),(.int .i64 5),(.int .i64 0)] 3 true true)),(19,(.map [me (.int .i64 0) (.int .i64 0) 0,me (.int .i64 1) (.int .i64 1) 1,me (.int .i64 2) (.int .i64 2)
 2] 3)),(33,(.row [(.int .i64 0),(.int .i64 1),(.int .i64 2)] 3 true false)),(25,(.row [(.int .i64 2),(.int .i64 0),(.int .i64 0)] 3 true true)),(21,(.row [(.int .i64 3),(.slice (some ⟨3,
 0,none⟩) 2 2),(.slice (some ⟨0,0,none⟩) 3 3),(.int .i64 0),(.slice (some ⟨33,0,none⟩) 3 3),(.map (some 19)),(.slice (some ⟨0,0,none⟩) 0 3),(.int .i64 0),(.slice (some ⟨22,0,none⟩) 3
 3),(.map (some 20))] 128 true true)),(24,(.row [(.int .i64 0),(.int .i64 0),(.int .i64 0)] 3 true true)),(20,(.map [me (.agg #[(.int .i64 3),(.int .i64 1)]) (.agg #[(.int .i64 2),(.int .i64
 0)]) 0,me (.agg #[(.int .i64 3),(.int .i64 0)]) (.agg #[(.int .i64 2),(.int .i64 0)]) 1,me (.agg #[(.int .i64 5),(.int .i64 2)]) (.agg #[(.int .i64 0),(.int .i64 1)]) 2,me (.agg #[(.int .i64
 5),(.int .i64 0)]) (.agg #[(.int .i64 0),(.int .i64 0)]) 3,me (.agg #[(.int .i64 1),(.int .i64 0)]) (.agg #[(.int .i64 2),(.int .i64 0)]) 4,me (.agg #[(.int .i64 3),(.int .i64 (-1))]) (.agg
 #[(.int .i64 2),(.int .i64 0)]) 5,me (.agg #[(.int .i64 5),(.int .i64 (-1))]) (.agg #[(.int .i64 0),(.int .i64 0)]) 6,me (.agg #[(.int .i64 1),(.int .i64 (-1))]) (.agg #[(.int .i64 2),(.int
 .i64 0)]) 7,me (.agg #[(.int .i64 6),(.int .i64 2)]) (.agg #[(.int .i64 5),(.int .i64 1)]) 8,me (.agg #[(.int .i64 6),(.int .i64 1)]) (.agg #[(.int .i64 5),(.int .i64 1)]) 9,me (.agg #[(.int
 .i64 2),(.int .i64 1)]) (.agg #[(.int .i64 5),(.int .i64 1)]) 10,me (.agg #[(.int .i64 6),(.int .i64 (-1))]) (.agg #[(.int .i64 5),(.int .i64 0)]) 11,me (.agg #[(.int .i64 2),(.int .i64
 (-1))]) (.agg #[(.int .i64 5),(.int .i64 1)]) 12,me (.agg #[(.int .i64 4),(.int .i64 2)]) (.agg #[(.int .i64 0),(.int .i64 2)]) 13,me (.agg #[(.int .i64 4),(.int .i64 (-1))]) (.agg #[(.int .i64
 0),(.int .i64 0)]) 14,me (.agg #[(.int .i64 0),(.int .i64 (-1))]) (.agg #[(.int .i64 0),(.int .i64 1)]) 15] 16)),(22,(.row [(.slice (some ⟨23,0,none⟩) 3 3),(.slice (some ⟨24,0,none⟩) 3 3),
 (.slice (some ⟨25,0,none⟩) 3 3)] 25 true true))])⟩
def m3 : Memo:=⟨13,[(.agg #[(.int .i64 3),(.slice (some ⟨3,0,none⟩) 2 2),(.slice (some ⟨0,0,none⟩) 3 3),(.int .i64 0)])],(AS.of 5 [(0,(.row [(.int .i64 0),(.int .i64 1),(.int .i64 2)] 3
 true true)),(3,(.row [(.int .i64 0),(.int .i64 1),(.int .i64 0),(.int .i64 5),(.int .i64 2),(.int .i64 0),(.int .i64 0),(.int .i64 2)] 86 true true))]),(.tuple #[(.agg #[(.slice (some
 ⟨830,0,none⟩) 3 3),(.int .i64 0),(.int .i64 1),(.slice (some ⟨854,0,none⟩) 2 2)]),(.int .i64 0)]),(AS.of 855 [(0,(.row [(.int .i64 0),(.int .i64 1),(.int .i64 2)] 3 true true)),(3,(.row
 [(.int .i64 0),(.int .i64 1),(.int .i64 0),(.int .i64 5),(.int .i64 2),(.int .i64 0),(.int .i64 0),(.int .i64 2)] 86 true true)),(854,(.row [(.int .i64 0),(.int .i64 1)] 3 true false)),
 (830,(.row [(.int .i64 2),(.int .i64 0),(.int .i64 1)] 3 true false))])⟩
def m4 : Memo:=⟨35,[(.agg #[(.int .i64 3),(.slice (some ⟨3,0,none⟩) 2 2),(.slice (some ⟨0,0,none⟩) 3 3),(.int .i64 0)])],(AS.of 866 [(0,(.row [(.int .i64 0),(.int .i64 1),(.int .i64 2)]
 3 true true)),(3,(.row [(.int .i64 0),(.int .i64 1),(.int .i64 0),(.int .i64 5),(.int .i64 2),(.int .i64 0),(.int .i64 0),(.int .i64 2)] 86 true true))]),(.pointer (some ⟨869,0,none⟩)),
 (AS.of 882 [(0,(.row [(.int .i64 0),(.int .i64 1),(.int .i64 2)] 3 true true)),(3,(.row [(.int .i64 0),(.int .i64 1),(.int .i64 0),(.int .i64 5),(.int .i64 2),(.int .i64 0),(.int .i64 0),
 (.int .i64 2)] 86 true true)),(871,(.row [(.int .i64 0),(.int .i64 5),(.int .i64 0)] 3 true true)),(867,(.map [me (.int .i64 0) (.int .i64 0) 0,me (.int .i64 1) (.int .i64 1) 1,me (.int .i64
 2) (.int .i64 2) 2] 3)),(881,(.row [(.int .i64 0),(.int .i64 1),(.int .i64 2)] 3 true false)),(873,(.row [(.int .i64 2),(.int .i64 0),(.int .i64 0)] 3 true true)),(869,(.row [(.int .i64 3),
 (.slice (some ⟨3,0,none⟩) 2 2),(.slice (some ⟨0,0,none⟩) 3 3),(.int .i64 0),(.slice (some ⟨881,0,none⟩) 3 3),(.map (some 867)),(.slice (some ⟨0,0,none⟩) 0 3),(.int .i64 0),(.slice
 (some ⟨870,0,none⟩) 3 3),(.map (some 868))] 128 true true)),(872,(.row [(.int .i64 0),(.int .i64 0),(.int .i64 0)] 3 true true)),(868,(.map [] 0)),(870,(.row [(.slice (some ⟨871,0,none⟩)
 3 3),(.slice (some ⟨872,0,none⟩) 3 3),(.slice (some ⟨873,0,none⟩) 3 3)] 25 true true))])⟩
def m5 : Memo:=⟨36,[(.pointer (some ⟨869,0,none⟩))],(AS.of 883 [(0,(.row [(.int .i64 0),(.int .i64 1),(.int .i64 2)] 3 true true)),(3,(.row [(.int .i64 0),(.int .i64 1),(.int .i64 0),
 (.int .i64 5),(.int .i64 2),(.int .i64 0),(.int .i64 0),(.int .i64 2)] 86 true true)),(871,(.row [(.int .i64 0),(.int .i64 5),(.int .i64 0)] 3 true true)),(867,(.map [me (.int .i64 0)
 (.int .i64 0) 0,me (.int .i64 1) (.int .i64 1) 1,me (.int .i64 2) (.int .i64 2) 2] 3)),(881,(.row [(.int .i64 0),(.int .i64 1),(.int .i64 2)] 3 true false)),(873,(.row [(.int .i64 2),(.int
 .i64 0),(.int .i64 0)] 3 true true)),(869,(.row [(.int .i64 3),(.slice (some ⟨3,0,none⟩) 2 2),(.slice (some ⟨0,0,none⟩) 3 3),(.int .i64 0),(.slice (some ⟨881,0,none⟩) 3 3),(.map (some
 867)),(.slice (some ⟨0,0,none⟩) 0 3),(.int .i64 0),(.slice (some ⟨870,0,none⟩) 3 3),(.map (some 868))] 128 true true)),(872,(.row [(.int .i64 0),(.int .i64 0),(.int .i64 0)] 3 true
 true)),(868,(.map [] 0)),(870,(.row [(.slice (some ⟨871,0,none⟩) 3 3),(.slice (some ⟨872,0,none⟩) 3 3),(.slice (some ⟨873,0,none⟩) 3 3)] 25 true true))]),(.agg #[(.int .i64 0),(.int
 .i64 1)]),(AS.of 1430 [(0,(.row [(.int .i64 0),(.int .i64 1),(.int .i64 2)] 3 true true)),(3,(.row [(.int .i64 0),(.int .i64 1),(.int .i64 0),(.int .i64 5),(.int .i64 2),(.int .i64 0),
 (.int .i64 0),(.int .i64 2)] 86 true true)),(871,(.row [(.int .i64 0),(.int .i64 5),(.int .i64 0)] 3 true true)),(867,(.map [me (.int .i64 0) (.int .i64 0) 0,me (.int .i64 1) (.int .i64 1)
 1,me (.int .i64 2) (.int .i64 2) 2] 3)),(881,(.row [(.int .i64 0),(.int .i64 1),(.int .i64 2)] 3 true false)),(873,(.row [(.int .i64 2),(.int .i64 0),(.int .i64 0)] 3 true true)),(869,
 (.row [(.int .i64 3),(.slice (some ⟨3,0,none⟩) 2 2),(.slice (some ⟨0,0,none⟩) 3 3),(.int .i64 0),(.slice (some ⟨881,0,none⟩) 3 3),(.map (some 867)),(.slice (some ⟨0,0,none⟩) 0 3),(.int
 .i64 0),(.slice (some ⟨870,0,none⟩) 3 3),(.map (some 868))] 128 true true)),(872,(.row [(.int .i64 0),(.int .i64 0),(.int .i64 0)] 3 true true)),(868,(.map [me (.agg #[(.int .i64 3),(.int
 .i64 1)]) (.agg #[(.int .i64 2),(.int .i64 0)]) 0,me (.agg #[(.int .i64 3),(.int .i64 0)]) (.agg #[(.int .i64 2),(.int .i64 0)]) 1,me (.agg #[(.int .i64 5),(.int .i64 2)]) (.agg #[(.int .i64
 0),(.int .i64 1)]) 2,me (.agg #[(.int .i64 5),(.int .i64 0)]) (.agg #[(.int .i64 0),(.int .i64 0)]) 3,me (.agg #[(.int .i64 1),(.int .i64 0)]) (.agg #[(.int .i64 2),(.int .i64 0)]) 4,me (.agg
 #[(.int .i64 3),(.int .i64 (-1))]) (.agg #[(.int .i64 2),(.int .i64 0)]) 5,me (.agg #[(.int .i64 5),(.int .i64 (-1))]) (.agg #[(.int .i64 0),(.int .i64 0)]) 6,me (.agg #[(.int .i64 1),(.int
 .i64 (-1))]) (.agg #[(.int .i64 2),(.int .i64 0)]) 7,me (.agg #[(.int .i64 6),(.int .i64 2)]) (.agg #[(.int .i64 5),(.int .i64 1)]) 8,me (.agg #[(.int .i64 6),(.int .i64 1)]) (.agg #[(.int .i64
 5),(.int .i64 1)]) 9,me (.agg #[(.int .i64 2),(.int .i64 1)]) (.agg #[(.int .i64 5),(.int .i64 1)]) 10,me (.agg #[(.int .i64 6),(.int .i64 (-1))]) (.agg #[(.int .i64 5),(.int .i64 0)]) 11,me
 (.agg #[(.int .i64 2),(.int .i64 (-1))]) (.agg #[(.int .i64 5),(.int .i64 1)]) 12,me (.agg #[(.int .i64 4),(.int .i64 2)]) (.agg #[(.int .i64 0),(.int .i64 2)]) 13,me (.agg #[(.int .i64 4),
 (.int .i64 (-1))]) (.agg #[(.int .i64 0),(.int .i64 0)]) 14,me (.agg #[(.int .i64 0),(.int .i64 (-1))]) (.agg #[(.int .i64 0),(.int .i64 1)]) 15] 16)),(870,(.row [(.slice (some ⟨871,0,none⟩)
 3 3),(.slice (some ⟨872,0,none⟩) 3 3),(.slice (some ⟨873,0,none⟩) 3 3)] 25 true true))])⟩
def m6 : Memo:=⟨14,[(.agg #[(.int .i64 3),(.slice (some ⟨3,0,none⟩) 2 2),(.slice (some ⟨0,0,none⟩) 3 3),(.int .i64 0)])],(AS.of 856 [(0,(.row [(.int .i64 0),(.int .i64 1),(.int .i64 2)]
 3 true true)),(3,(.row [(.int .i64 0),(.int .i64 1),(.int .i64 0),(.int .i64 5),(.int .i64 2),(.int .i64 0),(.int .i64 0),(.int .i64 2)] 86 true true))]),(.tuple #[(.agg #[(.slice (some
 ⟨1909,0,none⟩) 6 6)]),(.int .i64 0)]),(AS.of 1955 [(0,(.row [(.int .i64 0),(.int .i64 1),(.int .i64 2)] 3 true true)),(3,(.row [(.int .i64 0),(.int .i64 1),(.int .i64 0),(.int .i64 5),
 (.int .i64 2),(.int .i64 0),(.int .i64 0),(.int .i64 2)] 86 true true)),(1909,(.row [(.int .i64 0),(.int .i64 (-1)),(.int .i64 0),(.int .i64 0),(.int .i64 1),(.int .i64 0),(.int .i64 0),
 (.int .i64 0),(.int .i64 2),(.int .i64 1),(.int .i64 0),(.int .i64 0),(.int .i64 3),(.int .i64 1),(.int .i64 0),(.int .i64 0),(.int .i64 4),(.int .i64 2),(.int .i64 0),(.int .i64 0),
 (.int .i64 6),(.int .i64 2),(.int .i64 0),(.int .i64 0)] 97 true false))])⟩
def m7 : Memo:=⟨35,[(.agg #[(.int .i64 3),(.slice (some ⟨3,0,none⟩) 2 2),(.slice (some ⟨0,0,none⟩) 3 3),(.int .i64 1)])],(AS.of 1971 [(0,(.row [(.int .i64 0),(.int .i64 1),(.int .i64 2)]
 3 true true)),(3,(.row [(.int .i64 0),(.int .i64 1),(.int .i64 0),(.int .i64 5),(.int .i64 2),(.int .i64 0),(.int .i64 0),(.int .i64 2)] 86 true true))]),(.pointer (some ⟨1974,0,none⟩)),
 (AS.of 1985 [(0,(.row [(.int .i64 0),(.int .i64 1),(.int .i64 2)] 3 true true)),(3,(.row [(.int .i64 0),(.int .i64 1),(.int .i64 0),(.int .i64 5),(.int .i64 2),(.int .i64 0),(.int .i64 0),
 (.int .i64 2)] 86 true true)),(1975,(.row [(.slice (some ⟨1976,0,none⟩) 3 3),(.slice (some ⟨1977,0,none⟩) 3 3),(.slice (some ⟨1978,0,none⟩) 3 3)] 25 true true)),(1977,(.row [(.int .i64
 0),(.int .i64 0),(.int .i64 0)] 3 true true)),(1973,(.map [] 0)),(1984,(.row [(.int .i64 1),(.int .i64 2)] 3 true false)),(1976,(.row [(.int .i64 0),(.int .i64 5),(.int .i64 0)] 3 true
 true)),(1972,(.map [me (.int .i64 0) (.int .i64 0) 0,me (.int .i64 1) (.int .i64 1) 1,me (.int .i64 2) (.int .i64 2) 2] 3)),(1978,(.row [(.int .i64 2),(.int .i64 0),(.int .i64 0)] 3 true
 true)),(1974,(.row [(.int .i64 3),(.slice (some ⟨3,0,none⟩) 2 2),(.slice (some ⟨0,0,none⟩) 3 3),(.int .i64 1),(.slice (some ⟨1984,0,none⟩) 2 2),(.map (some 1972)),(.slice (some ⟨0,0,
 none⟩) 1 3),(.int .i64 0),(.slice (some ⟨1975,0,none⟩) 3 3),(.map (some 1973))] 128 true true))])⟩
def m8 : Memo:=⟨36,[(.pointer (some ⟨1974,0,none⟩))],(AS.of 1994 [(0,(.row [(.int .i64 0),(.int .i64 1),(.int .i64 2)] 3 true true)),(3,(.row [(.int .i64 0),(.int .i64 1),(.int .i64 0),
 (.int .i64 5),(.int .i64 2),(.int .i64 0),(.int .i64 0),(.int .i64 2)] 86 true true)),(1975,(.row [(.slice (some ⟨1976,0,none⟩) 3 3),(.slice (some ⟨1977,0,none⟩) 3 3),(.slice (some
 ⟨1978,0,none⟩) 3 3)] 25 true true)),(1977,(.row [(.int .i64 0),(.int .i64 0),(.int .i64 0)] 3 true true)),(1973,(.map [] 0)),(1984,(.row [(.int .i64 1),(.int .i64 2)] 3 true false)),
 (1976,(.row [(.int .i64 0),(.int .i64 5),(.int .i64 0)] 3 true true)),(1972,(.map [me (.int .i64 0) (.int .i64 0) 0,me (.int .i64 1) (.int .i64 1) 1,me (.int .i64 2) (.int .i64 2) 2] 3)),
 (1978,(.row [(.int .i64 2),(.int .i64 0),(.int .i64 0)] 3 true true)),(1974,(.row [(.int .i64 3),(.slice (some ⟨3,0,none⟩) 2 2),(.slice (some ⟨0,0,none⟩) 3 3),(.int .i64 1),(.slice (some
 ⟨1984,0,none⟩) 2 2),(.map (some 1972)),(.slice (some ⟨0,0,none⟩) 1 3),(.int .i64 0),(.slice (some ⟨1975,0,none⟩) 3 3),(.map (some 1973))] 128 true true))]),(.agg #[(.int .i64 2),(.int
 .i64 0)]),(AS.of 2146 [(0,(.row [(.int .i64 0),(.int .i64 1),(.int .i64 2)] 3 true true)),(3,(.row [(.int .i64 0),(.int .i64 1),(.int .i64 0),(.int .i64 5),(.int .i64 2),(.int .i64 0),
 (.int .i64 0),(.int .i64 2)] 86 true true)),(1975,(.row [(.slice (some ⟨1976,0,none⟩) 3 3),(.slice (some ⟨1977,0,none⟩) 3 3),(.slice (some ⟨1978,0,none⟩) 3 3)] 25 true true)),(1977,
 (.row [(.int .i64 0),(.int .i64 0),(.int .i64 0)] 3 true true)),(1973,(.map [me (.agg #[(.int .i64 1),(.int .i64 1)]) (.agg #[(.int .i64 2),(.int .i64 0)]) 0,me (.agg #[(.int .i64 1),(.int
 .i64 0)]) (.agg #[(.int .i64 2),(.int .i64 0)]) 1,me (.agg #[(.int .i64 2),(.int .i64 2)]) (.agg #[(.int .i64 0),(.int .i64 1)]) 2,me (.agg #[(.int .i64 2),(.int .i64 0)]) (.agg #[(.int .i64
 0),(.int .i64 0)]) 3,me (.agg #[(.int .i64 0),(.int .i64 0)]) (.agg #[(.int .i64 2),(.int .i64 0)]) 4] 5)),(1984,(.row [(.int .i64 1),(.int .i64 2)] 3 true false)),(1976,(.row [(.int .i64
 0),(.int .i64 5),(.int .i64 0)] 3 true true)),(1972,(.map [me (.int .i64 0) (.int .i64 0) 0,me (.int .i64 1) (.int .i64 1) 1,me (.int .i64 2) (.int .i64 2) 2] 3)),(1978,(.row [(.int .i64 2),
 (.int .i64 0),(.int .i64 0)] 3 true true)),(1974,(.row [(.int .i64 3),(.slice (some ⟨3,0,none⟩) 2 2),(.slice (some ⟨0,0,none⟩) 3 3),(.int .i64 1),(.slice (some ⟨1984,0,none⟩) 2 2),(.map
 (some 1972)),(.slice (some ⟨0,0,none⟩) 1 3),(.int .i64 0),(.slice (some ⟨1975,0,none⟩) 3 3),(.map (some 1973))] 128 true true))])⟩
def m9 : Memo:=⟨36,[(.pointer (some ⟨1974,0,none⟩))],(AS.of 2251 [(0,(.row [(.int .i64 0),(.int .i64 1),(.int .i64 2)] 3 true true)),(3,(.row [(.int .i64 0),(.int .i64 1),(.int .i64 0),
 (.int .i64 5),(.int .i64 2),(.int .i64 0),(.int .i64 0),(.int .i64 2)] 86 true true)),(1975,(.row [(.slice (some ⟨1976,0,none⟩) 3 3),(.slice (some ⟨1977,0,none⟩) 3 3),(.slice (some
 ⟨1978,0,none⟩) 3 3)] 25 true true)),(1977,(.row [(.int .i64 0),(.int .i64 0),(.int .i64 0)] 3 true true)),(1973,(.map [me (.agg #[(.int .i64 1),(.int .i64 1)]) (.agg #[(.int .i64 2),(.int
 .i64 0)]) 0,me (.agg #[(.int .i64 1),(.int .i64 0)]) (.agg #[(.int .i64 2),(.int .i64 0)]) 1,me (.agg #[(.int .i64 2),(.int .i64 2)]) (.agg #[(.int .i64 0),(.int .i64 1)]) 2,me (.agg #[(.int
 .i64 2),(.int .i64 0)]) (.agg #[(.int .i64 0),(.int .i64 0)]) 3,me (.agg #[(.int .i64 0),(.int .i64 0)]) (.agg #[(.int .i64 2),(.int .i64 0)]) 4] 5)),(1984,(.row [(.int .i64 1),(.int .i64 2)]
 3 true false)),(1976,(.row [(.int .i64 0),(.int .i64 5),(.int .i64 0)] 3 true true)),(1972,(.map [me (.int .i64 0) (.int .i64 0) 0,me (.int .i64 1) (.int .i64 1) 1,me (.int .i64 2) (.int .i64
 2) 2] 3)),(1978,(.row [(.int .i64 2),(.int .i64 0),(.int .i64 0)] 3 true true)),(1974,(.row [(.int .i64 3),(.slice (some ⟨3,0,none⟩) 2 2),(.slice (some ⟨0,0,none⟩) 3 3),(.int .i64 1),
 (.slice (some ⟨1984,0,none⟩) 2 2),(.map (some 1972)),(.slice (some ⟨0,0,none⟩) 1 3),(.int .i64 0),(.slice (some ⟨1975,0,none⟩) 3 3),(.map (some 1973))] 128 true true))]),(.agg #[(.int
 .i64 2),(.int .i64 0)]),(AS.of 2263 [(0,(.row [(.int .i64 0),(.int .i64 1),(.int .i64 2)] 3 true true)),(3,(.row [(.int .i64 0),(.int .i64 1),(.int .i64 0),(.int .i64 5),(.int .i64 2),
 (.int .i64 0),(.int .i64 0),(.int .i64 2)] 86 true true)),(1975,(.row [(.slice (some ⟨1976,0,none⟩) 3 3),(.slice (some ⟨1977,0,none⟩) 3 3),(.slice (some ⟨1978,0,none⟩) 3 3)] 25 true
 true)),(1977,(.row [(.int .i64 0),(.int .i64 0),(.int .i64 0)] 3 true true)),(1973,(.map [me (.agg #[(.int .i64 1),(.int .i64 1)]) (.agg #[(.int .i64 2),(.int .i64 0)]) 0,me (.agg #[(.int
 .i64 1),(.int .i64 0)]) (.agg #[(.int .i64 2),(.int .i64 0)]) 1,me (.agg #[(.int .i64 2),(.int .i64 2)]) (.agg #[(.int .i64 0),(.int .i64 1)]) 2,me (.agg #[(.int .i64 2),(.int .i64 0)]) (.agg
 #[(.int .i64 0),(.int .i64 0)]) 3,me (.agg #[(.int .i64 0),(.int .i64 0)]) (.agg #[(.int .i64 2),(.int .i64 0)]) 4] 5)),(1984,(.row [(.int .i64 1),(.int .i64 2)] 3 true false)),(1976,(.row
 [(.int .i64 0),(.int .i64 5),(.int .i64 0)] 3 true true)),(1972,(.map [me (.int .i64 0) (.int .i64 0) 0,me (.int .i64 1) (.int .i64 1) 1,me (.int .i64 2) (.int .i64 2) 2] 3)),(1978,(.row
 [(.int .i64 2),(.int .i64 0),(.int .i64 0)] 3 true true)),(1974,(.row [(.int .i64 3),(.slice (some ⟨3,0,none⟩) 2 2),(.slice (some ⟨0,0,none⟩) 3 3),(.int .i64 1),(.slice (some ⟨1984,0,
 none⟩) 2 2),(.map (some 1972)),(.slice (some ⟨0,0,none⟩) 1 3),(.int .i64 0),(.slice (some ⟨1975,0,none⟩) 3 3),(.map (some 1973))] 128 true true))])⟩
def m10 : Memo:=⟨13,[(.agg #[(.int .i64 3),(.slice (some ⟨3,0,none⟩) 2 2),(.slice (some ⟨0,0,none⟩) 3 3),(.int .i64 1)])],(AS.of 1958 [(0,(.row [(.int .i64 0),(.int .i64 1),(.int .i64
 2)] 3 true true)),(3,(.row [(.int .i64 0),(.int .i64 1),(.int .i64 0),(.int .i64 5),(.int .i64 2),(.int .i64 0),(.int .i64 0),(.int .i64 2)] 86 true true))]),(.tuple #[(.agg #[(.slice
 (some ⟨2249,0,none⟩) 3 3),(.int .i64 2),(.int .i64 0),(.slice (some ⟨2275,0,none⟩) 3 3)]),(.int .i64 0)]),(AS.of 2276 [(0,(.row [(.int .i64 0),(.int .i64 1),(.int .i64 2)] 3 true true)),
 (3,(.row [(.int .i64 0),(.int .i64 1),(.int .i64 0),(.int .i64 5),(.int .i64 2),(.int .i64 0),(.int .i64 0),(.int .i64 2)] 86 true true)),(2275,(.row [(.int .i64 0),(.int .i64 1),(.int
 .i64 2)] 3 true false)),(2249,(.row [(.int .i64 0),(.int .i64 1),(.int .i64 2)] 3 true false))])⟩
def m11 : Memo:=⟨16,[(.agg #[(.int .i64 3),(.slice (some ⟨3,0,none⟩) 2 2),(.slice (some ⟨0,0,none⟩) 3 3),(.int .i64 1)]),(.slice (some ⟨2276,0,none⟩) 3 3)],(AS.of 2277 [(0,(.row [(.int
 .i64 0),(.int .i64 1),(.int .i64 2)] 3 true true)),(3,(.row [(.int .i64 0),(.int .i64 1),(.int .i64 0),(.int .i64 5),(.int .i64 2),(.int .i64 0),(.int .i64 0),(.int .i64 2)] 86 true
 true)),(2276,(.row [(.int .i64 2),(.int .i64 0),(.int .i64 1)] 3 true true))]),(.tuple #[(.int .i64 0),(.int .i64 0),(.int .i64 70)]),(AS.of 2289 [(0,(.row [(.int .i64 0),(.int .i64 1),
 (.int .i64 2)] 3 true true)),(3,(.row [(.int .i64 0),(.int .i64 1),(.int .i64 0),(.int .i64 5),(.int .i64 2),(.int .i64 0),(.int .i64 0),(.int .i64 2)] 86 true true)),(2276,(.row [(.int
 .i64 2),(.int .i64 0),(.int .i64 1)] 3 true true))])⟩
def m12 : Memo:=⟨35,[(.agg #[(.int .i64 3),(.slice (some ⟨3,0,none⟩) 2 2),(.slice (some ⟨0,0,none⟩) 3 3),(.int .i64 1)])],(AS.of 2299 [(0,(.row [(.int .i64 0),(.int .i64 1),(.int .i64
 2)] 3 true true)),(3,(.row [(.int .i64 0),(.int .i64 1),(.int .i64 0),(.int .i64 5),(.int .i64 2),(.int .i64 0),(.int .i64 0),(.int .i64 2)] 86 true true))]),(.pointer (some ⟨2302,0,
 none⟩)),(AS.of 2313 [(0,(.row [(.int .i64 0),(.int .i64 1),(.int .i64 2)] 3 true true)),(3,(.row [(.int .i64 0),(.int .i64 1),(.int .i64 0),(.int .i64 5),(.int .i64 2),(.int .i64 0),(.int
 .i64 0),(.int .i64 2)] 86 true true)),(2303,(.row [(.slice (some ⟨2304,0,none⟩) 3 3),(.slice (some ⟨2305,0,none⟩) 3 3),(.slice (some ⟨2306,0,none⟩) 3 3)] 25 true true)),(2305,(.row
 [(.int .i64 0),(.int .i64 0),(.int .i64 0)] 3 true true)),(2301,(.map [] 0)),(2304,(.row [(.int .i64 0),(.int .i64 5),(.int .i64 0)] 3 true true)),(2312,(.row [(.int .i64 1),(.int .i64 2)]
 3 true false)),(2300,(.map [me (.int .i64 0) (.int .i64 0) 0,me (.int .i64 1) (.int .i64 1) 1,me (.int .i64 2) (.int .i64 2) 2] 3)),(2306,(.row [(.int .i64 2),(.int .i64 0),(.int .i64 0)] 3
 true true)),(2302,(.row [(.int .i64 3),(.slice (some ⟨3,0,none⟩) 2 2),(.slice (some ⟨0,0,none⟩) 3 3),(.int .i64 1),(.slice (some ⟨2312,0,none⟩) 2 2),(.map (some 2300)),(.slice (some ⟨0,
 0,none⟩) 1 3),(.int .i64 0),(.slice (some ⟨2303,0,none⟩) 3 3),(.map (some 2301))] 128 true true))])⟩
def m13 : Memo:=⟨36,[(.pointer (some ⟨2302,0,none⟩))],(AS.of 2322 [(0,(.row [(.int .i64 0),(.int .i64 1),(.int .i64 2)] 3 true true)),(3,(.row [(.int .i64 0),(.int .i64 1),(.int .i64 0),
 (.int .i64 5),(.int .i64 2),(.int .i64 0),(.int .i64 0),(.int .i64 2)] 86 true true)),(2303,(.row [(.slice (some ⟨2304,0,none⟩) 3 3),(.slice (some ⟨2305,0,none⟩) 3 3),(.slice (some
 ⟨2306,0,none⟩) 3 3)] 25 true true)),(2305,(.row [(.int .i64 0),(.int .i64 0),(.int .i64 0)] 3 true true)),(2301,(.map [] 0)),(2304,(.row [(.int .i64 0),(.int .i64 5),(.int .i64 0)] 3 true
 true)),(2312,(.row [(.int .i64 1),(.int .i64 2)] 3 true false)),(2300,(.map [me (.int .i64 0) (.int .i64 0) 0,me (.int .i64 1) (.int .i64 1) 1,me (.int .i64 2) (.int .i64 2) 2] 3)),(2306,
 (.row [(.int .i64 2),(.int .i64 0),(.int .i64 0)] 3 true true)),(2302,(.row [(.int .i64 3),(.slice (some ⟨3,0,none⟩) 2 2),(.slice (some ⟨0,0,none⟩) 3 3),(.int .i64 1),(.slice (some ⟨2312,
 0,none⟩) 2 2),(.map (some 2300)),(.slice (some ⟨0,0,none⟩) 1 3),(.int .i64 0),(.slice (some ⟨2303,0,none⟩) 3 3),(.map (some 2301))] 128 true true))]),(.agg #[(.int .i64 2),(.int .i64
 0)]),(AS.of 2474 [(0,(.row [(.int .i64 0),(.int .i64 1),(.int .i64 2)] 3 true true)),(3,(.row [(.int .i64 0),(.int .i64 1),(.int .i64 0),(.int .i64 5),(.int .i64 2),(.int .i64 0),(.int
 .i64 0),(.int .i64 2)] 86 true true)),(2303,(.row [(.slice (some ⟨2304,0,none⟩) 3 3),(.slice (some ⟨2305,0,none⟩) 3 3),(.slice (some ⟨2306,0,none⟩) 3 3)] 25 true true)),(2305,(.row
 [(.int .i64 0),(.int .i64 0),(.int .i64 0)] 3 true true)),(2301,(.map [me (.agg #[(.int .i64 1),(.int .i64 1)]) (.agg #[(.int .i64 2),(.int .i64 0)]) 0,me (.agg #[(.int .i64 1),(.int .i64
 0)]) (.agg #[(.int .i64 2),(.int .i64 0)]) 1,me (.agg #[(.int .i64 2),(.int .i64 2)]) (.agg #[(.int .i64 0),(.int .i64 1)]) 2,me (.agg #[(.int .i64 2),(.int .i64 0)]) (.agg #[(.int .i64 0),
 (.int .i64 0)]) 3,me (.agg #[(.int .i64 0),(.int .i64 0)]) (.agg #[(.int .i64 2),(.int .i64 0)]) 4] 5)),(2304,(.row [(.int .i64 0),(.int .i64 5),(.int .i64 0)] 3 true true)),(2312,(.row
 [(.int .i64 1),(.int .i64 2)] 3 true false)),(2300,(.map [me (.int .i64 0) (.int .i64 0) 0,me (.int .i64 1) (.int .i64 1) 1,me (.int .i64 2) (.int .i64 2) 2] 3)),(2306,(.row [(.int .i64 2),
 (.int .i64 0),(.int .i64 0)] 3 true true)),(2302,(.row [(.int .i64 3),(.slice (some ⟨3,0,none⟩) 2 2),(.slice (some ⟨0,0,none⟩) 3 3),(.int .i64 1),(.slice (some ⟨2312,0,none⟩) 2 2),(.map
 (some 2300)),(.slice (some ⟨0,0,none⟩) 1 3),(.int .i64 0),(.slice (some ⟨2303,0,none⟩) 3 3),(.map (some 2301))] 128 true true))])⟩
def m14 : Memo:=⟨17,[(.agg #[(.int .i64 3),(.slice (some ⟨3,0,none⟩) 2 2),(.slice (some ⟨0,0,none⟩) 3 3),(.int .i64 1)])],(AS.of 2289 [(0,(.row [(.int .i64 0),(.int .i64 1),(.int .i64
 2)] 3 true true)),(3,(.row [(.int .i64 0),(.int .i64 1),(.int .i64 0),(.int .i64 5),(.int .i64 2),(.int .i64 0),(.int .i64 0),(.int .i64 2)] 86 true true))]),(.tuple #[(.int .i64 1),(.int
 .i64 0)]),(AS.of 2620 [(0,(.row [(.int .i64 0),(.int .i64 1),(.int .i64 2)] 3 true true)),(3,(.row [(.int .i64 0),(.int .i64 1),(.int .i64 0),(.int .i64 5),(.int .i64 2),(.int .i64 0),
 (.int .i64 0),(.int .i64 2)] 86 true true))])⟩
def m15 : Memo:=⟨18,[(.slice (some ⟨2620,0,none⟩) 3 3),(.slice (some ⟨2621,0,none⟩) 3 3)],(AS.of 2622 [(2621,(.row [(.int .i64 3),(.int .i64 1),(.int .i64 5)] 3 true true)),(2620,(.row
 [(.int .i64 1),(.int .i64 2),(.int .i64 3)] 3 true true))]),(.tuple #[(.slice (some ⟨2649,0,none⟩) 3 3),(.int .i64 0)]),(AS.of 2650 [(2649,(.row [(.int .i64 2),(.int .i64 1),(.int .i64
 (-1)),(.int .i64 3),(.int .i64 1),(.int .i64 0),(.int .i64 5),(.int .i64 (-1)),(.int .i64 2)] 60 true false)),(2621,(.row [(.int .i64 3),(.int .i64 1),(.int .i64 5)] 3 true true)),(2620,
 (.row [(.int .i64 1),(.int .i64 2),(.int .i64 3)] 3 true true))])⟩
def e0:=insX
def e1:=memoX m0 e0
def e2:=memoX m1 e1
def e3:=memoX m2 e2
def e4:=memoX m3 e3
def e5:=memoX m4 e4
def e6:=memoX m5 e5
def e7:=memoX m6 e6
def e8:=memoX m7 e7
def e9:=memoX m8 e8
def e10:=memoX m9 e9
def e11:=memoX m10 e10
def e12:=memoX m11 e11
def e13:=memoX m12 e12
def e14:=memoX m13 e13
def e15:=memoX m14 e14
def e16:=memoX m15 e15
end Go.Gx.Z
