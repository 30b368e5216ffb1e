/-
  The lean form of the functions' code, printed by wip/lt.py out of Lean's own print of the loaded functions.
-/
import Derived.Test.YtmoihglcdmmmlaaGreatDoorAbL1
set_option maxRecDepth 100000
namespace Go.Proofs.YtmoihglcdmmmlaaGreatDoor
open Go

-- oxbow/unit.Skip
def lc74 : LC := (.seq (.reg [⟨(some 3), none, (.u (some 6) .mv (.od (.c (.int .i64 (.ofNat 0)))))⟩])
 (.seq (.reg [⟨(some 4), none, (.b (some 15) false .mn (.b (some 12) false .mx (.u (some 11) .mv (.od (.t 1))) (.od (.c (.int .i64 (.ofNat 0))))) (.u (some 14) .len (.u (some 13) .mv (.od (.t 0)))))⟩,
 ⟨(some 5), none, (.b (some 20) false .mn (.b (some 17) false .mx (.u (some 16) .mv (.od (.t 2))) (.od (.c (.int .i64 (.ofNat 0))))) (.u (some 19) .len (.u (some 18) .mv (.od (.t 0)))))⟩,
 ⟨(some 1), none, (.u (some 1) .mv (.od (.t 4)))⟩,
 ⟨(some 2), none, (.u (some 2) .mv (.od (.t 5)))⟩])
 (.seq (.reg [⟨(some 6), none, (.u (some 7) .mv (.u (some 22) .len (.u (some 21) .mv (.od (.t 0)))))⟩,
 ⟨(some 7), none, (.u (some 8) .mv (.od (.c (.int .i64 (.ofNat 0)))))⟩])
 (.seq (.seq (.reg [⟨(some 8), none, (.u (some 9) .mv (.u (some 23) .mv (.od (.t 1))))⟩])
 (.blk 0 (.loop (.seq (.seq (.reg [⟨(some 9), none, (.b (some 27) false (.bin .lss) (.u (some 24) .mv (.od (.t 8))) (.u (some 26) .len (.u (some 25) .mv (.od (.t 0)))))⟩])
 (.cond (.t 9) (.skip)
 (.exit 0)))
 (.seq (.blk 1 (.seq (.reg [⟨(some 10), none, (.u (some 33) (.lda 7) (.b (some 32) false (.iad 7) (.u (some 30) .mv (.od (.t 0))) (.u (some 31) .mv (.od (.t 8)))))⟩,
 ⟨(some 11), none, (.a (some 10) [(.int .i64 (.ofNat 0)),(.str []),(.str []),(.int .i64 (.ofNat 0)),(.int .i64 (.ofNat 0)),(.int .i64 (.ofNat 0)),(.int .i64 (.ofNat 0))] 95)⟩,
 ⟨none, none, (.b none false (.sta 7) (.od (.t 11)) (.od (.t 10)))⟩])
 (.seq (.seq (.reg [⟨(some 12), none, (.b (some 36) false (.bin .neq) (.u (some 35) .ld (.u (some 34) (.fad 0) (.od (.t 11)))) (.od (.c (.int .i64 (.ofNat 7)))))⟩])
 (.cond (.t 12) (.exit 1)
 (.skip)))
 (.seq (.seq (.reg [⟨(some 13), none, (.u (some 38) .ld (.u (some 37) (.fad 1) (.od (.t 11))))⟩])
 (.blk 2 (.seq (.reg [⟨(some 14), none, (.u (some 39) .mv (.b (some 40) false (.bin .eql) (.od (.t 13)) (.od (.c (.str [123])))))⟩])
 (.cond (.t 14) (.reg [⟨(some 7), none, (.u (some 8) .mv (.b (some 42) false (.bin .add) (.u (some 41) .mv (.od (.t 7))) (.od (.c (.int .i64 (.ofNat 1))))))⟩])
 (.seq (.reg [⟨(some 15), none, (.u (some 43) .mv (.b (some 44) false (.bin .eql) (.od (.t 13)) (.od (.c (.str [125])))))⟩])
 (.cond (.t 15) (.reg [⟨(some 7), none, (.u (some 8) .mv (.b (some 47) false .mx (.b (some 46) false (.bin .sub) (.u (some 45) .mv (.od (.t 7))) (.od (.c (.int .i64 (.ofNat 1))))) (.od (.c (.int .i64 (.ofNat 0))))))⟩])
 (.skip)))))))
 (.seq (.reg [⟨(some 16), none, (.gd (some 64) true false (.u (some 55) .mv (.gd (some 54) true false (.u (some 51) .mv (.b (some 50) false (.bin .geq) (.u (some 48) .mv (.od (.t 8))) (.u (some 49) .mv (.od (.t 2))))) (.b (some 53) false (.bin .eql) (.u (some 52) .mv (.od (.t 7))) (.od (.c (.int .i64 (.ofNat 0))))))) (.gd (some 63) false true (.u (some 59) .mv (.b (some 58) false (.bin .eql) (.u (some 57) .ld (.u (some 56) (.fad 1) (.od (.t 11)))) (.od (.c (.str [59]))))) (.b (some 62) false (.bin .eql) (.u (some 61) .ld (.u (some 60) (.fad 1) (.od (.t 11)))) (.od (.c (.str [125]))))))⟩])
 (.cond (.t 16) (.seq (.reg [⟨(some 6), none, (.u (some 7) .mv (.b (some 66) false (.bin .add) (.u (some 65) .mv (.od (.t 8))) (.od (.c (.int .i64 (.ofNat 1))))))⟩])
 (.exit 0))
 (.skip)))))))
 (.reg [⟨(some 8), none, (.u (some 9) .mv (.b (some 29) false (.bin .add) (.u (some 28) .mv (.od (.t 8))) (.od (.c (.int .i64 (.ofNat 1))))))⟩]))))))
 (.seq (.reg [⟨(some 3), none, (.u (some 6) .mv (.b (some 73) false .mn (.b (some 70) false .mx (.u (some 67) .mv (.od (.t 6))) (.b (some 69) false (.bin .add) (.u (some 68) .mv (.od (.t 1))) (.od (.c (.int .i64 (.ofNat 1)))))) (.k (some 72) (.call 129) (.cons (.u (some 71) .mv (.od (.t 0))) .nil))))⟩])
 (.ret))))))
def lf74 : LF := ⟨17, 3, lc74, [.t 3], [0,1,2,6,15,20,7,8,9,27,33,10,36,38,39,43,64]⟩

-- oxbow/unit.From
def lc75 : LC := (.seq (.reg [⟨(some 3), none, (.u (some 6) .mv (.od (.c .nils)))⟩,
 ⟨(some 4), none, (.u (some 7) .mv (.od (.c .nils)))⟩])
 (.seq (.seq (.reg [⟨(some 5), none, (.u (some 8) .mv (.k (some 11) (.call 129) (.cons (.u (some 10) .mv (.od (.t 0))) .nil)))⟩])
 (.blk 0 (.loop (.seq (.seq (.reg [⟨(some 6), none, (.b (some 14) false (.bin .lss) (.u (some 12) .mv (.od (.t 1))) (.u (some 13) .mv (.od (.t 5))))⟩])
 (.cond (.t 6) (.skip)
 (.exit 0)))
 (.blk 1 (.seq (.reg [⟨(some 7), none, (.a (some 9) [(.str []),(.str []),(.int .i64 (.ofNat 0)),(.int .i64 (.ofNat 0)),.nils,(.int .i64 (.ofNat 0)),(.int .i64 (.ofNat 0)),(.bool false),(.int .i64 (.ofNat 0))] 72)⟩])
 (.seq (.reg [⟨(some 8), none, (.u (some 15) .mv (.k (some 19) (.call 50) (.cons (.u (some 16) .mv (.od (.t 0))) (.cons (.u (some 17) .mv (.od (.t 1))) (.cons (.u (some 18) .mv (.od (.t 2))) .nil)))))⟩,
 ⟨(some 9), none, (.u (some 20) (.ext 0) (.od (.t 8)))⟩,
 ⟨(some 10), none, (.u (some 21) (.ext 1) (.od (.t 8)))⟩,
 ⟨none, none, (.b none false (.sta 9) (.od (.t 7)) (.od (.t 9)))⟩,
 ⟨(some 2), none, (.u (some 2) .mv (.od (.t 10)))⟩])
 (.seq (.reg [⟨(some 11), none, (.b (some 25) false (.app 9 104 72) (.u (some 22) .mv (.od (.t 3))) (.k (some 24) (.bsl 9 72) (.cons (.u (some 23) (.lda 9) (.od (.t 7))) .nil)))⟩,
 ⟨(some 12), none, (.b (some 29) false (.app 1 8 31) (.u (some 26) .mv (.od (.t 4))) (.k (some 28) (.bsl 1 31) (.cons (.u (some 27) .mv (.od (.t 2))) .nil)))⟩,
 ⟨(some 3), none, (.u (some 6) .mv (.od (.t 11)))⟩,
 ⟨(some 4), none, (.u (some 7) .mv (.od (.t 12)))⟩])
 (.reg [⟨(some 1), none, (.u (some 1) .mv (.u (some 31) .ld (.u (some 30) (.fad 6) (.od (.t 7)))))⟩])))))))))
 (.seq (.reg [⟨(some 13), none, (.u (some 32) .mv (.od (.t 3)))⟩,
 ⟨(some 14), none, (.u (some 33) .mv (.od (.t 4)))⟩,
 ⟨(some 3), none, (.u (some 6) .mv (.od (.t 13)))⟩,
 ⟨(some 4), none, (.u (some 7) .mv (.od (.t 14)))⟩])
 (.ret))))
def lf75 : LF := ⟨15, 3, lc75, [.t 3,.t 4], [0,1,2,6,7,8,14,9,15,20,21,25,29,32,33]⟩

-- oxbow/unit.Tree
def lc76 : LC := (.seq (.reg [⟨(some 2), none, (.a (some 4) [(.str []),(.str []),(.int .i64 (.ofNat 0)),(.int .i64 (.ofNat 0)),.nils] 50)⟩,
 ⟨(some 3), none, (.u (some 5) .mv (.od (.c .nils)))⟩])
 (.seq (.reg [⟨(some 4), none, (.u (some 6) .mv (.od (.c .nils)))⟩])
 (.seq (.reg [⟨(some 5), none, (.k (some 13) (.build [(.str []),(.str []),(.int .i64 (.ofNat 0)),(.int .i64 (.ofNat 0)),.nils] [(0,1),(3,1)]) (.cons (.od (.c (.str [117,110,105,116]))) (.cons (.k (some 12) (.call 129) (.cons (.u (some 11) .mv (.od (.t 0))) .nil)) .nil)))⟩,
 ⟨(some 6), none, (.a (some 7) [(.str []),(.str []),(.int .i64 (.ofNat 0)),(.int .i64 (.ofNat 0)),.nils] 50)⟩,
 ⟨none, none, (.b none false (.sta 5) (.od (.t 6)) (.od (.t 5)))⟩])
 (.seq (.seq (.reg [⟨(some 7), none, (.u (some 14) .mv (.od (.t 1)))⟩,
 ⟨(some 8), none, (.u (some 15) .len (.od (.t 7)))⟩,
 ⟨(some 9), none, (.u (some 16) .mv (.od (.c (.int .i64 (.ofNat 0)))))⟩])
 (.blk 0 (.loop (.seq (.reg [⟨(some 10), none, (.b (some 17) false (.bin .lss) (.od (.t 9)) (.od (.t 8)))⟩])
 (.seq (.cond (.t 10) (.skip)
 (.exit 0))
 (.seq (.blk 1 (.seq (.reg [⟨(some 11), none, (.u (some 19) (.lda 9) (.b (some 18) false (.iad 9) (.od (.t 7)) (.od (.t 9))))⟩,
 ⟨(some 12), none, (.a (some 9) [(.str []),(.str []),(.int .i64 (.ofNat 0)),(.int .i64 (.ofNat 0)),.nils,(.int .i64 (.ofNat 0)),(.int .i64 (.ofNat 0)),(.bool false),(.int .i64 (.ofNat 0))] 72)⟩,
 ⟨none, none, (.b none false (.sta 9) (.od (.t 12)) (.od (.t 11)))⟩])
 (.seq (.reg [⟨none, none, (.b none true .st (.u (some 26) (.fad 4) (.od (.t 6))) (.b (some 25) false (.app 5 72 50) (.u (some 21) .ld (.u (some 20) (.fad 4) (.od (.t 6)))) (.k (some 24) (.bsl 5 50) (.cons (.u (some 23) (.lda 5) (.u (some 22) (.fad 0) (.od (.t 12)))) .nil))))⟩])
 (.seq (.seq (.reg [⟨(some 13), none, (.u (some 29) (.un .not) (.u (some 28) .ld (.u (some 27) (.fad 7) (.od (.t 12)))))⟩])
 (.cond (.t 13) (.exit 1)
 (.skip)))
 (.seq (.reg [⟨(some 14), none, (.k (some 30) (.build [(.int .i64 (.ofNat 0)),(.str []),(.int .i64 (.ofNat 0)),(.int .i64 (.ofNat 0))] [(0,1)]) (.cons (.od (.c (.int .i64 (.ofNat 20)))) .nil))⟩,
 ⟨(some 15), none, (.a (some 10) [(.int .i64 (.ofNat 0)),(.str []),(.int .i64 (.ofNat 0)),(.int .i64 (.ofNat 0))] 78)⟩,
 ⟨none, none, (.b none false (.sta 4) (.od (.t 15)) (.od (.t 14)))⟩])
 (.seq (.seq (.reg [⟨(some 16), none, (.gd (some 40) true false (.u (some 34) .mv (.b (some 33) false (.bin .geq) (.u (some 32) .ld (.u (some 31) (.fad 8) (.od (.t 12)))) (.od (.c (.int .i64 (.ofNat 0)))))) (.b (some 39) false (.bin .lss) (.u (some 36) .ld (.u (some 35) (.fad 8) (.od (.t 12)))) (.u (some 38) .len (.u (some 37) .mv (.od (.t 0))))))⟩])
 (.cond (.t 16) (.reg [⟨none, none, (.b none true (.sta 3) (.u (some 47) (.fad 1) (.od (.t 15))) (.u (some 46) (.lda 3) (.u (some 45) (.fad 2) (.b (some 44) false (.iad 7) (.u (some 41) .mv (.od (.t 0))) (.u (some 43) .ld (.u (some 42) (.fad 8) (.od (.t 12))))))))⟩])
 (.skip)))
 (.reg [⟨(some 4), none, (.u (some 6) .mv (.b (some 51) false (.app 4 40 78) (.u (some 48) .mv (.od (.t 4))) (.k (some 50) (.bsl 4 78) (.cons (.u (some 49) (.lda 4) (.od (.t 15))) .nil))))⟩])))))))
 (.reg [⟨(some 9), none, (.u (some 16) .mv (.b (some 52) false (.bin .add) (.od (.t 9)) (.od (.c (.int .i64 (.ofNat 1))))))⟩])))))))
 (.seq (.reg [⟨(some 17), none, (.u (some 53) (.lda 5) (.od (.t 6)))⟩,
 ⟨(some 18), none, (.u (some 54) .mv (.od (.t 4)))⟩,
 ⟨none, none, (.b none false (.sta 5) (.od (.t 2)) (.od (.t 17)))⟩,
 ⟨(some 3), none, (.u (some 5) .mv (.od (.t 18)))⟩])
 (.ret))))))
def lf76 : LF := ⟨19, 2, lc76, [.ca 2 5,.t 3], [0,1,4,5,6,13,7,14,15,16,17,19,9,29,30,10,40,53,54]⟩

-- (oxbow/unit.reader).one
def lc77 : LC := (.seq (.reg [⟨(some 1), none, (.u (some 1) (.box 135) (.od (.t 0)))⟩,
 ⟨(some 2), none, (.a (some 2) [(.str []),(.str []),(.int .i64 (.ofNat 0)),(.int .i64 (.ofNat 0)),.nils] 50)⟩])
 (.seq (.reg [⟨(some 3), none, (.u (some 3) .mv (.u (some 15) .ld (.u (some 14) (.fad 1) (.u (some 13) .nck (.u (some 12) .ld (.u (some 11) (.fad 0) (.u (some 10) (.fad 0) (.od (.t 1)))))))))⟩])
 (.seq (.seq (.reg [⟨(some 4), none, (.k (some 19) (.call 127) (.cons (.u (some 18) .ld (.u (some 17) (.fad 0) (.u (some 16) (.fad 0) (.od (.t 1))))) (.cons (.od (.c (.str [59]))) .nil)))⟩])
 (.cond (.t 4) (.seq (.reg [⟨none, none, (.b none false (.sta 5) (.od (.t 2)) (.k (some 24) (.call 123) (.cons (.u (some 22) .ld (.u (some 21) (.fad 0) (.u (some 20) (.fad 0) (.od (.t 1))))) (.cons (.od (.c (.str [101,109,112,116,121]))) (.cons (.od (.c (.str []))) (.cons (.u (some 23) .mv (.od (.t 3))) (.cons (.od (.c .nils)) .nil)))))))⟩])
 (.ret))
 (.skip)))
 (.seq (.seq (.reg [⟨(some 5), none, (.k (some 28) (.call 116) (.cons (.u (some 27) .ld (.u (some 26) (.fad 0) (.u (some 25) (.fad 0) (.od (.t 1))))) (.cons (.od (.c (.str [95,83,116,97,116,105,99,95,97,115,115,101,114,116]))) .nil)))⟩])
 (.cond (.t 5) (.seq (.reg [⟨none, none, (.b none false (.sta 5) (.od (.t 2)) (.k (some 31) (.call 70) (.cons (.u (some 30) (.lda 1) (.u (some 29) (.fad 0) (.od (.t 1)))) (.cons (.od (.c (.int .i64 (.ofNat 0)))) .nil))))⟩])
 (.ret))
 (.skip)))
 (.seq (.reg [⟨(some 6), none, (.k (some 35) (.call 118) (.cons (.u (some 34) .ld (.u (some 33) (.fad 0) (.u (some 32) (.fad 0) (.od (.t 1))))) (.cons (.od (.c (.int .i64 (.ofNat 0)))) .nil)))⟩,
 ⟨(some 7), none, (.a (some 4) [(.str []),(.str []),(.int .i64 (.ofNat 0)),(.int .i64 (.ofNat 0)),.nils] 50)⟩,
 ⟨none, none, (.b none false (.sta 5) (.od (.t 7)) (.od (.t 6)))⟩])
 (.seq (.seq (.reg [⟨(some 8), none, (.k (some 39) (.call 127) (.cons (.u (some 38) .ld (.u (some 37) (.fad 0) (.u (some 36) (.fad 0) (.od (.t 1))))) (.cons (.od (.c (.str [59]))) .nil)))⟩])
 (.cond (.t 8) (.seq (.reg [⟨none, none, (.b none false (.sta 5) (.od (.t 2)) (.k (some 46) (.call 123) (.cons (.u (some 42) .ld (.u (some 41) (.fad 0) (.u (some 40) (.fad 0) (.od (.t 1))))) (.cons (.od (.c (.str [100,101,99,108,97,114,101]))) (.cons (.od (.c (.str []))) (.cons (.u (some 43) .mv (.od (.t 3))) (.cons (.k (some 45) (.bsl 5 50) (.cons (.u (some 44) (.lda 5) (.od (.t 7))) .nil)) .nil)))))))⟩])
 (.ret))
 (.skip)))
 (.seq (.reg [⟨(some 9), none, (.k (some 50) (.call 61) (.cons (.u (some 49) .ld (.u (some 48) (.fad 0) (.u (some 47) (.fad 0) (.od (.t 1))))) (.cons (.od (.c (.int .i64 (.ofNat 0)))) (.cons (.od (.c (.int .i64 (.ofNat 0)))) .nil))))⟩,
 ⟨(some 10), none, (.a (some 5) [(.str []),(.str []),(.int .i64 (.ofNat 0)),(.int .i64 (.ofNat 0)),.nils] 50)⟩,
 ⟨none, none, (.b none false (.sta 5) (.od (.t 10)) (.od (.t 9)))⟩])
 (.seq (.reg [⟨(some 11), none, (.u (some 51) .mv (.k (some 53) (.call 130) (.cons (.u (some 52) (.lda 5) (.od (.t 10))) .nil)))⟩,
 ⟨(some 12), none, (.u (some 54) (.ext 0) (.od (.t 11)))⟩,
 ⟨(some 13), none, (.u (some 55) (.ext 1) (.od (.t 11)))⟩,
 ⟨(some 14), none, (.a (some 6) [(.str []),(.str []),(.int .i64 (.ofNat 0)),(.int .i64 (.ofNat 0)),.nils] 50)⟩,
 ⟨none, none, (.b none false (.sta 5) (.od (.t 14)) (.od (.t 12)))⟩,
 ⟨(some 15), none, (.u (some 7) .mv (.od (.t 13)))⟩])
 (.seq (.reg [⟨(some 16), none, (.u (some 8) .mv (.gd (some 77) true false (.u (some 66) .mv (.gd (some 65) true false (.u (some 57) .mv (.u (some 56) .mv (.od (.t 15)))) (.u (some 64) (.un .not) (.u (some 63) .ld (.u (some 62) (.fad 3) (.u (some 61) .nck (.u (some 60) .ld (.u (some 59) (.fad 0) (.u (some 58) (.fad 0) (.od (.t 1))))))))))) (.gd (some 76) false true (.u (some 71) .mv (.k (some 70) (.call 119) (.cons (.u (some 69) .ld (.u (some 68) (.fad 0) (.u (some 67) (.fad 0) (.od (.t 1))))) (.cons (.od (.c (.str [123]))) .nil)))) (.k (some 75) (.call 58) (.cons (.u (some 74) .ld (.u (some 73) (.fad 0) (.u (some 72) (.fad 0) (.od (.t 1))))) .nil)))))⟩])
 (.seq (.drw [⟨.p, [], ⟨(some 17), none, (.u (some 78) (.fad 0) (.od (.t 1)))⟩⟩,
 ⟨.p, [0], ⟨(some 18), none, (.u (some 79) (.fad 0) (.od (.t 17)))⟩⟩,
 ⟨(.l 0 2), [0,1], ⟨(some 19), none, (.u (some 80) .ld (.od (.t 18)))⟩⟩,
 ⟨(.l 0 0), [], ⟨(some 20), none, (.u (some 81) (.lda 5) (.od (.t 10)))⟩⟩,
 ⟨.m, [3], ⟨(some 21), none, (.k (some 82) (.call 29) (.cons (.od (.t 20)) .nil))⟩⟩,
 ⟨(.l 0 1), [], ⟨(some 22), none, (.u (some 83) (.lda 5) (.od (.t 7)))⟩⟩,
 ⟨.m, [3,4,5], ⟨(some 23), none, (.k (some 84) (.call 71) (.cons (.od (.t 22)) .nil))⟩⟩,
 ⟨.m, [0,1,2,3,4,5,6], ⟨none, none, (.k (some 85) (.call 131) (.cons (.od (.t 19)) (.cons (.od (.t 21)) (.cons (.od (.t 23)) .nil))))⟩⟩])
 (.seq (.seq (.reg [⟨(some 24), none, (.u (some 86) .mv (.od (.t 16)))⟩])
 (.cond (.t 24) (.seq (.reg [⟨none, none, (.b none false (.sta 5) (.od (.t 2)) (.k (some 92) (.call 132) (.cons (.u (some 87) (.lda 1) (.od (.t 1))) (.cons (.u (some 88) .mv (.od (.t 3))) (.cons (.u (some 89) (.lda 5) (.od (.t 7))) (.cons (.u (some 90) (.lda 5) (.od (.t 10))) (.cons (.u (some 91) (.lda 5) (.od (.t 14))) .nil)))))))⟩])
 (.ret))
 (.skip)))
 (.seq (.reg [⟨(some 25), none, (.u (some 9) .mv (.k (some 98) (.call 121) (.cons (.u (some 94) (.lda 1) (.u (some 93) (.fad 0) (.od (.t 1)))) (.cons (.k (some 96) (.bsl 5 50) (.cons (.u (some 95) (.lda 5) (.od (.t 7))) .nil)) (.cons (.u (some 97) (.lda 5) (.od (.t 10))) (.cons (.od (.c (.int .i64 (.ofNat 0)))) .nil))))))⟩])
 (.seq (.reg [⟨none, none, (.k (some 102) (.call 122) (.cons (.u (some 101) .ld (.u (some 100) (.fad 0) (.u (some 99) (.fad 0) (.od (.t 1))))) (.cons (.od (.c (.str [59]))) .nil)))⟩])
 (.seq (.reg [⟨none, none, (.b none false (.sta 5) (.od (.t 2)) (.k (some 108) (.call 123) (.cons (.u (some 105) .ld (.u (some 104) (.fad 0) (.u (some 103) (.fad 0) (.od (.t 1))))) (.cons (.od (.c (.str [100,101,99,108,97,114,101]))) (.cons (.od (.c (.str []))) (.cons (.u (some 106) .mv (.od (.t 3))) (.cons (.u (some 107) .mv (.od (.t 25))) .nil)))))))⟩])
 (.ret)))))))))))))))
def lf77 : LF := ⟨26, 1, lc77, [.ca 2 5], [0,1,2,3,19,28,35,4,39,50,5,51,54,55,6,7,8,78,79,80,81,82,83,84,86,9]⟩

-- (*oxbow/express.Reader).Expr
def lc85 : LC := (.seq (.reg [⟨(some 2), none, (.a (some 4) [(.str []),(.str []),(.int .i64 (.ofNat 0)),(.int .i64 (.ofNat 0)),.nils] 50)⟩])
 (.seq (.seq (.reg [⟨(some 3), none, (.k (some 8) (.call 109) (.cons (.u (some 6) .mv (.od (.t 0))) (.cons (.u (some 7) .mv (.od (.t 1))) .nil)))⟩])
 (.cond (.t 3) (.seq (.reg [⟨none, none, (.b none false (.sta 5) (.od (.t 2)) (.u (some 9) (.lda 5) (.od (.t 2))))⟩])
 (.ret))
 (.skip)))
 (.seq (.reg [⟨none, none, (.b none false (.sta 5) (.od (.t 2)) (.k (some 13) (.call 138) (.cons (.u (some 10) .mv (.od (.t 0))) (.cons (.b (some 12) false (.bin .add) (.u (some 11) .mv (.od (.t 1))) (.od (.c (.int .i64 (.ofNat 1))))) .nil))))⟩])
 (.seq (.blk 0 (.loop (.seq (.seq (.reg [⟨(some 4), none, (.k (some 15) (.call 127) (.cons (.u (some 14) .mv (.od (.t 0))) (.cons (.od (.c (.str [44]))) .nil)))⟩])
 (.cond (.t 4) (.skip)
 (.exit 0)))
 (.blk 1 (.seq (.reg [⟨(some 5), none, (.k (some 19) (.call 138) (.cons (.u (some 16) .mv (.od (.t 0))) (.cons (.b (some 18) false (.bin .add) (.u (some 17) .mv (.od (.t 1))) (.od (.c (.int .i64 (.ofNat 1))))) .nil)))⟩,
 ⟨(some 6), none, (.a (some 5) [(.str []),(.str []),(.int .i64 (.ofNat 0)),(.int .i64 (.ofNat 0)),.nils] 50)⟩,
 ⟨none, none, (.b none false (.sta 5) (.od (.t 6)) (.od (.t 5)))⟩])
 (.reg [⟨none, none, (.b none false (.sta 5) (.od (.t 2)) (.k (some 26) (.call 123) (.cons (.u (some 20) .mv (.od (.t 0))) (.cons (.od (.c (.str [99,111,109,109,97]))) (.cons (.od (.c (.str []))) (.cons (.u (some 22) .ld (.u (some 21) (.fad 2) (.od (.t 2)))) (.cons (.k (some 25) (.bsl 5 50) (.cons (.u (some 23) (.lda 5) (.od (.t 2))) (.cons (.u (some 24) (.lda 5) (.od (.t 6))) .nil))) .nil)))))))⟩]))))))
 (.seq (.reg [⟨none, none, (.b none false (.sta 5) (.od (.t 2)) (.u (some 27) (.lda 5) (.od (.t 2))))⟩])
 (.ret))))))
def lf85 : LF := ⟨7, 2, lc85, [.ca 2 5], [0,1,4,8,15,19,5]⟩

-- oxbow/oxbowref4.Chars
def lc86 : LC := (.seq (.reg [⟨(some 1), none, (.u (some 2) .mv (.od (.c .nils)))⟩])
 (.seq (.reg [⟨(some 2), none, (.u (some 3) .mv (.k (some 6) (.call 139) (.cons (.k (some 5) (.call 140) (.cons (.u (some 4) .mv (.od (.t 0))) .nil)) .nil)))⟩])
 (.seq (.seq (.reg [⟨(some 3), none, (.gd (some 24) true false (.u (some 10) .mv (.b (some 9) false (.bin .gtr) (.u (some 8) .lens (.u (some 7) .mv (.od (.t 0)))) (.od (.c (.int .i64 (.ofNat 0)))))) (.gd (some 23) false true (.u (some 14) .mv (.b (some 13) false (.bin .eql) (.u (some 12) .len (.u (some 11) .mv (.od (.t 2)))) (.od (.c (.int .i64 (.ofNat 0)))))) (.b (some 22) false (.bin .neq) (.u (some 21) .ld (.u (some 20) (.fad 0) (.b (some 19) false (.iad 3) (.u (some 15) .mv (.od (.t 2))) (.b (some 18) false (.bin .sub) (.u (some 17) .len (.u (some 16) .mv (.od (.t 2)))) (.od (.c (.int .i64 (.ofNat 1)))))))) (.od (.c (.int .u8 (.ofNat 10)))))))⟩])
 (.cond (.t 3) (.reg [⟨(some 2), none, (.u (some 3) .mv (.b (some 32) false (.app 3 24 151) (.u (some 25) .mv (.od (.t 2))) (.k (some 31) (.bsl 3 151) (.cons (.k (some 30) (.build [(.int .u8 (.ofNat 0)),(.int .i64 (.ofNat 0)),(.int .i64 (.ofNat 0))] [(0,1),(1,1),(2,1)]) (.cons (.od (.c (.int .u8 (.ofNat 10)))) (.cons (.u (some 27) .lens (.u (some 26) .mv (.od (.t 0)))) (.cons (.u (some 29) .lens (.u (some 28) .mv (.od (.t 0)))) .nil)))) .nil))))⟩])
 (.skip)))
 (.seq (.reg [⟨(some 1), none, (.u (some 2) .mv (.u (some 33) .mv (.od (.t 2))))⟩])
 (.ret)))))
def lf86 : LF := ⟨4, 1, lc86, [.t 1], [0,2,3,24]⟩

-- oxbow/oxbowref4.White
def lc87 : LC := (.seq (.reg [⟨(some 1), none, (.u (some 2) .mv (.od (.c (.bool false))))⟩])
 (.seq (.reg [⟨(some 1), none, (.u (some 2) .mv (.gd (some 16) false true (.u (some 9) .mv (.gd (some 8) false true (.u (some 5) .mv (.b (some 4) false (.bin .eql) (.u (some 3) .mv (.od (.t 0))) (.od (.c (.int .u8 (.ofNat 32)))))) (.b (some 7) false (.bin .eql) (.u (some 6) .mv (.od (.t 0))) (.od (.c (.int .u8 (.ofNat 9))))))) (.gd (some 15) true false (.u (some 12) .mv (.b (some 11) false (.bin .geq) (.u (some 10) .mv (.od (.t 0))) (.od (.c (.int .u8 (.ofNat 11)))))) (.b (some 14) false (.bin .leq) (.u (some 13) .mv (.od (.t 0))) (.od (.c (.int .u8 (.ofNat 13))))))))⟩])
 (.ret)))
def lf87 : LF := ⟨2, 1, lc87, [.t 1], [0,2]⟩

-- oxbow/oxbowref4.comment
def lc88 : LC := (.seq (.reg [⟨(some 2), none, (.u (some 4) .mv (.od (.c (.int .i64 (.ofNat 0)))))⟩,
 ⟨(some 3), none, (.u (some 5) .mv (.od (.c (.bool false))))⟩])
 (.seq (.seq (.reg [⟨(some 4), none, (.b (some 11) false (.bin .neq) (.k (some 10) (.call 141) (.cons (.u (some 8) .mv (.od (.t 0))) (.cons (.u (some 9) .mv (.od (.t 1))) .nil))) (.od (.c (.int .u8 (.ofNat 47)))))⟩])
 (.cond (.t 4) (.seq (.reg [⟨(some 2), none, (.u (some 4) .mv (.u (some 12) .mv (.od (.t 1))))⟩,
 ⟨(some 3), none, (.u (some 5) .mv (.od (.c (.bool false))))⟩])
 (.ret))
 (.skip)))
 (.seq (.seq (.reg [⟨(some 5), none, (.b (some 17) false (.bin .eql) (.k (some 16) (.call 141) (.cons (.u (some 13) .mv (.od (.t 0))) (.cons (.b (some 15) false (.bin .add) (.u (some 14) .mv (.od (.t 1))) (.od (.c (.int .i64 (.ofNat 1))))) .nil))) (.od (.c (.int .u8 (.ofNat 47)))))⟩])
 (.cond (.t 5) (.seq (.reg [⟨(some 6), none, (.u (some 6) .mv (.u (some 18) .mv (.od (.t 1))))⟩])
 (.seq (.blk 0 (.loop (.seq (.seq (.reg [⟨(some 7), none, (.gd (some 30) true false (.u (some 23) .mv (.b (some 22) false (.bin .lss) (.u (some 19) .mv (.od (.t 6))) (.u (some 21) .len (.u (some 20) .mv (.od (.t 0)))))) (.b (some 29) false (.bin .neq) (.u (some 28) .ld (.u (some 27) (.fad 0) (.b (some 26) false (.iad 3) (.u (some 24) .mv (.od (.t 0))) (.u (some 25) .mv (.od (.t 6)))))) (.od (.c (.int .u8 (.ofNat 10))))))⟩])
 (.cond (.t 7) (.skip)
 (.exit 0)))
 (.blk 1 (.reg [⟨(some 6), none, (.u (some 6) .mv (.b (some 32) false (.bin .add) (.u (some 31) .mv (.od (.t 6))) (.od (.c (.int .i64 (.ofNat 1))))))⟩])))))
 (.seq (.reg [⟨(some 2), none, (.u (some 4) .mv (.u (some 33) .mv (.od (.t 6))))⟩,
 ⟨(some 3), none, (.u (some 5) .mv (.od (.c (.bool false))))⟩])
 (.ret))))
 (.skip)))
 (.seq (.seq (.reg [⟨(some 8), none, (.b (some 38) false (.bin .neq) (.k (some 37) (.call 141) (.cons (.u (some 34) .mv (.od (.t 0))) (.cons (.b (some 36) false (.bin .add) (.u (some 35) .mv (.od (.t 1))) (.od (.c (.int .i64 (.ofNat 1))))) .nil))) (.od (.c (.int .u8 (.ofNat 42)))))⟩])
 (.cond (.t 8) (.seq (.reg [⟨(some 2), none, (.u (some 4) .mv (.u (some 39) .mv (.od (.t 1))))⟩,
 ⟨(some 3), none, (.u (some 5) .mv (.od (.c (.bool false))))⟩])
 (.ret))
 (.skip)))
 (.seq (.seq (.reg [⟨(some 9), none, (.u (some 7) .mv (.b (some 41) false (.bin .add) (.u (some 40) .mv (.od (.t 1))) (.od (.c (.int .i64 (.ofNat 2))))))⟩])
 (.blk 2 (.loop (.seq (.seq (.reg [⟨(some 10), none, (.b (some 45) false (.bin .lss) (.u (some 42) .mv (.od (.t 9))) (.u (some 44) .len (.u (some 43) .mv (.od (.t 0)))))⟩])
 (.cond (.t 10) (.skip)
 (.exit 2)))
 (.seq (.blk 3 (.seq (.reg [⟨(some 11), none, (.gd (some 60) true false (.u (some 54) .mv (.b (some 53) false (.bin .eql) (.u (some 52) .ld (.u (some 51) (.fad 0) (.b (some 50) false (.iad 3) (.u (some 48) .mv (.od (.t 0))) (.u (some 49) .mv (.od (.t 9)))))) (.od (.c (.int .u8 (.ofNat 42)))))) (.b (some 59) false (.bin .eql) (.k (some 58) (.call 141) (.cons (.u (some 55) .mv (.od (.t 0))) (.cons (.b (some 57) false (.bin .add) (.u (some 56) .mv (.od (.t 9))) (.od (.c (.int .i64 (.ofNat 1))))) .nil))) (.od (.c (.int .u8 (.ofNat 47))))))⟩])
 (.cond (.t 11) (.seq (.reg [⟨(some 2), none, (.u (some 4) .mv (.b (some 62) false (.bin .add) (.u (some 61) .mv (.od (.t 9))) (.od (.c (.int .i64 (.ofNat 2))))))⟩,
 ⟨(some 3), none, (.u (some 5) .mv (.od (.c (.bool false))))⟩])
 (.ret))
 (.skip))))
 (.reg [⟨(some 9), none, (.u (some 7) .mv (.b (some 47) false (.bin .add) (.u (some 46) .mv (.od (.t 9))) (.od (.c (.int .i64 (.ofNat 1))))))⟩]))))))
 (.seq (.reg [⟨(some 2), none, (.u (some 4) .mv (.u (some 64) .len (.u (some 63) .mv (.od (.t 0)))))⟩,
 ⟨(some 3), none, (.u (some 5) .mv (.od (.c (.bool true))))⟩])
 (.ret)))))))
def lf88 : LF := ⟨12, 2, lc88, [.t 2,.t 3], [0,1,4,5,11,17,6,30,38,7,45,60]⟩

-- oxbow/oxbowref4.next
def lc89 : LC := (.seq (.reg [⟨(some 2), none, (.u (some 4) .mv (.od (.c (.int .i64 (.ofNat 0)))))⟩,
 ⟨(some 3), none, (.u (some 5) .mv (.od (.c (.int .i64 (.ofNat 0)))))⟩,
 ⟨(some 4), none, (.u (some 6) .mv (.od (.c (.bool false))))⟩])
 (.seq (.reg [⟨(some 5), none, (.u (some 7) .mv (.k (some 14) (.call 142) (.cons (.u (some 12) .mv (.od (.t 0))) (.cons (.u (some 13) .mv (.od (.t 1))) .nil))))⟩])
 (.seq (.seq (.reg [⟨(some 6), none, (.b (some 16) false (.bin .geq) (.u (some 15) .mv (.od (.t 5))) (.od (.c (.int .i64 (.ofNat 0)))))⟩])
 (.cond (.t 6) (.seq (.reg [⟨(some 7), none, (.u (some 8) .mv (.k (some 21) (.call 143) (.cons (.u (some 17) .mv (.od (.t 0))) (.cons (.b (some 20) false (.bin .add) (.u (some 18) .mv (.od (.t 1))) (.u (some 19) .mv (.od (.t 5)))) .nil))))⟩])
 (.seq (.seq (.reg [⟨(some 8), none, (.gd (some 31) true false (.u (some 24) .mv (.b (some 23) false (.bin .gtr) (.u (some 22) .mv (.od (.t 7))) (.od (.c (.int .i64 (.ofNat 0)))))) (.b (some 30) false (.bin .eql) (.k (some 29) (.call 141) (.cons (.u (some 25) .mv (.od (.t 0))) (.cons (.b (some 28) false (.bin .add) (.u (some 26) .mv (.od (.t 1))) (.u (some 27) .mv (.od (.t 5)))) .nil))) (.od (.c (.int .u8 (.ofNat 34))))))⟩])
 (.cond (.t 8) (.seq (.reg [⟨(some 9), none, (.u (some 32) .mv (.od (.t 7)))⟩,
 ⟨(some 2), none, (.u (some 4) .mv (.od (.c (.int .i64 (.ofNat 4)))))⟩,
 ⟨(some 3), none, (.u (some 5) .mv (.od (.t 9)))⟩,
 ⟨(some 4), none, (.u (some 6) .mv (.od (.c (.bool false))))⟩])
 (.ret))
 (.skip)))
 (.seq (.seq (.reg [⟨(some 10), none, (.b (some 34) false (.bin .gtr) (.u (some 33) .mv (.od (.t 7))) (.od (.c (.int .i64 (.ofNat 0)))))⟩])
 (.cond (.t 10) (.seq (.reg [⟨(some 11), none, (.u (some 35) .mv (.od (.t 7)))⟩,
 ⟨(some 2), none, (.u (some 4) .mv (.od (.c (.int .i64 (.ofNat 3)))))⟩,
 ⟨(some 3), none, (.u (some 5) .mv (.od (.t 11)))⟩,
 ⟨(some 4), none, (.u (some 6) .mv (.od (.c (.bool false))))⟩])
 (.ret))
 (.skip)))
 (.seq (.reg [⟨(some 12), none, (.b (some 37) false (.bin .eql) (.u (some 36) .mv (.od (.t 5))) (.od (.c (.int .i64 (.ofNat 0)))))⟩])
 (.cond (.t 12) (.seq (.reg [⟨(some 13), none, (.b (some 39) false (.bin .add) (.u (some 38) .mv (.od (.t 1))) (.od (.c (.int .i64 (.ofNat 1)))))⟩,
 ⟨(some 2), none, (.u (some 4) .mv (.od (.c (.int .i64 (.ofNat 6)))))⟩,
 ⟨(some 3), none, (.u (some 5) .mv (.od (.t 13)))⟩,
 ⟨(some 4), none, (.u (some 6) .mv (.od (.c (.bool true))))⟩])
 (.ret))
 (.skip))))))
 (.skip)))
 (.seq (.seq (.reg [⟨(some 14), none, (.k (some 43) (.call 144) (.cons (.k (some 42) (.call 141) (.cons (.u (some 40) .mv (.od (.t 0))) (.cons (.u (some 41) .mv (.od (.t 1))) .nil))) .nil))⟩])
 (.cond (.t 14) (.seq (.reg [⟨(some 15), none, (.u (some 9) .mv (.b (some 45) false (.bin .add) (.u (some 44) .mv (.od (.t 1))) (.od (.c (.int .i64 (.ofNat 1))))))⟩])
 (.seq (.blk 0 (.loop (.seq (.seq (.reg [⟨(some 16), none, (.gd (some 55) false true (.u (some 50) .mv (.k (some 49) (.call 144) (.cons (.k (some 48) (.call 141) (.cons (.u (some 46) .mv (.od (.t 0))) (.cons (.u (some 47) .mv (.od (.t 15))) .nil))) .nil))) (.k (some 54) (.call 145) (.cons (.k (some 53) (.call 141) (.cons (.u (some 51) .mv (.od (.t 0))) (.cons (.u (some 52) .mv (.od (.t 15))) .nil))) .nil)))⟩])
 (.cond (.t 16) (.skip)
 (.exit 0)))
 (.blk 1 (.reg [⟨(some 15), none, (.u (some 9) .mv (.b (some 57) false (.bin .add) (.u (some 56) .mv (.od (.t 15))) (.od (.c (.int .i64 (.ofNat 1))))))⟩])))))
 (.seq (.reg [⟨(some 17), none, (.u (some 58) .mv (.od (.t 15)))⟩,
 ⟨(some 2), none, (.u (some 4) .mv (.od (.c (.int .i64 (.ofNat 1)))))⟩,
 ⟨(some 3), none, (.u (some 5) .mv (.od (.t 17)))⟩,
 ⟨(some 4), none, (.u (some 6) .mv (.od (.c (.bool false))))⟩])
 (.ret))))
 (.skip)))
 (.seq (.reg [⟨(some 18), none, (.u (some 10) .mv (.k (some 61) (.call 146) (.cons (.u (some 59) .mv (.od (.t 0))) (.cons (.u (some 60) .mv (.od (.t 1))) .nil))))⟩])
 (.seq (.seq (.reg [⟨(some 19), none, (.b (some 64) false (.bin .gtr) (.u (some 62) .mv (.od (.t 18))) (.u (some 63) .mv (.od (.t 1))))⟩])
 (.cond (.t 19) (.seq (.reg [⟨(some 20), none, (.u (some 65) .mv (.od (.t 18)))⟩,
 ⟨(some 2), none, (.u (some 4) .mv (.od (.c (.int .i64 (.ofNat 2)))))⟩,
 ⟨(some 3), none, (.u (some 5) .mv (.od (.t 20)))⟩,
 ⟨(some 4), none, (.u (some 6) .mv (.od (.c (.bool false))))⟩])
 (.ret))
 (.skip)))
 (.seq (.reg [⟨(some 21), none, (.u (some 11) .mv (.k (some 68) (.call 147) (.cons (.u (some 66) .mv (.od (.t 0))) (.cons (.u (some 67) .mv (.od (.t 1))) .nil))))⟩])
 (.seq (.seq (.reg [⟨(some 22), none, (.b (some 70) false (.bin .gtr) (.u (some 69) .mv (.od (.t 21))) (.od (.c (.int .i64 (.ofNat 0)))))⟩])
 (.cond (.t 22) (.seq (.reg [⟨(some 23), none, (.b (some 73) false (.bin .add) (.u (some 71) .mv (.od (.t 1))) (.u (some 72) .mv (.od (.t 21))))⟩,
 ⟨(some 2), none, (.u (some 4) .mv (.od (.c (.int .i64 (.ofNat 5)))))⟩,
 ⟨(some 3), none, (.u (some 5) .mv (.od (.t 23)))⟩,
 ⟨(some 4), none, (.u (some 6) .mv (.od (.c (.bool false))))⟩])
 (.ret))
 (.skip)))
 (.seq (.reg [⟨(some 24), none, (.b (some 75) false (.bin .add) (.u (some 74) .mv (.od (.t 1))) (.od (.c (.int .i64 (.ofNat 1)))))⟩,
 ⟨(some 2), none, (.u (some 4) .mv (.od (.c (.int .i64 (.ofNat 6)))))⟩,
 ⟨(some 3), none, (.u (some 5) .mv (.od (.t 24)))⟩,
 ⟨(some 4), none, (.u (some 6) .mv (.od (.c (.bool false))))⟩])
 (.ret))))))))))
def lf89 : LF := ⟨25, 2, lc89, [.t 2,.t 3,.t 4], [0,1,4,5,6,7,16,8,31,32,34,35,37,39,43,9,55,58,10,64,65,11,70,73,75]⟩

-- oxbow/oxbowref4.text
def lc90 : LC := (.seq (.reg [⟨(some 1), none, (.u (some 2) .mv (.od (.c (.str []))))⟩])
 (.seq (.reg [⟨(some 2), none, (.u (some 3) .mv (.od (.c .nils)))⟩])
 (.seq (.seq (.reg [⟨(some 3), none, (.u (some 4) .mv (.od (.c (.int .i64 (.ofNat 0)))))⟩])
 (.blk 0 (.loop (.seq (.seq (.reg [⟨(some 4), none, (.b (some 8) false (.bin .lss) (.u (some 5) .mv (.od (.t 3))) (.u (some 7) .len (.u (some 6) .mv (.od (.t 0)))))⟩])
 (.cond (.t 4) (.skip)
 (.exit 0)))
 (.seq (.blk 1 (.reg [⟨(some 2), none, (.u (some 3) .mv (.b (some 18) false (.app 1 1 5) (.u (some 11) .mv (.od (.t 2))) (.k (some 17) (.bsl 1 5) (.cons (.u (some 16) .ld (.u (some 15) (.fad 0) (.b (some 14) false (.iad 3) (.u (some 12) .mv (.od (.t 0))) (.u (some 13) .mv (.od (.t 3)))))) .nil))))⟩]))
 (.reg [⟨(some 3), none, (.u (some 4) .mv (.b (some 10) false (.bin .add) (.u (some 9) .mv (.od (.t 3))) (.od (.c (.int .i64 (.ofNat 1))))))⟩]))))))
 (.seq (.reg [⟨(some 1), none, (.u (some 2) .mv (.u (some 20) .cvbs (.u (some 19) .mv (.od (.t 2)))))⟩])
 (.ret)))))
def lf90 : LF := ⟨5, 1, lc90, [.t 1], [0,2,3,4,8]⟩

-- oxbow/oxbowref17.IsKeyword
def lc91 : LC := (.seq (.reg [⟨(some 1), none, (.u (some 2) .mv (.od (.c (.bool false))))⟩])
 (.seq (.reg [⟨(some 1), none, (.u (some 2) .mv (.k (some 5) (.call 103) (.cons (.k (some 3) (.call 148) .nil) (.cons (.u (some 4) .mv (.od (.t 0))) .nil))))⟩])
 (.ret)))
def lf91 : LF := ⟨2, 1, lc91, [.t 1], [0,2]⟩

-- oxbow/oxbowref9.Number
def lc92 : LC := (.seq (.reg [⟨(some 1), none, (.a (some 2) [(.int .u64 (.ofNat 0)),(.bool false)] 163)⟩,
 ⟨(some 2), none, (.u (some 3) .mv (.od (.c (.bool false))))⟩])
 (.seq (.reg [⟨(some 3), none, (.u (some 4) .mv (.od (.c (.int .i64 (.ofNat 10)))))⟩,
 ⟨(some 4), none, (.u (some 5) .mv (.od (.c (.int .i64 (.ofNat 0)))))⟩])
 (.seq (.seq (.reg [⟨(some 5), none, (.gd (some 19) true false (.u (some 15) .mv (.b (some 14) false (.bin .gtr) (.u (some 13) .lens (.u (some 12) .mv (.od (.t 0)))) (.od (.c (.int .i64 (.ofNat 0)))))) (.b (some 18) false (.bin .eql) (.b (some 17) false .ixs (.u (some 16) .mv (.od (.t 0))) (.od (.c (.int .i64 (.ofNat 0))))) (.od (.c (.int .u8 (.ofNat 48))))))⟩])
 (.cond (.t 5) (.seq (.reg [⟨(some 3), none, (.u (some 4) .mv (.od (.c (.int .i64 (.ofNat 8)))))⟩])
 (.seq (.reg [⟨(some 6), none, (.gd (some 32) true false (.u (some 23) .mv (.b (some 22) false (.bin .gtr) (.u (some 21) .lens (.u (some 20) .mv (.od (.t 0)))) (.od (.c (.int .i64 (.ofNat 1)))))) (.gd (some 31) false true (.u (some 27) .mv (.b (some 26) false (.bin .eql) (.b (some 25) false .ixs (.u (some 24) .mv (.od (.t 0))) (.od (.c (.int .i64 (.ofNat 1))))) (.od (.c (.int .u8 (.ofNat 120)))))) (.b (some 30) false (.bin .eql) (.b (some 29) false .ixs (.u (some 28) .mv (.od (.t 0))) (.od (.c (.int .i64 (.ofNat 1))))) (.od (.c (.int .u8 (.ofNat 88)))))))⟩])
 (.cond (.t 6) (.seq (.reg [⟨(some 3), none, (.u (some 4) .mv (.od (.c (.int .i64 (.ofNat 16)))))⟩])
 (.reg [⟨(some 4), none, (.u (some 5) .mv (.od (.c (.int .i64 (.ofNat 2)))))⟩]))
 (.skip))))
 (.skip)))
 (.seq (.reg [⟨(some 7), none, (.u (some 6) .mv (.k (some 36) (.call 149) (.cons (.u (some 33) .mv (.od (.t 0))) (.cons (.u (some 34) .mv (.od (.t 4))) (.cons (.u (some 35) .mv (.od (.t 3))) .nil)))))⟩])
 (.seq (.seq (.reg [⟨(some 8), none, (.b (some 38) false (.bin .eql) (.u (some 37) .mv (.od (.t 7))) (.od (.c (.int .i64 (.ofNat 0)))))⟩])
 (.cond (.t 8) (.seq (.reg [⟨none, none, (.b none false (.sta 2) (.od (.t 1)) (.k (some 39) (.build [(.int .u64 (.ofNat 0)),(.bool false)] []) .nil))⟩,
 ⟨(some 2), none, (.u (some 3) .mv (.od (.c (.bool false))))⟩])
 (.ret))
 (.skip)))
 (.seq (.reg [⟨(some 9), none, (.u (some 7) .mv (.od (.c (.int .u64 (.ofNat 0)))))⟩])
 (.seq (.seq (.reg [⟨(some 10), none, (.u (some 8) .mv (.u (some 40) .mv (.od (.t 4))))⟩])
 (.blk 0 (.loop (.seq (.seq (.reg [⟨(some 11), none, (.b (some 45) false (.bin .lss) (.u (some 41) .mv (.od (.t 10))) (.b (some 44) false (.bin .add) (.u (some 42) .mv (.od (.t 4))) (.u (some 43) .mv (.od (.t 7)))))⟩])
 (.cond (.t 11) (.skip)
 (.exit 0)))
 (.seq (.blk 1 (.seq (.reg [⟨(some 12), none, (.u (some 9) .mv (.u (some 52) (.cvi .u64) (.k (some 51) (.call 150) (.cons (.b (some 50) false .ixs (.u (some 48) .mv (.od (.t 0))) (.u (some 49) .mv (.od (.t 10)))) .nil))))⟩])
 (.seq (.seq (.reg [⟨(some 13), none, (.b (some 59) false (.bin .gtr) (.u (some 53) .mv (.od (.t 9))) (.b (some 58) false (.bin .quo) (.b (some 55) false (.bin .sub) (.od (.c (.int .u64 (.ofNat 18446744073709551615)))) (.u (some 54) .mv (.od (.t 12)))) (.u (some 57) (.cvi .u64) (.u (some 56) .mv (.od (.t 3))))))⟩])
 (.cond (.t 13) (.seq (.reg [⟨none, none, (.b none false (.sta 2) (.od (.t 1)) (.k (some 60) (.build [(.int .u64 (.ofNat 0)),(.bool false)] []) .nil))⟩,
 ⟨(some 2), none, (.u (some 3) .mv (.od (.c (.bool false))))⟩])
 (.ret))
 (.skip)))
 (.reg [⟨(some 9), none, (.u (some 7) .mv (.b (some 66) false (.bin .add) (.b (some 64) false (.bin .mul) (.u (some 61) .mv (.od (.t 9))) (.u (some 63) (.cvi .u64) (.u (some 62) .mv (.od (.t 3))))) (.u (some 65) .mv (.od (.t 12)))))⟩]))))
 (.reg [⟨(some 10), none, (.u (some 8) .mv (.b (some 47) false (.bin .add) (.u (some 46) .mv (.od (.t 10))) (.od (.c (.int .i64 (.ofNat 1))))))⟩]))))))
 (.seq (.reg [⟨(some 14), none, (.u (some 67) .mv (.k (some 73) (.call 151) (.cons (.k (some 72) (.sls true false) (.cons (.u (some 68) .mv (.od (.t 0))) (.cons (.b (some 71) false (.bin .add) (.u (some 69) .mv (.od (.t 4))) (.u (some 70) .mv (.od (.t 7)))) .nil))) .nil)))⟩,
 ⟨(some 15), none, (.u (some 74) (.ext 0) (.od (.t 14)))⟩,
 ⟨(some 16), none, (.u (some 75) (.ext 1) (.od (.t 14)))⟩,
 ⟨(some 17), none, (.u (some 10) .mv (.od (.t 15)))⟩,
 ⟨(some 18), none, (.u (some 11) .mv (.od (.t 16)))⟩])
 (.seq (.seq (.reg [⟨(some 19), none, (.u (some 77) (.un .not) (.u (some 76) .mv (.od (.t 18))))⟩])
 (.cond (.t 19) (.seq (.reg [⟨none, none, (.b none false (.sta 2) (.od (.t 1)) (.k (some 78) (.build [(.int .u64 (.ofNat 0)),(.bool false)] []) .nil))⟩,
 ⟨(some 2), none, (.u (some 3) .mv (.od (.c (.bool false))))⟩])
 (.ret))
 (.skip)))
 (.seq (.reg [⟨none, none, (.b none false (.sta 2) (.od (.t 1)) (.k (some 85) (.build [(.int .u64 (.ofNat 0)),(.bool false)] [(0,1),(1,1)]) (.cons (.u (some 79) .mv (.od (.t 9))) (.cons (.gd (some 84) false true (.u (some 81) .mv (.u (some 80) .mv (.od (.t 17)))) (.b (some 83) false (.bin .gtr) (.u (some 82) .mv (.od (.t 9))) (.od (.c (.int .u64 (.ofNat 9223372036854775807)))))) .nil))))⟩,
 ⟨(some 2), none, (.u (some 3) .mv (.od (.c (.bool true))))⟩])
 (.ret)))))))))))
def lf92 : LF := ⟨20, 1, lc92, [.ca 1 2,.t 2], [0,2,3,4,5,19,32,6,38,7,8,45,9,59,67,74,75,10,11,77]⟩

-- oxbow/oxbowref9.Float
def lc93 : LC := (.seq (.reg [⟨(some 1), none, (.u (some 2) .mv (.od (.c (.bool false))))⟩])
 (.seq (.reg [⟨(some 2), none, (.u (some 3) .mv (.od (.c (.int .i64 (.ofNat 10)))))⟩,
 ⟨(some 3), none, (.u (some 4) .mv (.od (.c (.int .i64 (.ofNat 0)))))⟩])
 (.seq (.seq (.reg [⟨(some 4), none, (.gd (some 29) true false (.u (some 20) .mv (.gd (some 19) true false (.u (some 15) .mv (.b (some 14) false (.bin .gtr) (.u (some 13) .lens (.u (some 12) .mv (.od (.t 0)))) (.od (.c (.int .i64 (.ofNat 1)))))) (.b (some 18) false (.bin .eql) (.b (some 17) false .ixs (.u (some 16) .mv (.od (.t 0))) (.od (.c (.int .i64 (.ofNat 0))))) (.od (.c (.int .u8 (.ofNat 48))))))) (.gd (some 28) false true (.u (some 24) .mv (.b (some 23) false (.bin .eql) (.b (some 22) false .ixs (.u (some 21) .mv (.od (.t 0))) (.od (.c (.int .i64 (.ofNat 1))))) (.od (.c (.int .u8 (.ofNat 120)))))) (.b (some 27) false (.bin .eql) (.b (some 26) false .ixs (.u (some 25) .mv (.od (.t 0))) (.od (.c (.int .i64 (.ofNat 1))))) (.od (.c (.int .u8 (.ofNat 88)))))))⟩])
 (.cond (.t 4) (.seq (.reg [⟨(some 2), none, (.u (some 3) .mv (.od (.c (.int .i64 (.ofNat 16)))))⟩])
 (.reg [⟨(some 3), none, (.u (some 4) .mv (.od (.c (.int .i64 (.ofNat 2)))))⟩]))
 (.skip)))
 (.seq (.reg [⟨(some 5), none, (.u (some 5) .mv (.k (some 33) (.call 149) (.cons (.u (some 30) .mv (.od (.t 0))) (.cons (.u (some 31) .mv (.od (.t 3))) (.cons (.u (some 32) .mv (.od (.t 2))) .nil)))))⟩])
 (.seq (.reg [⟨(some 6), none, (.u (some 6) .mv (.b (some 36) false (.bin .add) (.u (some 34) .mv (.od (.t 3))) (.u (some 35) .mv (.od (.t 5)))))⟩])
 (.seq (.reg [⟨(some 7), none, (.u (some 7) .mv (.gd (some 46) true false (.u (some 41) .mv (.b (some 40) false (.bin .lss) (.u (some 37) .mv (.od (.t 6))) (.u (some 39) .lens (.u (some 38) .mv (.od (.t 0)))))) (.b (some 45) false (.bin .eql) (.b (some 44) false .ixs (.u (some 42) .mv (.od (.t 0))) (.u (some 43) .mv (.od (.t 6)))) (.od (.c (.int .u8 (.ofNat 46)))))))⟩])
 (.seq (.seq (.reg [⟨(some 8), none, (.u (some 47) .mv (.od (.t 7)))⟩])
 (.cond (.t 8) (.seq (.reg [⟨(some 9), none, (.u (some 8) .mv (.k (some 52) (.call 149) (.cons (.u (some 48) .mv (.od (.t 0))) (.cons (.b (some 50) false (.bin .add) (.u (some 49) .mv (.od (.t 6))) (.od (.c (.int .i64 (.ofNat 1))))) (.cons (.u (some 51) .mv (.od (.t 2))) .nil)))))⟩])
 (.seq (.reg [⟨(some 5), none, (.u (some 5) .mv (.b (some 55) false (.bin .add) (.u (some 53) .mv (.od (.t 5))) (.u (some 54) .mv (.od (.t 9)))))⟩])
 (.reg [⟨(some 6), none, (.u (some 6) .mv (.b (some 59) false (.bin .add) (.b (some 57) false (.bin .add) (.u (some 56) .mv (.od (.t 6))) (.od (.c (.int .i64 (.ofNat 1))))) (.u (some 58) .mv (.od (.t 9)))))⟩])))
 (.skip)))
 (.seq (.seq (.reg [⟨(some 10), none, (.b (some 61) false (.bin .eql) (.u (some 60) .mv (.od (.t 5))) (.od (.c (.int .i64 (.ofNat 0)))))⟩])
 (.cond (.t 10) (.seq (.reg [⟨(some 1), none, (.u (some 2) .mv (.od (.c (.bool false))))⟩])
 (.ret))
 (.skip)))
 (.seq (.reg [⟨(some 11), none, (.u (some 9) .mv (.gd (some 97) true false (.u (some 66) .mv (.b (some 65) false (.bin .lss) (.u (some 62) .mv (.od (.t 6))) (.u (some 64) .lens (.u (some 63) .mv (.od (.t 0)))))) (.gd (some 96) false true (.u (some 81) .mv (.gd (some 80) true false (.u (some 69) .mv (.b (some 68) false (.bin .eql) (.u (some 67) .mv (.od (.t 2))) (.od (.c (.int .i64 (.ofNat 10)))))) (.gd (some 79) false true (.u (some 74) .mv (.b (some 73) false (.bin .eql) (.b (some 72) false .ixs (.u (some 70) .mv (.od (.t 0))) (.u (some 71) .mv (.od (.t 6)))) (.od (.c (.int .u8 (.ofNat 101)))))) (.b (some 78) false (.bin .eql) (.b (some 77) false .ixs (.u (some 75) .mv (.od (.t 0))) (.u (some 76) .mv (.od (.t 6)))) (.od (.c (.int .u8 (.ofNat 69)))))))) (.gd (some 95) true false (.u (some 84) .mv (.b (some 83) false (.bin .eql) (.u (some 82) .mv (.od (.t 2))) (.od (.c (.int .i64 (.ofNat 16)))))) (.gd (some 94) false true (.u (some 89) .mv (.b (some 88) false (.bin .eql) (.b (some 87) false .ixs (.u (some 85) .mv (.od (.t 0))) (.u (some 86) .mv (.od (.t 6)))) (.od (.c (.int .u8 (.ofNat 112)))))) (.b (some 93) false (.bin .eql) (.b (some 92) false .ixs (.u (some 90) .mv (.od (.t 0))) (.u (some 91) .mv (.od (.t 6)))) (.od (.c (.int .u8 (.ofNat 80))))))))))⟩])
 (.seq (.seq (.reg [⟨(some 12), none, (.u (some 98) .mv (.od (.t 11)))⟩])
 (.cond (.t 12) (.seq (.reg [⟨(some 13), none, (.u (some 99) .mv (.k (some 103) (.call 152) (.cons (.u (some 100) .mv (.od (.t 0))) (.cons (.b (some 102) false (.bin .add) (.u (some 101) .mv (.od (.t 6))) (.od (.c (.int .i64 (.ofNat 1))))) .nil))))⟩,
 ⟨(some 14), none, (.u (some 104) (.ext 0) (.od (.t 13)))⟩,
 ⟨(some 15), none, (.u (some 105) (.ext 1) (.od (.t 13)))⟩,
 ⟨(some 16), none, (.u (some 10) .mv (.od (.t 14)))⟩,
 ⟨(some 17), none, (.u (some 11) .mv (.od (.t 15)))⟩])
 (.seq (.seq (.reg [⟨(some 18), none, (.u (some 107) (.un .not) (.u (some 106) .mv (.od (.t 17))))⟩])
 (.cond (.t 18) (.seq (.reg [⟨(some 1), none, (.u (some 2) .mv (.od (.c (.bool false))))⟩])
 (.ret))
 (.skip)))
 (.reg [⟨(some 6), none, (.u (some 6) .mv (.u (some 108) .mv (.od (.t 16))))⟩])))
 (.skip)))
 (.seq (.seq (.reg [⟨(some 19), none, (.gd (some 118) true false (.u (some 111) .mv (.u (some 110) (.un .not) (.u (some 109) .mv (.od (.t 11))))) (.gd (some 117) false true (.u (some 114) .mv (.b (some 113) false (.bin .eql) (.u (some 112) .mv (.od (.t 2))) (.od (.c (.int .i64 (.ofNat 16)))))) (.u (some 116) (.un .not) (.u (some 115) .mv (.od (.t 7))))))⟩])
 (.cond (.t 19) (.seq (.reg [⟨(some 1), none, (.u (some 2) .mv (.od (.c (.bool false))))⟩])
 (.ret))
 (.skip)))
 (.seq (.reg [⟨(some 1), none, (.u (some 2) .mv (.gd (some 153) false true (.u (some 123) .mv (.b (some 122) false (.bin .eql) (.u (some 119) .mv (.od (.t 6))) (.u (some 121) .lens (.u (some 120) .mv (.od (.t 0)))))) (.gd (some 152) true false (.u (some 129) .mv (.b (some 128) false (.bin .eql) (.b (some 125) false (.bin .add) (.u (some 124) .mv (.od (.t 6))) (.od (.c (.int .i64 (.ofNat 1))))) (.u (some 127) .lens (.u (some 126) .mv (.od (.t 0)))))) (.gd (some 151) false true (.u (some 146) .mv (.gd (some 145) false true (.u (some 140) .mv (.gd (some 139) false true (.u (some 134) .mv (.b (some 133) false (.bin .eql) (.b (some 132) false .ixs (.u (some 130) .mv (.od (.t 0))) (.u (some 131) .mv (.od (.t 6)))) (.od (.c (.int .u8 (.ofNat 102)))))) (.b (some 138) false (.bin .eql) (.b (some 137) false .ixs (.u (some 135) .mv (.od (.t 0))) (.u (some 136) .mv (.od (.t 6)))) (.od (.c (.int .u8 (.ofNat 70))))))) (.b (some 144) false (.bin .eql) (.b (some 143) false .ixs (.u (some 141) .mv (.od (.t 0))) (.u (some 142) .mv (.od (.t 6)))) (.od (.c (.int .u8 (.ofNat 108))))))) (.b (some 150) false (.bin .eql) (.b (some 149) false .ixs (.u (some 147) .mv (.od (.t 0))) (.u (some 148) .mv (.od (.t 6)))) (.od (.c (.int .u8 (.ofNat 76)))))))))⟩])
 (.ret)))))))))))))
def lf93 : LF := ⟨20, 1, lc93, [.t 1], [0,2,3,4,29,5,6,7,47,8,61,9,98,99,104,105,10,11,107,118]⟩

-- oxbow/oxbowref9.Char
def lc94 : LC := (.seq (.reg [⟨(some 1), none, (.a (some 2) [(.int .u64 (.ofNat 0)),(.bool false)] 163)⟩,
 ⟨(some 2), none, (.u (some 3) .mv (.od (.c (.bool false))))⟩])
 (.seq (.reg [⟨(some 3), none, (.u (some 11) .mv (.k (some 13) (.call 153) (.cons (.u (some 12) .mv (.od (.t 0))) .nil)))⟩,
 ⟨(some 4), none, (.u (some 14) (.ext 0) (.od (.t 3)))⟩,
 ⟨(some 5), none, (.u (some 15) (.ext 1) (.od (.t 3)))⟩,
 ⟨(some 6), none, (.u (some 16) (.ext 2) (.od (.t 3)))⟩,
 ⟨(some 7), none, (.u (some 4) .mv (.od (.t 4)))⟩,
 ⟨(some 8), none, (.u (some 5) .mv (.od (.t 5)))⟩,
 ⟨(some 9), none, (.u (some 6) .mv (.od (.t 6)))⟩])
 (.seq (.reg [⟨(some 10), none, (.u (some 17) .mv (.k (some 19) (.call 96) (.cons (.u (some 18) .mv (.od (.t 0))) .nil)))⟩,
 ⟨(some 11), none, (.u (some 20) (.ext 0) (.od (.t 10)))⟩,
 ⟨(some 12), none, (.u (some 21) (.ext 1) (.od (.t 10)))⟩,
 ⟨(some 13), none, (.u (some 7) .mv (.od (.t 11)))⟩,
 ⟨(some 14), none, (.u (some 8) .mv (.od (.t 12)))⟩])
 (.seq (.seq (.reg [⟨(some 15), none, (.gd (some 45) false true (.u (some 41) .mv (.gd (some 40) false true (.u (some 36) .mv (.gd (some 35) false true (.u (some 32) .mv (.gd (some 31) false true (.u (some 28) .mv (.gd (some 27) false true (.u (some 24) .mv (.u (some 23) (.un .not) (.u (some 22) .mv (.od (.t 9))))) (.u (some 26) (.un .not) (.u (some 25) .mv (.od (.t 14)))))) (.b (some 30) false (.bin .neq) (.u (some 29) .mv (.od (.t 8))) (.od (.c (.int .u8 (.ofNat 39))))))) (.b (some 34) false (.bin .eql) (.u (some 33) .mv (.od (.t 7))) (.od (.c (.str [117,56])))))) (.b (some 39) false (.bin .lss) (.u (some 38) .lens (.u (some 37) .mv (.od (.t 13)))) (.od (.c (.int .i64 (.ofNat 1))))))) (.b (some 44) false (.bin .gtr) (.u (some 43) .lens (.u (some 42) .mv (.od (.t 13)))) (.od (.c (.int .i64 (.ofNat 8))))))⟩])
 (.cond (.t 15) (.seq (.reg [⟨none, none, (.b none false (.sta 2) (.od (.t 1)) (.k (some 46) (.build [(.int .u64 (.ofNat 0)),(.bool false)] []) .nil))⟩,
 ⟨(some 2), none, (.u (some 3) .mv (.od (.c (.bool false))))⟩])
 (.ret))
 (.skip)))
 (.seq (.reg [⟨(some 16), none, (.u (some 9) .mv (.od (.c (.int .i64 (.ofNat 0)))))⟩])
 (.seq (.seq (.reg [⟨(some 17), none, (.b (some 49) false (.bin .eql) (.u (some 48) .lens (.u (some 47) .mv (.od (.t 13)))) (.od (.c (.int .i64 (.ofNat 1)))))⟩])
 (.cond (.t 17) (.seq (.reg [⟨(some 16), none, (.u (some 9) .mv (.u (some 52) (.cvi .i64) (.b (some 51) false .ixs (.u (some 50) .mv (.od (.t 13))) (.od (.c (.int .i64 (.ofNat 0)))))))⟩])
 (.seq (.reg [⟨(some 18), none, (.b (some 54) false (.bin .gtr) (.u (some 53) .mv (.od (.t 16))) (.od (.c (.int .i64 (.ofNat 127)))))⟩])
 (.cond (.t 18) (.reg [⟨(some 16), none, (.u (some 9) .mv (.b (some 56) false (.bin .sub) (.u (some 55) .mv (.od (.t 16))) (.od (.c (.int .i64 (.ofNat 256))))))⟩])
 (.skip))))
 (.seq (.seq (.reg [⟨(some 19), none, (.u (some 10) .mv (.od (.c (.int .i64 (.ofNat 0)))))⟩])
 (.blk 0 (.loop (.seq (.seq (.reg [⟨(some 20), none, (.b (some 60) false (.bin .lss) (.u (some 57) .mv (.od (.t 19))) (.u (some 59) .lens (.u (some 58) .mv (.od (.t 13)))))⟩])
 (.cond (.t 20) (.skip)
 (.exit 0)))
 (.seq (.blk 1 (.reg [⟨(some 16), none, (.u (some 9) .mv (.b (some 70) false (.bin .rem) (.b (some 69) false (.bin .add) (.b (some 64) false (.bin .mul) (.u (some 63) .mv (.od (.t 16))) (.od (.c (.int .i64 (.ofNat 256))))) (.u (some 68) (.cvi .i64) (.b (some 67) false .ixs (.u (some 65) .mv (.od (.t 13))) (.u (some 66) .mv (.od (.t 19)))))) (.od (.c (.int .i64 (.ofNat 4294967296))))))⟩]))
 (.reg [⟨(some 19), none, (.u (some 10) .mv (.b (some 62) false (.bin .add) (.u (some 61) .mv (.od (.t 19))) (.od (.c (.int .i64 (.ofNat 1))))))⟩]))))))
 (.seq (.reg [⟨(some 21), none, (.b (some 72) false (.bin .geq) (.u (some 71) .mv (.od (.t 16))) (.od (.c (.int .i64 (.ofNat 2147483648)))))⟩])
 (.cond (.t 21) (.reg [⟨(some 16), none, (.u (some 9) .mv (.b (some 74) false (.bin .sub) (.u (some 73) .mv (.od (.t 16))) (.od (.c (.int .i64 (.ofNat 4294967296))))))⟩])
 (.skip))))))
 (.seq (.reg [⟨none, none, (.b none false (.sta 2) (.od (.t 1)) (.k (some 83) (.build [(.int .u64 (.ofNat 0)),(.bool false)] [(0,1),(1,1)]) (.cons (.u (some 76) (.cvi .u64) (.u (some 75) .mv (.od (.t 16)))) (.cons (.gd (some 82) false true (.u (some 79) .mv (.b (some 78) false (.bin .eql) (.u (some 77) .mv (.od (.t 7))) (.od (.c (.str [117]))))) (.b (some 81) false (.bin .eql) (.u (some 80) .mv (.od (.t 7))) (.od (.c (.str [85]))))) .nil))))⟩,
 ⟨(some 2), none, (.u (some 3) .mv (.od (.c (.bool true))))⟩])
 (.ret))))))))
def lf94 : LF := ⟨22, 1, lc94, [.ca 1 2,.t 2], [0,2,3,11,14,15,16,4,5,6,17,20,21,7,8,45,9,49,54,10,60,72]⟩

-- oxbow/oxbowref17.usual
def lc95 : LC := (.seq (.reg [⟨(some 1), none, (.u (some 2) .mv (.od (.c (.str []))))⟩,
 ⟨(some 2), none, (.u (some 3) .mv (.od (.c (.bool false))))⟩])
 (.seq (.seq (.reg [⟨(some 3), none, (.u (some 4) .mv (.od (.t 0)))⟩])
 (.blk 0 (.seq (.seq (.reg [⟨(some 4), none, (.u (some 5) .mv (.b (some 6) false (.bin .eql) (.od (.t 3)) (.od (.c (.str [35])))))⟩])
 (.cond (.t 4) (.skip)
 (.seq (.reg [⟨(some 4), none, (.u (some 5) .mv (.b (some 7) false (.bin .eql) (.od (.t 3)) (.od (.c (.str [35,35])))))⟩])
 (.cond (.t 4) (.skip)
 (.seq (.reg [⟨(some 4), none, (.u (some 5) .mv (.b (some 8) false (.bin .eql) (.od (.t 3)) (.od (.c (.str [37,58])))))⟩])
 (.cond (.t 4) (.skip)
 (.reg [⟨(some 4), none, (.u (some 5) .mv (.b (some 9) false (.bin .eql) (.od (.t 3)) (.od (.c (.str [37,58,37,58])))))⟩])))))))
 (.cond (.t 4) (.seq (.reg [⟨(some 1), none, (.u (some 2) .mv (.u (some 10) .mv (.od (.t 0))))⟩,
 ⟨(some 2), none, (.u (some 3) .mv (.od (.c (.bool false))))⟩])
 (.ret))
 (.seq (.reg [⟨(some 5), none, (.u (some 11) .mv (.b (some 12) false (.bin .eql) (.od (.t 3)) (.od (.c (.str [60,58])))))⟩])
 (.cond (.t 5) (.seq (.reg [⟨(some 1), none, (.u (some 2) .mv (.od (.c (.str [91]))))⟩,
 ⟨(some 2), none, (.u (some 3) .mv (.od (.c (.bool true))))⟩])
 (.ret))
 (.seq (.reg [⟨(some 6), none, (.u (some 13) .mv (.b (some 14) false (.bin .eql) (.od (.t 3)) (.od (.c (.str [58,62])))))⟩])
 (.cond (.t 6) (.seq (.reg [⟨(some 1), none, (.u (some 2) .mv (.od (.c (.str [93]))))⟩,
 ⟨(some 2), none, (.u (some 3) .mv (.od (.c (.bool true))))⟩])
 (.ret))
 (.seq (.reg [⟨(some 7), none, (.u (some 15) .mv (.b (some 16) false (.bin .eql) (.od (.t 3)) (.od (.c (.str [60,37])))))⟩])
 (.cond (.t 7) (.seq (.reg [⟨(some 1), none, (.u (some 2) .mv (.od (.c (.str [123]))))⟩,
 ⟨(some 2), none, (.u (some 3) .mv (.od (.c (.bool true))))⟩])
 (.ret))
 (.seq (.reg [⟨(some 8), none, (.u (some 17) .mv (.b (some 18) false (.bin .eql) (.od (.t 3)) (.od (.c (.str [37,62])))))⟩])
 (.cond (.t 8) (.seq (.reg [⟨(some 1), none, (.u (some 2) .mv (.od (.c (.str [125]))))⟩,
 ⟨(some 2), none, (.u (some 3) .mv (.od (.c (.bool true))))⟩])
 (.ret))
 (.skip)))))))))))))
 (.seq (.reg [⟨(some 1), none, (.u (some 2) .mv (.u (some 19) .mv (.od (.t 0))))⟩,
 ⟨(some 2), none, (.u (some 3) .mv (.od (.c (.bool true))))⟩])
 (.ret))))
def lf95 : LF := ⟨9, 1, lc95, [.t 1,.t 2], [0,2,3,4,5,11,13,15,17]⟩

-- oxbow/oxbowref9.Bytes
def lc96 : LC := (.seq (.reg [⟨(some 1), none, (.u (some 2) .mv (.od (.c (.str []))))⟩,
 ⟨(some 2), none, (.u (some 3) .mv (.od (.c (.bool false))))⟩])
 (.seq (.reg [⟨(some 3), none, (.u (some 12) .mv (.k (some 14) (.call 153) (.cons (.u (some 13) .mv (.od (.t 0))) .nil)))⟩,
 ⟨(some 4), none, (.u (some 15) (.ext 0) (.od (.t 3)))⟩,
 ⟨(some 5), none, (.u (some 16) (.ext 1) (.od (.t 3)))⟩,
 ⟨(some 6), none, (.u (some 17) (.ext 2) (.od (.t 3)))⟩,
 ⟨(some 7), none, (.u (some 4) .mv (.od (.t 4)))⟩,
 ⟨(some 8), none, (.u (some 5) .mv (.od (.t 5)))⟩,
 ⟨(some 9), none, (.u (some 6) .mv (.od (.t 6)))⟩])
 (.seq (.seq (.reg [⟨(some 10), none, (.u (some 19) (.un .not) (.u (some 18) .mv (.od (.t 9))))⟩])
 (.cond (.t 10) (.seq (.reg [⟨(some 1), none, (.u (some 2) .mv (.od (.c (.str []))))⟩,
 ⟨(some 2), none, (.u (some 3) .mv (.od (.c (.bool false))))⟩])
 (.ret))
 (.skip)))
 (.seq (.reg [⟨(some 11), none, (.u (some 7) .mv (.k (some 27) (.sls true true) (.cons (.u (some 20) .mv (.od (.t 0))) (.cons (.b (some 23) false (.bin .add) (.u (some 22) .lens (.u (some 21) .mv (.od (.t 7)))) (.od (.c (.int .i64 (.ofNat 1))))) (.cons (.b (some 26) false (.bin .sub) (.u (some 25) .lens (.u (some 24) .mv (.od (.t 0)))) (.od (.c (.int .i64 (.ofNat 1))))) .nil)))))⟩])
 (.seq (.reg [⟨(some 12), none, (.u (some 8) .mv (.od (.c .nils)))⟩])
 (.seq (.seq (.reg [⟨(some 13), none, (.u (some 9) .mv (.od (.c (.int .i64 (.ofNat 0)))))⟩])
 (.blk 0 (.loop (.seq (.seq (.reg [⟨(some 14), none, (.b (some 31) false (.bin .lss) (.u (some 28) .mv (.od (.t 13))) (.u (some 30) .lens (.u (some 29) .mv (.od (.t 11)))))⟩])
 (.cond (.t 14) (.skip)
 (.exit 0)))
 (.seq (.blk 1 (.seq (.reg [⟨(some 15), none, (.b (some 36) false .ixs (.u (some 34) .mv (.od (.t 11))) (.u (some 35) .mv (.od (.t 13))))⟩])
 (.blk 2 (.seq (.reg [⟨(some 16), none, (.u (some 43) .mv (.b (some 45) false (.bin .eql) (.od (.t 15)) (.u (some 44) .mv (.od (.t 8)))))⟩])
 (.cond (.t 16) (.seq (.reg [⟨(some 1), none, (.u (some 2) .mv (.od (.c (.str []))))⟩,
 ⟨(some 2), none, (.u (some 3) .mv (.od (.c (.bool false))))⟩])
 (.ret))
 (.seq (.reg [⟨(some 17), none, (.u (some 46) .mv (.b (some 47) false (.bin .eql) (.od (.t 15)) (.od (.c (.int .u8 (.ofNat 92))))))⟩])
 (.cond (.t 17) (.seq (.reg [⟨(some 18), none, (.u (some 48) .mv (.k (some 53) (.call 154) (.cons (.k (some 52) (.sls true false) (.cons (.u (some 49) .mv (.od (.t 11))) (.cons (.b (some 51) false (.bin .add) (.u (some 50) .mv (.od (.t 13))) (.od (.c (.int .i64 (.ofNat 1))))) .nil))) .nil)))⟩,
 ⟨(some 19), none, (.u (some 54) (.ext 0) (.od (.t 18)))⟩,
 ⟨(some 20), none, (.u (some 55) (.ext 1) (.od (.t 18)))⟩,
 ⟨(some 21), none, (.u (some 10) .mv (.od (.t 19)))⟩,
 ⟨(some 22), none, (.u (some 11) .mv (.od (.t 20)))⟩])
 (.seq (.seq (.reg [⟨(some 23), none, (.b (some 57) false (.bin .eql) (.u (some 56) .mv (.od (.t 22))) (.od (.c (.int .i64 (.ofNat 0)))))⟩])
 (.cond (.t 23) (.seq (.reg [⟨(some 1), none, (.u (some 2) .mv (.od (.c (.str []))))⟩,
 ⟨(some 2), none, (.u (some 3) .mv (.od (.c (.bool false))))⟩])
 (.ret))
 (.skip)))
 (.seq (.reg [⟨(some 12), none, (.u (some 8) .mv (.b (some 61) false (.app 1 1 5) (.u (some 58) .mv (.od (.t 12))) (.k (some 60) (.bsl 1 5) (.cons (.u (some 59) .mv (.od (.t 21))) .nil))))⟩])
 (.reg [⟨(some 13), none, (.u (some 9) .mv (.b (some 64) false (.bin .add) (.u (some 62) .mv (.od (.t 13))) (.u (some 63) .mv (.od (.t 22)))))⟩]))))
 (.reg [⟨(some 12), none, (.u (some 8) .mv (.b (some 42) false (.app 1 1 5) (.u (some 37) .mv (.od (.t 12))) (.k (some 41) (.bsl 1 5) (.cons (.b (some 40) false .ixs (.u (some 38) .mv (.od (.t 11))) (.u (some 39) .mv (.od (.t 13)))) .nil))))⟩]))))))))
 (.reg [⟨(some 13), none, (.u (some 9) .mv (.b (some 33) false (.bin .add) (.u (some 32) .mv (.od (.t 13))) (.od (.c (.int .i64 (.ofNat 1))))))⟩]))))))
 (.seq (.reg [⟨(some 1), none, (.u (some 2) .mv (.u (some 66) .cvbs (.u (some 65) .mv (.od (.t 12)))))⟩,
 ⟨(some 2), none, (.u (some 3) .mv (.od (.c (.bool true))))⟩])
 (.ret))))))))
def lf96 : LF := ⟨24, 1, lc96, [.t 1,.t 2], [0,2,3,12,15,16,17,4,5,6,19,7,8,9,31,36,43,46,48,54,55,10,11,57]⟩

-- oxbow/oxbowref17.prefix
def lc97 : LC := (.seq (.reg [⟨(some 1), none, (.u (some 2) .mv (.od (.c (.str []))))⟩])
 (.seq (.seq (.reg [⟨(some 2), none, (.u (some 3) .mv (.od (.c (.int .i64 (.ofNat 0)))))⟩])
 (.blk 0 (.loop (.seq (.seq (.reg [⟨(some 3), none, (.b (some 7) false (.bin .lss) (.u (some 4) .mv (.od (.t 2))) (.u (some 6) .lens (.u (some 5) .mv (.od (.t 0)))))⟩])
 (.cond (.t 3) (.skip)
 (.exit 0)))
 (.seq (.blk 1 (.seq (.reg [⟨(some 4), none, (.gd (some 19) false true (.u (some 14) .mv (.b (some 13) false (.bin .eql) (.b (some 12) false .ixs (.u (some 10) .mv (.od (.t 0))) (.u (some 11) .mv (.od (.t 2)))) (.od (.c (.int .u8 (.ofNat 34)))))) (.b (some 18) false (.bin .eql) (.b (some 17) false .ixs (.u (some 15) .mv (.od (.t 0))) (.u (some 16) .mv (.od (.t 2)))) (.od (.c (.int .u8 (.ofNat 39))))))⟩])
 (.cond (.t 4) (.seq (.reg [⟨(some 1), none, (.u (some 2) .mv (.k (some 22) (.sls false true) (.cons (.u (some 20) .mv (.od (.t 0))) (.cons (.u (some 21) .mv (.od (.t 2))) .nil))))⟩])
 (.ret))
 (.skip))))
 (.reg [⟨(some 2), none, (.u (some 3) .mv (.b (some 9) false (.bin .add) (.u (some 8) .mv (.od (.t 2))) (.od (.c (.int .i64 (.ofNat 1))))))⟩]))))))
 (.seq (.reg [⟨(some 1), none, (.u (some 2) .mv (.od (.c (.str []))))⟩])
 (.ret))))
def lf97 : LF := ⟨5, 1, lc97, [.t 1], [0,2,3,7,19]⟩

-- oxbow/oxbowref9.Quoted
def lc98 : LC := (.seq (.reg [⟨(some 1), none, (.u (some 2) .mv (.od (.c (.str []))))⟩])
 (.seq (.reg [⟨(some 2), none, (.u (some 3) .mv (.k (some 5) (.bsl 1 5) (.cons (.od (.c (.int .u8 (.ofNat 34)))) .nil)))⟩])
 (.seq (.seq (.reg [⟨(some 3), none, (.u (some 4) .mv (.od (.c (.int .i64 (.ofNat 0)))))⟩])
 (.blk 0 (.loop (.seq (.seq (.reg [⟨(some 4), none, (.b (some 9) false (.bin .lss) (.u (some 6) .mv (.od (.t 3))) (.u (some 8) .lens (.u (some 7) .mv (.od (.t 0)))))⟩])
 (.cond (.t 4) (.skip)
 (.exit 0)))
 (.seq (.blk 1 (.seq (.seq (.reg [⟨(some 5), none, (.gd (some 21) false true (.u (some 16) .mv (.b (some 15) false (.bin .eql) (.b (some 14) false .ixs (.u (some 12) .mv (.od (.t 0))) (.u (some 13) .mv (.od (.t 3)))) (.od (.c (.int .u8 (.ofNat 34)))))) (.b (some 20) false (.bin .eql) (.b (some 19) false .ixs (.u (some 17) .mv (.od (.t 0))) (.u (some 18) .mv (.od (.t 3)))) (.od (.c (.int .u8 (.ofNat 92))))))⟩])
 (.cond (.t 5) (.reg [⟨(some 2), none, (.u (some 3) .mv (.b (some 24) false (.app 1 1 5) (.u (some 22) .mv (.od (.t 2))) (.k (some 23) (.bsl 1 5) (.cons (.od (.c (.int .u8 (.ofNat 92)))) .nil))))⟩])
 (.skip)))
 (.reg [⟨(some 2), none, (.u (some 3) .mv (.b (some 30) false (.app 1 1 5) (.u (some 25) .mv (.od (.t 2))) (.k (some 29) (.bsl 1 5) (.cons (.b (some 28) false .ixs (.u (some 26) .mv (.od (.t 0))) (.u (some 27) .mv (.od (.t 3)))) .nil))))⟩])))
 (.reg [⟨(some 3), none, (.u (some 4) .mv (.b (some 11) false (.bin .add) (.u (some 10) .mv (.od (.t 3))) (.od (.c (.int .i64 (.ofNat 1))))))⟩]))))))
 (.seq (.reg [⟨(some 1), none, (.u (some 2) .mv (.u (some 34) .cvbs (.b (some 33) false (.app 1 1 5) (.u (some 31) .mv (.od (.t 2))) (.k (some 32) (.bsl 1 5) (.cons (.od (.c (.int .u8 (.ofNat 34)))) .nil)))))⟩])
 (.ret)))))
def lf98 : LF := ⟨6, 1, lc98, [.t 1], [0,2,3,4,9,21]⟩

-- (*oxbow/express.Reader).begins
def lc99 : LC := (.seq (.reg [⟨(some 2), none, (.u (some 3) (.box 95) (.od (.t 1)))⟩,
 ⟨(some 3), none, (.u (some 4) .mv (.od (.c (.bool false))))⟩])
 (.seq (.seq (.reg [⟨(some 4), none, (.b (some 7) false (.bin .eql) (.u (some 6) .ld (.u (some 5) (.fad 0) (.od (.t 2)))) (.od (.c (.int .i64 (.ofNat 2)))))⟩])
 (.cond (.t 4) (.seq (.reg [⟨(some 3), none, (.u (some 4) .mv (.b (some 11) false (.bin .neq) (.k (some 10) (.call 155) (.cons (.u (some 9) .ld (.u (some 8) (.fad 1) (.od (.t 2)))) .nil)) (.od (.c (.str [])))))⟩])
 (.ret))
 (.skip)))
 (.seq (.reg [⟨(some 3), none, (.u (some 4) .mv (.k (some 14) (.call 156) (.cons (.u (some 12) .mv (.od (.t 0))) (.cons (.u (some 13) (.lda 7) (.od (.t 2))) .nil))))⟩])
 (.ret))))
def lf99 : LF := ⟨5, 2, lc99, [.t 3], [0,1,3,4,7]⟩

-- (*oxbow/express.Reader).Tok
def lc100 : LC := (.seq (.reg [⟨(some 1), none, (.a (some 2) [(.int .i64 (.ofNat 0)),(.str []),(.str []),(.int .i64 (.ofNat 0)),(.int .i64 (.ofNat 0)),(.int .i64 (.ofNat 0)),(.int .i64 (.ofNat 0))] 95)⟩])
 (.seq (.reg [⟨none, none, (.b none false (.sta 7) (.od (.t 1)) (.k (some 4) (.call 157) (.cons (.u (some 3) .mv (.od (.t 0))) (.cons (.od (.c (.int .i64 (.ofNat 0)))) .nil))))⟩])
 (.ret)))
def lf100 : LF := ⟨2, 1, lc100, [.ca 1 7], [0,2]⟩

-- (*oxbow/oxbowref17.Parser).tok
def lc101 : LC := (.seq (.reg [⟨(some 2), none, (.a (some 4) [(.int .i64 (.ofNat 0)),(.str []),(.str []),(.int .i64 (.ofNat 0)),(.int .i64 (.ofNat 0)),(.int .i64 (.ofNat 0)),(.int .i64 (.ofNat 0))] 94)⟩])
 (.seq (.seq (.drw [⟨.p, [], ⟨(some 3), none, (.u (some 5) .mv (.od (.t 0)))⟩⟩,
 ⟨.p, [0], ⟨(some 4), none, (.u (some 6) .nck (.od (.t 3)))⟩⟩,
 ⟨.p, [0,1], ⟨(some 5), none, (.u (some 7) (.fad 1) (.od (.t 4)))⟩⟩,
 ⟨(.l 0 0), [0,1,2], ⟨(some 6), none, (.u (some 8) .ld (.od (.t 5)))⟩⟩,
 ⟨.p, [], ⟨(some 7), none, (.u (some 9) .mv (.od (.t 1)))⟩⟩,
 ⟨.p, [0,1,2,3,4], ⟨(some 8), none, (.b (some 10) false (.bin .add) (.od (.t 6)) (.od (.t 7)))⟩⟩,
 ⟨.p, [0,1,2,3,4,5], ⟨(some 9), none, (.b (some 11) false (.bin .lss) (.od (.t 8)) (.od (.c (.int .i64 (.ofNat 0)))))⟩⟩,
 ⟨.p, [0,1,2,3,4,5,6], ⟨(some 10), none, (.u (some 12) .mv (.od (.t 9)))⟩⟩,
 ⟨.p, [0,1,2,3,4,5,6,7], ⟨(some 11), some (10, false), (.u (some 13) .mv (.od (.t 0)))⟩⟩,
 ⟨.p, [0,1,2,3,4,5,6,7,8], ⟨(some 12), some (10, false), (.u (some 14) .nck (.od (.t 11)))⟩⟩,
 ⟨.p, [0,1,2,3,4,5,6,7,8,9], ⟨(some 13), some (10, false), (.u (some 15) (.fad 1) (.od (.t 12)))⟩⟩,
 ⟨(.l 0 0), [0,1,2,3,4,5,6,7,8,9,10], ⟨(some 14), some (10, false), (.u (some 16) .ld (.od (.t 13)))⟩⟩,
 ⟨.p, [0,1,2,3,4,5,6,7], ⟨(some 15), some (10, false), (.u (some 17) .mv (.od (.t 1)))⟩⟩,
 ⟨.p, [0,1,2,3,4,5,6,7,8,9,10,11,12], ⟨(some 16), some (10, false), (.b (some 18) false (.bin .add) (.od (.t 14)) (.od (.t 15)))⟩⟩,
 ⟨.p, [0,1,2,3,4,5,6,7], ⟨(some 17), some (10, false), (.u (some 19) .mv (.od (.t 0)))⟩⟩,
 ⟨.p, [0,1,2,3,4,5,6,7,14], ⟨(some 18), some (10, false), (.u (some 20) .nck (.od (.t 17)))⟩⟩,
 ⟨.p, [0,1,2,3,4,5,6,7,14,15], ⟨(some 19), some (10, false), (.u (some 21) (.fad 0) (.od (.t 18)))⟩⟩,
 ⟨(.l 0 0), [0,1,2,3,4,5,6,7,14,15,16], ⟨(some 20), some (10, false), (.u (some 22) .ld (.od (.t 19)))⟩⟩,
 ⟨.p, [0,1,2,3,4,5,6,7,14,15,16,17], ⟨(some 21), some (10, false), (.u (some 23) .len (.od (.t 20)))⟩⟩,
 ⟨.p, [0,1,2,3,4,5,6,7,8,9,10,11,12,13,14,15,16,17,18], ⟨(some 22), some (10, false), (.b (some 24) false (.bin .geq) (.od (.t 16)) (.od (.t 21)))⟩⟩,
 ⟨.p, [0,1,2,3,4,5,6,7,8,9,10,11,12,13,14,15,16,17,18,19], ⟨(some 23), none, (.k (some 25) .pick (.cons (.od (.t 10)) (.cons (.od (.c (.bool true))) (.cons (.od (.t 22)) .nil))))⟩⟩])
 (.cond (.t 23) (.seq (.reg [⟨none, none, (.b none false (.sta 7) (.od (.t 2)) (.k (some 26) (.build [(.int .i64 (.ofNat 0)),(.str []),(.str []),(.int .i64 (.ofNat 0)),(.int .i64 (.ofNat 0)),(.int .i64 (.ofNat 0)),(.int .i64 (.ofNat 0))] [(0,1)]) (.cons (.od (.c (.int .i64 (.ofNat 8)))) .nil)))⟩])
 (.ret))
 (.skip)))
 (.seq (.drw [⟨.p, [], ⟨(some 24), none, (.u (some 27) .mv (.od (.t 0)))⟩⟩,
 ⟨.p, [0], ⟨(some 25), none, (.u (some 28) .nck (.od (.t 24)))⟩⟩,
 ⟨.p, [0,1], ⟨(some 26), none, (.u (some 29) (.fad 0) (.od (.t 25)))⟩⟩,
 ⟨(.l 0 0), [0,1,2], ⟨(some 27), none, (.u (some 30) .ld (.od (.t 26)))⟩⟩,
 ⟨.p, [], ⟨(some 28), none, (.u (some 31) .mv (.od (.t 0)))⟩⟩,
 ⟨.p, [4], ⟨(some 29), none, (.u (some 32) .nck (.od (.t 28)))⟩⟩,
 ⟨.p, [4,5], ⟨(some 30), none, (.u (some 33) (.fad 1) (.od (.t 29)))⟩⟩,
 ⟨(.l 0 0), [4,5,6], ⟨(some 31), none, (.u (some 34) .ld (.od (.t 30)))⟩⟩,
 ⟨.p, [], ⟨(some 32), none, (.u (some 35) .mv (.od (.t 1)))⟩⟩,
 ⟨.p, [4,5,6,7,8], ⟨(some 33), none, (.b (some 36) false (.bin .add) (.od (.t 31)) (.od (.t 32)))⟩⟩,
 ⟨.p, [0,1,2,3,4,5,6,7,8,9], ⟨(some 34), none, (.b (some 37) false (.iad 7) (.od (.t 27)) (.od (.t 33)))⟩⟩,
 ⟨(.l 0 0), [0,1,2,3,4,5,6,7,8,9,10], ⟨(some 35), none, (.u (some 38) (.lda 7) (.od (.t 34)))⟩⟩,
 ⟨.m, [0,1,2,3,4,5,6,7,8,9,10,11], ⟨none, none, (.b none false (.sta 7) (.od (.t 2)) (.od (.t 35)))⟩⟩])
 (.ret))))
def lf101 : LF := ⟨36, 2, lc101, [.ca 2 7], [0,1,4,5,6,7,8,9,10,11,12,13,14,15,16,17,18,19,20,21,22,23,24,25,27,28,29,30,31,32,33,34,35,36,37,38]⟩

-- (*oxbow/oxbowref17.Parser).typed
def lc102 : LC := (.seq (.reg [⟨(some 2), none, (.u (some 4) .mv (.od (.c (.bool false))))⟩])
 (.seq (.reg [⟨(some 3), none, (.k (some 10) (.call 101) (.cons (.u (some 8) .mv (.od (.t 0))) (.cons (.u (some 9) .mv (.od (.t 1))) .nil)))⟩,
 ⟨(some 4), none, (.a (some 5) [(.int .i64 (.ofNat 0)),(.str []),(.str []),(.int .i64 (.ofNat 0)),(.int .i64 (.ofNat 0)),(.int .i64 (.ofNat 0)),(.int .i64 (.ofNat 0))] 94)⟩,
 ⟨none, none, (.b none false (.sta 7) (.od (.t 4)) (.od (.t 3)))⟩])
 (.seq (.drw [⟨.p, [], ⟨(some 5), none, (.u (some 12) .mv (.od (.t 0)))⟩⟩,
 ⟨.p, [0], ⟨(some 6), none, (.u (some 13) .nck (.od (.t 5)))⟩⟩,
 ⟨.p, [0,1], ⟨(some 7), none, (.u (some 14) (.fad 2) (.od (.t 6)))⟩⟩,
 ⟨(.l 0 0), [0,1,2], ⟨(some 8), none, (.u (some 15) (.lda 1) (.od (.t 7)))⟩⟩,
 ⟨.p, [], ⟨(some 9), none, (.u (some 16) (.fad 1) (.od (.t 4)))⟩⟩,
 ⟨(.l 0 0), [4], ⟨(some 10), none, (.u (some 17) .ld (.od (.t 9)))⟩⟩,
 ⟨.m, [0,1,2,3,4,5], ⟨(some 11), none, (.k (some 18) (.call 158) (.cons (.od (.t 8)) (.cons (.od (.t 10)) .nil)))⟩⟩,
 ⟨.p, [0,1,2,3,4,5,6], ⟨(some 12), none, (.u (some 11) .mv (.od (.t 11)))⟩⟩,
 ⟨.p, [0,1,2,3,4,5,6,7], ⟨(some 13), none, (.u (some 19) (.ext 0) (.od (.t 12)))⟩⟩,
 ⟨.p, [0,1,2,3,4,5,6,7], ⟨(some 14), none, (.u (some 20) (.ext 1) (.od (.t 12)))⟩⟩,
 ⟨.p, [0,1,2,3,4,5,6,7,8], ⟨(some 15), none, (.u (some 6) .mv (.od (.t 13)))⟩⟩,
 ⟨.p, [0,1,2,3,4,5,6,7,8,9,10], ⟨none, none, (.u (some 7) .mv (.od (.t 14)))⟩⟩])
 (.seq (.reg [⟨(some 2), none, (.u (some 4) .mv (.gd (some 26) true false (.u (some 24) .mv (.b (some 23) false (.bin .eql) (.u (some 22) .ld (.u (some 21) (.fad 0) (.od (.t 4)))) (.od (.c (.int .i64 (.ofNat 1)))))) (.u (some 25) .mv (.od (.t 15)))))⟩])
 (.ret)))))
def lf102 : LF := ⟨16, 2, lc102, [.t 2], [0,1,4,10,5,12,13,14,15,16,17,18,11,19,20,6]⟩

-- oxbow/oxbowref17.in
def lc103 : LC := (.seq (.reg [⟨(some 2), none, (.u (some 4) .mv (.od (.c (.bool false))))⟩])
 (.seq (.seq (.reg [⟨(some 3), none, (.u (some 5) .mv (.od (.c (.int .i64 (.ofNat 0)))))⟩])
 (.blk 0 (.loop (.seq (.seq (.reg [⟨(some 4), none, (.b (some 9) false (.bin .lss) (.u (some 6) .mv (.od (.t 3))) (.u (some 8) .len (.u (some 7) .mv (.od (.t 0)))))⟩])
 (.cond (.t 4) (.skip)
 (.exit 0)))
 (.seq (.blk 1 (.seq (.reg [⟨(some 5), none, (.b (some 17) false (.bin .eql) (.u (some 15) .ld (.b (some 14) false (.iad 1) (.u (some 12) .mv (.od (.t 0))) (.u (some 13) .mv (.od (.t 3))))) (.u (some 16) .mv (.od (.t 1))))⟩])
 (.cond (.t 5) (.seq (.reg [⟨(some 2), none, (.u (some 4) .mv (.od (.c (.bool true))))⟩])
 (.ret))
 (.skip))))
 (.reg [⟨(some 3), none, (.u (some 5) .mv (.b (some 11) false (.bin .add) (.u (some 10) .mv (.od (.t 3))) (.od (.c (.int .i64 (.ofNat 1))))))⟩]))))))
 (.seq (.reg [⟨(some 2), none, (.u (some 4) .mv (.od (.c (.bool false))))⟩])
 (.ret))))
def lf103 : LF := ⟨6, 2, lc103, [.t 2], [0,1,4,5,9,17]⟩

-- oxbow/oxbowref17.storages
def lc104 : LC := (.seq (.reg [⟨(some 0), none, (.u (some 0) .mv (.od (.c .nils)))⟩])
 (.seq (.reg [⟨(some 0), none, (.u (some 0) .mv (.k (some 1) (.bsl 1 9) (.cons (.od (.c (.str [116,121,112,101,100,101,102]))) (.cons (.od (.c (.str [101,120,116,101,114,110]))) (.cons (.od (.c (.str [115,116,97,116,105,99]))) (.cons (.od (.c (.str [97,117,116,111]))) (.cons (.od (.c (.str [114,101,103,105,115,116,101,114]))) (.cons (.od (.c (.str [95,84,104,114,101,97,100,95,108,111,99,97,108]))) .nil))))))))⟩])
 (.ret)))
def lf104 : LF := ⟨1, 0, lc104, [.t 0], [0]⟩

-- oxbow/oxbowref17.functions
def lc105 : LC := (.seq (.reg [⟨(some 0), none, (.u (some 0) .mv (.od (.c .nils)))⟩])
 (.seq (.reg [⟨(some 0), none, (.u (some 0) .mv (.k (some 1) (.bsl 1 9) (.cons (.od (.c (.str [105,110,108,105,110,101]))) (.cons (.od (.c (.str [95,78,111,114,101,116,117,114,110]))) .nil))))⟩])
 (.ret)))
def lf105 : LF := ⟨1, 0, lc105, [.t 0], [0]⟩

-- oxbow/oxbowref17.qualifiers
def lc106 : LC := (.seq (.reg [⟨(some 0), none, (.u (some 0) .mv (.od (.c .nils)))⟩])
 (.seq (.reg [⟨(some 0), none, (.u (some 0) .mv (.k (some 1) (.bsl 1 9) (.cons (.od (.c (.str [99,111,110,115,116]))) (.cons (.od (.c (.str [118,111,108,97,116,105,108,101]))) (.cons (.od (.c (.str [114,101,115,116,114,105,99,116]))) .nil)))))⟩])
 (.ret)))
def lf106 : LF := ⟨1, 0, lc106, [.t 0], [0]⟩

-- oxbow/oxbowref17.basics
def lc107 : LC := (.seq (.reg [⟨(some 0), none, (.u (some 0) .mv (.od (.c .nils)))⟩])
 (.seq (.reg [⟨(some 0), none, (.u (some 0) .mv (.k (some 1) (.bsl 1 9) (.cons (.od (.c (.str [118,111,105,100]))) (.cons (.od (.c (.str [99,104,97,114]))) (.cons (.od (.c (.str [115,104,111,114,116]))) (.cons (.od (.c (.str [105,110,116]))) (.cons (.od (.c (.str [108,111,110,103]))) (.cons (.od (.c (.str [102,108,111,97,116]))) (.cons (.od (.c (.str [100,111,117,98,108,101]))) (.cons (.od (.c (.str [115,105,103,110,101,100]))) (.cons (.od (.c (.str [117,110,115,105,103,110,101,100]))) (.cons (.od (.c (.str [95,66,111,111,108]))) (.cons (.od (.c (.str [95,67,111,109,112,108,101,120]))) (.cons (.od (.c (.str [95,73,109,97,103,105,110,97,114,121]))) .nil))))))))))))))⟩])
 (.ret)))
def lf107 : LF := ⟨1, 0, lc107, [.t 0], [0]⟩

-- (*oxbow/express.Reader).Fail
def lc108 : LC := (.reg [⟨none, none, (.b none false .st (.u (some 4) (.fad 3) (.u (some 3) .nck (.u (some 2) .mv (.od (.t 0))))) (.od (.c (.bool true))))⟩])
def lf108 : LF := ⟨1, 1, lc108, [], [0]⟩

-- (*oxbow/express.Reader).deep
def lc109 : LC := (.seq (.reg [⟨(some 2), none, (.u (some 4) .mv (.od (.c (.bool false))))⟩])
 (.seq (.reg [⟨(some 3), none, (.u (some 5) .mv (.od (.t 0)))⟩,
 ⟨(some 4), none, (.gd (some 13) false true (.u (some 10) .mv (.u (some 9) .ld (.u (some 8) (.fad 3) (.u (some 7) .nck (.u (some 6) .mv (.od (.t 0))))))) (.b (some 12) false (.bin .geq) (.u (some 11) .mv (.od (.t 1))) (.od (.c (.int .i64 (.ofNat 200))))))⟩,
 ⟨none, none, (.b none false .st (.u (some 15) (.fad 3) (.u (some 14) .nck (.od (.t 3)))) (.od (.t 4)))⟩])
 (.seq (.reg [⟨(some 2), none, (.u (some 4) .mv (.u (some 19) .ld (.u (some 18) (.fad 3) (.u (some 17) .nck (.u (some 16) .mv (.od (.t 0)))))))⟩])
 (.ret))))
def lf109 : LF := ⟨5, 2, lc109, [.t 2], [0,1,4,5,13]⟩

-- (*oxbow/express.Reader).pointer
def lc110 : LC := (.seq (.reg [⟨(some 3), none, (.a (some 6) [(.str []),(.str []),(.int .i64 (.ofNat 0)),(.int .i64 (.ofNat 0)),.nils] 50)⟩])
 (.seq (.reg [⟨(some 4), none, (.u (some 7) .mv (.u (some 12) .ld (.u (some 11) (.fad 1) (.u (some 10) .nck (.u (some 9) .mv (.od (.t 0)))))))⟩])
 (.seq (.seq (.reg [⟨(some 5), none, (.u (some 15) (.un .not) (.k (some 14) (.call 127) (.cons (.u (some 13) .mv (.od (.t 0))) (.cons (.od (.c (.str [42]))) .nil))))⟩])
 (.cond (.t 5) (.seq (.reg [⟨none, none, (.b none false (.sta 5) (.od (.t 3)) (.k (some 19) (.call 159) (.cons (.u (some 16) .mv (.od (.t 0))) (.cons (.u (some 17) .mv (.od (.t 1))) (.cons (.u (some 18) .mv (.od (.t 2))) .nil)))))⟩])
 (.ret))
 (.skip)))
 (.seq (.reg [⟨(some 6), none, (.u (some 8) .mv (.k (some 21) (.call 160) (.cons (.u (some 20) .mv (.od (.t 0))) .nil)))⟩])
 (.seq (.reg [⟨(some 6), none, (.u (some 8) .mv (.b (some 28) false (.app 5 72 50) (.u (some 22) .mv (.od (.t 6))) (.k (some 27) (.bsl 5 50) (.cons (.k (some 26) (.call 110) (.cons (.u (some 23) .mv (.od (.t 0))) (.cons (.u (some 24) .mv (.od (.t 1))) (.cons (.u (some 25) .mv (.od (.t 2))) .nil)))) .nil))))⟩])
 (.seq (.reg [⟨none, none, (.b none false (.sta 5) (.od (.t 3)) (.k (some 32) (.call 123) (.cons (.u (some 29) .mv (.od (.t 0))) (.cons (.od (.c (.str [112,111,105,110,116,101,114]))) (.cons (.od (.c (.str []))) (.cons (.u (some 30) .mv (.od (.t 4))) (.cons (.u (some 31) .mv (.od (.t 6))) .nil)))))))⟩])
 (.ret)))))))
def lf110 : LF := ⟨7, 3, lc110, [.ca 3 5], [0,1,2,6,7,15,8]⟩

-- (*strings.Builder).WriteString
def lc111 : LC := (.seq (.reg [⟨(some 2), none, (.u (some 4) .mv (.od (.c (.int .i64 (.ofNat 0)))))⟩,
 ⟨(some 3), none, (.u (some 5) .mv (.od (.c .niface)))⟩])
 (.seq (.reg [⟨none, none, (.k (some 7) (.call 161) (.cons (.u (some 6) .mv (.od (.t 0))) .nil))⟩])
 (.seq (.reg [⟨(some 4), none, (.u (some 8) .mv (.od (.t 0)))⟩,
 ⟨(some 5), none, (.b (some 14) false (.app 1 1 5) (.u (some 12) .ld (.u (some 11) (.fad 1) (.u (some 10) .nck (.u (some 9) .mv (.od (.t 0)))))) (.u (some 13) .mv (.od (.t 1))))⟩,
 ⟨none, none, (.b none false .st (.u (some 16) (.fad 1) (.u (some 15) .nck (.od (.t 4)))) (.od (.t 5)))⟩])
 (.seq (.reg [⟨(some 2), none, (.u (some 4) .mv (.u (some 18) .lens (.u (some 17) .mv (.od (.t 1)))))⟩,
 ⟨(some 3), none, (.u (some 5) .mv (.od (.c .niface)))⟩])
 (.ret)))))
def lf111 : LF := ⟨6, 2, lc111, [.t 2,.t 3], [0,1,4,5,8,14]⟩

-- (*strings.Builder).WriteByte
def lc112 : LC := (.seq (.reg [⟨(some 2), none, (.u (some 4) .mv (.od (.c .niface)))⟩])
 (.seq (.reg [⟨none, none, (.k (some 6) (.call 161) (.cons (.u (some 5) .mv (.od (.t 0))) .nil))⟩])
 (.seq (.reg [⟨(some 3), none, (.u (some 7) .mv (.od (.t 0)))⟩,
 ⟨(some 4), none, (.b (some 14) false (.app 1 1 5) (.u (some 11) .ld (.u (some 10) (.fad 1) (.u (some 9) .nck (.u (some 8) .mv (.od (.t 0)))))) (.k (some 13) (.bsl 1 5) (.cons (.u (some 12) .mv (.od (.t 1))) .nil)))⟩,
 ⟨none, none, (.b none false .st (.u (some 16) (.fad 1) (.u (some 15) .nck (.od (.t 3)))) (.od (.t 4)))⟩])
 (.seq (.reg [⟨(some 2), none, (.u (some 4) .mv (.od (.c .niface)))⟩])
 (.ret)))))
def lf112 : LF := ⟨5, 2, lc112, [.t 2], [0,1,4,7,14]⟩

-- (*oxbow/express.Reader).Deep
def lc113 : LC := (.seq (.reg [⟨(some 2), none, (.u (some 4) .mv (.od (.c (.bool false))))⟩])
 (.seq (.reg [⟨(some 2), none, (.u (some 4) .mv (.k (some 7) (.call 109) (.cons (.u (some 5) .mv (.od (.t 0))) (.cons (.u (some 6) .mv (.od (.t 1))) .nil))))⟩])
 (.ret)))
def lf113 : LF := ⟨3, 2, lc113, [.t 2], [0,1,4]⟩

-- (*oxbow/scope.Env).Push
def lc114 : LC := (.seq (.reg [⟨(some 1), none, (.u (some 2) .mv (.od (.c .nilp)))⟩])
 (.seq (.reg [⟨(some 0), none, (.u (some 0) .mv (.k (some 4) (.call 66) (.cons (.u (some 3) .mv (.od (.t 0))) .nil)))⟩])
 (.seq (.reg [⟨(some 1), none, (.u (some 2) .mv (.u (some 13) (.box 113) (.k (some 12) (.build [.nilp,.nilp,(.str []),(.bool false),(.int .i64 (.ofNat 0)),(.int .u32 (.ofNat 0)),(.int .i32 (.ofNat 0)),(.int .u32 (.ofNat 0)),.nils] [(0,1),(1,1),(4,1)]) (.cons (.u (some 5) .mv (.od (.t 0))) (.cons (.u (some 6) .mv (.od (.t 0))) (.cons (.b (some 11) false (.bin .add) (.u (some 10) .ld (.u (some 9) (.fad 4) (.u (some 8) .nck (.u (some 7) .mv (.od (.t 0)))))) (.od (.c (.int .i64 (.ofNat 1))))) .nil))))))⟩])
 (.ret))))
def lf114 : LF := ⟨2, 1, lc114, [.t 1], [0,2]⟩

-- (oxbow/declare.Reader).Items
def lc115 : LC := (.seq (.reg [⟨(some 2), none, (.u (some 2) (.box 124) (.od (.t 0)))⟩,
 ⟨(some 3), none, (.a (some 4) [(.str []),(.str []),(.int .i64 (.ofNat 0)),(.int .i64 (.ofNat 0)),.nils] 50)⟩])
 (.seq (.reg [⟨(some 4), none, (.u (some 5) .mv (.od (.c .nils)))⟩])
 (.seq (.reg [⟨(some 5), none, (.u (some 6) .mv (.u (some 12) .ld (.u (some 11) (.fad 1) (.u (some 10) .nck (.u (some 9) .ld (.u (some 8) (.fad 0) (.od (.t 2))))))))⟩])
 (.seq (.reg [⟨none, none, (.k (some 15) (.call 122) (.cons (.u (some 14) .ld (.u (some 13) (.fad 0) (.od (.t 2)))) (.cons (.od (.c (.str [123]))) .nil)))⟩])
 (.seq (.blk 0 (.loop (.seq (.seq (.reg [⟨(some 6), none, (.gd (some 27) true false (.u (some 22) .mv (.u (some 21) (.un .not) (.u (some 20) .ld (.u (some 19) (.fad 3) (.u (some 18) .nck (.u (some 17) .ld (.u (some 16) (.fad 0) (.od (.t 2))))))))) (.u (some 26) (.un .not) (.k (some 25) (.call 119) (.cons (.u (some 24) .ld (.u (some 23) (.fad 0) (.od (.t 2)))) (.cons (.od (.c (.str [125]))) .nil)))))⟩])
 (.cond (.t 6) (.skip)
 (.exit 0)))
 (.blk 1 (.seq (.reg [⟨(some 7), none, (.u (some 7) .mv (.gd (some 37) true false (.u (some 33) .mv (.b (some 32) false (.bin .eql) (.u (some 31) (.fld 0 1 false) (.k (some 30) (.call 100) (.cons (.u (some 29) .ld (.u (some 28) (.fad 0) (.od (.t 2)))) .nil))) (.od (.c (.int .i64 (.ofNat 1)))))) (.k (some 36) (.call 126) (.cons (.u (some 35) .ld (.u (some 34) (.fad 0) (.od (.t 2)))) (.cons (.od (.c (.str [58]))) .nil)))))⟩])
 (.seq (.reg [⟨(some 8), none, (.gd (some 49) false true (.u (some 41) .mv (.k (some 40) (.call 116) (.cons (.u (some 39) .ld (.u (some 38) (.fad 0) (.od (.t 2)))) (.cons (.od (.c (.str [95,83,116,97,116,105,99,95,97,115,115,101,114,116]))) .nil)))) (.gd (some 48) true false (.u (some 45) .mv (.k (some 44) (.call 58) (.cons (.u (some 43) .ld (.u (some 42) (.fad 0) (.od (.t 2)))) .nil))) (.u (some 47) (.un .not) (.u (some 46) .mv (.od (.t 7))))))⟩])
 (.cond (.t 8) (.reg [⟨(some 4), none, (.u (some 5) .mv (.b (some 55) false (.app 5 72 50) (.u (some 50) .mv (.od (.t 4))) (.k (some 54) (.bsl 5 50) (.cons (.k (some 53) (.call 70) (.cons (.u (some 51) (.lda 1) (.od (.t 2))) (.cons (.u (some 52) .mv (.od (.t 1))) .nil))) .nil))))⟩])
 (.reg [⟨(some 4), none, (.u (some 5) .mv (.b (some 61) false (.app 5 72 50) (.u (some 56) .mv (.od (.t 4))) (.k (some 60) (.bsl 5 50) (.cons (.k (some 59) (.call 72) (.cons (.u (some 57) (.lda 1) (.od (.t 2))) (.cons (.u (some 58) .mv (.od (.t 1))) .nil))) .nil))))⟩]))))))))
 (.seq (.reg [⟨none, none, (.k (some 64) (.call 122) (.cons (.u (some 63) .ld (.u (some 62) (.fad 0) (.od (.t 2)))) (.cons (.od (.c (.str [125]))) .nil)))⟩])
 (.seq (.reg [⟨none, none, (.b none false (.sta 5) (.od (.t 3)) (.k (some 69) (.call 123) (.cons (.u (some 66) .ld (.u (some 65) (.fad 0) (.od (.t 2)))) (.cons (.od (.c (.str [98,108,111,99,107]))) (.cons (.od (.c (.str []))) (.cons (.u (some 67) .mv (.od (.t 5))) (.cons (.u (some 68) .mv (.od (.t 4))) .nil)))))))⟩])
 (.ret))))))))
def lf115 : LF := ⟨9, 2, lc115, [.ca 3 5], [0,1,2,4,5,6,27,7,49]⟩

-- (*oxbow/express.Reader).Word
def lc116 : LC := (.seq (.reg [⟨(some 2), none, (.u (some 4) .mv (.od (.c (.bool false))))⟩])
 (.seq (.reg [⟨(some 3), none, (.k (some 7) (.call 100) (.cons (.u (some 6) .mv (.od (.t 0))) .nil))⟩,
 ⟨(some 4), none, (.a (some 5) [(.int .i64 (.ofNat 0)),(.str []),(.str []),(.int .i64 (.ofNat 0)),(.int .i64 (.ofNat 0)),(.int .i64 (.ofNat 0)),(.int .i64 (.ofNat 0))] 95)⟩,
 ⟨none, none, (.b none false (.sta 7) (.od (.t 4)) (.od (.t 3)))⟩])
 (.seq (.reg [⟨(some 2), none, (.u (some 4) .mv (.gd (some 16) true false (.u (some 11) .mv (.b (some 10) false (.bin .eql) (.u (some 9) .ld (.u (some 8) (.fad 0) (.od (.t 4)))) (.od (.c (.int .i64 (.ofNat 2)))))) (.b (some 15) false (.bin .eql) (.u (some 13) .ld (.u (some 12) (.fad 1) (.od (.t 4)))) (.u (some 14) .mv (.od (.t 1))))))⟩])
 (.ret))))
def lf116 : LF := ⟨5, 2, lc116, [.t 2], [0,1,4,7,5]⟩

-- (*oxbow/express.Reader).Assertion
def lc117 : LC := (.seq (.reg [⟨(some 2), none, (.a (some 4) [(.str []),(.str []),(.int .i64 (.ofNat 0)),(.int .i64 (.ofNat 0)),.nils] 50)⟩])
 (.seq (.reg [⟨(some 3), none, (.u (some 5) .mv (.u (some 11) .ld (.u (some 10) (.fad 1) (.u (some 9) .nck (.u (some 8) .mv (.od (.t 0)))))))⟩])
 (.seq (.reg [⟨(some 4), none, (.u (some 12) .mv (.od (.t 0)))⟩,
 ⟨none, none, (.b none true .st (.u (some 18) (.fad 1) (.u (some 17) .nck (.od (.t 4)))) (.b (some 16) false (.bin .add) (.u (some 15) .ld (.u (some 14) (.fad 1) (.u (some 13) .nck (.od (.t 4))))) (.od (.c (.int .i64 (.ofNat 1))))))⟩])
 (.seq (.reg [⟨none, none, (.k (some 20) (.call 122) (.cons (.u (some 19) .mv (.od (.t 0))) (.cons (.od (.c (.str [40]))) .nil)))⟩])
 (.seq (.reg [⟨(some 5), none, (.k (some 23) (.call 162) (.cons (.u (some 21) .mv (.od (.t 0))) (.cons (.u (some 22) .mv (.od (.t 1))) .nil)))⟩,
 ⟨(some 6), none, (.a (some 6) [(.str []),(.str []),(.int .i64 (.ofNat 0)),(.int .i64 (.ofNat 0)),.nils] 50)⟩,
 ⟨none, none, (.b none false (.sta 5) (.od (.t 6)) (.od (.t 5)))⟩])
 (.seq (.reg [⟨none, none, (.k (some 25) (.call 122) (.cons (.u (some 24) .mv (.od (.t 0))) (.cons (.od (.c (.str [44]))) .nil)))⟩])
 (.seq (.seq (.reg [⟨(some 7), none, (.gd (some 35) false true (.u (some 30) .mv (.u (some 29) .ld (.u (some 28) (.fad 3) (.u (some 27) .nck (.u (some 26) .mv (.od (.t 0))))))) (.b (some 34) false (.bin .neq) (.u (some 33) (.fld 0 1 false) (.k (some 32) (.call 100) (.cons (.u (some 31) .mv (.od (.t 0))) .nil))) (.od (.c (.int .i64 (.ofNat 6))))))⟩])
 (.cond (.t 7) (.seq (.reg [⟨none, none, (.k (some 37) (.call 108) (.cons (.u (some 36) .mv (.od (.t 0))) .nil))⟩])
 (.seq (.reg [⟨none, none, (.b none false (.sta 5) (.od (.t 2)) (.u (some 38) (.lda 5) (.od (.t 2))))⟩])
 (.ret)))
 (.skip)))
 (.seq (.reg [⟨(some 8), none, (.k (some 40) (.call 163) (.cons (.u (some 39) .mv (.od (.t 0))) (.cons (.od (.c (.str [115,116,114,105,110,103]))) .nil)))⟩,
 ⟨(some 9), none, (.a (some 7) [(.str []),(.str []),(.int .i64 (.ofNat 0)),(.int .i64 (.ofNat 0)),.nils] 50)⟩,
 ⟨none, none, (.b none false (.sta 5) (.od (.t 9)) (.od (.t 8)))⟩])
 (.seq (.reg [⟨none, none, (.k (some 42) (.call 122) (.cons (.u (some 41) .mv (.od (.t 0))) (.cons (.od (.c (.str [41]))) .nil)))⟩])
 (.seq (.reg [⟨none, none, (.k (some 44) (.call 122) (.cons (.u (some 43) .mv (.od (.t 0))) (.cons (.od (.c (.str [59]))) .nil)))⟩])
 (.seq (.reg [⟨none, none, (.b none false (.sta 5) (.od (.t 2)) (.k (some 50) (.call 123) (.cons (.u (some 45) .mv (.od (.t 0))) (.cons (.od (.c (.str [97,115,115,101,114,116]))) (.cons (.od (.c (.str []))) (.cons (.u (some 46) .mv (.od (.t 3))) (.cons (.k (some 49) (.bsl 5 50) (.cons (.u (some 47) (.lda 5) (.od (.t 6))) (.cons (.u (some 48) (.lda 5) (.od (.t 9))) .nil))) .nil)))))))⟩])
 (.ret))))))))))))
def lf117 : LF := ⟨10, 2, lc117, [.ca 2 5], [0,1,4,5,12,23,6,35,40,7]⟩

-- (*oxbow/express.Reader).Specs
def lc118 : LC := (.seq (.reg [⟨(some 2), none, (.a (some 4) [(.str []),(.str []),(.int .i64 (.ofNat 0)),(.int .i64 (.ofNat 0)),.nils] 50)⟩])
 (.seq (.reg [⟨none, none, (.b none false (.sta 5) (.od (.t 2)) (.k (some 7) (.call 164) (.cons (.u (some 5) .mv (.od (.t 0))) (.cons (.u (some 6) .mv (.od (.t 1))) (.cons (.od (.c (.bool false))) .nil)))))⟩])
 (.ret)))
def lf118 : LF := ⟨3, 2, lc118, [.ca 2 5], [0,1,4]⟩

-- (*oxbow/express.Reader).Is
def lc119 : LC := (.seq (.reg [⟨(some 2), none, (.u (some 4) .mv (.od (.c (.bool false))))⟩])
 (.seq (.reg [⟨(some 2), none, (.u (some 4) .mv (.k (some 8) (.call 165) (.cons (.k (some 6) (.call 100) (.cons (.u (some 5) .mv (.od (.t 0))) .nil)) (.cons (.u (some 7) .mv (.od (.t 1))) .nil))))⟩])
 (.ret)))
def lf119 : LF := ⟨3, 2, lc119, [.t 2], [0,1,4]⟩

-- (oxbow/declare.Reader).names
def lc120 : LC := (.seq (.reg [⟨(some 3), none, (.u (some 3) (.box 124) (.od (.t 0)))⟩,
 ⟨(some 4), none, (.u (some 4) (.box 50) (.od (.t 1)))⟩,
 ⟨(some 5), none, (.u (some 5) (.box 50) (.od (.t 2)))⟩])
 (.drw [⟨.p, [], ⟨(some 6), none, (.u (some 6) (.fad 0) (.od (.t 3)))⟩⟩,
 ⟨(.l 0 2), [0], ⟨(some 7), none, (.u (some 7) .ld (.od (.t 6)))⟩⟩,
 ⟨(.l 0 0), [], ⟨(some 8), none, (.u (some 8) (.lda 5) (.od (.t 5)))⟩⟩,
 ⟨.m, [2], ⟨(some 9), none, (.k (some 9) (.call 29) (.cons (.od (.t 8)) .nil))⟩⟩,
 ⟨(.l 0 1), [], ⟨(some 10), none, (.u (some 10) (.lda 5) (.od (.t 4)))⟩⟩,
 ⟨.m, [2,3,4], ⟨(some 11), none, (.k (some 11) (.call 71) (.cons (.od (.t 10)) .nil))⟩⟩,
 ⟨.m, [0,1,2,3,4,5], ⟨none, none, (.k (some 12) (.call 131) (.cons (.od (.t 7)) (.cons (.od (.t 9)) (.cons (.od (.t 11)) .nil))))⟩⟩]))
def lf120 : LF := ⟨12, 3, lc120, [], [0,1,2,3,4,5,6,7,8,9,10,11]⟩

-- (oxbow/declare.Reader).Rest
def lc121 : LC := (.seq (.reg [⟨(some 4), none, (.u (some 4) (.box 124) (.od (.t 0)))⟩,
 ⟨(some 5), none, (.u (some 6) (.box 50) (.od (.t 2)))⟩,
 ⟨(some 6), none, (.u (some 8) .mv (.od (.c .nils)))⟩])
 (.scope (.seq (.label 0)
 (.seq (.seq (.reg [⟨(some 7), none, (.k (some 12) (.call 127) (.cons (.u (some 11) .ld (.u (some 10) (.fad 0) (.od (.t 4)))) (.cons (.od (.c (.str [61]))) .nil)))⟩])
 (.cond (.t 7) (.seq (.reg [⟨(some 8), none, (.k (some 16) (.call 166) (.cons (.u (some 14) .ld (.u (some 13) (.fad 0) (.od (.t 4)))) (.cons (.u (some 15) .mv (.od (.t 3))) .nil)))⟩,
 ⟨(some 9), none, (.a (some 9) [(.str []),(.str []),(.int .i64 (.ofNat 0)),(.int .i64 (.ofNat 0)),.nils] 50)⟩,
 ⟨none, none, (.b none false (.sta 5) (.od (.t 9)) (.od (.t 8)))⟩])
 (.reg [⟨none, none, (.b none false (.sta 5) (.od (.t 5)) (.k (some 24) (.call 123) (.cons (.u (some 18) .ld (.u (some 17) (.fad 0) (.od (.t 4)))) (.cons (.od (.c (.str [105,110,105,116]))) (.cons (.od (.c (.str []))) (.cons (.u (some 20) .ld (.u (some 19) (.fad 2) (.od (.t 5)))) (.cons (.k (some 23) (.bsl 5 50) (.cons (.u (some 21) (.lda 5) (.od (.t 5))) (.cons (.u (some 22) (.lda 5) (.od (.t 9))) .nil))) .nil)))))))⟩]))
 (.skip)))
 (.seq (.seq (.reg [⟨(some 1), none, (.u (some 1) .mv (.b (some 28) false (.app 5 72 50) (.u (some 25) .mv (.od (.t 1))) (.k (some 27) (.bsl 5 50) (.cons (.u (some 26) (.lda 5) (.od (.t 5))) .nil))))⟩])
 (.seq (.reg [⟨(some 10), none, (.k (some 31) (.call 127) (.cons (.u (some 30) .ld (.u (some 29) (.fad 0) (.od (.t 4)))) (.cons (.od (.c (.str [44]))) .nil)))⟩])
 (.cond (.t 10) (.seq (.reg [⟨none, none, (.b none false (.sta 5) (.od (.t 5)) (.k (some 35) (.call 61) (.cons (.u (some 33) .ld (.u (some 32) (.fad 0) (.od (.t 4)))) (.cons (.u (some 34) .mv (.od (.t 3))) (.cons (.od (.c (.int .i64 (.ofNat 0)))) .nil)))))⟩])
 (.seq (.drw [⟨(.l 0 0), [], ⟨(some 11), none, (.u (some 36) (.lda 1) (.od (.t 4)))⟩⟩,
 ⟨.p, [], ⟨(some 12), none, (.u (some 37) .mv (.od (.t 1)))⟩⟩,
 ⟨.p, [1], ⟨(some 13), none, (.b (some 38) false (.iad 5) (.od (.t 12)) (.od (.c (.int .i64 (.ofNat 0)))))⟩⟩,
 ⟨(.l 0 0), [1,2], ⟨(some 14), none, (.u (some 39) (.lda 5) (.od (.t 13)))⟩⟩,
 ⟨(.l 0 0), [], ⟨(some 15), none, (.u (some 40) (.lda 5) (.od (.t 5)))⟩⟩,
 ⟨.m, [0,1,2,3,4], ⟨none, none, (.k (some 41) (.call 120) (.cons (.od (.t 11)) (.cons (.od (.t 14)) (.cons (.od (.t 15)) .nil))))⟩⟩])
 (.goto 0)))
 (.skip))))
 (.seq (.reg [⟨(some 6), none, (.u (some 8) .mv (.u (some 42) .mv (.od (.t 1))))⟩])
 (.ret)))))))
def lf121 : LF := ⟨16, 4, lc121, [.t 6], [0,1,2,3,4,6,8,12,16,9,31,36,37,38,39,40]⟩

-- (*oxbow/express.Reader).Need
def lc122 : LC := (.seq (.reg [⟨(some 2), none, (.u (some 7) (.un .not) (.k (some 6) (.call 127) (.cons (.u (some 4) .mv (.od (.t 0))) (.cons (.u (some 5) .mv (.od (.t 1))) .nil))))⟩])
 (.cond (.t 2) (.reg [⟨none, none, (.k (some 9) (.call 108) (.cons (.u (some 8) .mv (.od (.t 0))) .nil))⟩])
 (.skip)))
def lf122 : LF := ⟨3, 2, lc122, [], [0,1,7]⟩

-- (*oxbow/express.Reader).Make
def lc123 : LC := (.seq (.reg [⟨(some 5), none, (.a (some 10) [(.str []),(.str []),(.int .i64 (.ofNat 0)),(.int .i64 (.ofNat 0)),.nils] 50)⟩])
 (.seq (.reg [⟨none, none, (.b none false (.sta 5) (.od (.t 5)) (.k (some 19) (.build [(.str []),(.str []),(.int .i64 (.ofNat 0)),(.int .i64 (.ofNat 0)),.nils] [(0,1),(1,1),(2,1),(3,1),(4,1)]) (.cons (.u (some 11) .mv (.od (.t 1))) (.cons (.u (some 12) .mv (.od (.t 2))) (.cons (.u (some 13) .mv (.od (.t 3))) (.cons (.u (some 17) .ld (.u (some 16) (.fad 1) (.u (some 15) .nck (.u (some 14) .mv (.od (.t 0)))))) (.cons (.u (some 18) .mv (.od (.t 4))) .nil)))))))⟩])
 (.ret)))
def lf123 : LF := ⟨6, 5, lc123, [.ca 5 5], [0,1,2,3,4,10]⟩

-- slices.ContainsFunc[[]oxbow/tree.Node,oxbow/tree.Node]
def lc124 : LC := (.seq (.reg [⟨(some 2), none, (.u (some 4) .mv (.od (.c (.bool false))))⟩])
 (.seq (.reg [⟨(some 2), none, (.u (some 4) .mv (.b (some 8) false (.bin .geq) (.k (some 7) (.call 64) (.cons (.u (some 5) .mv (.od (.t 0))) (.cons (.u (some 6) .mv (.od (.t 1))) .nil))) (.od (.c (.int .i64 (.ofNat 0))))))⟩])
 (.ret)))
def lf124 : LF := ⟨3, 2, lc124, [.t 2], [0,1,4]⟩

-- oxbow/declare.IsTypedef$1
def lc125 : LC := (.seq (.reg [⟨(some 1), none, (.u (some 1) (.box 50) (.od (.t 0)))⟩,
 ⟨(some 2), none, (.u (some 2) .mv (.od (.c (.bool false))))⟩])
 (.seq (.reg [⟨(some 2), none, (.u (some 2) .mv (.gd (some 10) true false (.u (some 6) .mv (.b (some 5) false (.bin .eql) (.u (some 4) .ld (.u (some 3) (.fad 0) (.od (.t 1)))) (.od (.c (.str [115,116,111,114,97,103,101]))))) (.b (some 9) false (.bin .eql) (.u (some 8) .ld (.u (some 7) (.fad 1) (.od (.t 1)))) (.od (.c (.str [116,121,112,101,100,101,102]))))))⟩])
 (.ret)))
def lf125 : LF := ⟨3, 1, lc125, [.t 2], [0,1,2]⟩

-- (*oxbow/express.Reader).Behind
def lc126 : LC := (.seq (.reg [⟨(some 2), none, (.u (some 4) .mv (.od (.c (.bool false))))⟩])
 (.seq (.reg [⟨(some 2), none, (.u (some 4) .mv (.k (some 8) (.call 165) (.cons (.k (some 6) (.call 157) (.cons (.u (some 5) .mv (.od (.t 0))) (.cons (.od (.c (.int .i64 (.ofNat 1)))) .nil))) (.cons (.u (some 7) .mv (.od (.t 1))) .nil))))⟩])
 (.ret)))
def lf126 : LF := ⟨3, 2, lc126, [.t 2], [0,1,4]⟩

-- (*oxbow/express.Reader).Has
def lc127 : LC := (.seq (.reg [⟨(some 2), none, (.u (some 4) .mv (.od (.c (.bool false))))⟩])
 (.seq (.reg [⟨(some 3), none, (.u (some 5) .mv (.gd (some 15) true false (.u (some 11) .mv (.u (some 10) (.un .not) (.u (some 9) .ld (.u (some 8) (.fad 3) (.u (some 7) .nck (.u (some 6) .mv (.od (.t 0)))))))) (.k (some 14) (.call 119) (.cons (.u (some 12) .mv (.od (.t 0))) (.cons (.u (some 13) .mv (.od (.t 1))) .nil)))))⟩])
 (.seq (.seq (.reg [⟨(some 4), none, (.u (some 16) .mv (.od (.t 3)))⟩])
 (.cond (.t 4) (.reg [⟨(some 5), none, (.u (some 17) .mv (.od (.t 0)))⟩,
 ⟨none, none, (.b none true .st (.u (some 23) (.fad 1) (.u (some 22) .nck (.od (.t 5)))) (.b (some 21) false (.bin .add) (.u (some 20) .ld (.u (some 19) (.fad 1) (.u (some 18) .nck (.od (.t 5))))) (.od (.c (.int .i64 (.ofNat 1))))))⟩])
 (.skip)))
 (.seq (.reg [⟨(some 2), none, (.u (some 4) .mv (.u (some 24) .mv (.od (.t 3))))⟩])
 (.ret)))))
def lf127 : LF := ⟨6, 2, lc127, [.t 2], [0,1,4,5,16,17]⟩

-- (oxbow/declare.Reader).word
def lc128 : LC := (.seq (.reg [⟨(some 3), none, (.u (some 3) (.box 124) (.od (.t 0)))⟩,
 ⟨(some 4), none, (.a (some 6) [(.str []),(.str []),(.int .i64 (.ofNat 0)),(.int .i64 (.ofNat 0)),.nils] 50)⟩,
 ⟨(some 5), none, (.u (some 7) .mv (.od (.c (.bool false))))⟩])
 (.seq (.reg [⟨(some 6), none, (.u (some 8) .mv (.u (some 15) .ld (.u (some 14) (.fad 1) (.u (some 13) .nck (.u (some 12) .ld (.u (some 11) (.fad 0) (.od (.t 3))))))))⟩])
 (.seq (.reg [⟨(some 7), none, (.u (some 9) .mv (.k (some 16) (.bsl 5 50) .nil))⟩])
 (.seq (.reg [⟨(some 8), none, (.u (some 18) .ld (.u (some 17) (.fad 0) (.od (.t 3))))⟩,
 ⟨none, none, (.b none true .st (.u (some 24) (.fad 1) (.u (some 23) .nck (.od (.t 8)))) (.b (some 22) false (.bin .add) (.u (some 21) .ld (.u (some 20) (.fad 1) (.u (some 19) .nck (.od (.t 8))))) (.od (.c (.int .i64 (.ofNat 1))))))⟩])
 (.seq (.seq (.reg [⟨(some 9), none, (.u (some 25) .mv (.od (.t 2)))⟩])
 (.blk 0 (.seq (.reg [⟨(some 10), none, (.u (some 35) .mv (.b (some 36) false (.bin .eql) (.od (.t 9)) (.od (.c (.str [99,97,115,101])))))⟩])
 (.cond (.t 10) (.seq (.reg [⟨(some 7), none, (.u (some 9) .mv (.b (some 43) false (.app 5 72 50) (.u (some 37) .mv (.od (.t 7))) (.k (some 42) (.bsl 5 50) (.cons (.k (some 41) (.call 162) (.cons (.u (some 39) .ld (.u (some 38) (.fad 0) (.od (.t 3)))) (.cons (.u (some 40) .mv (.od (.t 1))) .nil))) .nil))))⟩])
 (.seq (.reg [⟨none, none, (.k (some 46) (.call 122) (.cons (.u (some 45) .ld (.u (some 44) (.fad 0) (.od (.t 3)))) (.cons (.od (.c (.str [58]))) .nil)))⟩])
 (.reg [⟨(some 7), none, (.u (some 9) .mv (.b (some 52) false (.app 5 72 50) (.u (some 47) .mv (.od (.t 7))) (.k (some 51) (.bsl 5 50) (.cons (.k (some 50) (.call 72) (.cons (.u (some 48) (.lda 1) (.od (.t 3))) (.cons (.u (some 49) .mv (.od (.t 1))) .nil))) .nil))))⟩])))
 (.seq (.reg [⟨(some 11), none, (.u (some 53) .mv (.b (some 54) false (.bin .eql) (.od (.t 9)) (.od (.c (.str [100,101,102,97,117,108,116])))))⟩])
 (.cond (.t 11) (.seq (.reg [⟨none, none, (.k (some 57) (.call 122) (.cons (.u (some 56) .ld (.u (some 55) (.fad 0) (.od (.t 3)))) (.cons (.od (.c (.str [58]))) .nil)))⟩])
 (.reg [⟨(some 7), none, (.u (some 9) .mv (.b (some 63) false (.app 5 72 50) (.u (some 58) .mv (.od (.t 7))) (.k (some 62) (.bsl 5 50) (.cons (.k (some 61) (.call 72) (.cons (.u (some 59) (.lda 1) (.od (.t 3))) (.cons (.u (some 60) .mv (.od (.t 1))) .nil))) .nil))))⟩]))
 (.seq (.reg [⟨(some 12), none, (.u (some 64) .mv (.b (some 65) false (.bin .eql) (.od (.t 9)) (.od (.c (.str [105,102])))))⟩])
 (.cond (.t 12) (.seq (.drw [⟨.p, [], ⟨(some 13), none, (.u (some 66) .mv (.od (.t 7)))⟩⟩,
 ⟨(.l 0 0), [], ⟨(some 14), none, (.u (some 67) (.lda 1) (.od (.t 3)))⟩⟩,
 ⟨.p, [], ⟨(some 15), none, (.u (some 68) .mv (.od (.t 1)))⟩⟩,
 ⟨.m, [1,2], ⟨(some 16), none, (.k (some 69) (.call 167) (.cons (.od (.t 14)) (.cons (.od (.t 15)) .nil)))⟩⟩,
 ⟨(.l 0 1), [], ⟨(some 17), none, (.u (some 70) (.lda 1) (.od (.t 3)))⟩⟩,
 ⟨.p, [], ⟨(some 18), none, (.u (some 71) .mv (.od (.t 1)))⟩⟩,
 ⟨.m, [1,2,3,4,5], ⟨(some 19), none, (.k (some 72) (.call 72) (.cons (.od (.t 17)) (.cons (.od (.t 18)) .nil)))⟩⟩,
 ⟨.m, [1,2,3,4,5,6], ⟨(some 20), none, (.k (some 73) (.bsl 5 50) (.cons (.od (.t 16)) (.cons (.od (.t 19)) .nil)))⟩⟩,
 ⟨.m, [0,1,2,3,4,5,6,7], ⟨(some 21), none, (.b (some 74) false (.app 5 72 50) (.od (.t 13)) (.od (.t 20)))⟩⟩,
 ⟨.p, [0,1,2,3,4,5,6,7,8], ⟨(some 7), none, (.u (some 9) .mv (.od (.t 21)))⟩⟩])
 (.seq (.reg [⟨(some 22), none, (.k (some 77) (.call 168) (.cons (.u (some 76) .ld (.u (some 75) (.fad 0) (.od (.t 3)))) (.cons (.od (.c (.str [101,108,115,101]))) .nil)))⟩])
 (.cond (.t 22) (.reg [⟨(some 7), none, (.u (some 9) .mv (.b (some 83) false (.app 5 72 50) (.u (some 78) .mv (.od (.t 7))) (.k (some 82) (.bsl 5 50) (.cons (.k (some 81) (.call 72) (.cons (.u (some 79) (.lda 1) (.od (.t 3))) (.cons (.u (some 80) .mv (.od (.t 1))) .nil))) .nil))))⟩])
 (.skip))))
 (.seq (.seq (.reg [⟨(some 23), none, (.u (some 84) .mv (.b (some 85) false (.bin .eql) (.od (.t 9)) (.od (.c (.str [115,119,105,116,99,104])))))⟩])
 (.cond (.t 23) (.skip)
 (.reg [⟨(some 23), none, (.u (some 84) .mv (.b (some 86) false (.bin .eql) (.od (.t 9)) (.od (.c (.str [119,104,105,108,101])))))⟩])))
 (.cond (.t 23) (.drw [⟨.p, [], ⟨(some 24), none, (.u (some 87) .mv (.od (.t 7)))⟩⟩,
 ⟨(.l 0 0), [], ⟨(some 25), none, (.u (some 88) (.lda 1) (.od (.t 3)))⟩⟩,
 ⟨.p, [], ⟨(some 26), none, (.u (some 89) .mv (.od (.t 1)))⟩⟩,
 ⟨.m, [1,2], ⟨(some 27), none, (.k (some 90) (.call 167) (.cons (.od (.t 25)) (.cons (.od (.t 26)) .nil)))⟩⟩,
 ⟨(.l 0 1), [], ⟨(some 28), none, (.u (some 91) (.lda 1) (.od (.t 3)))⟩⟩,
 ⟨.p, [], ⟨(some 29), none, (.u (some 92) .mv (.od (.t 1)))⟩⟩,
 ⟨.m, [1,2,3,4,5], ⟨(some 30), none, (.k (some 93) (.call 72) (.cons (.od (.t 28)) (.cons (.od (.t 29)) .nil)))⟩⟩,
 ⟨.m, [1,2,3,4,5,6], ⟨(some 31), none, (.k (some 94) (.bsl 5 50) (.cons (.od (.t 27)) (.cons (.od (.t 30)) .nil)))⟩⟩,
 ⟨.m, [0,1,2,3,4,5,6,7], ⟨(some 32), none, (.b (some 95) false (.app 5 72 50) (.od (.t 24)) (.od (.t 31)))⟩⟩,
 ⟨.p, [0,1,2,3,4,5,6,7,8], ⟨(some 7), none, (.u (some 9) .mv (.od (.t 32)))⟩⟩])
 (.seq (.reg [⟨(some 33), none, (.u (some 96) .mv (.b (some 97) false (.bin .eql) (.od (.t 9)) (.od (.c (.str [100,111])))))⟩])
 (.cond (.t 33) (.seq (.reg [⟨(some 7), none, (.u (some 9) .mv (.b (some 103) false (.app 5 72 50) (.u (some 98) .mv (.od (.t 7))) (.k (some 102) (.bsl 5 50) (.cons (.k (some 101) (.call 72) (.cons (.u (some 99) (.lda 1) (.od (.t 3))) (.cons (.u (some 100) .mv (.od (.t 1))) .nil))) .nil))))⟩])
 (.seq (.seq (.reg [⟨(some 34), none, (.u (some 107) (.un .not) (.k (some 106) (.call 168) (.cons (.u (some 105) .ld (.u (some 104) (.fad 0) (.od (.t 3)))) (.cons (.od (.c (.str [119,104,105,108,101]))) .nil))))⟩])
 (.cond (.t 34) (.reg [⟨none, none, (.k (some 110) (.call 108) (.cons (.u (some 109) .ld (.u (some 108) (.fad 0) (.od (.t 3)))) .nil))⟩])
 (.skip)))
 (.seq (.reg [⟨(some 7), none, (.u (some 9) .mv (.b (some 116) false (.app 5 72 50) (.u (some 111) .mv (.od (.t 7))) (.k (some 115) (.bsl 5 50) (.cons (.k (some 114) (.call 167) (.cons (.u (some 112) (.lda 1) (.od (.t 3))) (.cons (.u (some 113) .mv (.od (.t 1))) .nil))) .nil))))⟩])
 (.reg [⟨none, none, (.k (some 119) (.call 122) (.cons (.u (some 118) .ld (.u (some 117) (.fad 0) (.od (.t 3)))) (.cons (.od (.c (.str [59]))) .nil)))⟩]))))
 (.seq (.reg [⟨(some 35), none, (.u (some 120) .mv (.b (some 121) false (.bin .eql) (.od (.t 9)) (.od (.c (.str [102,111,114])))))⟩])
 (.cond (.t 35) (.reg [⟨(some 7), none, (.u (some 9) .mv (.k (some 124) (.call 169) (.cons (.u (some 122) (.lda 1) (.od (.t 3))) (.cons (.u (some 123) .mv (.od (.t 1))) .nil))))⟩])
 (.seq (.reg [⟨(some 36), none, (.u (some 125) .mv (.b (some 126) false (.bin .eql) (.od (.t 9)) (.od (.c (.str [103,111,116,111])))))⟩])
 (.cond (.t 36) (.seq (.reg [⟨(some 37), none, (.k (some 129) (.call 170) (.cons (.u (some 128) .ld (.u (some 127) (.fad 0) (.od (.t 3)))) (.cons (.od (.c (.str []))) .nil)))⟩,
 ⟨(some 38), none, (.a (some 10) [(.str []),(.str []),(.int .i64 (.ofNat 0)),(.int .i64 (.ofNat 0)),.nils] 50)⟩,
 ⟨none, none, (.b none false (.sta 5) (.od (.t 38)) (.od (.t 37)))⟩])
 (.seq (.reg [⟨none, none, (.k (some 132) (.call 122) (.cons (.u (some 131) .ld (.u (some 130) (.fad 0) (.od (.t 3)))) (.cons (.od (.c (.str [59]))) .nil)))⟩])
 (.seq (.reg [⟨none, none, (.b none false (.sta 5) (.od (.t 4)) (.k (some 139) (.call 123) (.cons (.u (some 134) .ld (.u (some 133) (.fad 0) (.od (.t 3)))) (.cons (.u (some 135) .mv (.od (.t 2))) (.cons (.u (some 137) .ld (.u (some 136) (.fad 1) (.od (.t 38)))) (.cons (.u (some 138) .mv (.od (.t 6))) (.cons (.od (.c .nils)) .nil)))))))⟩,
 ⟨(some 5), none, (.u (some 7) .mv (.od (.c (.bool true))))⟩])
 (.ret))))
 (.seq (.seq (.reg [⟨(some 39), none, (.u (some 140) .mv (.b (some 141) false (.bin .eql) (.od (.t 9)) (.od (.c (.str [99,111,110,116,105,110,117,101])))))⟩])
 (.cond (.t 39) (.skip)
 (.reg [⟨(some 39), none, (.u (some 140) .mv (.b (some 142) false (.bin .eql) (.od (.t 9)) (.od (.c (.str [98,114,101,97,107])))))⟩])))
 (.cond (.t 39) (.reg [⟨none, none, (.k (some 145) (.call 122) (.cons (.u (some 144) .ld (.u (some 143) (.fad 0) (.od (.t 3)))) (.cons (.od (.c (.str [59]))) .nil)))⟩])
 (.seq (.reg [⟨(some 40), none, (.u (some 146) .mv (.b (some 147) false (.bin .eql) (.od (.t 9)) (.od (.c (.str [114,101,116,117,114,110])))))⟩])
 (.cond (.t 40) (.seq (.seq (.reg [⟨(some 41), none, (.u (some 151) (.un .not) (.k (some 150) (.call 119) (.cons (.u (some 149) .ld (.u (some 148) (.fad 0) (.od (.t 3)))) (.cons (.od (.c (.str [59]))) .nil))))⟩])
 (.cond (.t 41) (.reg [⟨(some 7), none, (.u (some 9) .mv (.b (some 158) false (.app 5 72 50) (.u (some 152) .mv (.od (.t 7))) (.k (some 157) (.bsl 5 50) (.cons (.k (some 156) (.call 85) (.cons (.u (some 154) .ld (.u (some 153) (.fad 0) (.od (.t 3)))) (.cons (.u (some 155) .mv (.od (.t 1))) .nil))) .nil))))⟩])
 (.skip)))
 (.reg [⟨none, none, (.k (some 161) (.call 122) (.cons (.u (some 160) .ld (.u (some 159) (.fad 0) (.od (.t 3)))) (.cons (.od (.c (.str [59]))) .nil)))⟩]))
 (.seq (.reg [⟨(some 42), none, (.u (some 27) .ld (.u (some 26) (.fad 0) (.od (.t 3))))⟩,
 ⟨none, none, (.b none true .st (.u (some 33) (.fad 1) (.u (some 32) .nck (.od (.t 42)))) (.b (some 31) false (.bin .sub) (.u (some 30) .ld (.u (some 29) (.fad 1) (.u (some 28) .nck (.od (.t 42))))) (.od (.c (.int .i64 (.ofNat 1))))))⟩])
 (.seq (.reg [⟨none, none, (.b none false (.sta 5) (.od (.t 4)) (.u (some 34) (.lda 5) (.od (.t 4))))⟩,
 ⟨(some 5), none, (.u (some 7) .mv (.od (.c (.bool false))))⟩])
 (.ret)))))))))))))))))))))))
 (.seq (.reg [⟨none, none, (.b none false (.sta 5) (.od (.t 4)) (.k (some 167) (.call 123) (.cons (.u (some 163) .ld (.u (some 162) (.fad 0) (.od (.t 3)))) (.cons (.u (some 164) .mv (.od (.t 2))) (.cons (.od (.c (.str []))) (.cons (.u (some 165) .mv (.od (.t 6))) (.cons (.u (some 166) .mv (.od (.t 7))) .nil)))))))⟩,
 ⟨(some 5), none, (.u (some 7) .mv (.od (.c (.bool true))))⟩])
 (.ret)))))))
def lf128 : LF := ⟨43, 3, lc128, [.ca 4 5,.t 5], [0,1,2,3,6,7,8,9,18,25,35,53,64,66,67,68,69,70,71,72,73,74,77,84,87,88,89,90,91,92,93,94,95,96,107,120,125,129,10,140,146,151,27]⟩

-- oxbow/unit.end
def lc129 : LC := (.seq (.reg [⟨(some 1), none, (.u (some 2) .mv (.od (.c (.int .i64 (.ofNat 0)))))⟩])
 (.seq (.seq (.reg [⟨(some 2), none, (.u (some 3) .mv (.k (some 5) (.call 171) (.cons (.u (some 4) .mv (.od (.t 0))) (.cons (.od (.c (.fn 172 [] []))) .nil))))⟩])
 (.seq (.reg [⟨(some 3), none, (.b (some 7) false (.bin .geq) (.u (some 6) .mv (.od (.t 2))) (.od (.c (.int .i64 (.ofNat 0)))))⟩])
 (.cond (.t 3) (.seq (.reg [⟨(some 1), none, (.u (some 2) .mv (.u (some 8) .mv (.od (.t 2))))⟩])
 (.ret))
 (.skip))))
 (.seq (.reg [⟨(some 1), none, (.u (some 2) .mv (.u (some 10) .len (.u (some 9) .mv (.od (.t 0)))))⟩])
 (.ret))))
def lf129 : LF := ⟨4, 1, lc129, [.t 1], [0,2,3,7]⟩

-- oxbow/unit.function
def lc130 : LC := (.seq (.reg [⟨(some 1), none, (.u (some 1) (.box 50) (.od (.t 0)))⟩,
 ⟨(some 2), none, (.a (some 2) [(.str []),(.str []),(.int .i64 (.ofNat 0)),(.int .i64 (.ofNat 0)),.nils] 50)⟩,
 ⟨(some 3), none, (.u (some 3) .mv (.od (.c (.bool false))))⟩])
 (.scope (.seq (.label 0)
 (.seq (.reg [⟨(some 4), none, (.u (some 4) .mv (.k (some 7) (.call 64) (.cons (.u (some 6) .ld (.u (some 5) (.fad 4) (.od (.t 1)))) (.cons (.od (.c (.fn 173 [] []))) .nil))))⟩])
 (.seq (.seq (.reg [⟨(some 5), none, (.b (some 9) false (.bin .lss) (.u (some 8) .mv (.od (.t 4))) (.od (.c (.int .i64 (.ofNat 0)))))⟩])
 (.cond (.t 5) (.seq (.reg [⟨none, none, (.b none false (.sta 5) (.od (.t 2)) (.k (some 10) (.build [(.str []),(.str []),(.int .i64 (.ofNat 0)),(.int .i64 (.ofNat 0)),.nils] []) .nil))⟩,
 ⟨(some 3), none, (.u (some 3) .mv (.od (.c (.bool false))))⟩])
 (.ret))
 (.skip)))
 (.seq (.seq (.reg [⟨(some 6), none, (.b (some 17) false (.bin .eql) (.u (some 16) .ld (.u (some 15) (.fad 0) (.b (some 14) false (.iad 5) (.u (some 12) .ld (.u (some 11) (.fad 4) (.od (.t 1)))) (.u (some 13) .mv (.od (.t 4)))))) (.od (.c (.str [110,97,109,101]))))⟩])
 (.cond (.t 6) (.seq (.drw [⟨(.l 0 0), [], ⟨(some 7), none, (.u (some 18) (.lda 5) (.od (.t 1)))⟩⟩,
 ⟨.p, [], ⟨(some 8), none, (.u (some 19) (.fad 0) (.od (.t 1)))⟩⟩,
 ⟨(.l 0 1), [1], ⟨(some 9), none, (.u (some 20) .ld (.od (.t 8)))⟩⟩,
 ⟨.p, [1,2], ⟨(some 10), none, (.b (some 21) false (.bin .eql) (.od (.t 9)) (.od (.c (.str [102,117,110,99]))))⟩⟩,
 ⟨.m, [0], ⟨none, none, (.b none false (.sta 5) (.od (.t 2)) (.od (.t 7)))⟩⟩,
 ⟨.p, [0,1,2,3,4], ⟨(some 3), none, (.u (some 3) .mv (.od (.t 10)))⟩⟩])
 (.ret))
 (.skip)))
 (.seq (.reg [⟨none, none, (.b none false (.sta 5) (.od (.t 1)) (.u (some 26) (.lda 5) (.b (some 25) false (.iad 5) (.u (some 23) .ld (.u (some 22) (.fad 4) (.od (.t 1)))) (.u (some 24) .mv (.od (.t 4))))))⟩])
 (.goto 0))))))))
def lf130 : LF := ⟨11, 1, lc130, [.ca 2 5,.t 3], [0,1,2,3,4,9,17,18,19,20,21]⟩

-- (*oxbow/express.Reader).Declare
def lc131 : LC := (.seq (.reg [⟨(some 3), none, (.gd (some 14) true false (.u (some 8) .mv (.b (some 7) false (.bin .neq) (.u (some 6) .mv (.od (.t 1))) (.od (.c (.str []))))) (.u (some 13) (.un .not) (.u (some 12) .ld (.u (some 11) (.fad 3) (.u (some 10) .nck (.u (some 9) .mv (.od (.t 0))))))))⟩])
 (.cond (.t 3) (.reg [⟨(some 4), none, (.u (some 16) .mv (.od (.t 0)))⟩,
 ⟨(some 5), none, (.u (some 15) .mv (.k (some 23) (.call 33) (.cons (.u (some 20) .ld (.u (some 19) (.fad 2) (.u (some 18) .nck (.u (some 17) .mv (.od (.t 0)))))) (.cons (.u (some 21) .mv (.od (.t 1))) (.cons (.u (some 22) .mv (.od (.t 2))) .nil)))))⟩,
 ⟨(some 6), none, (.u (some 24) (.ext 0) (.od (.t 5)))⟩,
 ⟨none, none, (.u (some 25) (.ext 1) (.od (.t 5)))⟩,
 ⟨none, none, (.b none false .st (.u (some 27) (.fad 2) (.u (some 26) .nck (.od (.t 4)))) (.od (.t 6)))⟩])
 (.skip)))
def lf131 : LF := ⟨7, 3, lc131, [], [0,1,2,14,16,15,24]⟩

-- (oxbow/unit.reader).body
def lc132 : LC := (.seq (.reg [⟨(some 5), none, (.u (some 5) (.box 135) (.od (.t 0)))⟩,
 ⟨(some 6), none, (.u (some 7) (.box 50) (.od (.t 2)))⟩,
 ⟨(some 7), none, (.u (some 8) (.box 50) (.od (.t 3)))⟩,
 ⟨(some 8), none, (.u (some 9) (.box 50) (.od (.t 4)))⟩,
 ⟨(some 9), none, (.a (some 10) [(.str []),(.str []),(.int .i64 (.ofNat 0)),(.int .i64 (.ofNat 0)),.nils] 50)⟩])
 (.seq (.reg [⟨(some 10), none, (.u (some 11) .mv (.u (some 20) .ld (.u (some 19) (.fad 2) (.u (some 18) .nck (.u (some 17) .ld (.u (some 16) (.fad 0) (.u (some 15) (.fad 0) (.od (.t 5)))))))))⟩])
 (.seq (.drw [⟨.p, [], ⟨(some 11), none, (.u (some 21) (.fad 0) (.od (.t 5)))⟩⟩,
 ⟨.p, [0], ⟨(some 12), none, (.u (some 22) (.fad 0) (.od (.t 11)))⟩⟩,
 ⟨(.l 0 1), [0,1], ⟨(some 13), none, (.u (some 23) .ld (.od (.t 12)))⟩⟩,
 ⟨.p, [], ⟨(some 14), none, (.u (some 24) .mv (.od (.t 10)))⟩⟩,
 ⟨.m, [3], ⟨(some 15), none, (.k (some 25) (.call 114) (.cons (.od (.t 14)) .nil))⟩⟩,
 ⟨.p, [0,1,2,3,4], ⟨(some 16), none, (.u (some 26) .nck (.od (.t 13)))⟩⟩,
 ⟨.p, [0,1,2,3,4,5], ⟨(some 17), none, (.u (some 27) (.fad 2) (.od (.t 16)))⟩⟩,
 ⟨.m, [0,1,2,3,4,5,6], ⟨none, none, (.b none false .st (.od (.t 17)) (.od (.t 15)))⟩⟩])
 (.seq (.seq (.reg [⟨(some 18), none, (.k (some 30) (.slv 5 true false) (.cons (.u (some 29) .ld (.u (some 28) (.fad 4) (.od (.t 8)))) (.cons (.od (.c (.int .i64 (.ofNat 1)))) .nil)))⟩,
 ⟨(some 19), none, (.u (some 31) .len (.od (.t 18)))⟩,
 ⟨(some 20), none, (.u (some 32) .mv (.od (.c (.int .i64 (.ofNat 0)))))⟩])
 (.blk 0 (.loop (.seq (.reg [⟨(some 21), none, (.b (some 33) false (.bin .lss) (.od (.t 20)) (.od (.t 19)))⟩])
 (.seq (.cond (.t 21) (.skip)
 (.exit 0))
 (.seq (.blk 1 (.seq (.reg [⟨(some 22), none, (.u (some 35) (.lda 5) (.b (some 34) false (.iad 5) (.od (.t 18)) (.od (.t 20))))⟩,
 ⟨(some 23), none, (.a (some 13) [(.str []),(.str []),(.int .i64 (.ofNat 0)),(.int .i64 (.ofNat 0)),.nils] 50)⟩,
 ⟨none, none, (.b none false (.sta 5) (.od (.t 23)) (.od (.t 22)))⟩])
 (.seq (.reg [⟨(some 24), none, (.u (some 37) .ld (.u (some 36) (.fad 0) (.od (.t 23))))⟩])
 (.blk 2 (.seq (.reg [⟨(some 25), none, (.u (some 38) .mv (.b (some 39) false (.bin .eql) (.od (.t 24)) (.od (.c (.str [112,97,114,97,109])))))⟩])
 (.cond (.t 25) (.drw [⟨.p, [], ⟨(some 26), none, (.u (some 40) (.fad 0) (.od (.t 5)))⟩⟩,
 ⟨.p, [0], ⟨(some 27), none, (.u (some 41) (.fad 0) (.od (.t 26)))⟩⟩,
 ⟨(.l 0 1), [0,1], ⟨(some 28), none, (.u (some 42) .ld (.od (.t 27)))⟩⟩,
 ⟨.p, [], ⟨(some 29), none, (.u (some 43) (.fad 4) (.od (.t 23)))⟩⟩,
 ⟨(.l 0 0), [3], ⟨(some 30), none, (.u (some 44) .ld (.od (.t 29)))⟩⟩,
 ⟨.p, [3,4], ⟨(some 31), none, (.b (some 45) false (.iad 5) (.od (.t 30)) (.od (.c (.int .i64 (.ofNat 1)))))⟩⟩,
 ⟨(.l 0 0), [3,4,5], ⟨(some 32), none, (.u (some 46) (.lda 5) (.od (.t 31)))⟩⟩,
 ⟨.m, [3,4,5,6], ⟨(some 33), none, (.k (some 47) (.call 29) (.cons (.od (.t 32)) .nil))⟩⟩,
 ⟨.m, [0,1,2,3,4,5,6,7], ⟨none, none, (.k (some 48) (.call 131) (.cons (.od (.t 28)) (.cons (.od (.t 33)) (.cons (.od (.c (.bool false))) .nil))))⟩⟩])
 (.seq (.reg [⟨(some 34), none, (.u (some 49) .mv (.b (some 50) false (.bin .eql) (.od (.t 24)) (.od (.c (.str [105,100])))))⟩])
 (.cond (.t 34) (.reg [⟨none, none, (.k (some 56) (.call 131) (.cons (.u (some 53) .ld (.u (some 52) (.fad 0) (.u (some 51) (.fad 0) (.od (.t 5))))) (.cons (.u (some 55) .ld (.u (some 54) (.fad 1) (.od (.t 23)))) (.cons (.od (.c (.bool false))) .nil))))⟩])
 (.skip)))))))))
 (.reg [⟨(some 20), none, (.u (some 32) .mv (.b (some 57) false (.bin .add) (.od (.t 20)) (.od (.c (.int .i64 (.ofNat 1))))))⟩])))))))
 (.seq (.reg [⟨(some 35), none, (.u (some 14) .mv (.k (some 60) (.bsl 5 50) (.cons (.u (some 58) (.lda 5) (.od (.t 6))) (.cons (.u (some 59) (.lda 5) (.od (.t 7))) .nil))))⟩])
 (.seq (.blk 3 (.loop (.seq (.seq (.reg [⟨(some 36), none, (.gd (some 73) true false (.u (some 68) .mv (.u (some 67) (.un .not) (.u (some 66) .ld (.u (some 65) (.fad 3) (.u (some 64) .nck (.u (some 63) .ld (.u (some 62) (.fad 0) (.u (some 61) (.fad 0) (.od (.t 5)))))))))) (.k (some 72) (.call 58) (.cons (.u (some 71) .ld (.u (some 70) (.fad 0) (.u (some 69) (.fad 0) (.od (.t 5))))) .nil)))⟩])
 (.cond (.t 36) (.skip)
 (.exit 3)))
 (.blk 4 (.reg [⟨(some 35), none, (.u (some 14) .mv (.b (some 79) false (.app 5 72 50) (.u (some 74) .mv (.od (.t 35))) (.k (some 78) (.bsl 5 50) (.cons (.k (some 77) (.call 70) (.cons (.u (some 76) (.lda 1) (.u (some 75) (.fad 0) (.od (.t 5)))) (.cons (.od (.c (.int .i64 (.ofNat 0)))) .nil))) .nil))))⟩])))))
 (.seq (.reg [⟨(some 35), none, (.u (some 14) .mv (.b (some 85) false (.app 5 72 50) (.u (some 80) .mv (.od (.t 35))) (.k (some 84) (.bsl 5 50) (.cons (.k (some 83) (.call 115) (.cons (.u (some 82) (.lda 1) (.u (some 81) (.fad 0) (.od (.t 5)))) (.cons (.od (.c (.int .i64 (.ofNat 1)))) .nil))) .nil))))⟩])
 (.seq (.reg [⟨(some 37), none, (.u (some 88) .ld (.u (some 87) (.fad 0) (.u (some 86) (.fad 0) (.od (.t 5)))))⟩,
 ⟨(some 38), none, (.u (some 89) .mv (.od (.t 10)))⟩,
 ⟨none, none, (.b none false .st (.u (some 91) (.fad 2) (.u (some 90) .nck (.od (.t 37)))) (.od (.t 38)))⟩])
 (.seq (.reg [⟨none, none, (.b none false (.sta 5) (.od (.t 9)) (.k (some 97) (.call 123) (.cons (.u (some 94) .ld (.u (some 93) (.fad 0) (.u (some 92) (.fad 0) (.od (.t 5))))) (.cons (.od (.c (.str [102,117,110,99,116,105,111,110]))) (.cons (.od (.c (.str []))) (.cons (.u (some 95) .mv (.od (.t 1))) (.cons (.u (some 96) .mv (.od (.t 35))) .nil)))))))⟩])
 (.ret))))))))))
def lf132 : LF := ⟨39, 5, lc132, [.ca 9 5], [0,1,2,3,4,5,7,8,9,10,11,21,22,23,24,25,26,27,30,31,32,33,35,13,37,38,40,41,42,43,44,45,46,47,49,14,73,88,89]⟩

-- (*oxbow/express.Reader).Assign
def lc138 : LC := (.seq (.reg [⟨(some 2), none, (.a (some 4) [(.str []),(.str []),(.int .i64 (.ofNat 0)),(.int .i64 (.ofNat 0)),.nils] 50)⟩])
 (.seq (.seq (.reg [⟨(some 3), none, (.k (some 10) (.call 109) (.cons (.u (some 8) .mv (.od (.t 0))) (.cons (.u (some 9) .mv (.od (.t 1))) .nil)))⟩])
 (.cond (.t 3) (.seq (.reg [⟨none, none, (.b none false (.sta 5) (.od (.t 2)) (.u (some 11) (.lda 5) (.od (.t 2))))⟩])
 (.ret))
 (.skip)))
 (.seq (.reg [⟨(some 4), none, (.u (some 12) .mv (.k (some 16) (.call 181) (.cons (.u (some 13) .mv (.od (.t 0))) (.cons (.b (some 15) false (.bin .add) (.u (some 14) .mv (.od (.t 1))) (.od (.c (.int .i64 (.ofNat 1))))) .nil))))⟩,
 ⟨(some 5), none, (.u (some 17) (.ext 0) (.od (.t 4)))⟩,
 ⟨(some 6), none, (.u (some 18) (.ext 1) (.od (.t 4)))⟩,
 ⟨none, none, (.b none false (.sta 5) (.od (.t 2)) (.od (.t 5)))⟩,
 ⟨(some 7), none, (.u (some 5) .mv (.od (.t 6)))⟩])
 (.seq (.reg [⟨(some 8), none, (.k (some 20) (.call 100) (.cons (.u (some 19) .mv (.od (.t 0))) .nil))⟩,
 ⟨(some 9), none, (.a (some 6) [(.int .i64 (.ofNat 0)),(.str []),(.str []),(.int .i64 (.ofNat 0)),(.int .i64 (.ofNat 0)),(.int .i64 (.ofNat 0)),(.int .i64 (.ofNat 0))] 95)⟩,
 ⟨none, none, (.b none false (.sta 7) (.od (.t 9)) (.od (.t 8)))⟩])
 (.seq (.seq (.reg [⟨(some 10), none, (.gd (some 39) false true (.u (some 34) .mv (.gd (some 33) false true (.u (some 29) .mv (.gd (some 28) false true (.u (some 25) .mv (.u (some 24) .ld (.u (some 23) (.fad 3) (.u (some 22) .nck (.u (some 21) .mv (.od (.t 0))))))) (.u (some 27) (.un .not) (.u (some 26) .mv (.od (.t 7)))))) (.b (some 32) false (.bin .neq) (.u (some 31) .ld (.u (some 30) (.fad 0) (.od (.t 9)))) (.od (.c (.int .i64 (.ofNat 7))))))) (.u (some 38) (.un .not) (.k (some 37) (.call 182) (.cons (.u (some 36) .ld (.u (some 35) (.fad 1) (.od (.t 9)))) .nil))))⟩])
 (.cond (.t 10) (.seq (.reg [⟨none, none, (.b none false (.sta 5) (.od (.t 2)) (.u (some 40) (.lda 5) (.od (.t 2))))⟩])
 (.ret))
 (.skip)))
 (.seq (.reg [⟨(some 11), none, (.u (some 41) .mv (.od (.t 0)))⟩,
 ⟨none, none, (.b none true .st (.u (some 47) (.fad 1) (.u (some 46) .nck (.od (.t 11)))) (.b (some 45) false (.bin .add) (.u (some 44) .ld (.u (some 43) (.fad 1) (.u (some 42) .nck (.od (.t 11))))) (.od (.c (.int .i64 (.ofNat 1))))))⟩])
 (.seq (.reg [⟨(some 12), none, (.k (some 51) (.call 138) (.cons (.u (some 48) .mv (.od (.t 0))) (.cons (.b (some 50) false (.bin .add) (.u (some 49) .mv (.od (.t 1))) (.od (.c (.int .i64 (.ofNat 1))))) .nil)))⟩,
 ⟨(some 13), none, (.a (some 7) [(.str []),(.str []),(.int .i64 (.ofNat 0)),(.int .i64 (.ofNat 0)),.nils] 50)⟩,
 ⟨none, none, (.b none false (.sta 5) (.od (.t 13)) (.od (.t 12)))⟩])
 (.seq (.reg [⟨none, none, (.b none false (.sta 5) (.od (.t 2)) (.k (some 60) (.call 123) (.cons (.u (some 52) .mv (.od (.t 0))) (.cons (.od (.c (.str [97,115,115,105,103,110]))) (.cons (.u (some 54) .ld (.u (some 53) (.fad 1) (.od (.t 9)))) (.cons (.u (some 56) .ld (.u (some 55) (.fad 2) (.od (.t 2)))) (.cons (.k (some 59) (.bsl 5 50) (.cons (.u (some 57) (.lda 5) (.od (.t 2))) (.cons (.u (some 58) (.lda 5) (.od (.t 13))) .nil))) .nil)))))))⟩])
 (.ret)))))))))
def lf138 : LF := ⟨14, 2, lc138, [.ca 2 5], [0,1,4,10,12,17,18,5,20,6,39,41,51,7]⟩

-- oxbow/oxbowref4.spliced
def lc139 : LC := (.seq (.reg [⟨(some 1), none, (.u (some 2) .mv (.od (.c .nils)))⟩])
 (.seq (.reg [⟨(some 2), none, (.u (some 3) .mv (.od (.c .nils)))⟩])
 (.seq (.seq (.reg [⟨(some 3), none, (.u (some 4) .mv (.od (.c (.int .i64 (.ofNat 0)))))⟩])
 (.blk 0 (.loop (.seq (.seq (.reg [⟨(some 4), none, (.b (some 8) false (.bin .lss) (.u (some 5) .mv (.od (.t 3))) (.u (some 7) .len (.u (some 6) .mv (.od (.t 0)))))⟩])
 (.cond (.t 4) (.skip)
 (.exit 0)))
 (.seq (.blk 1 (.seq (.seq (.reg [⟨(some 5), none, (.gd (some 32) true false (.u (some 24) .mv (.gd (some 23) true false (.u (some 17) .mv (.b (some 16) false (.bin .eql) (.u (some 15) .ld (.u (some 14) (.fad 0) (.b (some 13) false (.iad 3) (.u (some 11) .mv (.od (.t 0))) (.u (some 12) .mv (.od (.t 3)))))) (.od (.c (.int .u8 (.ofNat 92)))))) (.b (some 22) false (.bin .lss) (.b (some 19) false (.bin .add) (.u (some 18) .mv (.od (.t 3))) (.od (.c (.int .i64 (.ofNat 1))))) (.u (some 21) .len (.u (some 20) .mv (.od (.t 0))))))) (.b (some 31) false (.bin .eql) (.u (some 30) .ld (.u (some 29) (.fad 0) (.b (some 28) false (.iad 3) (.u (some 25) .mv (.od (.t 0))) (.b (some 27) false (.bin .add) (.u (some 26) .mv (.od (.t 3))) (.od (.c (.int .i64 (.ofNat 1)))))))) (.od (.c (.int .u8 (.ofNat 10))))))⟩])
 (.cond (.t 5) (.seq (.reg [⟨(some 3), none, (.u (some 4) .mv (.b (some 34) false (.bin .add) (.u (some 33) .mv (.od (.t 3))) (.od (.c (.int .i64 (.ofNat 1))))))⟩])
 (.exit 1))
 (.skip)))
 (.reg [⟨(some 2), none, (.u (some 3) .mv (.b (some 41) false (.app 3 24 151) (.u (some 35) .mv (.od (.t 2))) (.k (some 40) (.bsl 3 151) (.cons (.u (some 39) (.lda 3) (.b (some 38) false (.iad 3) (.u (some 36) .mv (.od (.t 0))) (.u (some 37) .mv (.od (.t 3))))) .nil))))⟩])))
 (.reg [⟨(some 3), none, (.u (some 4) .mv (.b (some 10) false (.bin .add) (.u (some 9) .mv (.od (.t 3))) (.od (.c (.int .i64 (.ofNat 1))))))⟩]))))))
 (.seq (.reg [⟨(some 1), none, (.u (some 2) .mv (.u (some 42) .mv (.od (.t 2))))⟩])
 (.ret)))))
def lf139 : LF := ⟨6, 1, lc139, [.t 1], [0,2,3,4,8,32]⟩

-- oxbow/oxbowref4.plain
def lc140 : LC := (.seq (.reg [⟨(some 1), none, (.u (some 2) .mv (.od (.c .nils)))⟩])
 (.seq (.reg [⟨(some 2), none, (.u (some 3) .mv (.od (.c .nils)))⟩])
 (.seq (.seq (.reg [⟨(some 3), none, (.u (some 4) .mv (.od (.c (.int .i64 (.ofNat 0)))))⟩])
 (.blk 0 (.loop (.seq (.seq (.reg [⟨(some 4), none, (.b (some 10) false (.bin .lss) (.u (some 7) .mv (.od (.t 3))) (.u (some 9) .lens (.u (some 8) .mv (.od (.t 0)))))⟩])
 (.cond (.t 4) (.skip)
 (.exit 0)))
 (.blk 1 (.seq (.seq (.reg [⟨(some 5), none, (.gd (some 28) true false (.u (some 22) .mv (.gd (some 21) true false (.u (some 16) .mv (.b (some 15) false (.bin .lss) (.b (some 12) false (.bin .add) (.u (some 11) .mv (.od (.t 3))) (.od (.c (.int .i64 (.ofNat 2))))) (.u (some 14) .lens (.u (some 13) .mv (.od (.t 0)))))) (.b (some 20) false (.bin .eql) (.b (some 19) false .ixs (.u (some 17) .mv (.od (.t 0))) (.u (some 18) .mv (.od (.t 3)))) (.od (.c (.int .u8 (.ofNat 63))))))) (.b (some 27) false (.bin .eql) (.b (some 26) false .ixs (.u (some 23) .mv (.od (.t 0))) (.b (some 25) false (.bin .add) (.u (some 24) .mv (.od (.t 3))) (.od (.c (.int .i64 (.ofNat 1)))))) (.od (.c (.int .u8 (.ofNat 63))))))⟩])
 (.cond (.t 5) (.seq (.reg [⟨(some 6), none, (.u (some 29) .mv (.k (some 34) (.call 183) (.cons (.b (some 33) false .ixs (.u (some 30) .mv (.od (.t 0))) (.b (some 32) false (.bin .add) (.u (some 31) .mv (.od (.t 3))) (.od (.c (.int .i64 (.ofNat 2)))))) .nil)))⟩,
 ⟨(some 7), none, (.u (some 35) (.ext 0) (.od (.t 6)))⟩,
 ⟨(some 8), none, (.u (some 36) (.ext 1) (.od (.t 6)))⟩,
 ⟨(some 9), none, (.u (some 5) .mv (.od (.t 7)))⟩,
 ⟨(some 10), none, (.u (some 6) .mv (.od (.t 8)))⟩])
 (.seq (.reg [⟨(some 11), none, (.u (some 37) .mv (.od (.t 10)))⟩])
 (.cond (.t 11) (.seq (.reg [⟨(some 2), none, (.u (some 3) .mv (.b (some 45) false (.app 3 24 151) (.u (some 38) .mv (.od (.t 2))) (.k (some 44) (.bsl 3 151) (.cons (.k (some 43) (.build [(.int .u8 (.ofNat 0)),(.int .i64 (.ofNat 0)),(.int .i64 (.ofNat 0))] [(0,1),(1,1),(2,1)]) (.cons (.u (some 39) .mv (.od (.t 9))) (.cons (.u (some 40) .mv (.od (.t 3))) (.cons (.b (some 42) false (.bin .add) (.u (some 41) .mv (.od (.t 3))) (.od (.c (.int .i64 (.ofNat 3))))) .nil)))) .nil))))⟩])
 (.seq (.reg [⟨(some 3), none, (.u (some 4) .mv (.b (some 47) false (.bin .add) (.u (some 46) .mv (.od (.t 3))) (.od (.c (.int .i64 (.ofNat 3))))))⟩])
 (.exit 1)))
 (.skip))))
 (.skip)))
 (.seq (.reg [⟨(some 2), none, (.u (some 3) .mv (.b (some 57) false (.app 3 24 151) (.u (some 48) .mv (.od (.t 2))) (.k (some 56) (.bsl 3 151) (.cons (.k (some 55) (.build [(.int .u8 (.ofNat 0)),(.int .i64 (.ofNat 0)),(.int .i64 (.ofNat 0))] [(0,1),(1,1),(2,1)]) (.cons (.b (some 51) false .ixs (.u (some 49) .mv (.od (.t 0))) (.u (some 50) .mv (.od (.t 3)))) (.cons (.u (some 52) .mv (.od (.t 3))) (.cons (.b (some 54) false (.bin .add) (.u (some 53) .mv (.od (.t 3))) (.od (.c (.int .i64 (.ofNat 1))))) .nil)))) .nil))))⟩])
 (.reg [⟨(some 3), none, (.u (some 4) .mv (.b (some 59) false (.bin .add) (.u (some 58) .mv (.od (.t 3))) (.od (.c (.int .i64 (.ofNat 1))))))⟩]))))))))
 (.seq (.reg [⟨(some 1), none, (.u (some 2) .mv (.u (some 60) .mv (.od (.t 2))))⟩])
 (.ret)))))
def lf140 : LF := ⟨12, 1, lc140, [.t 1], [0,2,3,4,10,28,29,35,36,5,6,37]⟩

-- oxbow/oxbowref4.at
def lc141 : LC := (.seq (.reg [⟨(some 2), none, (.u (some 4) .mv (.od (.c (.int .u8 (.ofNat 0)))))⟩])
 (.seq (.seq (.reg [⟨(some 3), none, (.gd (some 12) false true (.u (some 7) .mv (.b (some 6) false (.bin .lss) (.u (some 5) .mv (.od (.t 1))) (.od (.c (.int .i64 (.ofNat 0)))))) (.b (some 11) false (.bin .geq) (.u (some 8) .mv (.od (.t 1))) (.u (some 10) .len (.u (some 9) .mv (.od (.t 0))))))⟩])
 (.cond (.t 3) (.seq (.reg [⟨(some 2), none, (.u (some 4) .mv (.od (.c (.int .u8 (.ofNat 0)))))⟩])
 (.ret))
 (.skip)))
 (.seq (.reg [⟨(some 2), none, (.u (some 4) .mv (.u (some 17) .ld (.u (some 16) (.fad 0) (.b (some 15) false (.iad 3) (.u (some 13) .mv (.od (.t 0))) (.u (some 14) .mv (.od (.t 1)))))))⟩])
 (.ret))))
def lf141 : LF := ⟨4, 2, lc141, [.t 2], [0,1,4,12]⟩

-- oxbow/oxbowref4.letters
def lc142 : LC := (.seq (.reg [⟨(some 2), none, (.u (some 4) .mv (.od (.c (.int .i64 (.ofNat 0)))))⟩])
 (.seq (.reg [⟨(some 3), none, (.u (some 5) .mv (.k (some 8) (.call 141) (.cons (.u (some 6) .mv (.od (.t 0))) (.cons (.u (some 7) .mv (.od (.t 1))) .nil))))⟩])
 (.seq (.seq (.reg [⟨(some 4), none, (.gd (some 14) false true (.u (some 11) .mv (.b (some 10) false (.bin .eql) (.u (some 9) .mv (.od (.t 3))) (.od (.c (.int .u8 (.ofNat 34)))))) (.b (some 13) false (.bin .eql) (.u (some 12) .mv (.od (.t 3))) (.od (.c (.int .u8 (.ofNat 39))))))⟩])
 (.cond (.t 4) (.seq (.reg [⟨(some 2), none, (.u (some 4) .mv (.od (.c (.int .i64 (.ofNat 0)))))⟩])
 (.ret))
 (.skip)))
 (.seq (.seq (.reg [⟨(some 5), none, (.gd (some 30) true false (.u (some 24) .mv (.gd (some 23) true false (.u (some 17) .mv (.b (some 16) false (.bin .eql) (.u (some 15) .mv (.od (.t 3))) (.od (.c (.int .u8 (.ofNat 117)))))) (.b (some 22) false (.bin .eql) (.k (some 21) (.call 141) (.cons (.u (some 18) .mv (.od (.t 0))) (.cons (.b (some 20) false (.bin .add) (.u (some 19) .mv (.od (.t 1))) (.od (.c (.int .i64 (.ofNat 1))))) .nil))) (.od (.c (.int .u8 (.ofNat 56))))))) (.b (some 29) false (.bin .eql) (.k (some 28) (.call 141) (.cons (.u (some 25) .mv (.od (.t 0))) (.cons (.b (some 27) false (.bin .add) (.u (some 26) .mv (.od (.t 1))) (.od (.c (.int .i64 (.ofNat 2))))) .nil))) (.od (.c (.int .u8 (.ofNat 34))))))⟩])
 (.cond (.t 5) (.seq (.reg [⟨(some 2), none, (.u (some 4) .mv (.od (.c (.int .i64 (.ofNat 2)))))⟩])
 (.ret))
 (.skip)))
 (.seq (.seq (.reg [⟨(some 6), none, (.gd (some 54) true false (.u (some 41) .mv (.gd (some 40) false true (.u (some 37) .mv (.gd (some 36) false true (.u (some 33) .mv (.b (some 32) false (.bin .eql) (.u (some 31) .mv (.od (.t 3))) (.od (.c (.int .u8 (.ofNat 76)))))) (.b (some 35) false (.bin .eql) (.u (some 34) .mv (.od (.t 3))) (.od (.c (.int .u8 (.ofNat 117))))))) (.b (some 39) false (.bin .eql) (.u (some 38) .mv (.od (.t 3))) (.od (.c (.int .u8 (.ofNat 85))))))) (.gd (some 53) false true (.u (some 47) .mv (.b (some 46) false (.bin .eql) (.k (some 45) (.call 141) (.cons (.u (some 42) .mv (.od (.t 0))) (.cons (.b (some 44) false (.bin .add) (.u (some 43) .mv (.od (.t 1))) (.od (.c (.int .i64 (.ofNat 1))))) .nil))) (.od (.c (.int .u8 (.ofNat 34)))))) (.b (some 52) false (.bin .eql) (.k (some 51) (.call 141) (.cons (.u (some 48) .mv (.od (.t 0))) (.cons (.b (some 50) false (.bin .add) (.u (some 49) .mv (.od (.t 1))) (.od (.c (.int .i64 (.ofNat 1))))) .nil))) (.od (.c (.int .u8 (.ofNat 39)))))))⟩])
 (.cond (.t 6) (.seq (.reg [⟨(some 2), none, (.u (some 4) .mv (.od (.c (.int .i64 (.ofNat 1)))))⟩])
 (.ret))
 (.skip)))
 (.seq (.reg [⟨(some 2), none, (.u (some 4) .mv (.od (.c (.int .i64 (.negSucc 0)))))⟩])
 (.ret)))))))
def lf142 : LF := ⟨7, 2, lc142, [.t 2], [0,1,4,5,14,30,54]⟩

-- oxbow/oxbowref4.quoted
def lc143 : LC := (.seq (.reg [⟨(some 2), none, (.u (some 4) .mv (.od (.c (.int .i64 (.ofNat 0)))))⟩])
 (.seq (.reg [⟨(some 3), none, (.u (some 5) .mv (.k (some 9) (.call 141) (.cons (.u (some 7) .mv (.od (.t 0))) (.cons (.u (some 8) .mv (.od (.t 1))) .nil))))⟩])
 (.seq (.seq (.reg [⟨(some 4), none, (.u (some 6) .mv (.b (some 11) false (.bin .add) (.u (some 10) .mv (.od (.t 1))) (.od (.c (.int .i64 (.ofNat 1))))))⟩])
 (.blk 0 (.loop (.seq (.seq (.reg [⟨(some 5), none, (.gd (some 23) true false (.u (some 16) .mv (.b (some 15) false (.bin .lss) (.u (some 12) .mv (.od (.t 4))) (.u (some 14) .len (.u (some 13) .mv (.od (.t 0)))))) (.b (some 22) false (.bin .neq) (.u (some 21) .ld (.u (some 20) (.fad 0) (.b (some 19) false (.iad 3) (.u (some 17) .mv (.od (.t 0))) (.u (some 18) .mv (.od (.t 4)))))) (.od (.c (.int .u8 (.ofNat 10))))))⟩])
 (.cond (.t 5) (.skip)
 (.exit 0)))
 (.seq (.blk 1 (.seq (.seq (.reg [⟨(some 6), none, (.gd (some 47) true false (.u (some 39) .mv (.gd (some 38) true false (.u (some 32) .mv (.b (some 31) false (.bin .eql) (.u (some 30) .ld (.u (some 29) (.fad 0) (.b (some 28) false (.iad 3) (.u (some 26) .mv (.od (.t 0))) (.u (some 27) .mv (.od (.t 4)))))) (.od (.c (.int .u8 (.ofNat 92)))))) (.b (some 37) false (.bin .lss) (.b (some 34) false (.bin .add) (.u (some 33) .mv (.od (.t 4))) (.od (.c (.int .i64 (.ofNat 1))))) (.u (some 36) .len (.u (some 35) .mv (.od (.t 0))))))) (.b (some 46) false (.bin .neq) (.u (some 45) .ld (.u (some 44) (.fad 0) (.b (some 43) false (.iad 3) (.u (some 40) .mv (.od (.t 0))) (.b (some 42) false (.bin .add) (.u (some 41) .mv (.od (.t 4))) (.od (.c (.int .i64 (.ofNat 1)))))))) (.od (.c (.int .u8 (.ofNat 10))))))⟩])
 (.cond (.t 6) (.seq (.reg [⟨(some 4), none, (.u (some 6) .mv (.b (some 49) false (.bin .add) (.u (some 48) .mv (.od (.t 4))) (.od (.c (.int .i64 (.ofNat 1))))))⟩])
 (.exit 1))
 (.skip)))
 (.seq (.reg [⟨(some 7), none, (.b (some 56) false (.bin .eql) (.u (some 54) .ld (.u (some 53) (.fad 0) (.b (some 52) false (.iad 3) (.u (some 50) .mv (.od (.t 0))) (.u (some 51) .mv (.od (.t 4)))))) (.u (some 55) .mv (.od (.t 3))))⟩])
 (.cond (.t 7) (.seq (.reg [⟨(some 2), none, (.u (some 4) .mv (.b (some 58) false (.bin .add) (.u (some 57) .mv (.od (.t 4))) (.od (.c (.int .i64 (.ofNat 1))))))⟩])
 (.ret))
 (.skip)))))
 (.reg [⟨(some 4), none, (.u (some 6) .mv (.b (some 25) false (.bin .add) (.u (some 24) .mv (.od (.t 4))) (.od (.c (.int .i64 (.ofNat 1))))))⟩]))))))
 (.seq (.reg [⟨(some 2), none, (.u (some 4) .mv (.od (.c (.int .i64 (.ofNat 0)))))⟩])
 (.ret)))))
def lf143 : LF := ⟨8, 2, lc143, [.t 2], [0,1,4,5,6,23,47,56]⟩

-- oxbow/oxbowref4.Letter
def lc144 : LC := (.seq (.reg [⟨(some 1), none, (.u (some 2) .mv (.od (.c (.bool false))))⟩])
 (.seq (.reg [⟨(some 1), none, (.u (some 2) .mv (.gd (some 20) false true (.u (some 17) .mv (.gd (some 16) false true (.u (some 9) .mv (.gd (some 8) true false (.u (some 5) .mv (.b (some 4) false (.bin .geq) (.u (some 3) .mv (.od (.t 0))) (.od (.c (.int .u8 (.ofNat 97)))))) (.b (some 7) false (.bin .leq) (.u (some 6) .mv (.od (.t 0))) (.od (.c (.int .u8 (.ofNat 122))))))) (.gd (some 15) true false (.u (some 12) .mv (.b (some 11) false (.bin .geq) (.u (some 10) .mv (.od (.t 0))) (.od (.c (.int .u8 (.ofNat 65)))))) (.b (some 14) false (.bin .leq) (.u (some 13) .mv (.od (.t 0))) (.od (.c (.int .u8 (.ofNat 90)))))))) (.b (some 19) false (.bin .eql) (.u (some 18) .mv (.od (.t 0))) (.od (.c (.int .u8 (.ofNat 95)))))))⟩])
 (.ret)))
def lf144 : LF := ⟨2, 1, lc144, [.t 1], [0,2]⟩

-- oxbow/oxbowref4.Digit
def lc145 : LC := (.seq (.reg [⟨(some 1), none, (.u (some 2) .mv (.od (.c (.bool false))))⟩])
 (.seq (.reg [⟨(some 1), none, (.u (some 2) .mv (.gd (some 8) true false (.u (some 5) .mv (.b (some 4) false (.bin .geq) (.u (some 3) .mv (.od (.t 0))) (.od (.c (.int .u8 (.ofNat 48)))))) (.b (some 7) false (.bin .leq) (.u (some 6) .mv (.od (.t 0))) (.od (.c (.int .u8 (.ofNat 57)))))))⟩])
 (.ret)))
def lf145 : LF := ⟨2, 1, lc145, [.t 1], [0,2]⟩

-- oxbow/oxbowref4.number
def lc146 : LC := (.seq (.reg [⟨(some 2), none, (.u (some 4) .mv (.od (.c (.int .i64 (.ofNat 0)))))⟩])
 (.seq (.seq (.reg [⟨(some 3), none, (.gd (some 26) true false (.u (some 13) .mv (.u (some 12) (.un .not) (.k (some 11) (.call 145) (.cons (.k (some 10) (.call 141) (.cons (.u (some 8) .mv (.od (.t 0))) (.cons (.u (some 9) .mv (.od (.t 1))) .nil))) .nil)))) (.gd (some 25) false true (.u (some 18) .mv (.b (some 17) false (.bin .neq) (.k (some 16) (.call 141) (.cons (.u (some 14) .mv (.od (.t 0))) (.cons (.u (some 15) .mv (.od (.t 1))) .nil))) (.od (.c (.int .u8 (.ofNat 46)))))) (.u (some 24) (.un .not) (.k (some 23) (.call 145) (.cons (.k (some 22) (.call 141) (.cons (.u (some 19) .mv (.od (.t 0))) (.cons (.b (some 21) false (.bin .add) (.u (some 20) .mv (.od (.t 1))) (.od (.c (.int .i64 (.ofNat 1))))) .nil))) .nil)))))⟩])
 (.cond (.t 3) (.seq (.reg [⟨(some 2), none, (.u (some 4) .mv (.u (some 27) .mv (.od (.t 1))))⟩])
 (.ret))
 (.skip)))
 (.seq (.reg [⟨(some 4), none, (.u (some 5) .mv (.b (some 29) false (.bin .add) (.u (some 28) .mv (.od (.t 1))) (.od (.c (.int .i64 (.ofNat 1))))))⟩])
 (.blk 0 (.loop (.blk 1 (.seq (.reg [⟨(some 5), none, (.k (some 32) (.call 141) (.cons (.u (some 30) .mv (.od (.t 0))) (.cons (.u (some 31) .mv (.od (.t 4))) .nil)))⟩,
 ⟨(some 6), none, (.k (some 36) (.call 141) (.cons (.u (some 33) .mv (.od (.t 0))) (.cons (.b (some 35) false (.bin .add) (.u (some 34) .mv (.od (.t 4))) (.od (.c (.int .i64 (.ofNat 1))))) .nil)))⟩,
 ⟨(some 7), none, (.u (some 6) .mv (.od (.t 5)))⟩,
 ⟨(some 8), none, (.u (some 7) .mv (.od (.t 6)))⟩])
 (.blk 2 (.seq (.reg [⟨(some 9), none, (.u (some 38) .mv (.gd (some 60) true false (.u (some 53) .mv (.gd (some 52) false true (.u (some 49) .mv (.gd (some 48) false true (.u (some 45) .mv (.gd (some 44) false true (.u (some 41) .mv (.b (some 40) false (.bin .eql) (.u (some 39) .mv (.od (.t 7))) (.od (.c (.int .u8 (.ofNat 101)))))) (.b (some 43) false (.bin .eql) (.u (some 42) .mv (.od (.t 7))) (.od (.c (.int .u8 (.ofNat 69))))))) (.b (some 47) false (.bin .eql) (.u (some 46) .mv (.od (.t 7))) (.od (.c (.int .u8 (.ofNat 112))))))) (.b (some 51) false (.bin .eql) (.u (some 50) .mv (.od (.t 7))) (.od (.c (.int .u8 (.ofNat 80))))))) (.gd (some 59) false true (.u (some 56) .mv (.b (some 55) false (.bin .eql) (.u (some 54) .mv (.od (.t 8))) (.od (.c (.int .u8 (.ofNat 43)))))) (.b (some 58) false (.bin .eql) (.u (some 57) .mv (.od (.t 8))) (.od (.c (.int .u8 (.ofNat 45))))))))⟩])
 (.cond (.t 9) (.reg [⟨(some 4), none, (.u (some 5) .mv (.b (some 62) false (.bin .add) (.u (some 61) .mv (.od (.t 4))) (.od (.c (.int .i64 (.ofNat 2))))))⟩])
 (.seq (.reg [⟨(some 10), none, (.u (some 63) .mv (.gd (some 73) false true (.u (some 70) .mv (.gd (some 69) false true (.u (some 66) .mv (.k (some 65) (.call 144) (.cons (.u (some 64) .mv (.od (.t 7))) .nil))) (.k (some 68) (.call 145) (.cons (.u (some 67) .mv (.od (.t 7))) .nil)))) (.b (some 72) false (.bin .eql) (.u (some 71) .mv (.od (.t 7))) (.od (.c (.int .u8 (.ofNat 46)))))))⟩])
 (.cond (.t 10) (.reg [⟨(some 4), none, (.u (some 5) .mv (.b (some 75) false (.bin .add) (.u (some 74) .mv (.od (.t 4))) (.od (.c (.int .i64 (.ofNat 1))))))⟩])
 (.seq (.reg [⟨(some 2), none, (.u (some 4) .mv (.u (some 37) .mv (.od (.t 4))))⟩])
 (.ret))))))))))))))
def lf146 : LF := ⟨11, 2, lc146, [.t 2], [0,1,4,26,5,32,36,6,7,38,63]⟩

-- oxbow/oxbowref4.punct
def lc147 : LC := (.seq (.reg [⟨(some 2), none, (.u (some 4) .mv (.od (.c (.int .i64 (.ofNat 0)))))⟩])
 (.seq (.reg [⟨(some 3), none, (.u (some 5) .mv (.k (some 8) (.call 184) .nil))⟩])
 (.seq (.seq (.reg [⟨(some 4), none, (.u (some 6) .mv (.od (.c (.int .i64 (.ofNat 0)))))⟩])
 (.blk 0 (.loop (.seq (.seq (.reg [⟨(some 5), none, (.b (some 12) false (.bin .lss) (.u (some 9) .mv (.od (.t 4))) (.u (some 11) .len (.u (some 10) .mv (.od (.t 3)))))⟩])
 (.cond (.t 5) (.skip)
 (.exit 0)))
 (.seq (.blk 1 (.seq (.reg [⟨(some 6), none, (.u (some 7) .mv (.od (.c (.int .i64 (.ofNat 0)))))⟩])
 (.seq (.blk 2 (.loop (.seq (.seq (.drw [⟨.p, [], ⟨(some 7), none, (.u (some 15) .mv (.od (.t 6)))⟩⟩,
 ⟨.p, [], ⟨(some 8), none, (.u (some 16) .mv (.od (.t 3)))⟩⟩,
 ⟨.p, [], ⟨(some 9), none, (.u (some 17) .mv (.od (.t 4)))⟩⟩,
 ⟨.p, [1,2], ⟨(some 10), none, (.b (some 18) false (.iad 1) (.od (.t 8)) (.od (.t 9)))⟩⟩,
 ⟨(.l 0 0), [1,2,3], ⟨(some 11), none, (.u (some 19) .ld (.od (.t 10)))⟩⟩,
 ⟨.p, [1,2,3,4], ⟨(some 12), none, (.u (some 20) .lens (.od (.t 11)))⟩⟩,
 ⟨.p, [0,1,2,3,4,5], ⟨(some 13), none, (.b (some 21) false (.bin .lss) (.od (.t 7)) (.od (.t 12)))⟩⟩,
 ⟨.p, [0,1,2,3,4,5,6], ⟨(some 14), none, (.u (some 22) .mv (.od (.t 13)))⟩⟩,
 ⟨.p, [0,1,2,3,4,5,6,7], ⟨(some 15), some (14, true), (.u (some 23) .mv (.od (.t 0)))⟩⟩,
 ⟨.p, [0,1,2,3,4,5,6,7], ⟨(some 16), some (14, true), (.u (some 24) .mv (.od (.t 1)))⟩⟩,
 ⟨.p, [0,1,2,3,4,5,6,7], ⟨(some 17), some (14, true), (.u (some 25) .mv (.od (.t 6)))⟩⟩,
 ⟨.p, [0,1,2,3,4,5,6,7,9,10], ⟨(some 18), some (14, true), (.b (some 26) false (.bin .add) (.od (.t 16)) (.od (.t 17)))⟩⟩,
 ⟨.m, [0,1,2,3,4,5,6,7,8,9,10,11], ⟨(some 19), some (14, true), (.k (some 27) (.call 141) (.cons (.od (.t 15)) (.cons (.od (.t 18)) .nil)))⟩⟩,
 ⟨.p, [0,1,2,3,4,5,6,7], ⟨(some 20), some (14, true), (.u (some 28) .mv (.od (.t 3)))⟩⟩,
 ⟨.p, [0,1,2,3,4,5,6,7], ⟨(some 21), some (14, true), (.u (some 29) .mv (.od (.t 4)))⟩⟩,
 ⟨.p, [0,1,2,3,4,5,6,7,13,14], ⟨(some 22), some (14, true), (.b (some 30) false (.iad 1) (.od (.t 20)) (.od (.t 21)))⟩⟩,
 ⟨(.l 0 1), [0,1,2,3,4,5,6,7,13,14,15], ⟨(some 23), some (14, true), (.u (some 31) .ld (.od (.t 22)))⟩⟩,
 ⟨.p, [0,1,2,3,4,5,6,7], ⟨(some 24), some (14, true), (.u (some 32) .mv (.od (.t 6)))⟩⟩,
 ⟨.p, [0,1,2,3,4,5,6,7,13,14,15,16,17], ⟨(some 25), some (14, true), (.b (some 33) false .ixs (.od (.t 23)) (.od (.t 24)))⟩⟩,
 ⟨.p, [0,1,2,3,4,5,6,7,8,9,10,11,12,13,14,15,16,17,18], ⟨(some 26), some (14, true), (.b (some 34) false (.bin .eql) (.od (.t 19)) (.od (.t 25)))⟩⟩,
 ⟨.p, [0,1,2,3,4,5,6,7,8,9,10,11,12,13,14,15,16,17,18,19], ⟨(some 27), none, (.k (some 35) .pick (.cons (.od (.t 14)) (.cons (.od (.t 26)) (.cons (.od (.c (.bool false))) .nil))))⟩⟩])
 (.cond (.t 27) (.skip)
 (.exit 2)))
 (.blk 3 (.reg [⟨(some 6), none, (.u (some 7) .mv (.b (some 37) false (.bin .add) (.u (some 36) .mv (.od (.t 6))) (.od (.c (.int .i64 (.ofNat 1))))))⟩])))))
 (.seq (.reg [⟨(some 28), none, (.b (some 44) false (.bin .eql) (.u (some 38) .mv (.od (.t 6))) (.u (some 43) .lens (.u (some 42) .ld (.b (some 41) false (.iad 1) (.u (some 39) .mv (.od (.t 3))) (.u (some 40) .mv (.od (.t 4)))))))⟩])
 (.cond (.t 28) (.seq (.reg [⟨(some 2), none, (.u (some 4) .mv (.u (some 45) .mv (.od (.t 6))))⟩])
 (.ret))
 (.skip))))))
 (.reg [⟨(some 4), none, (.u (some 6) .mv (.b (some 14) false (.bin .add) (.u (some 13) .mv (.od (.t 4))) (.od (.c (.int .i64 (.ofNat 1))))))⟩]))))))
 (.seq (.reg [⟨(some 2), none, (.u (some 4) .mv (.od (.c (.int .i64 (.ofNat 0)))))⟩])
 (.ret)))))
def lf147 : LF := ⟨29, 2, lc147, [.t 2], [0,1,4,5,6,12,7,15,16,17,18,19,20,21,22,23,24,25,26,27,28,29,30,31,32,33,34,35,44]⟩

-- oxbow/oxbowref17.keywords
def lc148 : LC := (.seq (.reg [⟨(some 0), none, (.u (some 0) .mv (.od (.c .nils)))⟩])
 (.seq (.reg [⟨(some 0), none, (.u (some 0) .mv (.k (some 1) (.bsl 1 9) (.cons (.od (.c (.str [97,117,116,111]))) (.cons (.od (.c (.str [98,114,101,97,107]))) (.cons (.od (.c (.str [99,97,115,101]))) (.cons (.od (.c (.str [99,104,97,114]))) (.cons (.od (.c (.str [99,111,110,115,116]))) (.cons (.od (.c (.str [99,111,110,116,105,110,117,101]))) (.cons (.od (.c (.str [100,101,102,97,117,108,116]))) (.cons (.od (.c (.str [100,111]))) (.cons (.od (.c (.str [100,111,117,98,108,101]))) (.cons (.od (.c (.str [101,108,115,101]))) (.cons (.od (.c (.str [101,110,117,109]))) (.cons (.od (.c (.str [101,120,116,101,114,110]))) (.cons (.od (.c (.str [102,108,111,97,116]))) (.cons (.od (.c (.str [102,111,114]))) (.cons (.od (.c (.str [103,111,116,111]))) (.cons (.od (.c (.str [105,102]))) (.cons (.od (.c (.str [105,110,108,105,110,101]))) (.cons (.od (.c (.str [105,110,116]))) (.cons (.od (.c (.str [108,111,110,103]))) (.cons (.od (.c (.str [114,101,103,105,115,116,101,114]))) (.cons (.od (.c (.str [114,101,115,116,114,105,99,116]))) (.cons (.od (.c (.str [114,101,116,117,114,110]))) (.cons (.od (.c (.str [115,104,111,114,116]))) (.cons (.od (.c (.str [115,105,103,110,101,100]))) (.cons (.od (.c (.str [115,105,122,101,111,102]))) (.cons (.od (.c (.str [115,116,97,116,105,99]))) (.cons (.od (.c (.str [115,116,114,117,99,116]))) (.cons (.od (.c (.str [115,119,105,116,99,104]))) (.cons (.od (.c (.str [116,121,112,101,100,101,102]))) (.cons (.od (.c (.str [117,110,105,111,110]))) (.cons (.od (.c (.str [117,110,115,105,103,110,101,100]))) (.cons (.od (.c (.str [118,111,105,100]))) (.cons (.od (.c (.str [118,111,108,97,116,105,108,101]))) (.cons (.od (.c (.str [119,104,105,108,101]))) (.cons (.od (.c (.str [95,65,108,105,103,110,97,115]))) (.cons (.od (.c (.str [95,65,108,105,103,110,111,102]))) (.cons (.od (.c (.str [95,65,116,111,109,105,99]))) (.cons (.od (.c (.str [95,66,111,111,108]))) (.cons (.od (.c (.str [95,67,111,109,112,108,101,120]))) (.cons (.od (.c (.str [95,71,101,110,101,114,105,99]))) (.cons (.od (.c (.str [95,73,109,97,103,105,110,97,114,121]))) (.cons (.od (.c (.str [95,78,111,114,101,116,117,114,110]))) (.cons (.od (.c (.str [95,83,116,97,116,105,99,95,97,115,115,101,114,116]))) (.cons (.od (.c (.str [95,84,104,114,101,97,100,95,108,111,99,97,108]))) .nil))))))))))))))))))))))))))))))))))))))))))))))⟩])
 (.ret)))
def lf148 : LF := ⟨1, 0, lc148, [.t 0], [0]⟩

-- oxbow/oxbowref9.digits
def lc149 : LC := (.seq (.reg [⟨(some 3), none, (.u (some 6) .mv (.od (.c (.int .i64 (.ofNat 0)))))⟩])
 (.seq (.reg [⟨(some 4), none, (.u (some 7) .mv (.od (.c (.int .i64 (.ofNat 0)))))⟩])
 (.seq (.blk 0 (.loop (.seq (.seq (.reg [⟨(some 5), none, (.gd (some 23) true false (.u (some 14) .mv (.b (some 13) false (.bin .lss) (.b (some 10) false (.bin .add) (.u (some 8) .mv (.od (.t 1))) (.u (some 9) .mv (.od (.t 4)))) (.u (some 12) .lens (.u (some 11) .mv (.od (.t 0)))))) (.b (some 22) false (.bin .lss) (.k (some 20) (.call 150) (.cons (.b (some 19) false .ixs (.u (some 15) .mv (.od (.t 0))) (.b (some 18) false (.bin .add) (.u (some 16) .mv (.od (.t 1))) (.u (some 17) .mv (.od (.t 4))))) .nil)) (.u (some 21) .mv (.od (.t 2)))))⟩])
 (.cond (.t 5) (.skip)
 (.exit 0)))
 (.blk 1 (.reg [⟨(some 4), none, (.u (some 7) .mv (.b (some 25) false (.bin .add) (.u (some 24) .mv (.od (.t 4))) (.od (.c (.int .i64 (.ofNat 1))))))⟩])))))
 (.seq (.reg [⟨(some 3), none, (.u (some 6) .mv (.u (some 26) .mv (.od (.t 4))))⟩])
 (.ret)))))
def lf149 : LF := ⟨6, 3, lc149, [.t 3], [0,1,2,6,7,23]⟩

-- oxbow/oxbowref9.value
def lc150 : LC := (.seq (.reg [⟨(some 1), none, (.u (some 2) .mv (.od (.c (.int .i64 (.ofNat 0)))))⟩])
 (.seq (.blk 0 (.seq (.reg [⟨(some 2), none, (.u (some 3) .mv (.gd (some 9) true false (.u (some 6) .mv (.b (some 5) false (.bin .geq) (.u (some 4) .mv (.od (.t 0))) (.od (.c (.int .u8 (.ofNat 48)))))) (.b (some 8) false (.bin .leq) (.u (some 7) .mv (.od (.t 0))) (.od (.c (.int .u8 (.ofNat 57)))))))⟩])
 (.cond (.t 2) (.seq (.reg [⟨(some 1), none, (.u (some 2) .mv (.u (some 12) (.cvi .i64) (.b (some 11) false (.bin .sub) (.u (some 10) .mv (.od (.t 0))) (.od (.c (.int .u8 (.ofNat 48)))))))⟩])
 (.ret))
 (.seq (.reg [⟨(some 3), none, (.u (some 13) .mv (.gd (some 19) true false (.u (some 16) .mv (.b (some 15) false (.bin .geq) (.u (some 14) .mv (.od (.t 0))) (.od (.c (.int .u8 (.ofNat 97)))))) (.b (some 18) false (.bin .leq) (.u (some 17) .mv (.od (.t 0))) (.od (.c (.int .u8 (.ofNat 102)))))))⟩])
 (.cond (.t 3) (.seq (.reg [⟨(some 1), none, (.u (some 2) .mv (.b (some 23) false (.bin .add) (.u (some 22) (.cvi .i64) (.b (some 21) false (.bin .sub) (.u (some 20) .mv (.od (.t 0))) (.od (.c (.int .u8 (.ofNat 97)))))) (.od (.c (.int .i64 (.ofNat 10))))))⟩])
 (.ret))
 (.seq (.reg [⟨(some 4), none, (.u (some 24) .mv (.gd (some 30) true false (.u (some 27) .mv (.b (some 26) false (.bin .geq) (.u (some 25) .mv (.od (.t 0))) (.od (.c (.int .u8 (.ofNat 65)))))) (.b (some 29) false (.bin .leq) (.u (some 28) .mv (.od (.t 0))) (.od (.c (.int .u8 (.ofNat 70)))))))⟩])
 (.cond (.t 4) (.seq (.reg [⟨(some 1), none, (.u (some 2) .mv (.b (some 34) false (.bin .add) (.u (some 33) (.cvi .i64) (.b (some 32) false (.bin .sub) (.u (some 31) .mv (.od (.t 0))) (.od (.c (.int .u8 (.ofNat 65)))))) (.od (.c (.int .i64 (.ofNat 10))))))⟩])
 (.ret))
 (.skip))))))))
 (.seq (.reg [⟨(some 1), none, (.u (some 2) .mv (.od (.c (.int .i64 (.ofNat 99)))))⟩])
 (.ret))))
def lf150 : LF := ⟨5, 1, lc150, [.t 1], [0,2,3,13,24]⟩

-- oxbow/oxbowref9.suffix
def lc151 : LC := (.seq (.reg [⟨(some 1), none, (.u (some 2) .mv (.od (.c (.bool false))))⟩,
 ⟨(some 2), none, (.u (some 3) .mv (.od (.c (.bool false))))⟩])
 (.seq (.reg [⟨(some 3), none, (.u (some 4) .mv (.k (some 9) (.bsl 1 9) (.cons (.od (.c (.str []))) (.cons (.od (.c (.str [117]))) (.cons (.od (.c (.str [108]))) (.cons (.od (.c (.str [117,108]))) (.cons (.od (.c (.str [108,117]))) (.cons (.od (.c (.str [108,108]))) (.cons (.od (.c (.str [117,108,108]))) (.cons (.od (.c (.str [108,108,117]))) .nil))))))))))⟩])
 (.seq (.reg [⟨(some 4), none, (.u (some 5) .mv (.od (.c (.str []))))⟩])
 (.seq (.seq (.reg [⟨(some 5), none, (.u (some 6) .mv (.od (.c (.int .i64 (.ofNat 0)))))⟩])
 (.blk 0 (.loop (.seq (.seq (.reg [⟨(some 6), none, (.b (some 13) false (.bin .lss) (.u (some 10) .mv (.od (.t 5))) (.u (some 12) .lens (.u (some 11) .mv (.od (.t 0)))))⟩])
 (.cond (.t 6) (.skip)
 (.exit 0)))
 (.seq (.blk 1 (.seq (.reg [⟨(some 7), none, (.u (some 7) .mv (.b (some 18) false .ixs (.u (some 16) .mv (.od (.t 0))) (.u (some 17) .mv (.od (.t 5)))))⟩])
 (.seq (.blk 2 (.seq (.reg [⟨(some 8), none, (.u (some 19) .mv (.b (some 21) false (.bin .eql) (.u (some 20) .mv (.od (.t 7))) (.od (.c (.int .u8 (.ofNat 85))))))⟩])
 (.cond (.t 8) (.reg [⟨(some 7), none, (.u (some 7) .mv (.od (.c (.int .u8 (.ofNat 117)))))⟩])
 (.seq (.reg [⟨(some 9), none, (.u (some 22) .mv (.b (some 24) false (.bin .eql) (.u (some 23) .mv (.od (.t 7))) (.od (.c (.int .u8 (.ofNat 76))))))⟩])
 (.cond (.t 9) (.seq (.seq (.reg [⟨(some 10), none, (.gd (some 47) false true (.u (some 37) .mv (.gd (some 36) true false (.u (some 30) .mv (.b (some 29) false (.bin .lss) (.b (some 26) false (.bin .add) (.u (some 25) .mv (.od (.t 5))) (.od (.c (.int .i64 (.ofNat 1))))) (.u (some 28) .lens (.u (some 27) .mv (.od (.t 0)))))) (.b (some 35) false (.bin .eql) (.b (some 34) false .ixs (.u (some 31) .mv (.od (.t 0))) (.b (some 33) false (.bin .add) (.u (some 32) .mv (.od (.t 5))) (.od (.c (.int .i64 (.ofNat 1)))))) (.od (.c (.int .u8 (.ofNat 108))))))) (.gd (some 46) true false (.u (some 40) .mv (.b (some 39) false (.bin .gtr) (.u (some 38) .mv (.od (.t 5))) (.od (.c (.int .i64 (.ofNat 0)))))) (.b (some 45) false (.bin .eql) (.b (some 44) false .ixs (.u (some 41) .mv (.od (.t 0))) (.b (some 43) false (.bin .sub) (.u (some 42) .mv (.od (.t 5))) (.od (.c (.int .i64 (.ofNat 1)))))) (.od (.c (.int .u8 (.ofNat 108)))))))⟩])
 (.cond (.t 10) (.seq (.reg [⟨(some 1), none, (.u (some 2) .mv (.od (.c (.bool false))))⟩,
 ⟨(some 2), none, (.u (some 3) .mv (.od (.c (.bool false))))⟩])
 (.ret))
 (.skip)))
 (.reg [⟨(some 7), none, (.u (some 7) .mv (.od (.c (.int .u8 (.ofNat 108)))))⟩]))
 (.skip))))))
 (.reg [⟨(some 4), none, (.u (some 5) .mv (.b (some 52) false (.bin .add) (.u (some 48) .mv (.od (.t 4))) (.u (some 51) .cvbs (.k (some 50) (.bsl 1 5) (.cons (.u (some 49) .mv (.od (.t 7))) .nil)))))⟩]))))
 (.reg [⟨(some 5), none, (.u (some 6) .mv (.b (some 15) false (.bin .add) (.u (some 14) .mv (.od (.t 5))) (.od (.c (.int .i64 (.ofNat 1))))))⟩]))))))
 (.seq (.seq (.reg [⟨(some 11), none, (.u (some 8) .mv (.od (.c (.int .i64 (.ofNat 0)))))⟩])
 (.blk 3 (.loop (.seq (.seq (.reg [⟨(some 12), none, (.b (some 56) false (.bin .lss) (.u (some 53) .mv (.od (.t 11))) (.u (some 55) .len (.u (some 54) .mv (.od (.t 3)))))⟩])
 (.cond (.t 12) (.skip)
 (.exit 3)))
 (.seq (.blk 4 (.seq (.reg [⟨(some 13), none, (.b (some 64) false (.bin .eql) (.u (some 62) .ld (.b (some 61) false (.iad 1) (.u (some 59) .mv (.od (.t 3))) (.u (some 60) .mv (.od (.t 11))))) (.u (some 63) .mv (.od (.t 4))))⟩])
 (.cond (.t 13) (.seq (.reg [⟨(some 1), none, (.u (some 2) .mv (.gd (some 78) false true (.u (some 75) .mv (.gd (some 74) false true (.u (some 71) .mv (.gd (some 70) false true (.u (some 67) .mv (.b (some 66) false (.bin .eql) (.u (some 65) .mv (.od (.t 11))) (.od (.c (.int .i64 (.ofNat 1)))))) (.b (some 69) false (.bin .eql) (.u (some 68) .mv (.od (.t 11))) (.od (.c (.int .i64 (.ofNat 3))))))) (.b (some 73) false (.bin .eql) (.u (some 72) .mv (.od (.t 11))) (.od (.c (.int .i64 (.ofNat 4))))))) (.b (some 77) false (.bin .geq) (.u (some 76) .mv (.od (.t 11))) (.od (.c (.int .i64 (.ofNat 6)))))))⟩,
 ⟨(some 2), none, (.u (some 3) .mv (.od (.c (.bool true))))⟩])
 (.ret))
 (.skip))))
 (.reg [⟨(some 11), none, (.u (some 8) .mv (.b (some 58) false (.bin .add) (.u (some 57) .mv (.od (.t 11))) (.od (.c (.int .i64 (.ofNat 1))))))⟩]))))))
 (.seq (.reg [⟨(some 1), none, (.u (some 2) .mv (.od (.c (.bool false))))⟩,
 ⟨(some 2), none, (.u (some 3) .mv (.od (.c (.bool false))))⟩])
 (.ret)))))))
def lf151 : LF := ⟨14, 1, lc151, [.t 1,.t 2], [0,2,3,4,5,6,13,7,19,22,47,8,56,64]⟩

-- oxbow/oxbowref9.exponent
def lc152 : LC := (.seq (.reg [⟨(some 2), none, (.u (some 4) .mv (.od (.c (.int .i64 (.ofNat 0)))))⟩,
 ⟨(some 3), none, (.u (some 5) .mv (.od (.c (.bool false))))⟩])
 (.seq (.seq (.reg [⟨(some 4), none, (.gd (some 22) true false (.u (some 11) .mv (.b (some 10) false (.bin .lss) (.u (some 7) .mv (.od (.t 1))) (.u (some 9) .lens (.u (some 8) .mv (.od (.t 0)))))) (.gd (some 21) false true (.u (some 16) .mv (.b (some 15) false (.bin .eql) (.b (some 14) false .ixs (.u (some 12) .mv (.od (.t 0))) (.u (some 13) .mv (.od (.t 1)))) (.od (.c (.int .u8 (.ofNat 43)))))) (.b (some 20) false (.bin .eql) (.b (some 19) false .ixs (.u (some 17) .mv (.od (.t 0))) (.u (some 18) .mv (.od (.t 1)))) (.od (.c (.int .u8 (.ofNat 45)))))))⟩])
 (.cond (.t 4) (.reg [⟨(some 1), none, (.u (some 1) .mv (.b (some 24) false (.bin .add) (.u (some 23) .mv (.od (.t 1))) (.od (.c (.int .i64 (.ofNat 1))))))⟩])
 (.skip)))
 (.seq (.reg [⟨(some 5), none, (.u (some 6) .mv (.k (some 27) (.call 149) (.cons (.u (some 25) .mv (.od (.t 0))) (.cons (.u (some 26) .mv (.od (.t 1))) (.cons (.od (.c (.int .i64 (.ofNat 10)))) .nil)))))⟩])
 (.seq (.reg [⟨(some 6), none, (.b (some 30) false (.bin .add) (.u (some 28) .mv (.od (.t 1))) (.u (some 29) .mv (.od (.t 5))))⟩,
 ⟨(some 7), none, (.b (some 32) false (.bin .gtr) (.u (some 31) .mv (.od (.t 5))) (.od (.c (.int .i64 (.ofNat 0)))))⟩,
 ⟨(some 2), none, (.u (some 4) .mv (.od (.t 6)))⟩,
 ⟨(some 3), none, (.u (some 5) .mv (.od (.t 7)))⟩])
 (.ret)))))
def lf152 : LF := ⟨8, 2, lc152, [.t 2,.t 3], [0,1,4,5,22,6,30,32]⟩

-- oxbow/oxbowref9.letters
def lc153 : LC := (.seq (.reg [⟨(some 1), none, (.u (some 2) .mv (.od (.c (.str []))))⟩,
 ⟨(some 2), none, (.u (some 3) .mv (.od (.c (.int .u8 (.ofNat 0)))))⟩,
 ⟨(some 3), none, (.u (some 4) .mv (.od (.c (.bool false))))⟩])
 (.seq (.reg [⟨(some 4), none, (.u (some 5) .mv (.k (some 8) (.bsl 1 5) (.cons (.od (.c (.int .u8 (.ofNat 39)))) (.cons (.od (.c (.int .u8 (.ofNat 34)))) .nil))))⟩])
 (.seq (.seq (.reg [⟨(some 5), none, (.u (some 6) .mv (.od (.c (.int .i64 (.ofNat 0)))))⟩])
 (.blk 0 (.loop (.seq (.seq (.reg [⟨(some 6), none, (.b (some 10) false (.bin .lss) (.u (some 9) .mv (.od (.t 5))) (.od (.c (.int .i64 (.ofNat 2)))))⟩])
 (.cond (.t 6) (.skip)
 (.exit 0)))
 (.seq (.blk 1 (.seq (.reg [⟨(some 7), none, (.u (some 7) .mv (.k (some 18) (.call 185) (.cons (.u (some 13) .mv (.od (.t 0))) (.cons (.u (some 17) .ld (.b (some 16) false (.iad 1) (.u (some 14) .mv (.od (.t 4))) (.u (some 15) .mv (.od (.t 5))))) .nil))))⟩])
 (.seq (.reg [⟨(some 8), none, (.b (some 20) false (.bin .geq) (.u (some 19) .mv (.od (.t 7))) (.od (.c (.int .i64 (.ofNat 0)))))⟩])
 (.cond (.t 8) (.seq (.drw [⟨.p, [], ⟨(some 9), none, (.u (some 21) .mv (.od (.t 0)))⟩⟩,
 ⟨.p, [], ⟨(some 10), none, (.u (some 22) .mv (.od (.t 7)))⟩⟩,
 ⟨.p, [0,1], ⟨(some 11), none, (.k (some 23) (.sls false true) (.cons (.od (.t 9)) (.cons (.od (.t 10)) .nil)))⟩⟩,
 ⟨.p, [], ⟨(some 12), none, (.u (some 24) .mv (.od (.t 4)))⟩⟩,
 ⟨.p, [], ⟨(some 13), none, (.u (some 25) .mv (.od (.t 5)))⟩⟩,
 ⟨.p, [3,4], ⟨(some 14), none, (.b (some 26) false (.iad 1) (.od (.t 12)) (.od (.t 13)))⟩⟩,
 ⟨(.l 0 0), [3,4,5], ⟨(some 15), none, (.u (some 27) .ld (.od (.t 14)))⟩⟩,
 ⟨.p, [0,1,2], ⟨(some 1), none, (.u (some 2) .mv (.od (.t 11)))⟩⟩,
 ⟨.p, [0,1,2,3,4,5,6,7], ⟨(some 2), none, (.u (some 3) .mv (.od (.t 15)))⟩⟩,
 ⟨.p, [0,1,2,3,4,5,6,7,8], ⟨(some 3), none, (.u (some 4) .mv (.od (.c (.bool true))))⟩⟩])
 (.ret))
 (.skip)))))
 (.reg [⟨(some 5), none, (.u (some 6) .mv (.b (some 12) false (.bin .add) (.u (some 11) .mv (.od (.t 5))) (.od (.c (.int .i64 (.ofNat 1))))))⟩]))))))
 (.seq (.reg [⟨(some 1), none, (.u (some 2) .mv (.od (.c (.str []))))⟩,
 ⟨(some 2), none, (.u (some 3) .mv (.od (.c (.int .u8 (.ofNat 0)))))⟩,
 ⟨(some 3), none, (.u (some 4) .mv (.od (.c (.bool false))))⟩])
 (.ret)))))
def lf153 : LF := ⟨16, 1, lc153, [.t 1,.t 2,.t 3], [0,2,3,4,5,6,10,7,20,21,22,23,24,25,26,27]⟩

-- oxbow/oxbowref9.escape
def lc154 : LC := (.seq (.reg [⟨(some 1), none, (.u (some 2) .mv (.od (.c (.int .u8 (.ofNat 0)))))⟩,
 ⟨(some 2), none, (.u (some 3) .mv (.od (.c (.int .i64 (.ofNat 0)))))⟩])
 (.seq (.seq (.reg [⟨(some 3), none, (.u (some 4) .mv (.od (.c (.int .i64 (.ofNat 0)))))⟩])
 (.blk 0 (.loop (.seq (.seq (.reg [⟨(some 4), none, (.b (some 11) false (.bin .lss) (.u (some 10) .mv (.od (.t 3))) (.od (.c (.int .i64 (.ofNat 11)))))⟩])
 (.cond (.t 4) (.skip)
 (.exit 0)))
 (.seq (.blk 1 (.seq (.drw [⟨.p, [], ⟨(some 5), none, (.u (some 14) .mv (.od (.t 0)))⟩⟩,
 ⟨.p, [0], ⟨(some 6), none, (.u (some 15) .lens (.od (.t 5)))⟩⟩,
 ⟨.p, [0,1], ⟨(some 7), none, (.b (some 16) false (.bin .gtr) (.od (.t 6)) (.od (.c (.int .i64 (.ofNat 0)))))⟩⟩,
 ⟨.p, [0,1,2], ⟨(some 8), none, (.u (some 17) .mv (.od (.t 7)))⟩⟩,
 ⟨.p, [0,1,2,3], ⟨(some 9), some (8, true), (.u (some 18) .mv (.od (.t 0)))⟩⟩,
 ⟨.p, [0,1,2,3,4], ⟨(some 10), some (8, true), (.b (some 19) false .ixs (.od (.t 9)) (.od (.c (.int .i64 (.ofNat 0)))))⟩⟩,
 ⟨.p, [0,1,2,3], ⟨(some 11), some (8, true), (.u (some 20) .mv (.od (.t 3)))⟩⟩,
 ⟨.p, [0,1,2,3,6], ⟨(some 12), some (8, true), (.b (some 21) false .ixs (.od (.c (.str [39,34,63,92,97,98,102,110,114,116,118]))) (.od (.t 11)))⟩⟩,
 ⟨.p, [0,1,2,3,4,5,6,7], ⟨(some 13), some (8, true), (.b (some 22) false (.bin .eql) (.od (.t 10)) (.od (.t 12)))⟩⟩,
 ⟨.p, [0,1,2,3,4,5,6,7,8], ⟨(some 14), none, (.k (some 23) .pick (.cons (.od (.t 8)) (.cons (.od (.t 13)) (.cons (.od (.c (.bool false))) .nil))))⟩⟩])
 (.cond (.t 14) (.seq (.reg [⟨(some 1), none, (.u (some 2) .mv (.b (some 25) false .ixs (.od (.c (.str [39,34,63,92,7,8,12,10,13,9,11]))) (.u (some 24) .mv (.od (.t 3)))))⟩,
 ⟨(some 2), none, (.u (some 3) .mv (.od (.c (.int .i64 (.ofNat 1)))))⟩])
 (.ret))
 (.skip))))
 (.reg [⟨(some 3), none, (.u (some 4) .mv (.b (some 13) false (.bin .add) (.u (some 12) .mv (.od (.t 3))) (.od (.c (.int .i64 (.ofNat 1))))))⟩]))))))
 (.seq (.reg [⟨(some 15), none, (.u (some 5) .mv (.od (.c (.int .i64 (.ofNat 0)))))⟩])
 (.seq (.reg [⟨(some 16), none, (.u (some 6) .mv (.b (some 28) false .mn (.k (some 27) (.call 149) (.cons (.u (some 26) .mv (.od (.t 0))) (.cons (.od (.c (.int .i64 (.ofNat 0)))) (.cons (.od (.c (.int .i64 (.ofNat 8)))) .nil)))) (.od (.c (.int .i64 (.ofNat 3))))))⟩])
 (.seq (.reg [⟨(some 17), none, (.u (some 7) .mv (.od (.c (.int .i64 (.ofNat 8)))))⟩,
 ⟨(some 18), none, (.u (some 8) .mv (.od (.c (.int .i64 (.ofNat 0)))))⟩])
 (.seq (.seq (.reg [⟨(some 19), none, (.gd (some 36) true false (.u (some 32) .mv (.b (some 31) false (.bin .gtr) (.u (some 30) .lens (.u (some 29) .mv (.od (.t 0)))) (.od (.c (.int .i64 (.ofNat 0)))))) (.b (some 35) false (.bin .eql) (.b (some 34) false .ixs (.u (some 33) .mv (.od (.t 0))) (.od (.c (.int .i64 (.ofNat 0))))) (.od (.c (.int .u8 (.ofNat 120))))))⟩])
 (.cond (.t 19) (.seq (.reg [⟨(some 17), none, (.u (some 7) .mv (.od (.c (.int .i64 (.ofNat 16)))))⟩])
 (.seq (.reg [⟨(some 18), none, (.u (some 8) .mv (.od (.c (.int .i64 (.ofNat 1)))))⟩])
 (.reg [⟨(some 16), none, (.u (some 6) .mv (.k (some 38) (.call 149) (.cons (.u (some 37) .mv (.od (.t 0))) (.cons (.od (.c (.int .i64 (.ofNat 1)))) (.cons (.od (.c (.int .i64 (.ofNat 16)))) .nil)))))⟩])))
 (.skip)))
 (.seq (.seq (.reg [⟨(some 20), none, (.b (some 40) false (.bin .eql) (.u (some 39) .mv (.od (.t 16))) (.od (.c (.int .i64 (.ofNat 0)))))⟩])
 (.cond (.t 20) (.seq (.reg [⟨(some 1), none, (.u (some 2) .mv (.od (.c (.int .u8 (.ofNat 0)))))⟩,
 ⟨(some 2), none, (.u (some 3) .mv (.od (.c (.int .i64 (.ofNat 0)))))⟩])
 (.ret))
 (.skip)))
 (.seq (.seq (.reg [⟨(some 21), none, (.u (some 9) .mv (.u (some 41) .mv (.od (.t 18))))⟩])
 (.blk 2 (.loop (.seq (.seq (.reg [⟨(some 22), none, (.b (some 46) false (.bin .lss) (.u (some 42) .mv (.od (.t 21))) (.b (some 45) false (.bin .add) (.u (some 43) .mv (.od (.t 18))) (.u (some 44) .mv (.od (.t 16)))))⟩])
 (.cond (.t 22) (.skip)
 (.exit 2)))
 (.seq (.blk 3 (.reg [⟨(some 15), none, (.u (some 5) .mv (.b (some 57) false (.bin .rem) (.b (some 56) false (.bin .add) (.b (some 51) false (.bin .mul) (.u (some 49) .mv (.od (.t 15))) (.u (some 50) .mv (.od (.t 17)))) (.k (some 55) (.call 150) (.cons (.b (some 54) false .ixs (.u (some 52) .mv (.od (.t 0))) (.u (some 53) .mv (.od (.t 21)))) .nil))) (.od (.c (.int .i64 (.ofNat 256))))))⟩]))
 (.reg [⟨(some 21), none, (.u (some 9) .mv (.b (some 48) false (.bin .add) (.u (some 47) .mv (.od (.t 21))) (.od (.c (.int .i64 (.ofNat 1))))))⟩]))))))
 (.seq (.reg [⟨(some 23), none, (.u (some 59) (.cvi .u8) (.u (some 58) .mv (.od (.t 15))))⟩,
 ⟨(some 24), none, (.b (some 62) false (.bin .add) (.u (some 60) .mv (.od (.t 18))) (.u (some 61) .mv (.od (.t 16))))⟩,
 ⟨(some 1), none, (.u (some 2) .mv (.od (.t 23)))⟩,
 ⟨(some 2), none, (.u (some 3) .mv (.od (.t 24)))⟩])
 (.ret))))))))))
def lf154 : LF := ⟨25, 1, lc154, [.t 1,.t 2], [0,2,3,4,11,14,15,16,17,18,19,20,21,22,23,5,6,7,8,36,40,9,46,59,62]⟩

-- oxbow/express.kindOf
def lc155 : LC := (.seq (.reg [⟨(some 1), none, (.u (some 2) .mv (.od (.c (.str []))))⟩])
 (.seq (.reg [⟨(some 2), none, (.u (some 3) .mv (.k (some 7) (.bsl 1 9) (.cons (.od (.c (.str [115,116,111,114,97,103,101,32,116,121,112,101,100,101,102,32,101,120,116,101,114,110,32,115,116,97,116,105,99,32,97,117,116,111,32,114,101,103,105,115,116,101,114,32,95,84,104,114,101,97,100,95,108,111,99,97,108]))) (.cons (.od (.c (.str [102,117,110,99,116,105,111,110,32,105,110,108,105,110,101,32,95,78,111,114,101,116,117,114,110]))) (.cons (.od (.c (.str [113,117,97,108,105,102,105,101,114,32,99,111,110,115,116,32,118,111,108,97,116,105,108,101,32,114,101,115,116,114,105,99,116,32,95,65,116,111,109,105,99]))) (.cons (.od (.c (.str [116,121,112,101,32,118,111,105,100,32,99,104,97,114,32,115,104,111,114,116,32,105,110,116,32,108,111,110,103,32,102,108,111,97,116,32,100,111,117,98,108,101,32,115,105,103,110,101,100,32,117,110,115,105,103,110,101,100,32,95,66,111,111,108,32,95,67,111,109,112,108,101,120,32,95,73,109,97,103,105,110,97,114,121]))) (.cons (.od (.c (.str [97,108,105,103,110,97,115,32,95,65,108,105,103,110,97,115]))) (.cons (.od (.c (.str [115,116,114,117,99,116,32,115,116,114,117,99,116]))) (.cons (.od (.c (.str [117,110,105,111,110,32,117,110,105,111,110]))) (.cons (.od (.c (.str [101,110,117,109,32,101,110,117,109]))) .nil))))))))))⟩])
 (.seq (.seq (.reg [⟨(some 3), none, (.u (some 8) .mv (.od (.t 2)))⟩,
 ⟨(some 4), none, (.u (some 9) .len (.od (.t 3)))⟩,
 ⟨(some 5), none, (.u (some 10) .mv (.od (.c (.int .i64 (.ofNat 0)))))⟩])
 (.blk 0 (.loop (.seq (.reg [⟨(some 6), none, (.b (some 11) false (.bin .lss) (.od (.t 5)) (.od (.t 4)))⟩])
 (.seq (.cond (.t 6) (.skip)
 (.exit 0))
 (.seq (.blk 1 (.seq (.reg [⟨(some 7), none, (.u (some 5) .mv (.u (some 13) .ld (.b (some 12) false (.iad 1) (.od (.t 3)) (.od (.t 5)))))⟩])
 (.seq (.reg [⟨(some 8), none, (.u (some 6) .mv (.k (some 15) (.call 186) (.cons (.u (some 14) .mv (.od (.t 7))) .nil)))⟩])
 (.seq (.reg [⟨(some 9), none, (.k (some 19) (.call 187) (.cons (.k (some 17) (.slv 1 true false) (.cons (.u (some 16) .mv (.od (.t 8))) (.cons (.od (.c (.int .i64 (.ofNat 1)))) .nil))) (.cons (.u (some 18) .mv (.od (.t 0))) .nil)))⟩])
 (.cond (.t 9) (.seq (.reg [⟨(some 1), none, (.u (some 2) .mv (.u (some 22) .ld (.b (some 21) false (.iad 1) (.u (some 20) .mv (.od (.t 8))) (.od (.c (.int .i64 (.ofNat 0)))))))⟩])
 (.ret))
 (.skip))))))
 (.reg [⟨(some 5), none, (.u (some 10) .mv (.b (some 23) false (.bin .add) (.od (.t 5)) (.od (.c (.int .i64 (.ofNat 1))))))⟩])))))))
 (.seq (.reg [⟨(some 1), none, (.u (some 2) .mv (.od (.c (.str []))))⟩])
 (.ret)))))
def lf155 : LF := ⟨10, 1, lc155, [.t 1], [0,2,3,8,9,10,11,5,6,19]⟩

-- (*oxbow/express.Reader).typed
def lc156 : LC := (.seq (.reg [⟨(some 2), none, (.u (some 3) (.box 95) (.od (.t 1)))⟩,
 ⟨(some 3), none, (.u (some 4) .mv (.od (.c (.bool false))))⟩])
 (.seq (.drw [⟨.p, [], ⟨(some 4), none, (.u (some 5) (.fad 0) (.od (.t 2)))⟩⟩,
 ⟨(.l 0 0), [0], ⟨(some 5), none, (.u (some 6) .ld (.od (.t 4)))⟩⟩,
 ⟨.p, [0,1], ⟨(some 6), none, (.b (some 7) false (.bin .eql) (.od (.t 5)) (.od (.c (.int .i64 (.ofNat 1)))))⟩⟩,
 ⟨.p, [0,1,2], ⟨(some 7), none, (.u (some 8) .mv (.od (.t 6)))⟩⟩,
 ⟨.p, [0,1,2,3], ⟨(some 8), some (7, true), (.u (some 9) .mv (.od (.t 0)))⟩⟩,
 ⟨.p, [0,1,2,3,4], ⟨(some 9), some (7, true), (.u (some 10) .nck (.od (.t 8)))⟩⟩,
 ⟨.p, [0,1,2,3,4,5], ⟨(some 10), some (7, true), (.u (some 11) (.fad 2) (.od (.t 9)))⟩⟩,
 ⟨(.l 0 0), [0,1,2,3,4,5,6], ⟨(some 11), some (7, true), (.u (some 12) .ld (.od (.t 10)))⟩⟩,
 ⟨.p, [0,1,2,3], ⟨(some 12), some (7, true), (.u (some 13) (.fad 1) (.od (.t 2)))⟩⟩,
 ⟨(.l 0 0), [0,1,2,3,8], ⟨(some 13), some (7, true), (.u (some 14) .ld (.od (.t 12)))⟩⟩,
 ⟨.m, [0,1,2,3,4,5,6,7,8,9], ⟨(some 14), some (7, true), (.k (some 15) (.call 36) (.cons (.od (.t 11)) (.cons (.od (.t 13)) .nil)))⟩⟩,
 ⟨.p, [0,1,2,3,4,5,6,7,8,9,10], ⟨(some 15), none, (.k (some 16) .pick (.cons (.od (.t 7)) (.cons (.od (.t 14)) (.cons (.od (.c (.bool false))) .nil))))⟩⟩,
 ⟨.p, [0,1,2,3,4,5,6,7,8,9,10,11], ⟨(some 3), none, (.u (some 4) .mv (.od (.t 15)))⟩⟩])
 (.ret)))
def lf156 : LF := ⟨16, 2, lc156, [.t 3], [0,1,3,4,5,6,7,8,9,10,11,12,13,14,15,16]⟩

-- (*oxbow/express.Reader).rest
def lc157 : LC := (.seq (.reg [⟨(some 2), none, (.a (some 4) [(.int .i64 (.ofNat 0)),(.str []),(.str []),(.int .i64 (.ofNat 0)),(.int .i64 (.ofNat 0)),(.int .i64 (.ofNat 0)),(.int .i64 (.ofNat 0))] 95)⟩])
 (.seq (.seq (.reg [⟨(some 3), none, (.u (some 5) .mv (.b (some 11) false (.bin .add) (.u (some 9) .ld (.u (some 8) (.fad 1) (.u (some 7) .nck (.u (some 6) .mv (.od (.t 0)))))) (.u (some 10) .mv (.od (.t 1)))))⟩])
 (.seq (.reg [⟨(some 4), none, (.gd (some 22) true false (.u (some 14) .mv (.b (some 13) false (.bin .geq) (.u (some 12) .mv (.od (.t 3))) (.od (.c (.int .i64 (.ofNat 0)))))) (.b (some 21) false (.bin .lss) (.u (some 15) .mv (.od (.t 3))) (.u (some 20) .len (.u (some 19) .ld (.u (some 18) (.fad 0) (.u (some 17) .nck (.u (some 16) .mv (.od (.t 0)))))))))⟩])
 (.cond (.t 4) (.seq (.reg [⟨none, none, (.b none false (.sta 7) (.od (.t 2)) (.u (some 29) (.lda 7) (.b (some 28) false (.iad 7) (.u (some 26) .ld (.u (some 25) (.fad 0) (.u (some 24) .nck (.u (some 23) .mv (.od (.t 0)))))) (.u (some 27) .mv (.od (.t 3))))))⟩])
 (.ret))
 (.skip))))
 (.seq (.reg [⟨none, none, (.b none false (.sta 7) (.od (.t 2)) (.k (some 30) (.build [(.int .i64 (.ofNat 0)),(.str []),(.str []),(.int .i64 (.ofNat 0)),(.int .i64 (.ofNat 0)),(.int .i64 (.ofNat 0)),(.int .i64 (.ofNat 0))] [(0,1)]) (.cons (.od (.c (.int .i64 (.ofNat 8)))) .nil)))⟩])
 (.ret))))
def lf157 : LF := ⟨5, 2, lc157, [.ca 2 7], [0,1,4,5,22]⟩

-- (oxbow/oxbowref17.Env).Look
def lc158 : LC := (.seq (.reg [⟨(some 2), none, (.u (some 2) (.box 34) (.od (.t 0)))⟩,
 ⟨(some 3), none, (.u (some 4) .mv (.od (.c (.bool false))))⟩,
 ⟨(some 4), none, (.u (some 5) .mv (.od (.c (.bool false))))⟩])
 (.seq (.seq (.reg [⟨(some 5), none, (.u (some 6) .mv (.b (some 11) false (.bin .sub) (.u (some 10) .len (.u (some 9) .ld (.u (some 8) (.fad 0) (.od (.t 2))))) (.od (.c (.int .i64 (.ofNat 1))))))⟩])
 (.blk 0 (.loop (.seq (.seq (.reg [⟨(some 6), none, (.b (some 13) false (.bin .geq) (.u (some 12) .mv (.od (.t 5))) (.od (.c (.int .i64 (.ofNat 0)))))⟩])
 (.cond (.t 6) (.skip)
 (.exit 0)))
 (.seq (.blk 1 (.seq (.reg [⟨(some 7), none, (.u (some 7) .mv (.b (some 22) false (.bin .sub) (.u (some 21) .len (.u (some 20) .ld (.b (some 19) false (.iad 1) (.u (some 17) .ld (.u (some 16) (.fad 0) (.od (.t 2)))) (.u (some 18) .mv (.od (.t 5)))))) (.od (.c (.int .i64 (.ofNat 1))))))⟩])
 (.blk 2 (.loop (.seq (.seq (.reg [⟨(some 8), none, (.b (some 24) false (.bin .geq) (.u (some 23) .mv (.od (.t 7))) (.od (.c (.int .i64 (.ofNat 0)))))⟩])
 (.cond (.t 8) (.skip)
 (.exit 2)))
 (.seq (.blk 3 (.seq (.reg [⟨(some 9), none, (.b (some 37) false (.bin .eql) (.u (some 35) .ld (.u (some 34) (.fad 0) (.b (some 33) false (.iad 2) (.u (some 31) .ld (.b (some 30) false (.iad 1) (.u (some 28) .ld (.u (some 27) (.fad 0) (.od (.t 2)))) (.u (some 29) .mv (.od (.t 5))))) (.u (some 32) .mv (.od (.t 7)))))) (.u (some 36) .mv (.od (.t 1))))⟩])
 (.cond (.t 9) (.seq (.reg [⟨(some 3), none, (.u (some 4) .mv (.u (some 46) .ld (.u (some 45) (.fad 1) (.b (some 44) false (.iad 2) (.u (some 42) .ld (.b (some 41) false (.iad 1) (.u (some 39) .ld (.u (some 38) (.fad 0) (.od (.t 2)))) (.u (some 40) .mv (.od (.t 5))))) (.u (some 43) .mv (.od (.t 7)))))))⟩,
 ⟨(some 4), none, (.u (some 5) .mv (.od (.c (.bool true))))⟩])
 (.ret))
 (.skip))))
 (.reg [⟨(some 7), none, (.u (some 7) .mv (.b (some 26) false (.bin .sub) (.u (some 25) .mv (.od (.t 7))) (.od (.c (.int .i64 (.ofNat 1))))))⟩])))))))
 (.reg [⟨(some 5), none, (.u (some 6) .mv (.b (some 15) false (.bin .sub) (.u (some 14) .mv (.od (.t 5))) (.od (.c (.int .i64 (.ofNat 1))))))⟩]))))))
 (.seq (.reg [⟨(some 3), none, (.u (some 4) .mv (.od (.c (.bool false))))⟩,
 ⟨(some 4), none, (.u (some 5) .mv (.od (.c (.bool false))))⟩])
 (.ret))))
def lf158 : LF := ⟨10, 2, lc158, [.t 3,.t 4], [0,1,2,4,5,6,13,7,24,37]⟩

-- (*oxbow/express.Reader).direct
def lc159 : LC := (.seq (.reg [⟨(some 3), none, (.a (some 6) [(.str []),(.str []),(.int .i64 (.ofNat 0)),(.int .i64 (.ofNat 0)),.nils] 50)⟩])
 (.seq (.reg [⟨(some 4), none, (.u (some 7) .mv (.u (some 11) .ld (.u (some 10) (.fad 1) (.u (some 9) .nck (.u (some 8) .mv (.od (.t 0)))))))⟩])
 (.seq (.blk 0 (.seq (.reg [⟨(some 5), none, (.u (some 15) .mv (.gd (some 23) true false (.u (some 18) .mv (.b (some 17) false (.bin .neq) (.u (some 16) .mv (.od (.t 2))) (.od (.c (.int .i64 (.ofNat 1)))))) (.b (some 22) false (.bin .eql) (.u (some 21) (.fld 0 1 false) (.k (some 20) (.call 100) (.cons (.u (some 19) .mv (.od (.t 0))) .nil))) (.od (.c (.int .i64 (.ofNat 1)))))))⟩])
 (.cond (.t 5) (.reg [⟨none, none, (.b none false (.sta 5) (.od (.t 3)) (.k (some 25) (.call 163) (.cons (.u (some 24) .mv (.od (.t 0))) (.cons (.od (.c (.str [110,97,109,101]))) .nil))))⟩])
 (.seq (.reg [⟨(some 6), none, (.u (some 26) .mv (.k (some 29) (.call 188) (.cons (.u (some 27) .mv (.od (.t 0))) (.cons (.u (some 28) .mv (.od (.t 2))) .nil))))⟩])
 (.cond (.t 6) (.seq (.reg [⟨(some 7), none, (.u (some 30) .mv (.od (.t 0)))⟩,
 ⟨none, none, (.b none true .st (.u (some 36) (.fad 1) (.u (some 35) .nck (.od (.t 7)))) (.b (some 34) false (.bin .add) (.u (some 33) .ld (.u (some 32) (.fad 1) (.u (some 31) .nck (.od (.t 7))))) (.od (.c (.int .i64 (.ofNat 1))))))⟩])
 (.seq (.reg [⟨none, none, (.b none false (.sta 5) (.od (.t 3)) (.k (some 40) (.call 61) (.cons (.u (some 37) .mv (.od (.t 0))) (.cons (.u (some 38) .mv (.od (.t 1))) (.cons (.u (some 39) .mv (.od (.t 2))) .nil)))))⟩])
 (.seq (.reg [⟨none, none, (.k (some 42) (.call 122) (.cons (.u (some 41) .mv (.od (.t 0))) (.cons (.od (.c (.str [41]))) .nil)))⟩])
 (.drw [⟨.p, [], ⟨(some 8), none, (.u (some 43) .mv (.od (.t 4)))⟩⟩,
 ⟨.p, [], ⟨(some 9), none, (.u (some 44) .mv (.od (.t 0)))⟩⟩,
 ⟨.p, [1], ⟨(some 10), none, (.u (some 45) .nck (.od (.t 9)))⟩⟩,
 ⟨.p, [1,2], ⟨(some 11), none, (.u (some 46) (.fad 1) (.od (.t 10)))⟩⟩,
 ⟨(.l 0 1), [1,2,3], ⟨(some 12), none, (.u (some 47) .ld (.od (.t 11)))⟩⟩,
 ⟨.p, [0], ⟨(some 13), none, (.u (some 48) (.fad 2) (.od (.t 3)))⟩⟩,
 ⟨.m, [0,5], ⟨none, none, (.b none false .st (.od (.t 13)) (.od (.t 8)))⟩⟩,
 ⟨.p, [0,1,2,3,4,5,6], ⟨(some 14), none, (.u (some 49) (.fad 3) (.od (.t 3)))⟩⟩,
 ⟨.m, [0,1,2,3,4,5,6,7], ⟨none, none, (.b none false .st (.od (.t 14)) (.od (.t 12)))⟩⟩]))))
 (.seq (.reg [⟨(some 15), none, (.u (some 50) .mv (.b (some 52) false (.bin .eql) (.u (some 51) .mv (.od (.t 2))) (.od (.c (.int .i64 (.ofNat 0))))))⟩])
 (.cond (.t 15) (.seq (.reg [⟨none, none, (.k (some 54) (.call 108) (.cons (.u (some 53) .mv (.od (.t 0))) .nil))⟩])
 (.seq (.reg [⟨none, none, (.b none false (.sta 5) (.od (.t 3)) (.u (some 55) (.lda 5) (.od (.t 3))))⟩])
 (.ret)))
 (.reg [⟨none, none, (.b none false (.sta 5) (.od (.t 3)) (.k (some 14) (.call 123) (.cons (.u (some 12) .mv (.od (.t 0))) (.cons (.od (.c (.str [110,111,110,101]))) (.cons (.od (.c (.str []))) (.cons (.u (some 13) .mv (.od (.t 4))) (.cons (.od (.c .nils)) .nil)))))))⟩]))))))))
 (.seq (.blk 1 (.loop (.seq (.seq (.reg [⟨(some 16), none, (.u (some 60) (.un .not) (.u (some 59) .ld (.u (some 58) (.fad 3) (.u (some 57) .nck (.u (some 56) .mv (.od (.t 0)))))))⟩])
 (.cond (.t 16) (.skip)
 (.exit 1)))
 (.blk 2 (.blk 3 (.seq (.reg [⟨(some 17), none, (.u (some 62) .mv (.k (some 64) (.call 127) (.cons (.u (some 63) .mv (.od (.t 0))) (.cons (.od (.c (.str [91]))) .nil))))⟩])
 (.cond (.t 17) (.reg [⟨none, none, (.b none false (.sta 5) (.od (.t 3)) (.k (some 68) (.call 189) (.cons (.u (some 65) .mv (.od (.t 0))) (.cons (.u (some 66) (.lda 5) (.od (.t 3))) (.cons (.u (some 67) .mv (.od (.t 1))) .nil)))))⟩])
 (.seq (.reg [⟨(some 18), none, (.u (some 69) .mv (.k (some 71) (.call 127) (.cons (.u (some 70) .mv (.od (.t 0))) (.cons (.od (.c (.str [40]))) .nil))))⟩])
 (.cond (.t 18) (.reg [⟨none, none, (.b none false (.sta 5) (.od (.t 3)) (.k (some 76) (.call 190) (.cons (.u (some 72) .mv (.od (.t 0))) (.cons (.u (some 73) (.lda 5) (.od (.t 3))) (.cons (.u (some 74) .mv (.od (.t 1))) (.cons (.u (some 75) .mv (.od (.t 2))) .nil))))))⟩])
 (.seq (.reg [⟨none, none, (.b none false (.sta 5) (.od (.t 3)) (.u (some 61) (.lda 5) (.od (.t 3))))⟩])
 (.ret)))))))))))
 (.seq (.reg [⟨none, none, (.b none false (.sta 5) (.od (.t 3)) (.u (some 77) (.lda 5) (.od (.t 3))))⟩])
 (.ret))))))
def lf159 : LF := ⟨19, 3, lc159, [.ca 3 5], [0,1,2,6,7,15,26,30,43,44,45,46,47,48,49,50,60,62,69]⟩

-- (*oxbow/express.Reader).qualifiers
def lc160 : LC := (.seq (.reg [⟨(some 1), none, (.u (some 2) .mv (.od (.c .nils)))⟩])
 (.seq (.seq (.reg [⟨(some 2), none, (.k (some 5) (.call 100) (.cons (.u (some 4) .mv (.od (.t 0))) .nil))⟩,
 ⟨(some 3), none, (.a (some 3) [(.int .i64 (.ofNat 0)),(.str []),(.str []),(.int .i64 (.ofNat 0)),(.int .i64 (.ofNat 0)),(.int .i64 (.ofNat 0)),(.int .i64 (.ofNat 0))] 95)⟩,
 ⟨none, none, (.b none false (.sta 7) (.od (.t 3)) (.od (.t 2)))⟩])
 (.blk 0 (.loop (.seq (.seq (.reg [⟨(some 4), none, (.gd (some 14) true false (.u (some 9) .mv (.b (some 8) false (.bin .eql) (.u (some 7) .ld (.u (some 6) (.fad 0) (.od (.t 3)))) (.od (.c (.int .i64 (.ofNat 2)))))) (.b (some 13) false (.bin .eql) (.k (some 12) (.call 155) (.cons (.u (some 11) .ld (.u (some 10) (.fad 1) (.od (.t 3)))) .nil)) (.od (.c (.str [113,117,97,108,105,102,105,101,114])))))⟩])
 (.cond (.t 4) (.skip)
 (.exit 0)))
 (.seq (.blk 1 (.reg [⟨(some 1), none, (.u (some 2) .mv (.b (some 21) false (.app 5 72 50) (.u (some 17) .mv (.od (.t 1))) (.k (some 20) (.bsl 5 50) (.cons (.k (some 19) (.call 163) (.cons (.u (some 18) .mv (.od (.t 0))) (.cons (.od (.c (.str [113,117,97,108,105,102,105,101,114]))) .nil))) .nil))))⟩]))
 (.seq (.seq (.reg [⟨(some 5), none, (.u (some 22) (.lda 7) (.od (.t 3)))⟩])
 (.reg [⟨(some 3), none, (.a (some 3) [(.int .i64 (.ofNat 0)),(.str []),(.str []),(.int .i64 (.ofNat 0)),(.int .i64 (.ofNat 0)),(.int .i64 (.ofNat 0)),(.int .i64 (.ofNat 0))] 95)⟩,
 ⟨none, none, (.b none false (.sta 7) (.od (.t 3)) (.od (.t 5)))⟩]))
 (.reg [⟨none, none, (.b none false (.sta 7) (.od (.t 3)) (.k (some 16) (.call 100) (.cons (.u (some 15) .mv (.od (.t 0))) .nil)))⟩])))))))
 (.seq (.reg [⟨(some 1), none, (.u (some 2) .mv (.u (some 23) .mv (.od (.t 1))))⟩])
 (.ret))))
def lf160 : LF := ⟨6, 1, lc160, [.t 1], [0,2,5,3,14,22]⟩

-- (*strings.Builder).copyCheck
def lc161 : LC := (.seq (.reg [⟨(some 1), none, (.b (some 6) false (.eqp false) (.u (some 5) .ld (.u (some 4) (.fad 0) (.u (some 3) .nck (.u (some 2) .mv (.od (.t 0)))))) (.od (.c .nilp)))⟩])
 (.cond (.t 1) (.reg [⟨(some 2), none, (.u (some 7) .mv (.od (.t 0)))⟩,
 ⟨(some 3), none, (.u (some 11) (.cvp 117 2) (.k (some 10) (.call 191) (.cons (.u (some 9) (.cvp 117 2) (.u (some 8) .mv (.od (.t 0)))) .nil)))⟩,
 ⟨none, none, (.b none false .st (.u (some 13) (.fad 0) (.u (some 12) .nck (.od (.t 2)))) (.od (.t 3)))⟩])
 (.seq (.reg [⟨(some 4), none, (.b (some 19) false (.eqp true) (.u (some 17) .ld (.u (some 16) (.fad 0) (.u (some 15) .nck (.u (some 14) .mv (.od (.t 0)))))) (.u (some 18) .mv (.od (.t 0))))⟩])
 (.cond (.t 4) (.stop)
 (.skip)))))
def lf161 : LF := ⟨5, 1, lc161, [], [0,6,7,11,19]⟩

-- (*oxbow/express.Reader).Cond
def lc162 : LC := (.seq (.reg [⟨(some 2), none, (.a (some 4) [(.str []),(.str []),(.int .i64 (.ofNat 0)),(.int .i64 (.ofNat 0)),.nils] 50)⟩])
 (.seq (.reg [⟨(some 3), none, (.u (some 7) .mv (.k (some 10) (.call 181) (.cons (.u (some 8) .mv (.od (.t 0))) (.cons (.u (some 9) .mv (.od (.t 1))) .nil))))⟩,
 ⟨(some 4), none, (.u (some 11) (.ext 0) (.od (.t 3)))⟩,
 ⟨(some 5), none, (.u (some 12) (.ext 1) (.od (.t 3)))⟩,
 ⟨(some 6), none, (.a (some 5) [(.str []),(.str []),(.int .i64 (.ofNat 0)),(.int .i64 (.ofNat 0)),.nils] 50)⟩,
 ⟨none, none, (.b none false (.sta 5) (.od (.t 6)) (.od (.t 4)))⟩,
 ⟨none, none, (.u (some 6) .mv (.od (.t 5)))⟩])
 (.seq (.reg [⟨none, none, (.b none false (.sta 5) (.od (.t 2)) (.u (some 13) (.lda 5) (.od (.t 6))))⟩])
 (.ret))))
def lf162 : LF := ⟨7, 2, lc162, [.ca 2 5], [0,1,4,7,11,12,5]⟩

-- (*oxbow/express.Reader).Leaf
def lc163 : LC := (.seq (.reg [⟨(some 2), none, (.a (some 4) [(.str []),(.str []),(.int .i64 (.ofNat 0)),(.int .i64 (.ofNat 0)),.nils] 50)⟩])
 (.seq (.drw [⟨.p, [], ⟨(some 3), none, (.u (some 6) .mv (.od (.t 1)))⟩⟩,
 ⟨.p, [], ⟨(some 4), none, (.u (some 7) .mv (.od (.t 0)))⟩⟩,
 ⟨.m, [1], ⟨(some 5), none, (.k (some 8) (.call 100) (.cons (.od (.t 4)) .nil))⟩⟩,
 ⟨.p, [1,2], ⟨(some 6), none, (.u (some 9) (.fld 1 1 false) (.od (.t 5)))⟩⟩,
 ⟨.p, [], ⟨(some 7), none, (.u (some 10) .mv (.od (.t 0)))⟩⟩,
 ⟨.p, [4], ⟨(some 8), none, (.u (some 11) .nck (.od (.t 7)))⟩⟩,
 ⟨.p, [4,5], ⟨(some 9), none, (.u (some 12) (.fad 1) (.od (.t 8)))⟩⟩,
 ⟨(.l 0 1), [4,5,6], ⟨(some 10), none, (.u (some 13) .ld (.od (.t 9)))⟩⟩,
 ⟨.p, [], ⟨(some 11), none, (.u (some 14) .mv (.od (.t 0)))⟩⟩,
 ⟨.p, [8], ⟨(some 12), none, (.u (some 15) .nck (.od (.t 11)))⟩⟩,
 ⟨.p, [8,9], ⟨(some 13), none, (.u (some 16) (.fad 1) (.od (.t 12)))⟩⟩,
 ⟨(.l 0 1), [8,9,10], ⟨(some 14), none, (.u (some 17) .ld (.od (.t 13)))⟩⟩,
 ⟨.p, [8,9,10,11], ⟨(some 15), none, (.b (some 18) false (.bin .add) (.od (.t 14)) (.od (.c (.int .i64 (.ofNat 1)))))⟩⟩,
 ⟨.p, [0,1,2,3,4,5,6,7,8,9,10,11,12], ⟨(some 16), none, (.k (some 19) (.build [(.str []),(.str []),(.int .i64 (.ofNat 0)),(.int .i64 (.ofNat 0)),.nils] [(0,1),(1,1),(2,1),(3,1)]) (.cons (.od (.t 3)) (.cons (.od (.t 6)) (.cons (.od (.t 10)) (.cons (.od (.t 15)) .nil)))))⟩⟩,
 ⟨.a, [], ⟨(some 17), none, (.a (some 5) [(.str []),(.str []),(.int .i64 (.ofNat 0)),(.int .i64 (.ofNat 0)),.nils] 50)⟩⟩,
 ⟨.m, [0,1,2,3,4,5,6,7,8,9,10,11,12,13,14], ⟨none, none, (.b none false (.sta 5) (.od (.t 17)) (.od (.t 16)))⟩⟩])
 (.seq (.reg [⟨(some 18), none, (.u (some 20) .mv (.od (.t 0)))⟩,
 ⟨none, none, (.b none true .st (.u (some 26) (.fad 1) (.u (some 25) .nck (.od (.t 18)))) (.b (some 24) false (.bin .add) (.u (some 23) .ld (.u (some 22) (.fad 1) (.u (some 21) .nck (.od (.t 18))))) (.od (.c (.int .i64 (.ofNat 1))))))⟩])
 (.seq (.reg [⟨none, none, (.b none false (.sta 5) (.od (.t 2)) (.u (some 27) (.lda 5) (.od (.t 17))))⟩])
 (.ret)))))
def lf163 : LF := ⟨19, 2, lc163, [.ca 2 5], [0,1,4,6,7,8,9,10,11,12,13,14,15,16,17,18,19,5,20]⟩

-- (*oxbow/express.Reader).specs
def lc164 : LC := (.seq (.reg [⟨(some 3), none, (.a (some 6) [(.str []),(.str []),(.int .i64 (.ofNat 0)),(.int .i64 (.ofNat 0)),.nils] 50)⟩])
 (.seq (.reg [⟨(some 4), none, (.u (some 7) .mv (.od (.c .nils)))⟩])
 (.seq (.reg [⟨(some 5), none, (.u (some 8) .mv (.u (some 15) .ld (.u (some 14) (.fad 1) (.u (some 13) .nck (.u (some 12) .mv (.od (.t 0)))))))⟩])
 (.seq (.reg [⟨(some 6), none, (.u (some 9) .mv (.u (some 21) (.box 230) (.k (some 20) (.build [.nilp,(.int .i64 (.ofNat 0)),(.bool false),(.bool false)] [(0,1),(1,1),(2,1),(3,1)]) (.cons (.u (some 16) .mv (.od (.t 0))) (.cons (.b (some 18) false (.bin .add) (.u (some 17) .mv (.od (.t 1))) (.od (.c (.int .i64 (.ofNat 1))))) (.cons (.u (some 19) .mv (.od (.t 2))) (.cons (.od (.c (.bool false))) .nil)))))))⟩])
 (.seq (.blk 0 (.loop (.seq (.seq (.reg [⟨(some 7), none, (.u (some 25) (.un .not) (.k (some 24) (.call 109) (.cons (.u (some 22) .mv (.od (.t 0))) (.cons (.u (some 23) .mv (.od (.t 1))) .nil))))⟩])
 (.cond (.t 7) (.skip)
 (.exit 0)))
 (.blk 1 (.seq (.reg [⟨(some 8), none, (.u (some 26) .mv (.k (some 28) (.call 192) (.cons (.u (some 27) .mv (.od (.t 6))) .nil)))⟩,
 ⟨(some 9), none, (.u (some 29) (.ext 0) (.od (.t 8)))⟩,
 ⟨(some 10), none, (.u (some 30) (.ext 1) (.od (.t 8)))⟩,
 ⟨(some 11), none, (.a (some 10) [(.str []),(.str []),(.int .i64 (.ofNat 0)),(.int .i64 (.ofNat 0)),.nils] 50)⟩,
 ⟨none, none, (.b none false (.sta 5) (.od (.t 11)) (.od (.t 9)))⟩,
 ⟨(some 12), none, (.u (some 11) .mv (.od (.t 10)))⟩])
 (.seq (.seq (.reg [⟨(some 13), none, (.u (some 32) (.un .not) (.u (some 31) .mv (.od (.t 12))))⟩])
 (.cond (.t 13) (.exit 0)
 (.skip)))
 (.reg [⟨(some 4), none, (.u (some 7) .mv (.b (some 36) false (.app 5 72 50) (.u (some 33) .mv (.od (.t 4))) (.k (some 35) (.bsl 5 50) (.cons (.u (some 34) (.lda 5) (.od (.t 11))) .nil))))⟩])))))))
 (.seq (.seq (.reg [⟨(some 14), none, (.b (some 39) false (.bin .eql) (.u (some 38) .len (.u (some 37) .mv (.od (.t 4)))) (.od (.c (.int .i64 (.ofNat 0)))))⟩])
 (.cond (.t 14) (.reg [⟨none, none, (.k (some 41) (.call 108) (.cons (.u (some 40) .mv (.od (.t 0))) .nil))⟩])
 (.skip)))
 (.seq (.reg [⟨none, none, (.b none false (.sta 5) (.od (.t 3)) (.k (some 45) (.call 123) (.cons (.u (some 42) .mv (.od (.t 0))) (.cons (.od (.c (.str [115,112,101,99,115]))) (.cons (.od (.c (.str []))) (.cons (.u (some 43) .mv (.od (.t 5))) (.cons (.u (some 44) .mv (.od (.t 4))) .nil)))))))⟩])
 (.ret))))))))
def lf164 : LF := ⟨15, 3, lc164, [.ca 3 5], [0,1,2,6,7,8,9,25,26,29,30,10,11,32,39]⟩

-- oxbow/express.punct
def lc165 : LC := (.seq (.reg [⟨(some 2), none, (.u (some 2) (.box 95) (.od (.t 0)))⟩,
 ⟨(some 3), none, (.u (some 4) .mv (.od (.c (.bool false))))⟩])
 (.seq (.reg [⟨(some 3), none, (.u (some 4) .mv (.gd (some 13) true false (.u (some 8) .mv (.b (some 7) false (.bin .eql) (.u (some 6) .ld (.u (some 5) (.fad 0) (.od (.t 2)))) (.od (.c (.int .i64 (.ofNat 7)))))) (.b (some 12) false (.bin .eql) (.u (some 10) .ld (.u (some 9) (.fad 1) (.od (.t 2)))) (.u (some 11) .mv (.od (.t 1))))))⟩])
 (.ret)))
def lf165 : LF := ⟨4, 2, lc165, [.t 3], [0,1,2,4]⟩

-- (*oxbow/express.Reader).Init
def lc166 : LC := (.seq (.reg [⟨(some 2), none, (.a (some 4) [(.str []),(.str []),(.int .i64 (.ofNat 0)),(.int .i64 (.ofNat 0)),.nils] 50)⟩])
 (.seq (.seq (.reg [⟨(some 3), none, (.k (some 9) (.call 109) (.cons (.u (some 7) .mv (.od (.t 0))) (.cons (.u (some 8) .mv (.od (.t 1))) .nil)))⟩])
 (.cond (.t 3) (.seq (.reg [⟨none, none, (.b none false (.sta 5) (.od (.t 2)) (.u (some 10) (.lda 5) (.od (.t 2))))⟩])
 (.ret))
 (.skip)))
 (.seq (.reg [⟨(some 4), none, (.u (some 5) .mv (.u (some 14) .ld (.u (some 13) (.fad 1) (.u (some 12) .nck (.u (some 11) .mv (.od (.t 0)))))))⟩])
 (.seq (.seq (.reg [⟨(some 5), none, (.u (some 17) (.un .not) (.k (some 16) (.call 127) (.cons (.u (some 15) .mv (.od (.t 0))) (.cons (.od (.c (.str [123]))) .nil))))⟩])
 (.cond (.t 5) (.seq (.reg [⟨none, none, (.b none false (.sta 5) (.od (.t 2)) (.k (some 21) (.call 138) (.cons (.u (some 18) .mv (.od (.t 0))) (.cons (.b (some 20) false (.bin .add) (.u (some 19) .mv (.od (.t 1))) (.od (.c (.int .i64 (.ofNat 1))))) .nil))))⟩])
 (.ret))
 (.skip)))
 (.seq (.reg [⟨(some 6), none, (.u (some 6) .mv (.k (some 26) (.bsl 5 50) (.cons (.k (some 25) (.call 193) (.cons (.u (some 22) .mv (.od (.t 0))) (.cons (.b (some 24) false (.bin .add) (.u (some 23) .mv (.od (.t 1))) (.od (.c (.int .i64 (.ofNat 1))))) .nil))) .nil)))⟩])
 (.seq (.blk 0 (.loop (.seq (.seq (.reg [⟨(some 7), none, (.gd (some 33) true false (.u (some 29) .mv (.k (some 28) (.call 127) (.cons (.u (some 27) .mv (.od (.t 0))) (.cons (.od (.c (.str [44]))) .nil)))) (.u (some 32) (.un .not) (.k (some 31) (.call 119) (.cons (.u (some 30) .mv (.od (.t 0))) (.cons (.od (.c (.str [125]))) .nil)))))⟩])
 (.cond (.t 7) (.skip)
 (.exit 0)))
 (.blk 1 (.reg [⟨(some 6), none, (.u (some 6) .mv (.b (some 40) false (.app 5 72 50) (.u (some 34) .mv (.od (.t 6))) (.k (some 39) (.bsl 5 50) (.cons (.k (some 38) (.call 193) (.cons (.u (some 35) .mv (.od (.t 0))) (.cons (.b (some 37) false (.bin .add) (.u (some 36) .mv (.od (.t 1))) (.od (.c (.int .i64 (.ofNat 1))))) .nil))) .nil))))⟩])))))
 (.seq (.reg [⟨none, none, (.k (some 42) (.call 122) (.cons (.u (some 41) .mv (.od (.t 0))) (.cons (.od (.c (.str [125]))) .nil)))⟩])
 (.seq (.reg [⟨none, none, (.b none false (.sta 5) (.od (.t 2)) (.k (some 46) (.call 123) (.cons (.u (some 43) .mv (.od (.t 0))) (.cons (.od (.c (.str [105,110,105,116,115]))) (.cons (.od (.c (.str []))) (.cons (.u (some 44) .mv (.od (.t 4))) (.cons (.u (some 45) .mv (.od (.t 6))) .nil)))))))⟩])
 (.ret)))))))))
def lf166 : LF := ⟨8, 2, lc166, [.ca 2 5], [0,1,4,9,5,17,6,33]⟩

-- (oxbow/declare.Reader).inBrackets
def lc167 : LC := (.seq (.reg [⟨(some 2), none, (.u (some 2) (.box 124) (.od (.t 0)))⟩,
 ⟨(some 3), none, (.a (some 4) [(.str []),(.str []),(.int .i64 (.ofNat 0)),(.int .i64 (.ofNat 0)),.nils] 50)⟩])
 (.seq (.reg [⟨none, none, (.k (some 8) (.call 122) (.cons (.u (some 7) .ld (.u (some 6) (.fad 0) (.od (.t 2)))) (.cons (.od (.c (.str [40]))) .nil)))⟩])
 (.seq (.reg [⟨(some 4), none, (.k (some 12) (.call 85) (.cons (.u (some 10) .ld (.u (some 9) (.fad 0) (.od (.t 2)))) (.cons (.u (some 11) .mv (.od (.t 1))) .nil)))⟩,
 ⟨(some 5), none, (.a (some 5) [(.str []),(.str []),(.int .i64 (.ofNat 0)),(.int .i64 (.ofNat 0)),.nils] 50)⟩,
 ⟨none, none, (.b none false (.sta 5) (.od (.t 5)) (.od (.t 4)))⟩])
 (.seq (.reg [⟨none, none, (.k (some 15) (.call 122) (.cons (.u (some 14) .ld (.u (some 13) (.fad 0) (.od (.t 2)))) (.cons (.od (.c (.str [41]))) .nil)))⟩])
 (.seq (.reg [⟨none, none, (.b none false (.sta 5) (.od (.t 3)) (.u (some 16) (.lda 5) (.od (.t 5))))⟩])
 (.ret))))))
def lf167 : LF := ⟨6, 2, lc167, [.ca 3 5], [0,1,2,4,12,5]⟩

-- (*oxbow/express.Reader).HasWord
def lc168 : LC := (.seq (.reg [⟨(some 2), none, (.u (some 4) .mv (.od (.c (.bool false))))⟩])
 (.seq (.reg [⟨(some 3), none, (.u (some 5) .mv (.gd (some 15) true false (.u (some 11) .mv (.u (some 10) (.un .not) (.u (some 9) .ld (.u (some 8) (.fad 3) (.u (some 7) .nck (.u (some 6) .mv (.od (.t 0)))))))) (.k (some 14) (.call 116) (.cons (.u (some 12) .mv (.od (.t 0))) (.cons (.u (some 13) .mv (.od (.t 1))) .nil)))))⟩])
 (.seq (.seq (.reg [⟨(some 4), none, (.u (some 16) .mv (.od (.t 3)))⟩])
 (.cond (.t 4) (.reg [⟨(some 5), none, (.u (some 17) .mv (.od (.t 0)))⟩,
 ⟨none, none, (.b none true .st (.u (some 23) (.fad 1) (.u (some 22) .nck (.od (.t 5)))) (.b (some 21) false (.bin .add) (.u (some 20) .ld (.u (some 19) (.fad 1) (.u (some 18) .nck (.od (.t 5))))) (.od (.c (.int .i64 (.ofNat 1))))))⟩])
 (.skip)))
 (.seq (.reg [⟨(some 2), none, (.u (some 4) .mv (.u (some 24) .mv (.od (.t 3))))⟩])
 (.ret)))))
def lf168 : LF := ⟨6, 2, lc168, [.t 2], [0,1,4,5,16,17]⟩

-- (oxbow/declare.Reader).loop
def lc169 : LC := (.seq (.reg [⟨(some 2), none, (.u (some 2) (.box 124) (.od (.t 0)))⟩,
 ⟨(some 3), none, (.u (some 4) .mv (.od (.c .nils)))⟩])
 (.seq (.reg [⟨(some 4), none, (.u (some 5) .mv (.od (.c .nils)))⟩])
 (.seq (.reg [⟨(some 5), none, (.u (some 6) .mv (.u (some 11) .ld (.u (some 10) (.fad 2) (.u (some 9) .nck (.u (some 8) .ld (.u (some 7) (.fad 0) (.od (.t 2))))))))⟩])
 (.seq (.drw [⟨.p, [], ⟨(some 6), none, (.u (some 12) (.fad 0) (.od (.t 2)))⟩⟩,
 ⟨(.l 0 1), [0], ⟨(some 7), none, (.u (some 13) .ld (.od (.t 6)))⟩⟩,
 ⟨.p, [], ⟨(some 8), none, (.u (some 14) .mv (.od (.t 5)))⟩⟩,
 ⟨.m, [2], ⟨(some 9), none, (.k (some 15) (.call 114) (.cons (.od (.t 8)) .nil))⟩⟩,
 ⟨.p, [0,1,2,3], ⟨(some 10), none, (.u (some 16) .nck (.od (.t 7)))⟩⟩,
 ⟨.p, [0,1,2,3,4], ⟨(some 11), none, (.u (some 17) (.fad 2) (.od (.t 10)))⟩⟩,
 ⟨.m, [0,1,2,3,4,5], ⟨none, none, (.b none false .st (.od (.t 11)) (.od (.t 9)))⟩⟩])
 (.seq (.seq (.reg [⟨none, none, (.k (some 20) (.call 122) (.cons (.u (some 19) .ld (.u (some 18) (.fad 0) (.od (.t 2)))) (.cons (.od (.c (.str [40]))) .nil)))⟩])
 (.seq (.reg [⟨(some 12), none, (.gd (some 31) true false (.u (some 27) .mv (.u (some 26) (.un .not) (.u (some 25) .ld (.u (some 24) (.fad 3) (.u (some 23) .nck (.u (some 22) .ld (.u (some 21) (.fad 0) (.od (.t 2))))))))) (.k (some 30) (.call 58) (.cons (.u (some 29) .ld (.u (some 28) (.fad 0) (.od (.t 2)))) .nil)))⟩])
 (.cond (.t 12) (.reg [⟨(some 4), none, (.u (some 5) .mv (.b (some 37) false (.app 5 72 50) (.u (some 32) .mv (.od (.t 4))) (.k (some 36) (.bsl 5 50) (.cons (.k (some 35) (.call 70) (.cons (.u (some 33) (.lda 1) (.od (.t 2))) (.cons (.u (some 34) .mv (.od (.t 1))) .nil))) .nil))))⟩])
 (.reg [⟨(some 4), none, (.u (some 5) .mv (.b (some 43) false (.app 5 72 50) (.u (some 38) .mv (.od (.t 4))) (.k (some 42) (.bsl 5 50) (.cons (.k (some 41) (.call 194) (.cons (.u (some 39) (.lda 1) (.od (.t 2))) (.cons (.u (some 40) .mv (.od (.t 1))) (.cons (.od (.c (.str [59]))) .nil)))) .nil))))⟩]))))
 (.seq (.drw [⟨.p, [], ⟨(some 13), none, (.u (some 44) .mv (.od (.t 4)))⟩⟩,
 ⟨(.l 0 0), [], ⟨(some 14), none, (.u (some 45) (.lda 1) (.od (.t 2)))⟩⟩,
 ⟨.p, [], ⟨(some 15), none, (.u (some 46) .mv (.od (.t 1)))⟩⟩,
 ⟨.m, [1,2], ⟨(some 16), none, (.k (some 47) (.call 194) (.cons (.od (.t 14)) (.cons (.od (.t 15)) (.cons (.od (.c (.str [59]))) .nil))))⟩⟩,
 ⟨(.l 0 1), [], ⟨(some 17), none, (.u (some 48) (.lda 1) (.od (.t 2)))⟩⟩,
 ⟨.p, [], ⟨(some 18), none, (.u (some 49) .mv (.od (.t 1)))⟩⟩,
 ⟨.m, [1,2,3,4,5], ⟨(some 19), none, (.k (some 50) (.call 194) (.cons (.od (.t 17)) (.cons (.od (.t 18)) (.cons (.od (.c (.str [41]))) .nil))))⟩⟩,
 ⟨(.l 0 2), [], ⟨(some 20), none, (.u (some 51) (.lda 1) (.od (.t 2)))⟩⟩,
 ⟨.p, [], ⟨(some 21), none, (.u (some 52) .mv (.od (.t 1)))⟩⟩,
 ⟨.m, [1,2,3,4,5,6,7,8], ⟨(some 22), none, (.k (some 53) (.call 72) (.cons (.od (.t 20)) (.cons (.od (.t 21)) .nil)))⟩⟩,
 ⟨.m, [1,2,3,4,5,6,7,8,9], ⟨(some 23), none, (.k (some 54) (.bsl 5 50) (.cons (.od (.t 16)) (.cons (.od (.t 19)) (.cons (.od (.t 22)) .nil))))⟩⟩,
 ⟨.m, [0,1,2,3,4,5,6,7,8,9,10], ⟨(some 24), none, (.b (some 55) false (.app 5 72 50) (.od (.t 13)) (.od (.t 23)))⟩⟩,
 ⟨.p, [0,1,2,3,4,5,6,7,8,9,10,11], ⟨(some 4), none, (.u (some 5) .mv (.od (.t 24)))⟩⟩])
 (.seq (.reg [⟨(some 25), none, (.u (some 57) .ld (.u (some 56) (.fad 0) (.od (.t 2))))⟩,
 ⟨(some 26), none, (.u (some 58) .mv (.od (.t 5)))⟩,
 ⟨none, none, (.b none false .st (.u (some 60) (.fad 2) (.u (some 59) .nck (.od (.t 25)))) (.od (.t 26)))⟩])
 (.seq (.reg [⟨(some 3), none, (.u (some 4) .mv (.u (some 61) .mv (.od (.t 4))))⟩])
 (.ret)))))))))
def lf169 : LF := ⟨27, 2, lc169, [.t 3], [0,1,2,4,5,6,12,13,14,15,16,17,31,44,45,46,47,48,49,50,51,52,53,54,55,57,58]⟩

-- (*oxbow/express.Reader).Ident
def lc170 : LC := (.seq (.reg [⟨(some 2), none, (.a (some 4) [(.str []),(.str []),(.int .i64 (.ofNat 0)),(.int .i64 (.ofNat 0)),.nils] 50)⟩])
 (.seq (.seq (.reg [⟨(some 3), none, (.gd (some 14) false true (.u (some 9) .mv (.u (some 8) .ld (.u (some 7) (.fad 3) (.u (some 6) .nck (.u (some 5) .mv (.od (.t 0))))))) (.b (some 13) false (.bin .neq) (.u (some 12) (.fld 0 1 false) (.k (some 11) (.call 100) (.cons (.u (some 10) .mv (.od (.t 0))) .nil))) (.od (.c (.int .i64 (.ofNat 1))))))⟩])
 (.cond (.t 3) (.seq (.reg [⟨none, none, (.k (some 16) (.call 108) (.cons (.u (some 15) .mv (.od (.t 0))) .nil))⟩])
 (.seq (.reg [⟨none, none, (.b none false (.sta 5) (.od (.t 2)) (.u (some 17) (.lda 5) (.od (.t 2))))⟩])
 (.ret)))
 (.skip)))
 (.seq (.reg [⟨none, none, (.b none false (.sta 5) (.od (.t 2)) (.k (some 20) (.call 163) (.cons (.u (some 18) .mv (.od (.t 0))) (.cons (.u (some 19) .mv (.od (.t 1))) .nil))))⟩])
 (.ret))))
def lf170 : LF := ⟨4, 2, lc170, [.ca 2 5], [0,1,4,14]⟩

-- slices.IndexFunc[[]oxbow/convert.Tok,oxbow/convert.Tok]
def lc171 : LC := (.seq (.reg [⟨(some 2), none, (.u (some 4) .mv (.od (.c (.int .i64 (.ofNat 0)))))⟩])
 (.seq (.seq (.reg [⟨(some 3), none, (.u (some 7) .len (.u (some 6) .mv (.od (.t 0))))⟩,
 ⟨(some 4), none, (.u (some 8) .mv (.od (.c (.int .i64 (.ofNat 0)))))⟩])
 (.blk 0 (.loop (.seq (.reg [⟨(some 5), none, (.b (some 9) false (.bin .lss) (.od (.t 4)) (.od (.t 3)))⟩])
 (.seq (.cond (.t 5) (.skip)
 (.exit 0))
 (.seq (.blk 1 (.seq (.reg [⟨(some 6), none, (.u (some 5) .mv (.u (some 10) .mv (.od (.t 4))))⟩])
 (.seq (.reg [⟨(some 7), none, (.k (some 16) .callv (.cons (.u (some 11) .mv (.od (.t 1))) (.cons (.u (some 15) (.lda 7) (.b (some 14) false (.iad 7) (.u (some 12) .mv (.od (.t 0))) (.u (some 13) .mv (.od (.t 6))))) .nil)))⟩])
 (.cond (.t 7) (.seq (.reg [⟨(some 2), none, (.u (some 4) .mv (.u (some 17) .mv (.od (.t 6))))⟩])
 (.ret))
 (.skip)))))
 (.reg [⟨(some 4), none, (.u (some 8) .mv (.b (some 18) false (.bin .add) (.od (.t 4)) (.od (.c (.int .i64 (.ofNat 1))))))⟩])))))))
 (.seq (.reg [⟨(some 2), none, (.u (some 4) .mv (.od (.c (.int .i64 (.negSucc 0)))))⟩])
 (.ret))))
def lf171 : LF := ⟨8, 2, lc171, [.t 2], [0,1,4,7,8,9,5,16]⟩

-- oxbow/unit.end$1
def lc172 : LC := (.seq (.reg [⟨(some 1), none, (.u (some 1) (.box 95) (.od (.t 0)))⟩,
 ⟨(some 2), none, (.u (some 2) .mv (.od (.c (.bool false))))⟩])
 (.seq (.reg [⟨(some 2), none, (.u (some 2) .mv (.b (some 5) false (.bin .eql) (.u (some 4) .ld (.u (some 3) (.fad 0) (.od (.t 1)))) (.od (.c (.int .i64 (.ofNat 8))))))⟩])
 (.ret)))
def lf172 : LF := ⟨3, 1, lc172, [.t 2], [0,1,2]⟩

-- oxbow/unit.function$1
def lc173 : LC := (.seq (.reg [⟨(some 1), none, (.u (some 1) (.box 50) (.od (.t 0)))⟩,
 ⟨(some 2), none, (.u (some 2) .mv (.od (.c (.bool false))))⟩])
 (.seq (.reg [⟨(some 2), none, (.u (some 2) .mv (.b (some 5) false (.bin .neq) (.u (some 4) .ld (.u (some 3) (.fad 0) (.od (.t 1)))) (.od (.c (.str [113,117,97,108,105,102,105,101,114])))))⟩])
 (.ret)))
def lf173 : LF := ⟨3, 1, lc173, [.t 2], [0,1,2]⟩

-- (*oxbow/express.Reader).cond
def lc181 : LC := (.seq (.reg [⟨(some 2), none, (.a (some 4) [(.str []),(.str []),(.int .i64 (.ofNat 0)),(.int .i64 (.ofNat 0)),.nils] 50)⟩,
 ⟨(some 3), none, (.u (some 5) .mv (.od (.c (.bool false))))⟩])
 (.seq (.seq (.reg [⟨(some 4), none, (.k (some 10) (.call 109) (.cons (.u (some 8) .mv (.od (.t 0))) (.cons (.u (some 9) .mv (.od (.t 1))) .nil)))⟩])
 (.cond (.t 4) (.seq (.reg [⟨none, none, (.b none false (.sta 5) (.od (.t 2)) (.u (some 11) (.lda 5) (.od (.t 2))))⟩,
 ⟨(some 3), none, (.u (some 5) .mv (.od (.c (.bool false))))⟩])
 (.ret))
 (.skip)))
 (.seq (.reg [⟨(some 5), none, (.u (some 12) .mv (.k (some 16) (.call 210) (.cons (.u (some 13) .mv (.od (.t 0))) (.cons (.od (.c (.int .i64 (.ofNat 1)))) (.cons (.b (some 15) false (.bin .add) (.u (some 14) .mv (.od (.t 1))) (.od (.c (.int .i64 (.ofNat 1))))) .nil)))))⟩,
 ⟨(some 6), none, (.u (some 17) (.ext 0) (.od (.t 5)))⟩,
 ⟨(some 7), none, (.u (some 18) (.ext 1) (.od (.t 5)))⟩,
 ⟨none, none, (.b none false (.sta 5) (.od (.t 2)) (.od (.t 6)))⟩,
 ⟨(some 3), none, (.u (some 5) .mv (.od (.t 7)))⟩])
 (.seq (.seq (.reg [⟨(some 8), none, (.u (some 21) (.un .not) (.k (some 20) (.call 127) (.cons (.u (some 19) .mv (.od (.t 0))) (.cons (.od (.c (.str [63]))) .nil))))⟩])
 (.cond (.t 8) (.seq (.reg [⟨(some 9), none, (.u (some 22) (.lda 5) (.od (.t 2)))⟩,
 ⟨(some 10), none, (.u (some 23) .mv (.od (.t 3)))⟩,
 ⟨none, none, (.b none false (.sta 5) (.od (.t 2)) (.od (.t 9)))⟩,
 ⟨(some 3), none, (.u (some 5) .mv (.od (.t 10)))⟩])
 (.ret))
 (.skip)))
 (.seq (.reg [⟨(some 11), none, (.k (some 27) (.call 85) (.cons (.u (some 24) .mv (.od (.t 0))) (.cons (.b (some 26) false (.bin .add) (.u (some 25) .mv (.od (.t 1))) (.od (.c (.int .i64 (.ofNat 1))))) .nil)))⟩,
 ⟨(some 12), none, (.a (some 6) [(.str []),(.str []),(.int .i64 (.ofNat 0)),(.int .i64 (.ofNat 0)),.nils] 50)⟩,
 ⟨none, none, (.b none false (.sta 5) (.od (.t 12)) (.od (.t 11)))⟩])
 (.seq (.reg [⟨none, none, (.k (some 29) (.call 122) (.cons (.u (some 28) .mv (.od (.t 0))) (.cons (.od (.c (.str [58]))) .nil)))⟩])
 (.seq (.reg [⟨(some 13), none, (.k (some 33) (.call 162) (.cons (.u (some 30) .mv (.od (.t 0))) (.cons (.b (some 32) false (.bin .add) (.u (some 31) .mv (.od (.t 1))) (.od (.c (.int .i64 (.ofNat 1))))) .nil)))⟩,
 ⟨(some 14), none, (.a (some 7) [(.str []),(.str []),(.int .i64 (.ofNat 0)),(.int .i64 (.ofNat 0)),.nils] 50)⟩,
 ⟨none, none, (.b none false (.sta 5) (.od (.t 14)) (.od (.t 13)))⟩])
 (.seq (.reg [⟨none, none, (.b none false (.sta 5) (.od (.t 2)) (.k (some 41) (.call 123) (.cons (.u (some 34) .mv (.od (.t 0))) (.cons (.od (.c (.str [99,111,110,100]))) (.cons (.od (.c (.str []))) (.cons (.u (some 36) .ld (.u (some 35) (.fad 2) (.od (.t 2)))) (.cons (.k (some 40) (.bsl 5 50) (.cons (.u (some 37) (.lda 5) (.od (.t 2))) (.cons (.u (some 38) (.lda 5) (.od (.t 12))) (.cons (.u (some 39) (.lda 5) (.od (.t 14))) .nil)))) .nil)))))))⟩,
 ⟨(some 3), none, (.u (some 5) .mv (.od (.c (.bool false))))⟩])
 (.ret)))))))))
def lf181 : LF := ⟨15, 2, lc181, [.ca 2 5,.t 3], [0,1,4,5,10,12,17,18,21,22,23,27,6,33,7]⟩

-- oxbow/express.assigns
def lc182 : LC := (.seq (.reg [⟨(some 1), none, (.u (some 2) .mv (.od (.c (.bool false))))⟩])
 (.seq (.reg [⟨(some 1), none, (.u (some 2) .mv (.k (some 5) (.call 187) (.cons (.k (some 3) (.bsl 1 9) (.cons (.od (.c (.str [61]))) (.cons (.od (.c (.str [42,61]))) (.cons (.od (.c (.str [47,61]))) (.cons (.od (.c (.str [37,61]))) (.cons (.od (.c (.str [43,61]))) (.cons (.od (.c (.str [45,61]))) (.cons (.od (.c (.str [60,60,61]))) (.cons (.od (.c (.str [62,62,61]))) (.cons (.od (.c (.str [38,61]))) (.cons (.od (.c (.str [94,61]))) (.cons (.od (.c (.str [124,61]))) .nil)))))))))))) (.cons (.u (some 4) .mv (.od (.t 0))) .nil))))⟩])
 (.ret)))
def lf182 : LF := ⟨2, 1, lc182, [.t 1], [0,2]⟩

-- oxbow/oxbowref4.Trigraph
def lc183 : LC := (.seq (.reg [⟨(some 1), none, (.u (some 2) .mv (.od (.c (.int .u8 (.ofNat 0)))))⟩,
 ⟨(some 2), none, (.u (some 3) .mv (.od (.c (.bool false))))⟩])
 (.seq (.seq (.reg [⟨(some 3), none, (.u (some 4) .mv (.od (.c (.int .i64 (.ofNat 0)))))⟩])
 (.blk 0 (.loop (.seq (.seq (.reg [⟨(some 4), none, (.b (some 6) false (.bin .lss) (.u (some 5) .mv (.od (.t 3))) (.od (.c (.int .i64 (.ofNat 9)))))⟩])
 (.cond (.t 4) (.skip)
 (.exit 0)))
 (.seq (.blk 1 (.seq (.reg [⟨(some 5), none, (.b (some 12) false (.bin .eql) (.b (some 10) false .ixs (.od (.c (.str [61,47,39,40,41,33,60,62,45]))) (.u (some 9) .mv (.od (.t 3)))) (.u (some 11) .mv (.od (.t 0))))⟩])
 (.cond (.t 5) (.seq (.reg [⟨(some 1), none, (.u (some 2) .mv (.b (some 14) false .ixs (.od (.c (.str [35,92,94,91,93,124,123,125,126]))) (.u (some 13) .mv (.od (.t 3)))))⟩,
 ⟨(some 2), none, (.u (some 3) .mv (.od (.c (.bool true))))⟩])
 (.ret))
 (.skip))))
 (.reg [⟨(some 3), none, (.u (some 4) .mv (.b (some 8) false (.bin .add) (.u (some 7) .mv (.od (.t 3))) (.od (.c (.int .i64 (.ofNat 1))))))⟩]))))))
 (.seq (.reg [⟨(some 1), none, (.u (some 2) .mv (.od (.c (.int .u8 (.ofNat 0)))))⟩,
 ⟨(some 2), none, (.u (some 3) .mv (.od (.c (.bool false))))⟩])
 (.ret))))
def lf183 : LF := ⟨6, 1, lc183, [.t 1,.t 2], [0,2,3,4,6,12]⟩

-- oxbow/oxbowref4.puncts
def lc184 : LC := (.seq (.reg [⟨(some 0), none, (.u (some 0) .mv (.od (.c .nils)))⟩])
 (.seq (.reg [⟨(some 0), none, (.u (some 0) .mv (.k (some 1) (.bsl 1 9) (.cons (.od (.c (.str [37,58,37,58]))) (.cons (.od (.c (.str [46,46,46]))) (.cons (.od (.c (.str [60,60,61]))) (.cons (.od (.c (.str [62,62,61]))) (.cons (.od (.c (.str [45,62]))) (.cons (.od (.c (.str [43,43]))) (.cons (.od (.c (.str [45,45]))) (.cons (.od (.c (.str [60,60]))) (.cons (.od (.c (.str [62,62]))) (.cons (.od (.c (.str [60,61]))) (.cons (.od (.c (.str [62,61]))) (.cons (.od (.c (.str [61,61]))) (.cons (.od (.c (.str [33,61]))) (.cons (.od (.c (.str [38,38]))) (.cons (.od (.c (.str [124,124]))) (.cons (.od (.c (.str [42,61]))) (.cons (.od (.c (.str [47,61]))) (.cons (.od (.c (.str [37,61]))) (.cons (.od (.c (.str [43,61]))) (.cons (.od (.c (.str [45,61]))) (.cons (.od (.c (.str [38,61]))) (.cons (.od (.c (.str [94,61]))) (.cons (.od (.c (.str [124,61]))) (.cons (.od (.c (.str [35,35]))) (.cons (.od (.c (.str [60,58]))) (.cons (.od (.c (.str [58,62]))) (.cons (.od (.c (.str [60,37]))) (.cons (.od (.c (.str [37,62]))) (.cons (.od (.c (.str [37,58]))) (.cons (.od (.c (.str [91]))) (.cons (.od (.c (.str [93]))) (.cons (.od (.c (.str [40]))) (.cons (.od (.c (.str [41]))) (.cons (.od (.c (.str [123]))) (.cons (.od (.c (.str [125]))) (.cons (.od (.c (.str [46]))) (.cons (.od (.c (.str [38]))) (.cons (.od (.c (.str [42]))) (.cons (.od (.c (.str [43]))) (.cons (.od (.c (.str [45]))) (.cons (.od (.c (.str [126]))) (.cons (.od (.c (.str [33]))) (.cons (.od (.c (.str [47]))) (.cons (.od (.c (.str [37]))) (.cons (.od (.c (.str [60]))) (.cons (.od (.c (.str [62]))) (.cons (.od (.c (.str [94]))) (.cons (.od (.c (.str [124]))) (.cons (.od (.c (.str [63]))) (.cons (.od (.c (.str [58]))) (.cons (.od (.c (.str [59]))) (.cons (.od (.c (.str [61]))) (.cons (.od (.c (.str [44]))) (.cons (.od (.c (.str [35]))) .nil))))))))))))))))))))))))))))))))))))))))))))))))))))))))⟩])
 (.ret)))
def lf184 : LF := ⟨1, 0, lc184, [.t 0], [0]⟩

-- oxbow/oxbowref9.ahead
def lc185 : LC := (.seq (.reg [⟨(some 2), none, (.u (some 4) .mv (.od (.c (.int .i64 (.ofNat 0)))))⟩])
 (.seq (.reg [⟨(some 3), none, (.u (some 5) .mv (.k (some 8) (.bsl 1 9) (.cons (.od (.c (.str []))) (.cons (.od (.c (.str [76]))) (.cons (.od (.c (.str [117]))) (.cons (.od (.c (.str [85]))) (.cons (.od (.c (.str [117,56]))) .nil)))))))⟩])
 (.seq (.seq (.reg [⟨(some 4), none, (.u (some 6) .mv (.od (.c (.int .i64 (.ofNat 0)))))⟩])
 (.blk 0 (.loop (.seq (.seq (.reg [⟨(some 5), none, (.b (some 12) false (.bin .lss) (.u (some 9) .mv (.od (.t 4))) (.u (some 11) .len (.u (some 10) .mv (.od (.t 3)))))⟩])
 (.cond (.t 5) (.skip)
 (.exit 0)))
 (.seq (.blk 1 (.seq (.reg [⟨(some 6), none, (.u (some 7) .mv (.u (some 19) .lens (.u (some 18) .ld (.b (some 17) false (.iad 1) (.u (some 15) .mv (.od (.t 3))) (.u (some 16) .mv (.od (.t 4)))))))⟩])
 (.seq (.drw [⟨.p, [], ⟨(some 7), none, (.u (some 20) .mv (.od (.t 0)))⟩⟩,
 ⟨.p, [0], ⟨(some 8), none, (.u (some 21) .lens (.od (.t 7)))⟩⟩,
 ⟨.p, [], ⟨(some 9), none, (.u (some 22) .mv (.od (.t 6)))⟩⟩,
 ⟨.p, [2], ⟨(some 10), none, (.b (some 23) false (.bin .add) (.od (.t 9)) (.od (.c (.int .i64 (.ofNat 2)))))⟩⟩,
 ⟨.p, [0,1,2,3], ⟨(some 11), none, (.b (some 24) false (.bin .geq) (.od (.t 8)) (.od (.t 10)))⟩⟩,
 ⟨.p, [0,1,2,3,4], ⟨(some 12), none, (.u (some 25) .mv (.od (.t 11)))⟩⟩,
 ⟨.p, [0,1,2,3,4,5], ⟨(some 13), some (12, true), (.u (some 26) .mv (.od (.t 0)))⟩⟩,
 ⟨.p, [0,1,2,3,4,5], ⟨(some 14), some (12, true), (.u (some 27) .mv (.od (.t 6)))⟩⟩,
 ⟨.p, [0,1,2,3,4,5,6,7], ⟨(some 15), some (12, true), (.k (some 28) (.sls false true) (.cons (.od (.t 13)) (.cons (.od (.t 14)) .nil)))⟩⟩,
 ⟨.p, [0,1,2,3,4,5], ⟨(some 16), some (12, true), (.u (some 29) .mv (.od (.t 3)))⟩⟩,
 ⟨.p, [0,1,2,3,4,5], ⟨(some 17), some (12, true), (.u (some 30) .mv (.od (.t 4)))⟩⟩,
 ⟨.p, [0,1,2,3,4,5,9,10], ⟨(some 18), some (12, true), (.b (some 31) false (.iad 1) (.od (.t 16)) (.od (.t 17)))⟩⟩,
 ⟨(.l 0 0), [0,1,2,3,4,5,9,10,11], ⟨(some 19), some (12, true), (.u (some 32) .ld (.od (.t 18)))⟩⟩,
 ⟨.p, [0,1,2,3,4,5,6,7,8,9,10,11,12], ⟨(some 20), some (12, true), (.b (some 33) false (.bin .eql) (.od (.t 15)) (.od (.t 19)))⟩⟩,
 ⟨.p, [0,1,2,3,4,5,6,7,8,9,10,11,12,13], ⟨(some 21), none, (.k (some 34) .pick (.cons (.od (.t 12)) (.cons (.od (.t 20)) (.cons (.od (.c (.bool false))) .nil))))⟩⟩,
 ⟨.p, [0,1,2,3,4,5,6,7,8,9,10,11,12,13,14], ⟨(some 22), none, (.u (some 35) .mv (.od (.t 21)))⟩⟩,
 ⟨.p, [0,1,2,3,4,5,6,7,8,9,10,11,12,13,14,15], ⟨(some 23), some (22, true), (.u (some 36) .mv (.od (.t 0)))⟩⟩,
 ⟨.p, [0,1,2,3,4,5,6,7,8,9,10,11,12,13,14,15], ⟨(some 24), some (22, true), (.u (some 37) .mv (.od (.t 6)))⟩⟩,
 ⟨.p, [0,1,2,3,4,5,6,7,8,9,10,11,12,13,14,15,16,17], ⟨(some 25), some (22, true), (.b (some 38) false .ixs (.od (.t 23)) (.od (.t 24)))⟩⟩,
 ⟨.p, [0,1,2,3,4,5,6,7,8,9,10,11,12,13,14,15], ⟨(some 26), some (22, true), (.u (some 39) .mv (.od (.t 1)))⟩⟩,
 ⟨.p, [0,1,2,3,4,5,6,7,8,9,10,11,12,13,14,15,16,17,18,19], ⟨(some 27), some (22, true), (.b (some 40) false (.bin .eql) (.od (.t 25)) (.od (.t 26)))⟩⟩,
 ⟨.p, [0,1,2,3,4,5,6,7,8,9,10,11,12,13,14,15,16,17,18,19,20], ⟨(some 28), none, (.k (some 41) .pick (.cons (.od (.t 22)) (.cons (.od (.t 27)) (.cons (.od (.c (.bool false))) .nil))))⟩⟩,
 ⟨.p, [0,1,2,3,4,5,6,7,8,9,10,11,12,13,14,15,16,17,18,19,20,21], ⟨(some 29), none, (.u (some 42) .mv (.od (.t 28)))⟩⟩,
 ⟨.p, [0,1,2,3,4,5,6,7,8,9,10,11,12,13,14,15,16,17,18,19,20,21,22], ⟨(some 30), some (29, true), (.u (some 43) .mv (.od (.t 0)))⟩⟩,
 ⟨.p, [0,1,2,3,4,5,6,7,8,9,10,11,12,13,14,15,16,17,18,19,20,21,22], ⟨(some 31), some (29, true), (.u (some 44) .mv (.od (.t 0)))⟩⟩,
 ⟨.p, [0,1,2,3,4,5,6,7,8,9,10,11,12,13,14,15,16,17,18,19,20,21,22,24], ⟨(some 32), some (29, true), (.u (some 45) .lens (.od (.t 31)))⟩⟩,
 ⟨.p, [0,1,2,3,4,5,6,7,8,9,10,11,12,13,14,15,16,17,18,19,20,21,22,24,25], ⟨(some 33), some (29, true), (.b (some 46) false (.bin .sub) (.od (.t 32)) (.od (.c (.int .i64 (.ofNat 1)))))⟩⟩,
 ⟨.p, [0,1,2,3,4,5,6,7,8,9,10,11,12,13,14,15,16,17,18,19,20,21,22,23,24,25,26], ⟨(some 34), some (29, true), (.b (some 47) false .ixs (.od (.t 30)) (.od (.t 33)))⟩⟩,
 ⟨.p, [0,1,2,3,4,5,6,7,8,9,10,11,12,13,14,15,16,17,18,19,20,21,22], ⟨(some 35), some (29, true), (.u (some 48) .mv (.od (.t 1)))⟩⟩,
 ⟨.p, [0,1,2,3,4,5,6,7,8,9,10,11,12,13,14,15,16,17,18,19,20,21,22,23,24,25,26,27,28], ⟨(some 36), some (29, true), (.b (some 49) false (.bin .eql) (.od (.t 34)) (.od (.t 35)))⟩⟩,
 ⟨.p, [0,1,2,3,4,5,6,7,8,9,10,11,12,13,14,15,16,17,18,19,20,21,22,23,24,25,26,27,28,29], ⟨(some 37), none, (.k (some 50) .pick (.cons (.od (.t 29)) (.cons (.od (.t 36)) (.cons (.od (.c (.bool false))) .nil))))⟩⟩])
 (.cond (.t 37) (.seq (.reg [⟨(some 2), none, (.u (some 4) .mv (.u (some 51) .mv (.od (.t 6))))⟩])
 (.ret))
 (.skip)))))
 (.reg [⟨(some 4), none, (.u (some 6) .mv (.b (some 14) false (.bin .add) (.u (some 13) .mv (.od (.t 4))) (.od (.c (.int .i64 (.ofNat 1))))))⟩]))))))
 (.seq (.reg [⟨(some 2), none, (.u (some 4) .mv (.od (.c (.int .i64 (.negSucc 0)))))⟩])
 (.ret)))))
def lf185 : LF := ⟨38, 2, lc185, [.t 2], [0,1,4,5,6,12,7,20,21,22,23,24,25,26,27,28,29,30,31,32,33,34,35,36,37,38,39,40,41,42,43,44,45,46,47,48,49,50]⟩

-- strings.Fields
def lc186 : LC := (.seq (.reg [⟨(some 1), none, (.u (some 2) .mv (.od (.c .nils)))⟩])
 (.seq (.reg [⟨(some 2), none, (.u (some 3) .mv (.od (.c (.int .i64 (.ofNat 0)))))⟩])
 (.seq (.reg [⟨(some 3), none, (.u (some 4) .mv (.od (.c (.int .i64 (.ofNat 1)))))⟩])
 (.seq (.reg [⟨(some 4), none, (.u (some 5) .mv (.od (.c (.int .u8 (.ofNat 0)))))⟩])
 (.seq (.seq (.reg [⟨(some 5), none, (.u (some 6) .mv (.od (.c (.int .i64 (.ofNat 0)))))⟩])
 (.blk 0 (.loop (.seq (.seq (.reg [⟨(some 6), none, (.b (some 16) false (.bin .lss) (.u (some 13) .mv (.od (.t 5))) (.u (some 15) .lens (.u (some 14) .mv (.od (.t 0)))))⟩])
 (.cond (.t 6) (.skip)
 (.exit 0)))
 (.seq (.blk 1 (.seq (.reg [⟨(some 7), none, (.u (some 7) .mv (.b (some 21) false .ixs (.u (some 19) .mv (.od (.t 0))) (.u (some 20) .mv (.od (.t 5)))))⟩])
 (.seq (.reg [⟨(some 4), none, (.u (some 5) .mv (.b (some 24) false (.bin .or) (.u (some 22) .mv (.od (.t 4))) (.u (some 23) .mv (.od (.t 7)))))⟩])
 (.seq (.reg [⟨(some 8), none, (.u (some 8) .mv (.u (some 28) (.cvi .i64) (.u (some 27) .ld (.b (some 26) false (.iaa 256 1) (.od (.g 0)) (.u (some 25) .mv (.od (.t 7)))))))⟩])
 (.seq (.reg [⟨(some 2), none, (.u (some 3) .mv (.b (some 34) false (.bin .add) (.u (some 29) .mv (.od (.t 2))) (.b (some 33) false (.bin .and) (.u (some 30) .mv (.od (.t 3))) (.u (some 32) (.un .xor) (.u (some 31) .mv (.od (.t 8)))))))⟩])
 (.reg [⟨(some 3), none, (.u (some 4) .mv (.u (some 35) .mv (.od (.t 8))))⟩]))))))
 (.reg [⟨(some 5), none, (.u (some 6) .mv (.b (some 18) false (.bin .add) (.u (some 17) .mv (.od (.t 5))) (.od (.c (.int .i64 (.ofNat 1))))))⟩]))))))
 (.seq (.seq (.reg [⟨(some 9), none, (.b (some 37) false (.bin .geq) (.u (some 36) .mv (.od (.t 4))) (.od (.c (.int .u8 (.ofNat 128)))))⟩])
 (.cond (.t 9) (.seq (.reg [⟨(some 1), none, (.u (some 2) .mv (.k (some 39) (.call 211) (.cons (.u (some 38) .mv (.od (.t 0))) (.cons (.od (.c (.fn 212 [] []))) .nil))))⟩])
 (.ret))
 (.skip)))
 (.seq (.reg [⟨(some 10), none, (.u (some 40) .mv (.od (.t 2)))⟩,
 ⟨(some 11), none, (.u (some 9) .mv (.b (some 41) false (.mks [(.str [])] 16 9) (.od (.t 10)) (.od (.t 10))))⟩])
 (.seq (.reg [⟨(some 12), none, (.u (some 10) .mv (.od (.c (.int .i64 (.ofNat 0)))))⟩])
 (.seq (.reg [⟨(some 13), none, (.u (some 11) .mv (.od (.c (.int .i64 (.ofNat 0)))))⟩])
 (.seq (.reg [⟨(some 14), none, (.u (some 12) .mv (.od (.c (.int .i64 (.ofNat 0)))))⟩])
 (.seq (.blk 2 (.loop (.seq (.seq (.reg [⟨(some 15), none, (.gd (some 53) true false (.u (some 46) .mv (.b (some 45) false (.bin .lss) (.u (some 42) .mv (.od (.t 14))) (.u (some 44) .lens (.u (some 43) .mv (.od (.t 0)))))) (.b (some 52) false (.bin .neq) (.u (some 51) .ld (.b (some 50) false (.iaa 256 1) (.od (.g 0)) (.b (some 49) false .ixs (.u (some 47) .mv (.od (.t 0))) (.u (some 48) .mv (.od (.t 14)))))) (.od (.c (.int .u8 (.ofNat 0))))))⟩])
 (.cond (.t 15) (.skip)
 (.exit 2)))
 (.blk 3 (.reg [⟨(some 14), none, (.u (some 12) .mv (.b (some 55) false (.bin .add) (.u (some 54) .mv (.od (.t 14))) (.od (.c (.int .i64 (.ofNat 1))))))⟩])))))
 (.seq (.reg [⟨(some 13), none, (.u (some 11) .mv (.u (some 56) .mv (.od (.t 14))))⟩])
 (.seq (.blk 4 (.loop (.seq (.seq (.reg [⟨(some 16), none, (.b (some 60) false (.bin .lss) (.u (some 57) .mv (.od (.t 14))) (.u (some 59) .lens (.u (some 58) .mv (.od (.t 0)))))⟩])
 (.cond (.t 16) (.skip)
 (.exit 4)))
 (.blk 5 (.seq (.seq (.reg [⟨(some 17), none, (.b (some 66) false (.bin .eql) (.u (some 65) .ld (.b (some 64) false (.iaa 256 1) (.od (.g 0)) (.b (some 63) false .ixs (.u (some 61) .mv (.od (.t 0))) (.u (some 62) .mv (.od (.t 14)))))) (.od (.c (.int .u8 (.ofNat 0)))))⟩])
 (.cond (.t 17) (.seq (.reg [⟨(some 14), none, (.u (some 12) .mv (.b (some 68) false (.bin .add) (.u (some 67) .mv (.od (.t 14))) (.od (.c (.int .i64 (.ofNat 1))))))⟩])
 (.exit 5))
 (.skip)))
 (.seq (.reg [⟨(some 18), none, (.u (some 69) .mv (.od (.t 11)))⟩,
 ⟨(some 19), none, (.u (some 70) .mv (.od (.t 12)))⟩,
 ⟨(some 20), none, (.k (some 74) (.sls true true) (.cons (.u (some 71) .mv (.od (.t 0))) (.cons (.u (some 72) .mv (.od (.t 13))) (.cons (.u (some 73) .mv (.od (.t 14))) .nil))))⟩,
 ⟨none, none, (.b none false .st (.b (some 75) false (.iad 1) (.od (.t 18)) (.od (.t 19))) (.od (.t 20)))⟩])
 (.seq (.reg [⟨(some 12), none, (.u (some 10) .mv (.b (some 77) false (.bin .add) (.u (some 76) .mv (.od (.t 12))) (.od (.c (.int .i64 (.ofNat 1))))))⟩])
 (.seq (.reg [⟨(some 14), none, (.u (some 12) .mv (.b (some 79) false (.bin .add) (.u (some 78) .mv (.od (.t 14))) (.od (.c (.int .i64 (.ofNat 1))))))⟩])
 (.seq (.blk 6 (.loop (.seq (.seq (.reg [⟨(some 21), none, (.gd (some 91) true false (.u (some 84) .mv (.b (some 83) false (.bin .lss) (.u (some 80) .mv (.od (.t 14))) (.u (some 82) .lens (.u (some 81) .mv (.od (.t 0)))))) (.b (some 90) false (.bin .neq) (.u (some 89) .ld (.b (some 88) false (.iaa 256 1) (.od (.g 0)) (.b (some 87) false .ixs (.u (some 85) .mv (.od (.t 0))) (.u (some 86) .mv (.od (.t 14)))))) (.od (.c (.int .u8 (.ofNat 0))))))⟩])
 (.cond (.t 21) (.skip)
 (.exit 6)))
 (.blk 7 (.reg [⟨(some 14), none, (.u (some 12) .mv (.b (some 93) false (.bin .add) (.u (some 92) .mv (.od (.t 14))) (.od (.c (.int .i64 (.ofNat 1))))))⟩])))))
 (.reg [⟨(some 13), none, (.u (some 11) .mv (.u (some 94) .mv (.od (.t 14))))⟩]))))))))))
 (.seq (.seq (.reg [⟨(some 22), none, (.b (some 98) false (.bin .lss) (.u (some 95) .mv (.od (.t 13))) (.u (some 97) .lens (.u (some 96) .mv (.od (.t 0)))))⟩])
 (.cond (.t 22) (.reg [⟨(some 23), none, (.u (some 99) .mv (.od (.t 11)))⟩,
 ⟨(some 24), none, (.u (some 100) .mv (.od (.t 12)))⟩,
 ⟨(some 25), none, (.k (some 103) (.sls true false) (.cons (.u (some 101) .mv (.od (.t 0))) (.cons (.u (some 102) .mv (.od (.t 13))) .nil)))⟩,
 ⟨none, none, (.b none false .st (.b (some 104) false (.iad 1) (.od (.t 23)) (.od (.t 24))) (.od (.t 25)))⟩])
 (.skip)))
 (.seq (.reg [⟨(some 1), none, (.u (some 2) .mv (.u (some 105) .mv (.od (.t 11))))⟩])
 (.ret))))))))))))))))
def lf186 : LF := ⟨26, 1, lc186, [.t 1], [0,2,3,4,5,6,16,7,8,37,40,9,10,11,12,53,60,66,69,70,74,91,98,99,100,103]⟩

-- slices.Contains[[]string,string]
def lc187 : LC := (.seq (.reg [⟨(some 2), none, (.u (some 4) .mv (.od (.c (.bool false))))⟩])
 (.seq (.reg [⟨(some 2), none, (.u (some 4) .mv (.b (some 8) false (.bin .geq) (.k (some 7) (.call 213) (.cons (.u (some 5) .mv (.od (.t 0))) (.cons (.u (some 6) .mv (.od (.t 1))) .nil))) (.od (.c (.int .i64 (.ofNat 0))))))⟩])
 (.ret)))
def lf187 : LF := ⟨3, 2, lc187, [.t 2], [0,1,4]⟩

-- (*oxbow/express.Reader).inner
def lc188 : LC := (.seq (.reg [⟨(some 2), none, (.u (some 4) .mv (.od (.c (.bool false))))⟩])
 (.seq (.reg [⟨(some 3), none, (.k (some 8) (.call 157) (.cons (.u (some 7) .mv (.od (.t 0))) (.cons (.od (.c (.int .i64 (.ofNat 1)))) .nil)))⟩,
 ⟨(some 4), none, (.a (some 5) [(.int .i64 (.ofNat 0)),(.str []),(.str []),(.int .i64 (.ofNat 0)),(.int .i64 (.ofNat 0)),(.int .i64 (.ofNat 0)),(.int .i64 (.ofNat 0))] 95)⟩,
 ⟨none, none, (.b none false (.sta 7) (.od (.t 4)) (.od (.t 3)))⟩])
 (.seq (.reg [⟨(some 5), none, (.u (some 6) .mv (.gd (some 18) false true (.u (some 15) .mv (.gd (some 14) false true (.u (some 11) .mv (.k (some 10) (.call 165) (.cons (.u (some 9) (.lda 7) (.od (.t 4))) (.cons (.od (.c (.str [42]))) .nil)))) (.k (some 13) (.call 165) (.cons (.u (some 12) (.lda 7) (.od (.t 4))) (.cons (.od (.c (.str [40]))) .nil))))) (.k (some 17) (.call 165) (.cons (.u (some 16) (.lda 7) (.od (.t 4))) (.cons (.od (.c (.str [91]))) .nil)))))⟩])
 (.seq (.reg [⟨(some 2), none, (.u (some 4) .mv (.gd (some 42) true false (.u (some 21) .mv (.k (some 20) (.call 119) (.cons (.u (some 19) .mv (.od (.t 0))) (.cons (.od (.c (.str [40]))) .nil)))) (.gd (some 41) false true (.u (some 27) .mv (.gd (some 26) false true (.u (some 24) .mv (.b (some 23) false (.bin .eql) (.u (some 22) .mv (.od (.t 1))) (.od (.c (.int .i64 (.ofNat 0)))))) (.u (some 25) .mv (.od (.t 5))))) (.gd (some 40) true false (.u (some 35) .mv (.gd (some 34) true false (.u (some 30) .mv (.b (some 29) false (.bin .eql) (.u (some 28) .mv (.od (.t 1))) (.od (.c (.int .i64 (.ofNat 2)))))) (.b (some 33) false (.bin .eql) (.u (some 32) .ld (.u (some 31) (.fad 0) (.od (.t 4)))) (.od (.c (.int .i64 (.ofNat 1))))))) (.u (some 39) (.un .not) (.k (some 38) (.call 156) (.cons (.u (some 36) .mv (.od (.t 0))) (.cons (.u (some 37) (.lda 7) (.od (.t 4))) .nil))))))))⟩])
 (.ret)))))
def lf188 : LF := ⟨6, 2, lc188, [.t 2], [0,1,4,8,5,6]⟩

-- (*oxbow/express.Reader).array
def lc189 : LC := (.seq (.reg [⟨(some 3), none, (.u (some 4) (.box 50) (.od (.t 1)))⟩,
 ⟨(some 4), none, (.a (some 6) [(.str []),(.str []),(.int .i64 (.ofNat 0)),(.int .i64 (.ofNat 0)),.nils] 50)⟩])
 (.seq (.reg [⟨(some 5), none, (.u (some 7) .mv (.k (some 10) (.bsl 5 50) (.cons (.u (some 9) (.lda 5) (.od (.t 3))) .nil)))⟩])
 (.seq (.blk 0 (.loop (.seq (.seq (.reg [⟨(some 6), none, (.gd (some 18) false true (.u (some 13) .mv (.k (some 12) (.call 168) (.cons (.u (some 11) .mv (.od (.t 0))) (.cons (.od (.c (.str [115,116,97,116,105,99]))) .nil)))) (.b (some 17) false (.bin .gtr) (.u (some 16) .len (.k (some 15) (.call 160) (.cons (.u (some 14) .mv (.od (.t 0))) .nil))) (.od (.c (.int .i64 (.ofNat 0))))))⟩])
 (.cond (.t 6) (.skip)
 (.exit 0)))
 (.blk 1 (.skip)))))
 (.seq (.blk 2 (.seq (.reg [⟨(some 7), none, (.u (some 19) .mv (.gd (some 25) true false (.u (some 22) .mv (.k (some 21) (.call 119) (.cons (.u (some 20) .mv (.od (.t 0))) (.cons (.od (.c (.str [42]))) .nil)))) (.k (some 24) (.call 126) (.cons (.u (some 23) .mv (.od (.t 0))) (.cons (.od (.c (.str [93]))) .nil)))))⟩])
 (.cond (.t 7) (.seq (.reg [⟨(some 8), none, (.k (some 27) (.call 163) (.cons (.u (some 26) .mv (.od (.t 0))) (.cons (.od (.c (.str [115,116,97,114]))) .nil)))⟩,
 ⟨(some 9), none, (.a (some 8) [(.str []),(.str []),(.int .i64 (.ofNat 0)),(.int .i64 (.ofNat 0)),.nils] 50)⟩,
 ⟨none, none, (.b none false (.sta 5) (.od (.t 9)) (.od (.t 8)))⟩])
 (.seq (.reg [⟨none, none, (.b none false .st (.u (some 28) (.fad 1) (.od (.t 9))) (.od (.c (.str []))))⟩])
 (.reg [⟨(some 5), none, (.u (some 7) .mv (.b (some 32) false (.app 5 72 50) (.u (some 29) .mv (.od (.t 5))) (.k (some 31) (.bsl 5 50) (.cons (.u (some 30) (.lda 5) (.od (.t 9))) .nil))))⟩])))
 (.seq (.reg [⟨(some 10), none, (.u (some 33) .mv (.u (some 36) (.un .not) (.k (some 35) (.call 119) (.cons (.u (some 34) .mv (.od (.t 0))) (.cons (.od (.c (.str [93]))) .nil)))))⟩])
 (.cond (.t 10) (.reg [⟨(some 5), none, (.u (some 7) .mv (.b (some 42) false (.app 5 72 50) (.u (some 37) .mv (.od (.t 5))) (.k (some 41) (.bsl 5 50) (.cons (.k (some 40) (.call 138) (.cons (.u (some 38) .mv (.od (.t 0))) (.cons (.u (some 39) .mv (.od (.t 2))) .nil))) .nil))))⟩])
 (.skip))))))
 (.seq (.reg [⟨none, none, (.k (some 44) (.call 122) (.cons (.u (some 43) .mv (.od (.t 0))) (.cons (.od (.c (.str [93]))) .nil)))⟩])
 (.seq (.reg [⟨none, none, (.b none false (.sta 5) (.od (.t 4)) (.k (some 49) (.call 123) (.cons (.u (some 45) .mv (.od (.t 0))) (.cons (.od (.c (.str [97,114,114,97,121]))) (.cons (.od (.c (.str []))) (.cons (.u (some 47) .ld (.u (some 46) (.fad 2) (.od (.t 3)))) (.cons (.u (some 48) .mv (.od (.t 5))) .nil)))))))⟩])
 (.ret)))))))
def lf189 : LF := ⟨11, 3, lc189, [.ca 4 5], [0,1,2,4,6,7,18,19,27,8,33]⟩

-- (*oxbow/express.Reader).params
def lc190 : LC := (.seq (.reg [⟨(some 4), none, (.u (some 5) (.box 50) (.od (.t 1)))⟩,
 ⟨(some 5), none, (.a (some 8) [(.str []),(.str []),(.int .i64 (.ofNat 0)),(.int .i64 (.ofNat 0)),.nils] 50)⟩])
 (.seq (.reg [⟨(some 6), none, (.u (some 9) .mv (.k (some 13) (.bsl 5 50) (.cons (.u (some 12) (.lda 5) (.od (.t 4))) .nil)))⟩])
 (.seq (.reg [⟨(some 7), none, (.u (some 10) .mv (.u (some 17) .ld (.u (some 16) (.fad 2) (.u (some 15) .nck (.u (some 14) .mv (.od (.t 0)))))))⟩])
 (.seq (.reg [⟨(some 8), none, (.u (some 18) .mv (.od (.t 0)))⟩,
 ⟨(some 9), none, (.k (some 20) (.call 114) (.cons (.u (some 19) .mv (.od (.t 7))) .nil))⟩,
 ⟨none, none, (.b none false .st (.u (some 22) (.fad 2) (.u (some 21) .nck (.od (.t 8)))) (.od (.t 9)))⟩])
 (.seq (.seq (.reg [⟨(some 10), none, (.k (some 24) (.call 100) (.cons (.u (some 23) .mv (.od (.t 0))) .nil))⟩,
 ⟨(some 11), none, (.a (some 11) [(.int .i64 (.ofNat 0)),(.str []),(.str []),(.int .i64 (.ofNat 0)),(.int .i64 (.ofNat 0)),(.int .i64 (.ofNat 0)),(.int .i64 (.ofNat 0))] 95)⟩,
 ⟨none, none, (.b none false (.sta 7) (.od (.t 11)) (.od (.t 10)))⟩])
 (.blk 0 (.seq (.reg [⟨(some 12), none, (.u (some 27) .mv (.k (some 29) (.call 119) (.cons (.u (some 28) .mv (.od (.t 0))) (.cons (.od (.c (.str [41]))) .nil))))⟩])
 (.cond (.t 12) (.skip)
 (.seq (.reg [⟨(some 13), none, (.u (some 30) .mv (.gd (some 36) true false (.u (some 33) .mv (.k (some 32) (.call 116) (.cons (.u (some 31) .mv (.od (.t 0))) (.cons (.od (.c (.str [118,111,105,100]))) .nil)))) (.k (some 35) (.call 126) (.cons (.u (some 34) .mv (.od (.t 0))) (.cons (.od (.c (.str [41]))) .nil)))))⟩])
 (.cond (.t 13) (.reg [⟨(some 14), none, (.u (some 37) .mv (.od (.t 0)))⟩,
 ⟨none, none, (.b none true .st (.u (some 43) (.fad 1) (.u (some 42) .nck (.od (.t 14)))) (.b (some 41) false (.bin .add) (.u (some 40) .ld (.u (some 39) (.fad 1) (.u (some 38) .nck (.od (.t 14))))) (.od (.c (.int .i64 (.ofNat 1))))))⟩])
 (.seq (.reg [⟨(some 15), none, (.u (some 44) .mv (.k (some 47) (.call 99) (.cons (.u (some 45) .mv (.od (.t 0))) (.cons (.u (some 46) (.lda 7) (.od (.t 11))) .nil))))⟩])
 (.cond (.t 15) (.reg [⟨(some 6), none, (.u (some 9) .mv (.k (some 51) (.call 214) (.cons (.u (some 48) .mv (.od (.t 0))) (.cons (.u (some 49) .mv (.od (.t 6))) (.cons (.u (some 50) .mv (.od (.t 2))) .nil)))))⟩])
 (.seq (.reg [⟨(some 16), none, (.u (some 52) .mv (.gd (some 59) true false (.u (some 55) .mv (.b (some 54) false (.bin .eql) (.u (some 53) .mv (.od (.t 3))) (.od (.c (.int .i64 (.ofNat 0)))))) (.b (some 58) false (.bin .eql) (.u (some 57) .ld (.u (some 56) (.fad 0) (.od (.t 11)))) (.od (.c (.int .i64 (.ofNat 1)))))))⟩])
 (.cond (.t 16) (.reg [⟨(some 6), none, (.u (some 9) .mv (.k (some 62) (.call 215) (.cons (.u (some 60) .mv (.od (.t 0))) (.cons (.u (some 61) .mv (.od (.t 6))) .nil))))⟩])
 (.reg [⟨none, none, (.k (some 26) (.call 108) (.cons (.u (some 25) .mv (.od (.t 0))) .nil))⟩])))))))))))
 (.seq (.reg [⟨none, none, (.k (some 64) (.call 122) (.cons (.u (some 63) .mv (.od (.t 0))) (.cons (.od (.c (.str [41]))) .nil)))⟩])
 (.seq (.reg [⟨(some 17), none, (.u (some 65) .mv (.od (.t 0)))⟩,
 ⟨(some 18), none, (.u (some 66) .mv (.od (.t 7)))⟩,
 ⟨none, none, (.b none false .st (.u (some 68) (.fad 2) (.u (some 67) .nck (.od (.t 17)))) (.od (.t 18)))⟩])
 (.seq (.reg [⟨none, none, (.b none false (.sta 5) (.od (.t 5)) (.k (some 73) (.call 123) (.cons (.u (some 69) .mv (.od (.t 0))) (.cons (.od (.c (.str [102,117,110,99]))) (.cons (.od (.c (.str []))) (.cons (.u (some 71) .ld (.u (some 70) (.fad 2) (.od (.t 4)))) (.cons (.u (some 72) .mv (.od (.t 6))) .nil)))))))⟩])
 (.ret)))))))))
def lf190 : LF := ⟨19, 4, lc190, [.ca 5 5], [0,1,2,3,5,8,9,10,18,20,24,11,27,30,37,44,52,65,66]⟩

-- (*oxbow/express.specs).one
def lc192 : LC := (.seq (.reg [⟨(some 1), none, (.a (some 2) [(.str []),(.str []),(.int .i64 (.ofNat 0)),(.int .i64 (.ofNat 0)),.nils] 50)⟩,
 ⟨(some 2), none, (.u (some 3) .mv (.od (.c (.bool false))))⟩])
 (.seq (.drw [⟨.p, [], ⟨(some 3), none, (.u (some 8) .mv (.od (.t 0)))⟩⟩,
 ⟨.p, [0], ⟨(some 4), none, (.u (some 9) .nck (.od (.t 3)))⟩⟩,
 ⟨.p, [0,1], ⟨(some 5), none, (.u (some 10) (.fad 0) (.od (.t 4)))⟩⟩,
 ⟨(.l 0 0), [0,1,2], ⟨(some 6), none, (.u (some 11) .ld (.od (.t 5)))⟩⟩,
 ⟨.m, [0,1,2,3], ⟨(some 7), none, (.k (some 12) (.call 100) (.cons (.od (.t 6)) .nil))⟩⟩,
 ⟨.p, [], ⟨(some 8), none, (.u (some 13) .mv (.od (.t 0)))⟩⟩,
 ⟨.p, [5], ⟨(some 9), none, (.u (some 14) .nck (.od (.t 8)))⟩⟩,
 ⟨.p, [5,6], ⟨(some 10), none, (.u (some 15) (.fad 0) (.od (.t 9)))⟩⟩,
 ⟨(.l 0 2), [5,6,7], ⟨(some 11), none, (.u (some 16) .ld (.od (.t 10)))⟩⟩,
 ⟨.p, [5,6,7,8], ⟨(some 12), none, (.u (some 17) .nck (.od (.t 11)))⟩⟩,
 ⟨.p, [5,6,7,8,9], ⟨(some 13), none, (.u (some 18) (.fad 1) (.od (.t 12)))⟩⟩,
 ⟨(.l 0 2), [5,6,7,8,9,10], ⟨(some 14), none, (.u (some 19) .ld (.od (.t 13)))⟩⟩,
 ⟨.a, [], ⟨(some 15), none, (.a (some 4) [(.int .i64 (.ofNat 0)),(.str []),(.str []),(.int .i64 (.ofNat 0)),(.int .i64 (.ofNat 0)),(.int .i64 (.ofNat 0)),(.int .i64 (.ofNat 0))] 95)⟩⟩,
 ⟨.m, [0,1,2,3,4,12], ⟨none, none, (.b none false (.sta 7) (.od (.t 15)) (.od (.t 7)))⟩⟩,
 ⟨.p, [0,1,2,3,4,5,6,7,8,9,10,11,12,13], ⟨(some 16), none, (.u (some 5) .mv (.od (.t 14)))⟩⟩])
 (.seq (.seq (.drw [⟨.p, [], ⟨(some 17), none, (.u (some 20) .mv (.od (.t 0)))⟩⟩,
 ⟨.p, [0], ⟨(some 18), none, (.u (some 21) .nck (.od (.t 17)))⟩⟩,
 ⟨.p, [0,1], ⟨(some 19), none, (.u (some 22) (.fad 0) (.od (.t 18)))⟩⟩,
 ⟨(.l 0 0), [0,1,2], ⟨(some 20), none, (.u (some 23) .ld (.od (.t 19)))⟩⟩,
 ⟨(.l 0 0), [], ⟨(some 21), none, (.u (some 24) (.lda 7) (.od (.t 15)))⟩⟩,
 ⟨.m, [0,1,2,3,4], ⟨(some 22), none, (.k (some 25) (.call 156) (.cons (.od (.t 20)) (.cons (.od (.t 21)) .nil)))⟩⟩,
 ⟨.p, [0,1,2,3,4,5], ⟨(some 23), none, (.u (some 26) .mv (.od (.t 22)))⟩⟩,
 ⟨.p, [0,1,2,3,4,5,6], ⟨(some 24), some (23, true), (.u (some 27) .mv (.od (.t 0)))⟩⟩,
 ⟨.p, [0,1,2,3,4,5,6,7], ⟨(some 25), some (23, true), (.u (some 28) .nck (.od (.t 24)))⟩⟩,
 ⟨.p, [0,1,2,3,4,5,6,7,8], ⟨(some 26), some (23, true), (.u (some 29) (.fad 3) (.od (.t 25)))⟩⟩,
 ⟨(.l 1 1), [0,1,2,3,4,5,6,7,8,9], ⟨(some 27), some (23, true), (.u (some 30) .ld (.od (.t 26)))⟩⟩,
 ⟨.p, [0,1,2,3,4,5,6,7,8,9,10], ⟨(some 28), some (23, true), (.u (some 31) (.un .not) (.od (.t 27)))⟩⟩,
 ⟨.p, [0,1,2,3,4,5,6,7,8,9,10,11], ⟨(some 29), none, (.k (some 32) .pick (.cons (.od (.t 23)) (.cons (.od (.t 28)) (.cons (.od (.c (.bool false))) .nil))))⟩⟩])
 (.cond (.t 29) (.seq (.reg [⟨none, none, (.b none false .st (.u (some 35) (.fad 3) (.u (some 34) .nck (.u (some 33) .mv (.od (.t 0))))) (.od (.c (.bool true))))⟩])
 (.seq (.reg [⟨none, none, (.b none false (.sta 5) (.od (.t 1)) (.k (some 40) (.call 163) (.cons (.u (some 39) .ld (.u (some 38) (.fad 0) (.u (some 37) .nck (.u (some 36) .mv (.od (.t 0)))))) (.cons (.od (.c (.str [116,121,112,101,110,97,109,101]))) .nil))))⟩,
 ⟨(some 2), none, (.u (some 3) .mv (.od (.c (.bool true))))⟩])
 (.ret)))
 (.skip)))
 (.seq (.reg [⟨(some 30), none, (.u (some 6) .mv (.k (some 43) (.call 155) (.cons (.u (some 42) .ld (.u (some 41) (.fad 1) (.od (.t 15)))) .nil)))⟩])
 (.seq (.seq (.reg [⟨(some 31), none, (.gd (some 50) false true (.u (some 47) .mv (.b (some 46) false (.bin .neq) (.u (some 45) .ld (.u (some 44) (.fad 0) (.od (.t 15)))) (.od (.c (.int .i64 (.ofNat 2)))))) (.b (some 49) false (.bin .eql) (.u (some 48) .mv (.od (.t 30))) (.od (.c (.str [])))))⟩])
 (.cond (.t 31) (.seq (.reg [⟨none, none, (.b none false (.sta 5) (.od (.t 1)) (.u (some 51) (.lda 5) (.od (.t 1))))⟩,
 ⟨(some 2), none, (.u (some 3) .mv (.od (.c (.bool false))))⟩])
 (.ret))
 (.skip)))
 (.seq (.seq (.reg [⟨(some 32), none, (.u (some 52) .mv (.od (.t 30)))⟩])
 (.blk 0 (.seq (.seq (.reg [⟨(some 33), none, (.u (some 53) .mv (.b (some 54) false (.bin .eql) (.od (.t 32)) (.od (.c (.str [115,116,111,114,97,103,101])))))⟩])
 (.cond (.t 33) (.skip)
 (.reg [⟨(some 33), none, (.u (some 53) .mv (.b (some 55) false (.bin .eql) (.od (.t 32)) (.od (.c (.str [102,117,110,99,116,105,111,110])))))⟩])))
 (.cond (.t 33) (.seq (.reg [⟨(some 34), none, (.u (some 59) .ld (.u (some 58) (.fad 2) (.u (some 57) .nck (.u (some 56) .mv (.od (.t 0))))))⟩])
 (.cond (.t 34) (.seq (.reg [⟨none, none, (.k (some 64) (.call 108) (.cons (.u (some 63) .ld (.u (some 62) (.fad 0) (.u (some 61) .nck (.u (some 60) .mv (.od (.t 0)))))) .nil))⟩])
 (.seq (.reg [⟨none, none, (.b none false (.sta 5) (.od (.t 1)) (.u (some 65) (.lda 5) (.od (.t 1))))⟩,
 ⟨(some 2), none, (.u (some 3) .mv (.od (.c (.bool false))))⟩])
 (.ret)))
 (.skip)))
 (.seq (.reg [⟨(some 35), none, (.u (some 66) .mv (.b (some 67) false (.bin .eql) (.od (.t 32)) (.od (.c (.str [116,121,112,101])))))⟩])
 (.cond (.t 35) (.reg [⟨none, none, (.b none false .st (.u (some 70) (.fad 3) (.u (some 69) .nck (.u (some 68) .mv (.od (.t 0))))) (.od (.c (.bool true))))⟩])
 (.seq (.reg [⟨(some 36), none, (.u (some 71) .mv (.b (some 72) false (.bin .eql) (.od (.t 32)) (.od (.c (.str [97,108,105,103,110,97,115])))))⟩])
 (.cond (.t 36) (.seq (.reg [⟨(some 37), none, (.u (some 76) .ld (.u (some 75) (.fad 0) (.u (some 74) .nck (.u (some 73) .mv (.od (.t 0))))))⟩,
 ⟨none, none, (.b none true .st (.u (some 82) (.fad 1) (.u (some 81) .nck (.od (.t 37)))) (.b (some 80) false (.bin .add) (.u (some 79) .ld (.u (some 78) (.fad 1) (.u (some 77) .nck (.od (.t 37))))) (.od (.c (.int .i64 (.ofNat 1))))))⟩])
 (.seq (.reg [⟨none, none, (.b none false (.sta 5) (.od (.t 1)) (.k (some 85) (.call 216) (.cons (.u (some 83) .mv (.od (.t 0))) (.cons (.u (some 84) .mv (.od (.t 16))) .nil))))⟩,
 ⟨(some 2), none, (.u (some 3) .mv (.od (.c (.bool true))))⟩])
 (.ret)))
 (.seq (.seq (.reg [⟨(some 38), none, (.u (some 86) .mv (.b (some 87) false (.bin .eql) (.od (.t 32)) (.od (.c (.str [115,116,114,117,99,116])))))⟩])
 (.cond (.t 38) (.skip)
 (.reg [⟨(some 38), none, (.u (some 86) .mv (.b (some 88) false (.bin .eql) (.od (.t 32)) (.od (.c (.str [117,110,105,111,110])))))⟩])))
 (.cond (.t 38) (.seq (.reg [⟨none, none, (.b none false .st (.u (some 91) (.fad 3) (.u (some 90) .nck (.u (some 89) .mv (.od (.t 0))))) (.od (.c (.bool true))))⟩])
 (.seq (.reg [⟨(some 39), none, (.u (some 95) .ld (.u (some 94) (.fad 0) (.u (some 93) .nck (.u (some 92) .mv (.od (.t 0))))))⟩,
 ⟨none, none, (.b none true .st (.u (some 101) (.fad 1) (.u (some 100) .nck (.od (.t 39)))) (.b (some 99) false (.bin .add) (.u (some 98) .ld (.u (some 97) (.fad 1) (.u (some 96) .nck (.od (.t 39))))) (.od (.c (.int .i64 (.ofNat 1))))))⟩])
 (.seq (.reg [⟨none, none, (.b none false (.sta 5) (.od (.t 1)) (.k (some 105) (.call 217) (.cons (.u (some 102) .mv (.od (.t 0))) (.cons (.u (some 103) .mv (.od (.t 30))) (.cons (.u (some 104) .mv (.od (.t 16))) .nil)))))⟩,
 ⟨(some 2), none, (.u (some 3) .mv (.od (.c (.bool true))))⟩])
 (.ret))))
 (.seq (.reg [⟨(some 40), none, (.u (some 106) .mv (.b (some 107) false (.bin .eql) (.od (.t 32)) (.od (.c (.str [101,110,117,109])))))⟩])
 (.cond (.t 40) (.seq (.reg [⟨none, none, (.b none false .st (.u (some 110) (.fad 3) (.u (some 109) .nck (.u (some 108) .mv (.od (.t 0))))) (.od (.c (.bool true))))⟩])
 (.seq (.reg [⟨(some 41), none, (.u (some 114) .ld (.u (some 113) (.fad 0) (.u (some 112) .nck (.u (some 111) .mv (.od (.t 0))))))⟩,
 ⟨none, none, (.b none true .st (.u (some 120) (.fad 1) (.u (some 119) .nck (.od (.t 41)))) (.b (some 118) false (.bin .add) (.u (some 117) .ld (.u (some 116) (.fad 1) (.u (some 115) .nck (.od (.t 41))))) (.od (.c (.int .i64 (.ofNat 1))))))⟩])
 (.seq (.reg [⟨none, none, (.b none false (.sta 5) (.od (.t 1)) (.k (some 123) (.call 218) (.cons (.u (some 121) .mv (.od (.t 0))) (.cons (.u (some 122) .mv (.od (.t 16))) .nil))))⟩,
 ⟨(some 2), none, (.u (some 3) .mv (.od (.c (.bool true))))⟩])
 (.ret))))
 (.seq (.reg [⟨(some 42), none, (.u (some 124) .mv (.b (some 125) false (.bin .eql) (.od (.t 32)) (.od (.c (.str [113,117,97,108,105,102,105,101,114])))))⟩])
 (.cond (.t 42) (.seq (.reg [⟨(some 43), none, (.gd (some 135) true false (.u (some 129) .mv (.b (some 128) false (.bin .eql) (.u (some 127) .ld (.u (some 126) (.fad 1) (.od (.t 15)))) (.od (.c (.str [95,65,116,111,109,105,99]))))) (.k (some 134) (.call 126) (.cons (.u (some 133) .ld (.u (some 132) (.fad 0) (.u (some 131) .nck (.u (some 130) .mv (.od (.t 0)))))) (.cons (.od (.c (.str [40]))) .nil))))⟩])
 (.cond (.t 43) (.seq (.reg [⟨none, none, (.b none false .st (.u (some 138) (.fad 3) (.u (some 137) .nck (.u (some 136) .mv (.od (.t 0))))) (.od (.c (.bool true))))⟩])
 (.seq (.reg [⟨(some 44), none, (.u (some 142) .ld (.u (some 141) (.fad 0) (.u (some 140) .nck (.u (some 139) .mv (.od (.t 0))))))⟩,
 ⟨none, none, (.b none true .st (.u (some 148) (.fad 1) (.u (some 147) .nck (.od (.t 44)))) (.b (some 146) false (.bin .add) (.u (some 145) .ld (.u (some 144) (.fad 1) (.u (some 143) .nck (.od (.t 44))))) (.od (.c (.int .i64 (.ofNat 1))))))⟩])
 (.seq (.drw [⟨.p, [], ⟨(some 45), none, (.u (some 149) .mv (.od (.t 0)))⟩⟩,
 ⟨.p, [0], ⟨(some 46), none, (.u (some 150) .nck (.od (.t 45)))⟩⟩,
 ⟨.p, [0,1], ⟨(some 47), none, (.u (some 151) (.fad 0) (.od (.t 46)))⟩⟩,
 ⟨(.l 0 0), [0,1,2], ⟨(some 48), none, (.u (some 152) .ld (.od (.t 47)))⟩⟩,
 ⟨.p, [], ⟨(some 49), none, (.u (some 153) .mv (.od (.t 0)))⟩⟩,
 ⟨.p, [4], ⟨(some 50), none, (.u (some 154) .nck (.od (.t 49)))⟩⟩,
 ⟨.p, [4,5], ⟨(some 51), none, (.u (some 155) (.fad 1) (.od (.t 50)))⟩⟩,
 ⟨(.l 0 0), [4,5,6], ⟨(some 52), none, (.u (some 156) .ld (.od (.t 51)))⟩⟩,
 ⟨.m, [0,1,2,3,4,5,6,7], ⟨(some 53), none, (.k (some 157) (.call 219) (.cons (.od (.t 48)) (.cons (.od (.t 52)) .nil)))⟩⟩,
 ⟨.a, [], ⟨(some 54), none, (.a (some 7) [(.str []),(.str []),(.int .i64 (.ofNat 0)),(.int .i64 (.ofNat 0)),.nils] 50)⟩⟩,
 ⟨.m, [0,1,2,3,4,5,6,7,8,9], ⟨none, none, (.b none false (.sta 5) (.od (.t 54)) (.od (.t 53)))⟩⟩])
 (.seq (.drw [⟨.p, [], ⟨(some 55), none, (.u (some 158) .mv (.od (.t 0)))⟩⟩,
 ⟨.p, [0], ⟨(some 56), none, (.u (some 159) .nck (.od (.t 55)))⟩⟩,
 ⟨.p, [0,1], ⟨(some 57), none, (.u (some 160) (.fad 0) (.od (.t 56)))⟩⟩,
 ⟨(.l 0 1), [0,1,2], ⟨(some 58), none, (.u (some 161) .ld (.od (.t 57)))⟩⟩,
 ⟨.p, [], ⟨(some 59), none, (.u (some 162) .mv (.od (.t 16)))⟩⟩,
 ⟨(.l 0 0), [], ⟨(some 60), none, (.u (some 163) (.lda 5) (.od (.t 54)))⟩⟩,
 ⟨.m, [5], ⟨(some 61), none, (.k (some 164) (.bsl 5 50) (.cons (.od (.t 60)) .nil))⟩⟩,
 ⟨.m, [0,1,2,3,4,5,6], ⟨(some 62), none, (.k (some 165) (.call 123) (.cons (.od (.t 58)) (.cons (.od (.c (.str [97,116,111,109,105,99]))) (.cons (.od (.c (.str []))) (.cons (.od (.t 59)) (.cons (.od (.t 61)) .nil))))))⟩⟩,
 ⟨.m, [0,1,2,3,4,5,6,7], ⟨none, none, (.b none false (.sta 5) (.od (.t 1)) (.od (.t 62)))⟩⟩,
 ⟨.p, [0,1,2,3,4,5,6,7,8], ⟨(some 2), none, (.u (some 3) .mv (.od (.c (.bool true))))⟩⟩])
 (.ret)))))
 (.skip)))
 (.skip)))))))))))))))
 (.seq (.reg [⟨none, none, (.b none false (.sta 5) (.od (.t 1)) (.k (some 171) (.call 163) (.cons (.u (some 169) .ld (.u (some 168) (.fad 0) (.u (some 167) .nck (.u (some 166) .mv (.od (.t 0)))))) (.cons (.u (some 170) .mv (.od (.t 30))) .nil))))⟩,
 ⟨(some 2), none, (.u (some 3) .mv (.od (.c (.bool true))))⟩])
 (.ret))))))))
def lf192 : LF := ⟨63, 1, lc192, [.ca 1 5,.t 2], [0,2,3,8,9,10,11,12,13,14,15,16,17,18,19,4,5,20,21,22,23,24,25,26,27,28,29,30,31,32,6,50,52,53,59,66,71,76,86,95,106,114,124,135,142,149,150,151,152,153,154,155,156,157,7,158,159,160,161,162,163,164,165]⟩

-- (*oxbow/express.Reader).element
def lc193 : LC := (.seq (.reg [⟨(some 2), none, (.a (some 4) [(.str []),(.str []),(.int .i64 (.ofNat 0)),(.int .i64 (.ofNat 0)),.nils] 50)⟩])
 (.scope (.seq (.reg [⟨(some 3), none, (.u (some 5) .mv (.od (.c .nils)))⟩])
 (.seq (.reg [⟨(some 4), none, (.u (some 6) .mv (.u (some 13) .ld (.u (some 12) (.fad 1) (.u (some 11) .nck (.u (some 10) .mv (.od (.t 0)))))))⟩])
 (.seq (.label 0)
 (.seq (.reg [⟨(some 5), none, (.u (some 7) .mv (.u (some 17) .ld (.u (some 16) (.fad 1) (.u (some 15) .nck (.u (some 14) .mv (.od (.t 0)))))))⟩])
 (.seq (.blk 0 (.seq (.reg [⟨(some 6), none, (.u (some 18) .mv (.k (some 20) (.call 127) (.cons (.u (some 19) .mv (.od (.t 0))) (.cons (.od (.c (.str [91]))) .nil))))⟩])
 (.cond (.t 6) (.seq (.reg [⟨(some 7), none, (.k (some 23) (.call 162) (.cons (.u (some 21) .mv (.od (.t 0))) (.cons (.u (some 22) .mv (.od (.t 1))) .nil)))⟩,
 ⟨(some 8), none, (.a (some 8) [(.str []),(.str []),(.int .i64 (.ofNat 0)),(.int .i64 (.ofNat 0)),.nils] 50)⟩,
 ⟨none, none, (.b none false (.sta 5) (.od (.t 8)) (.od (.t 7)))⟩])
 (.seq (.reg [⟨none, none, (.k (some 25) (.call 122) (.cons (.u (some 24) .mv (.od (.t 0))) (.cons (.od (.c (.str [93]))) .nil)))⟩])
 (.seq (.reg [⟨(some 3), none, (.u (some 5) .mv (.b (some 33) false (.app 5 72 50) (.u (some 26) .mv (.od (.t 3))) (.k (some 32) (.bsl 5 50) (.cons (.k (some 31) (.call 123) (.cons (.u (some 27) .mv (.od (.t 0))) (.cons (.od (.c (.str [105,110,100,101,120]))) (.cons (.od (.c (.str []))) (.cons (.u (some 28) .mv (.od (.t 5))) (.cons (.k (some 30) (.bsl 5 50) (.cons (.u (some 29) (.lda 5) (.od (.t 8))) .nil)) .nil)))))) .nil))))⟩])
 (.goto 0))))
 (.seq (.reg [⟨(some 9), none, (.u (some 34) .mv (.k (some 36) (.call 127) (.cons (.u (some 35) .mv (.od (.t 0))) (.cons (.od (.c (.str [46]))) .nil))))⟩])
 (.cond (.t 9) (.seq (.reg [⟨(some 10), none, (.k (some 38) (.call 170) (.cons (.u (some 37) .mv (.od (.t 0))) (.cons (.od (.c (.str []))) .nil)))⟩,
 ⟨(some 11), none, (.a (some 9) [(.str []),(.str []),(.int .i64 (.ofNat 0)),(.int .i64 (.ofNat 0)),.nils] 50)⟩,
 ⟨none, none, (.b none false (.sta 5) (.od (.t 11)) (.od (.t 10)))⟩])
 (.seq (.reg [⟨(some 3), none, (.u (some 5) .mv (.b (some 46) false (.app 5 72 50) (.u (some 39) .mv (.od (.t 3))) (.k (some 45) (.bsl 5 50) (.cons (.k (some 44) (.call 123) (.cons (.u (some 40) .mv (.od (.t 0))) (.cons (.od (.c (.str [102,105,101,108,100]))) (.cons (.u (some 42) .ld (.u (some 41) (.fad 1) (.od (.t 11)))) (.cons (.u (some 43) .mv (.od (.t 5))) (.cons (.od (.c .nils)) .nil)))))) .nil))))⟩])
 (.goto 0)))
 (.skip))))))
 (.seq (.seq (.reg [⟨(some 12), none, (.b (some 49) false (.bin .eql) (.u (some 48) .len (.u (some 47) .mv (.od (.t 3)))) (.od (.c (.int .i64 (.ofNat 0)))))⟩])
 (.cond (.t 12) (.seq (.reg [⟨none, none, (.b none false (.sta 5) (.od (.t 2)) (.k (some 52) (.call 166) (.cons (.u (some 50) .mv (.od (.t 0))) (.cons (.u (some 51) .mv (.od (.t 1))) .nil))))⟩])
 (.ret))
 (.skip)))
 (.seq (.reg [⟨none, none, (.k (some 54) (.call 122) (.cons (.u (some 53) .mv (.od (.t 0))) (.cons (.od (.c (.str [61]))) .nil)))⟩])
 (.seq (.reg [⟨(some 3), none, (.u (some 5) .mv (.b (some 60) false (.app 5 72 50) (.u (some 55) .mv (.od (.t 3))) (.k (some 59) (.bsl 5 50) (.cons (.k (some 58) (.call 166) (.cons (.u (some 56) .mv (.od (.t 0))) (.cons (.u (some 57) .mv (.od (.t 1))) .nil))) .nil))))⟩])
 (.seq (.reg [⟨none, none, (.b none false (.sta 5) (.od (.t 2)) (.k (some 64) (.call 123) (.cons (.u (some 61) .mv (.od (.t 0))) (.cons (.od (.c (.str [97,116]))) (.cons (.od (.c (.str []))) (.cons (.u (some 62) .mv (.od (.t 4))) (.cons (.u (some 63) .mv (.od (.t 3))) .nil)))))))⟩])
 (.ret))))))))))))
def lf193 : LF := ⟨13, 2, lc193, [.ca 2 5], [0,1,4,5,6,7,18,23,8,34,38,9,49]⟩

-- (oxbow/declare.Reader).perhaps
def lc194 : LC := (.seq (.reg [⟨(some 3), none, (.u (some 3) (.box 124) (.od (.t 0)))⟩,
 ⟨(some 4), none, (.a (some 6) [(.str []),(.str []),(.int .i64 (.ofNat 0)),(.int .i64 (.ofNat 0)),.nils] 50)⟩])
 (.seq (.seq (.drw [⟨.p, [], ⟨(some 5), none, (.u (some 7) (.fad 0) (.od (.t 3)))⟩⟩,
 ⟨(.l 0 0), [0], ⟨(some 6), none, (.u (some 8) .ld (.od (.t 5)))⟩⟩,
 ⟨.p, [], ⟨(some 7), none, (.u (some 9) (.fad 0) (.od (.t 3)))⟩⟩,
 ⟨(.l 0 0), [2], ⟨(some 8), none, (.u (some 10) .ld (.od (.t 7)))⟩⟩,
 ⟨.p, [2,3], ⟨(some 9), none, (.u (some 11) .nck (.od (.t 8)))⟩⟩,
 ⟨.p, [2,3,4], ⟨(some 10), none, (.u (some 12) (.fad 1) (.od (.t 9)))⟩⟩,
 ⟨(.l 0 0), [2,3,4,5], ⟨(some 11), none, (.u (some 13) .ld (.od (.t 10)))⟩⟩,
 ⟨.m, [0,1,2,3,4,5,6], ⟨(some 12), none, (.k (some 14) (.call 123) (.cons (.od (.t 6)) (.cons (.od (.c (.str [110,111,110,101]))) (.cons (.od (.c (.str []))) (.cons (.od (.t 11)) (.cons (.od (.c .nils)) .nil))))))⟩⟩,
 ⟨.m, [0,1,2,3,4,5,6,7], ⟨none, none, (.b none false (.sta 5) (.od (.t 4)) (.od (.t 12)))⟩⟩])
 (.seq (.reg [⟨(some 13), none, (.u (some 19) (.un .not) (.k (some 18) (.call 119) (.cons (.u (some 16) .ld (.u (some 15) (.fad 0) (.od (.t 3)))) (.cons (.u (some 17) .mv (.od (.t 2))) .nil))))⟩])
 (.cond (.t 13) (.reg [⟨none, none, (.b none false (.sta 5) (.od (.t 4)) (.k (some 23) (.call 85) (.cons (.u (some 21) .ld (.u (some 20) (.fad 0) (.od (.t 3)))) (.cons (.u (some 22) .mv (.od (.t 1))) .nil))))⟩])
 (.skip))))
 (.seq (.reg [⟨none, none, (.k (some 27) (.call 122) (.cons (.u (some 25) .ld (.u (some 24) (.fad 0) (.od (.t 3)))) (.cons (.u (some 26) .mv (.od (.t 2))) .nil)))⟩])
 (.seq (.reg [⟨none, none, (.b none false (.sta 5) (.od (.t 4)) (.u (some 28) (.lda 5) (.od (.t 4))))⟩])
 (.ret)))))
def lf194 : LF := ⟨14, 3, lc194, [.ca 4 5], [0,1,2,3,6,7,8,9,10,11,12,13,14,19]⟩

-- (*oxbow/express.Reader).binary
def lc210 : LC := (.seq (.reg [⟨(some 3), none, (.a (some 6) [(.str []),(.str []),(.int .i64 (.ofNat 0)),(.int .i64 (.ofNat 0)),.nils] 50)⟩,
 ⟨(some 4), none, (.u (some 7) .mv (.od (.c (.bool false))))⟩])
 (.seq (.reg [⟨(some 5), none, (.u (some 12) .mv (.k (some 15) (.call 234) (.cons (.u (some 13) .mv (.od (.t 0))) (.cons (.u (some 14) .mv (.od (.t 2))) .nil))))⟩,
 ⟨(some 6), none, (.u (some 16) (.ext 0) (.od (.t 5)))⟩,
 ⟨(some 7), none, (.u (some 17) (.ext 1) (.od (.t 5)))⟩,
 ⟨none, none, (.b none false (.sta 5) (.od (.t 3)) (.od (.t 6)))⟩,
 ⟨(some 4), none, (.u (some 7) .mv (.od (.t 7)))⟩])
 (.seq (.blk 0 (.loop (.seq (.seq (.reg [⟨(some 8), none, (.u (some 22) (.un .not) (.u (some 21) .ld (.u (some 20) (.fad 3) (.u (some 19) .nck (.u (some 18) .mv (.od (.t 0)))))))⟩])
 (.cond (.t 8) (.skip)
 (.exit 0)))
 (.blk 1 (.seq (.reg [⟨(some 9), none, (.k (some 24) (.call 100) (.cons (.u (some 23) .mv (.od (.t 0))) .nil))⟩,
 ⟨(some 10), none, (.a (some 8) [(.int .i64 (.ofNat 0)),(.str []),(.str []),(.int .i64 (.ofNat 0)),(.int .i64 (.ofNat 0)),(.int .i64 (.ofNat 0)),(.int .i64 (.ofNat 0))] 95)⟩,
 ⟨none, none, (.b none false (.sta 7) (.od (.t 10)) (.od (.t 9)))⟩])
 (.seq (.reg [⟨(some 11), none, (.u (some 9) .mv (.k (some 26) (.call 235) (.cons (.u (some 25) (.lda 7) (.od (.t 10))) .nil)))⟩])
 (.seq (.seq (.reg [⟨(some 12), none, (.gd (some 33) false true (.u (some 29) .mv (.b (some 28) false (.bin .eql) (.u (some 27) .mv (.od (.t 11))) (.od (.c (.int .i64 (.ofNat 0)))))) (.b (some 32) false (.bin .lss) (.u (some 30) .mv (.od (.t 11))) (.u (some 31) .mv (.od (.t 1)))))⟩])
 (.cond (.t 12) (.exit 0)
 (.skip)))
 (.seq (.reg [⟨(some 13), none, (.u (some 34) .mv (.od (.t 0)))⟩,
 ⟨none, none, (.b none true .st (.u (some 40) (.fad 1) (.u (some 39) .nck (.od (.t 13)))) (.b (some 38) false (.bin .add) (.u (some 37) .ld (.u (some 36) (.fad 1) (.u (some 35) .nck (.od (.t 13))))) (.od (.c (.int .i64 (.ofNat 1))))))⟩])
 (.seq (.reg [⟨(some 14), none, (.u (some 41) .mv (.k (some 46) (.call 210) (.cons (.u (some 42) .mv (.od (.t 0))) (.cons (.b (some 44) false (.bin .add) (.u (some 43) .mv (.od (.t 11))) (.od (.c (.int .i64 (.ofNat 1))))) (.cons (.u (some 45) .mv (.od (.t 2))) .nil)))))⟩,
 ⟨(some 15), none, (.u (some 47) (.ext 0) (.od (.t 14)))⟩,
 ⟨(some 16), none, (.u (some 48) (.ext 1) (.od (.t 14)))⟩,
 ⟨(some 17), none, (.a (some 10) [(.str []),(.str []),(.int .i64 (.ofNat 0)),(.int .i64 (.ofNat 0)),.nils] 50)⟩,
 ⟨none, none, (.b none false (.sta 5) (.od (.t 17)) (.od (.t 15)))⟩,
 ⟨none, none, (.u (some 11) .mv (.od (.t 16)))⟩])
 (.reg [⟨none, none, (.b none false (.sta 5) (.od (.t 3)) (.k (some 57) (.call 123) (.cons (.u (some 49) .mv (.od (.t 0))) (.cons (.od (.c (.str [98,105,110,97,114,121]))) (.cons (.u (some 51) .ld (.u (some 50) (.fad 1) (.od (.t 10)))) (.cons (.u (some 53) .ld (.u (some 52) (.fad 2) (.od (.t 3)))) (.cons (.k (some 56) (.bsl 5 50) (.cons (.u (some 54) (.lda 5) (.od (.t 3))) (.cons (.u (some 55) (.lda 5) (.od (.t 17))) .nil))) .nil)))))))⟩,
 ⟨(some 4), none, (.u (some 7) .mv (.od (.c (.bool false))))⟩]))))))))))
 (.seq (.reg [⟨(some 18), none, (.u (some 58) (.lda 5) (.od (.t 3)))⟩,
 ⟨(some 19), none, (.u (some 59) .mv (.od (.t 4)))⟩,
 ⟨none, none, (.b none false (.sta 5) (.od (.t 3)) (.od (.t 18)))⟩,
 ⟨(some 4), none, (.u (some 7) .mv (.od (.t 19)))⟩])
 (.ret)))))
def lf210 : LF := ⟨20, 3, lc210, [.ca 3 5,.t 4], [0,1,2,6,7,12,16,17,22,24,8,9,33,34,41,47,48,10,58,59]⟩

-- slices.Index[[]string,string]
def lc213 : LC := (.seq (.reg [⟨(some 2), none, (.u (some 4) .mv (.od (.c (.int .i64 (.ofNat 0)))))⟩])
 (.seq (.seq (.reg [⟨(some 3), none, (.u (some 7) .len (.u (some 6) .mv (.od (.t 0))))⟩,
 ⟨(some 4), none, (.u (some 8) .mv (.od (.c (.int .i64 (.ofNat 0)))))⟩])
 (.blk 0 (.loop (.seq (.reg [⟨(some 5), none, (.b (some 9) false (.bin .lss) (.od (.t 4)) (.od (.t 3)))⟩])
 (.seq (.cond (.t 5) (.skip)
 (.exit 0))
 (.seq (.blk 1 (.seq (.reg [⟨(some 6), none, (.u (some 5) .mv (.u (some 10) .mv (.od (.t 4))))⟩])
 (.seq (.reg [⟨(some 7), none, (.b (some 16) false (.bin .eql) (.u (some 11) .mv (.od (.t 1))) (.u (some 15) .ld (.b (some 14) false (.iad 1) (.u (some 12) .mv (.od (.t 0))) (.u (some 13) .mv (.od (.t 6))))))⟩])
 (.cond (.t 7) (.seq (.reg [⟨(some 2), none, (.u (some 4) .mv (.u (some 17) .mv (.od (.t 6))))⟩])
 (.ret))
 (.skip)))))
 (.reg [⟨(some 4), none, (.u (some 8) .mv (.b (some 18) false (.bin .add) (.od (.t 4)) (.od (.c (.int .i64 (.ofNat 1))))))⟩])))))))
 (.seq (.reg [⟨(some 2), none, (.u (some 4) .mv (.od (.c (.int .i64 (.negSucc 0)))))⟩])
 (.ret))))
def lf213 : LF := ⟨8, 2, lc213, [.t 2], [0,1,4,7,8,9,5,16]⟩

end Go.Proofs.YtmoihglcdmmmlaaGreatDoor
