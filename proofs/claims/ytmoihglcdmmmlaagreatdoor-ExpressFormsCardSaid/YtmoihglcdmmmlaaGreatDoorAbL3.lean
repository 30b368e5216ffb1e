/-
  The lean form of the functions' code, printed by wip/lt.py out of Lean's own print of the loaded functions.
-/
import Derived.Test.YtmoihglcdmmmlaaGreatDoorAbL2
set_option maxRecDepth 100000
namespace Go.Proofs.YtmoihglcdmmmlaaGreatDoor
open Go

-- (*oxbow/express.Reader).typedParams
def lc214 : LC := (.seq (.reg [⟨(some 3), none, (.u (some 6) .mv (.od (.c .nils)))⟩])
 (.scope (.seq (.label 0)
 (.seq (.reg [⟨(some 4), none, (.u (some 7) .mv (.u (some 14) .ld (.u (some 13) (.fad 1) (.u (some 12) .nck (.u (some 11) .mv (.od (.t 0)))))))⟩])
 (.seq (.reg [⟨(some 5), none, (.k (some 17) (.call 118) (.cons (.u (some 15) .mv (.od (.t 0))) (.cons (.u (some 16) .mv (.od (.t 2))) .nil)))⟩,
 ⟨(some 6), none, (.a (some 8) [(.str []),(.str []),(.int .i64 (.ofNat 0)),(.int .i64 (.ofNat 0)),.nils] 50)⟩,
 ⟨none, none, (.b none false (.sta 5) (.od (.t 6)) (.od (.t 5)))⟩])
 (.seq (.reg [⟨(some 7), none, (.k (some 20) (.call 61) (.cons (.u (some 18) .mv (.od (.t 0))) (.cons (.u (some 19) .mv (.od (.t 2))) (.cons (.od (.c (.int .i64 (.ofNat 2)))) .nil))))⟩,
 ⟨(some 8), none, (.a (some 9) [(.str []),(.str []),(.int .i64 (.ofNat 0)),(.int .i64 (.ofNat 0)),.nils] 50)⟩,
 ⟨none, none, (.b none false (.sta 5) (.od (.t 8)) (.od (.t 7)))⟩])
 (.seq (.reg [⟨none, none, (.k (some 24) (.call 131) (.cons (.u (some 21) .mv (.od (.t 0))) (.cons (.k (some 23) (.call 29) (.cons (.u (some 22) (.lda 5) (.od (.t 8))) .nil)) (.cons (.od (.c (.bool false))) .nil))))⟩])
 (.seq (.reg [⟨(some 1), none, (.u (some 1) .mv (.b (some 33) false (.app 5 72 50) (.u (some 25) .mv (.od (.t 1))) (.k (some 32) (.bsl 5 50) (.cons (.k (some 31) (.call 123) (.cons (.u (some 26) .mv (.od (.t 0))) (.cons (.od (.c (.str [112,97,114,97,109]))) (.cons (.od (.c (.str []))) (.cons (.u (some 27) .mv (.od (.t 4))) (.cons (.k (some 30) (.bsl 5 50) (.cons (.u (some 28) (.lda 5) (.od (.t 6))) (.cons (.u (some 29) (.lda 5) (.od (.t 8))) .nil))) .nil)))))) .nil))))⟩])
 (.seq (.seq (.reg [⟨(some 9), none, (.u (some 36) (.un .not) (.k (some 35) (.call 127) (.cons (.u (some 34) .mv (.od (.t 0))) (.cons (.od (.c (.str [44]))) .nil))))⟩])
 (.cond (.t 9) (.seq (.reg [⟨(some 3), none, (.u (some 6) .mv (.u (some 37) .mv (.od (.t 1))))⟩])
 (.ret))
 (.skip)))
 (.seq (.seq (.reg [⟨(some 10), none, (.u (some 10) .mv (.u (some 41) .ld (.u (some 40) (.fad 1) (.u (some 39) .nck (.u (some 38) .mv (.od (.t 0)))))))⟩])
 (.seq (.reg [⟨(some 11), none, (.k (some 43) (.call 127) (.cons (.u (some 42) .mv (.od (.t 0))) (.cons (.od (.c (.str [46,46,46]))) .nil)))⟩])
 (.cond (.t 11) (.seq (.reg [⟨(some 3), none, (.u (some 6) .mv (.b (some 49) false (.app 5 72 50) (.u (some 44) .mv (.od (.t 1))) (.k (some 48) (.bsl 5 50) (.cons (.k (some 47) (.call 123) (.cons (.u (some 45) .mv (.od (.t 0))) (.cons (.od (.c (.str [100,111,116,115]))) (.cons (.od (.c (.str []))) (.cons (.u (some 46) .mv (.od (.t 10))) (.cons (.od (.c .nils)) .nil)))))) .nil))))⟩])
 (.ret))
 (.skip))))
 (.goto 0)))))))))))
def lf214 : LF := ⟨12, 3, lc214, [.t 3], [0,1,2,6,7,17,8,20,9,36,10,43]⟩

-- (*oxbow/express.Reader).ids
def lc215 : LC := (.seq (.reg [⟨(some 2), none, (.u (some 4) .mv (.od (.c .nils)))⟩])
 (.scope (.seq (.label 0)
 (.seq (.seq (.reg [⟨(some 3), none, (.k (some 8) (.call 156) (.cons (.u (some 5) .mv (.od (.t 0))) (.cons (.k (some 7) (.call 100) (.cons (.u (some 6) .mv (.od (.t 0))) .nil)) .nil)))⟩])
 (.cond (.t 3) (.reg [⟨none, none, (.k (some 10) (.call 108) (.cons (.u (some 9) .mv (.od (.t 0))) .nil))⟩])
 (.skip)))
 (.seq (.seq (.reg [⟨(some 1), none, (.u (some 1) .mv (.b (some 15) false (.app 5 72 50) (.u (some 11) .mv (.od (.t 1))) (.k (some 14) (.bsl 5 50) (.cons (.k (some 13) (.call 170) (.cons (.u (some 12) .mv (.od (.t 0))) (.cons (.od (.c (.str [105,100]))) .nil))) .nil))))⟩])
 (.seq (.reg [⟨(some 4), none, (.k (some 17) (.call 127) (.cons (.u (some 16) .mv (.od (.t 0))) (.cons (.od (.c (.str [44]))) .nil)))⟩])
 (.cond (.t 4) (.goto 0)
 (.skip))))
 (.seq (.reg [⟨(some 2), none, (.u (some 4) .mv (.u (some 18) .mv (.od (.t 1))))⟩])
 (.ret)))))))
def lf215 : LF := ⟨5, 2, lc215, [.t 2], [0,1,4,8,17]⟩

-- (*oxbow/express.specs).align
def lc216 : LC := (.seq (.reg [⟨(some 2), none, (.a (some 4) [(.str []),(.str []),(.int .i64 (.ofNat 0)),(.int .i64 (.ofNat 0)),.nils] 50)⟩])
 (.seq (.reg [⟨none, none, (.k (some 9) (.call 122) (.cons (.u (some 8) .ld (.u (some 7) (.fad 0) (.u (some 6) .nck (.u (some 5) .mv (.od (.t 0)))))) (.cons (.od (.c (.str [40]))) .nil)))⟩])
 (.seq (.seq (.reg [⟨(some 3), none, (.k (some 14) (.call 58) (.cons (.u (some 13) .ld (.u (some 12) (.fad 0) (.u (some 11) .nck (.u (some 10) .mv (.od (.t 0)))))) .nil))⟩])
 (.cond (.t 3) (.drw [⟨.p, [], ⟨(some 4), none, (.u (some 15) .mv (.od (.t 0)))⟩⟩,
 ⟨.p, [0], ⟨(some 5), none, (.u (some 16) .nck (.od (.t 4)))⟩⟩,
 ⟨.p, [0,1], ⟨(some 6), none, (.u (some 17) (.fad 0) (.od (.t 5)))⟩⟩,
 ⟨(.l 0 0), [0,1,2], ⟨(some 7), none, (.u (some 18) .ld (.od (.t 6)))⟩⟩,
 ⟨.p, [], ⟨(some 8), none, (.u (some 19) .mv (.od (.t 0)))⟩⟩,
 ⟨.p, [4], ⟨(some 9), none, (.u (some 20) .nck (.od (.t 8)))⟩⟩,
 ⟨.p, [4,5], ⟨(some 10), none, (.u (some 21) (.fad 1) (.od (.t 9)))⟩⟩,
 ⟨(.l 0 0), [4,5,6], ⟨(some 11), none, (.u (some 22) .ld (.od (.t 10)))⟩⟩,
 ⟨.m, [0,1,2,3,4,5,6,7], ⟨(some 12), none, (.k (some 23) (.call 237) (.cons (.od (.t 7)) (.cons (.od (.t 11)) .nil)))⟩⟩,
 ⟨.m, [0,1,2,3,4,5,6,7,8], ⟨none, none, (.b none false (.sta 5) (.od (.t 2)) (.od (.t 12)))⟩⟩])
 (.drw [⟨.p, [], ⟨(some 13), none, (.u (some 24) .mv (.od (.t 0)))⟩⟩,
 ⟨.p, [0], ⟨(some 14), none, (.u (some 25) .nck (.od (.t 13)))⟩⟩,
 ⟨.p, [0,1], ⟨(some 15), none, (.u (some 26) (.fad 0) (.od (.t 14)))⟩⟩,
 ⟨(.l 0 0), [0,1,2], ⟨(some 16), none, (.u (some 27) .ld (.od (.t 15)))⟩⟩,
 ⟨.p, [], ⟨(some 17), none, (.u (some 28) .mv (.od (.t 0)))⟩⟩,
 ⟨.p, [4], ⟨(some 18), none, (.u (some 29) .nck (.od (.t 17)))⟩⟩,
 ⟨.p, [4,5], ⟨(some 19), none, (.u (some 30) (.fad 1) (.od (.t 18)))⟩⟩,
 ⟨(.l 0 0), [4,5,6], ⟨(some 20), none, (.u (some 31) .ld (.od (.t 19)))⟩⟩,
 ⟨.m, [0,1,2,3,4,5,6,7], ⟨(some 21), none, (.k (some 32) (.call 162) (.cons (.od (.t 16)) (.cons (.od (.t 20)) .nil)))⟩⟩,
 ⟨.m, [0,1,2,3,4,5,6,7,8], ⟨none, none, (.b none false (.sta 5) (.od (.t 2)) (.od (.t 21)))⟩⟩])))
 (.seq (.reg [⟨none, none, (.k (some 37) (.call 122) (.cons (.u (some 36) .ld (.u (some 35) (.fad 0) (.u (some 34) .nck (.u (some 33) .mv (.od (.t 0)))))) (.cons (.od (.c (.str [41]))) .nil)))⟩])
 (.seq (.drw [⟨.p, [], ⟨(some 22), none, (.u (some 38) .mv (.od (.t 0)))⟩⟩,
 ⟨.p, [0], ⟨(some 23), none, (.u (some 39) .nck (.od (.t 22)))⟩⟩,
 ⟨.p, [0,1], ⟨(some 24), none, (.u (some 40) (.fad 0) (.od (.t 23)))⟩⟩,
 ⟨(.l 0 1), [0,1,2], ⟨(some 25), none, (.u (some 41) .ld (.od (.t 24)))⟩⟩,
 ⟨.p, [], ⟨(some 26), none, (.u (some 42) .mv (.od (.t 1)))⟩⟩,
 ⟨(.l 0 0), [], ⟨(some 27), none, (.u (some 43) (.lda 5) (.od (.t 2)))⟩⟩,
 ⟨.m, [5], ⟨(some 28), none, (.k (some 44) (.bsl 5 50) (.cons (.od (.t 27)) .nil))⟩⟩,
 ⟨.m, [0,1,2,3,4,5,6], ⟨(some 29), none, (.k (some 45) (.call 123) (.cons (.od (.t 25)) (.cons (.od (.c (.str [97,108,105,103,110,97,115]))) (.cons (.od (.c (.str []))) (.cons (.od (.t 26)) (.cons (.od (.t 28)) .nil))))))⟩⟩,
 ⟨.m, [0,1,2,3,4,5,6,7], ⟨none, none, (.b none false (.sta 5) (.od (.t 2)) (.od (.t 29)))⟩⟩])
 (.ret))))))
def lf216 : LF := ⟨30, 2, lc216, [.ca 2 5], [0,1,4,14,15,16,17,18,19,20,21,22,23,24,25,26,27,28,29,30,31,32,38,39,40,41,42,43,44,45]⟩

-- (*oxbow/express.specs).members
def lc217 : LC := (.seq (.reg [⟨(some 3), none, (.a (some 6) [(.str []),(.str []),(.int .i64 (.ofNat 0)),(.int .i64 (.ofNat 0)),.nils] 50)⟩])
 (.seq (.reg [⟨(some 4), none, (.u (some 7) .mv (.od (.c .nils)))⟩])
 (.seq (.reg [⟨(some 5), none, (.u (some 8) .mv (.k (some 10) (.call 238) (.cons (.u (some 9) .mv (.od (.t 0))) .nil)))⟩])
 (.seq (.seq (.reg [⟨(some 6), none, (.k (some 15) (.call 127) (.cons (.u (some 14) .ld (.u (some 13) (.fad 0) (.u (some 12) .nck (.u (some 11) .mv (.od (.t 0)))))) (.cons (.od (.c (.str [123]))) .nil)))⟩])
 (.cond (.t 6) (.seq (.reg [⟨(some 4), none, (.u (some 7) .mv (.b (some 20) false (.app 5 72 50) (.u (some 16) .mv (.od (.t 4))) (.k (some 19) (.bsl 5 50) (.cons (.k (some 18) (.call 239) (.cons (.u (some 17) .mv (.od (.t 0))) .nil)) .nil))))⟩])
 (.seq (.blk 0 (.loop (.seq (.seq (.reg [⟨(some 7), none, (.gd (some 36) true false (.u (some 29) .mv (.u (some 28) (.un .not) (.u (some 27) .ld (.u (some 26) (.fad 3) (.u (some 25) .nck (.u (some 24) .ld (.u (some 23) (.fad 0) (.u (some 22) .nck (.u (some 21) .mv (.od (.t 0))))))))))) (.u (some 35) (.un .not) (.k (some 34) (.call 119) (.cons (.u (some 33) .ld (.u (some 32) (.fad 0) (.u (some 31) .nck (.u (some 30) .mv (.od (.t 0)))))) (.cons (.od (.c (.str [125]))) .nil)))))⟩])
 (.cond (.t 7) (.skip)
 (.exit 0)))
 (.blk 1 (.reg [⟨(some 4), none, (.u (some 7) .mv (.b (some 41) false (.app 5 72 50) (.u (some 37) .mv (.od (.t 4))) (.k (some 40) (.bsl 5 50) (.cons (.k (some 39) (.call 239) (.cons (.u (some 38) .mv (.od (.t 0))) .nil)) .nil))))⟩])))))
 (.reg [⟨none, none, (.k (some 46) (.call 122) (.cons (.u (some 45) .ld (.u (some 44) (.fad 0) (.u (some 43) .nck (.u (some 42) .mv (.od (.t 0)))))) (.cons (.od (.c (.str [125]))) .nil)))⟩])))
 (.seq (.reg [⟨(some 8), none, (.b (some 48) false (.bin .eql) (.u (some 47) .mv (.od (.t 5))) (.od (.c (.str []))))⟩])
 (.cond (.t 8) (.reg [⟨none, none, (.k (some 53) (.call 108) (.cons (.u (some 52) .ld (.u (some 51) (.fad 0) (.u (some 50) .nck (.u (some 49) .mv (.od (.t 0)))))) .nil))⟩])
 (.skip)))))
 (.seq (.reg [⟨none, none, (.b none false (.sta 5) (.od (.t 3)) (.k (some 62) (.call 123) (.cons (.u (some 57) .ld (.u (some 56) (.fad 0) (.u (some 55) .nck (.u (some 54) .mv (.od (.t 0)))))) (.cons (.u (some 58) .mv (.od (.t 1))) (.cons (.u (some 59) .mv (.od (.t 5))) (.cons (.u (some 60) .mv (.od (.t 2))) (.cons (.u (some 61) .mv (.od (.t 4))) .nil)))))))⟩])
 (.ret))))))
def lf217 : LF := ⟨9, 3, lc217, [.ca 3 5], [0,1,2,6,7,8,15,36,48]⟩

-- (*oxbow/express.specs).names
def lc218 : LC := (.seq (.reg [⟨(some 2), none, (.a (some 4) [(.str []),(.str []),(.int .i64 (.ofNat 0)),(.int .i64 (.ofNat 0)),.nils] 50)⟩])
 (.seq (.reg [⟨(some 3), none, (.u (some 5) .mv (.od (.c .nils)))⟩])
 (.seq (.reg [⟨(some 4), none, (.u (some 6) .mv (.k (some 8) (.call 238) (.cons (.u (some 7) .mv (.od (.t 0))) .nil)))⟩])
 (.seq (.seq (.reg [⟨(some 5), none, (.k (some 13) (.call 127) (.cons (.u (some 12) .ld (.u (some 11) (.fad 0) (.u (some 10) .nck (.u (some 9) .mv (.od (.t 0)))))) (.cons (.od (.c (.str [123]))) .nil)))⟩])
 (.cond (.t 5) (.seq (.reg [⟨(some 3), none, (.u (some 5) .mv (.b (some 18) false (.app 5 72 50) (.u (some 14) .mv (.od (.t 3))) (.k (some 17) (.bsl 5 50) (.cons (.k (some 16) (.call 240) (.cons (.u (some 15) .mv (.od (.t 0))) .nil)) .nil))))⟩])
 (.seq (.blk 0 (.loop (.seq (.seq (.reg [⟨(some 6), none, (.gd (some 31) true false (.u (some 24) .mv (.k (some 23) (.call 127) (.cons (.u (some 22) .ld (.u (some 21) (.fad 0) (.u (some 20) .nck (.u (some 19) .mv (.od (.t 0)))))) (.cons (.od (.c (.str [44]))) .nil)))) (.u (some 30) (.un .not) (.k (some 29) (.call 119) (.cons (.u (some 28) .ld (.u (some 27) (.fad 0) (.u (some 26) .nck (.u (some 25) .mv (.od (.t 0)))))) (.cons (.od (.c (.str [125]))) .nil)))))⟩])
 (.cond (.t 6) (.skip)
 (.exit 0)))
 (.blk 1 (.reg [⟨(some 3), none, (.u (some 5) .mv (.b (some 36) false (.app 5 72 50) (.u (some 32) .mv (.od (.t 3))) (.k (some 35) (.bsl 5 50) (.cons (.k (some 34) (.call 240) (.cons (.u (some 33) .mv (.od (.t 0))) .nil)) .nil))))⟩])))))
 (.reg [⟨none, none, (.k (some 41) (.call 122) (.cons (.u (some 40) .ld (.u (some 39) (.fad 0) (.u (some 38) .nck (.u (some 37) .mv (.od (.t 0)))))) (.cons (.od (.c (.str [125]))) .nil)))⟩])))
 (.seq (.reg [⟨(some 7), none, (.b (some 43) false (.bin .eql) (.u (some 42) .mv (.od (.t 4))) (.od (.c (.str []))))⟩])
 (.cond (.t 7) (.reg [⟨none, none, (.k (some 48) (.call 108) (.cons (.u (some 47) .ld (.u (some 46) (.fad 0) (.u (some 45) .nck (.u (some 44) .mv (.od (.t 0)))))) .nil))⟩])
 (.skip)))))
 (.seq (.reg [⟨none, none, (.b none false (.sta 5) (.od (.t 2)) (.k (some 56) (.call 123) (.cons (.u (some 52) .ld (.u (some 51) (.fad 0) (.u (some 50) .nck (.u (some 49) .mv (.od (.t 0)))))) (.cons (.od (.c (.str [101,110,117,109]))) (.cons (.u (some 53) .mv (.od (.t 4))) (.cons (.u (some 54) .mv (.od (.t 1))) (.cons (.u (some 55) .mv (.od (.t 3))) .nil)))))))⟩])
 (.ret))))))
def lf218 : LF := ⟨8, 2, lc218, [.ca 2 5], [0,1,4,5,6,13,31,43]⟩

-- (*oxbow/express.Reader).inBrackets
def lc219 : LC := (.seq (.reg [⟨(some 2), none, (.a (some 4) [(.str []),(.str []),(.int .i64 (.ofNat 0)),(.int .i64 (.ofNat 0)),.nils] 50)⟩])
 (.seq (.reg [⟨none, none, (.k (some 7) (.call 122) (.cons (.u (some 6) .mv (.od (.t 0))) (.cons (.od (.c (.str [40]))) .nil)))⟩])
 (.seq (.reg [⟨(some 3), none, (.k (some 10) (.call 237) (.cons (.u (some 8) .mv (.od (.t 0))) (.cons (.u (some 9) .mv (.od (.t 1))) .nil)))⟩,
 ⟨(some 4), none, (.a (some 5) [(.str []),(.str []),(.int .i64 (.ofNat 0)),(.int .i64 (.ofNat 0)),.nils] 50)⟩,
 ⟨none, none, (.b none false (.sta 5) (.od (.t 4)) (.od (.t 3)))⟩])
 (.seq (.reg [⟨none, none, (.k (some 12) (.call 122) (.cons (.u (some 11) .mv (.od (.t 0))) (.cons (.od (.c (.str [41]))) .nil)))⟩])
 (.seq (.reg [⟨none, none, (.b none false (.sta 5) (.od (.t 2)) (.u (some 13) (.lda 5) (.od (.t 4))))⟩])
 (.ret))))))
def lf219 : LF := ⟨5, 2, lc219, [.ca 2 5], [0,1,4,10,5]⟩

-- (*oxbow/express.Reader).cast
def lc234 : LC := (.seq (.reg [⟨(some 2), none, (.a (some 4) [(.str []),(.str []),(.int .i64 (.ofNat 0)),(.int .i64 (.ofNat 0)),.nils] 50)⟩,
 ⟨(some 3), none, (.u (some 5) .mv (.od (.c (.bool false))))⟩])
 (.seq (.seq (.reg [⟨(some 4), none, (.gd (some 18) false true (.u (some 14) .mv (.u (some 13) .ld (.u (some 12) (.fad 3) (.u (some 11) .nck (.u (some 10) .mv (.od (.t 0))))))) (.u (some 17) (.un .not) (.k (some 16) (.call 249) (.cons (.u (some 15) .mv (.od (.t 0))) .nil))))⟩])
 (.cond (.t 4) (.seq (.reg [⟨none, none, (.b none false (.sta 5) (.od (.t 2)) (.k (some 21) (.call 250) (.cons (.u (some 19) .mv (.od (.t 0))) (.cons (.u (some 20) .mv (.od (.t 1))) .nil))))⟩,
 ⟨(some 3), none, (.u (some 5) .mv (.od (.c (.bool true))))⟩])
 (.ret))
 (.skip)))
 (.seq (.reg [⟨(some 5), none, (.u (some 6) .mv (.u (some 25) .ld (.u (some 24) (.fad 1) (.u (some 23) .nck (.u (some 22) .mv (.od (.t 0)))))))⟩])
 (.seq (.reg [⟨(some 6), none, (.k (some 28) (.call 219) (.cons (.u (some 26) .mv (.od (.t 0))) (.cons (.u (some 27) .mv (.od (.t 1))) .nil)))⟩,
 ⟨(some 7), none, (.a (some 7) [(.str []),(.str []),(.int .i64 (.ofNat 0)),(.int .i64 (.ofNat 0)),.nils] 50)⟩,
 ⟨none, none, (.b none false (.sta 5) (.od (.t 7)) (.od (.t 6)))⟩])
 (.seq (.seq (.reg [⟨(some 8), none, (.gd (some 36) false true (.u (some 33) .mv (.u (some 32) .ld (.u (some 31) (.fad 3) (.u (some 30) .nck (.u (some 29) .mv (.od (.t 0))))))) (.k (some 35) (.call 119) (.cons (.u (some 34) .mv (.od (.t 0))) (.cons (.od (.c (.str [123]))) .nil))))⟩])
 (.cond (.t 8) (.seq (.reg [⟨none, none, (.b none false (.sta 5) (.od (.t 2)) (.k (some 41) (.call 251) (.cons (.u (some 37) .mv (.od (.t 0))) (.cons (.u (some 38) .mv (.od (.t 5))) (.cons (.u (some 39) (.lda 5) (.od (.t 7))) (.cons (.u (some 40) .mv (.od (.t 1))) .nil))))))⟩,
 ⟨(some 3), none, (.u (some 5) .mv (.od (.c (.bool true))))⟩])
 (.ret))
 (.skip)))
 (.seq (.reg [⟨(some 9), none, (.u (some 42) .mv (.k (some 45) (.call 234) (.cons (.u (some 43) .mv (.od (.t 0))) (.cons (.u (some 44) .mv (.od (.t 1))) .nil))))⟩,
 ⟨(some 10), none, (.u (some 46) (.ext 0) (.od (.t 9)))⟩,
 ⟨(some 11), none, (.u (some 47) (.ext 1) (.od (.t 9)))⟩,
 ⟨(some 12), none, (.a (some 8) [(.str []),(.str []),(.int .i64 (.ofNat 0)),(.int .i64 (.ofNat 0)),.nils] 50)⟩,
 ⟨none, none, (.b none false (.sta 5) (.od (.t 12)) (.od (.t 10)))⟩,
 ⟨none, none, (.u (some 9) .mv (.od (.t 11)))⟩])
 (.seq (.reg [⟨none, none, (.b none false (.sta 5) (.od (.t 2)) (.k (some 53) (.call 123) (.cons (.u (some 48) .mv (.od (.t 0))) (.cons (.od (.c (.str [99,97,115,116]))) (.cons (.od (.c (.str []))) (.cons (.u (some 49) .mv (.od (.t 5))) (.cons (.k (some 52) (.bsl 5 50) (.cons (.u (some 50) (.lda 5) (.od (.t 7))) (.cons (.u (some 51) (.lda 5) (.od (.t 12))) .nil))) .nil)))))))⟩,
 ⟨(some 3), none, (.u (some 5) .mv (.od (.c (.bool false))))⟩])
 (.ret))))))))
def lf234 : LF := ⟨13, 2, lc234, [.ca 2 5,.t 3], [0,1,4,5,18,6,28,7,36,42,46,47,8]⟩

-- oxbow/express.level
def lc235 : LC := (.seq (.reg [⟨(some 1), none, (.u (some 1) (.box 95) (.od (.t 0)))⟩,
 ⟨(some 2), none, (.u (some 2) .mv (.od (.c (.int .i64 (.ofNat 0)))))⟩])
 (.seq (.reg [⟨(some 3), none, (.u (some 3) .mv (.k (some 5) (.bsl 1 9) (.cons (.od (.c (.str [124,124]))) (.cons (.od (.c (.str [38,38]))) (.cons (.od (.c (.str [124]))) (.cons (.od (.c (.str [94]))) (.cons (.od (.c (.str [38]))) (.cons (.od (.c (.str [61,61,32,33,61]))) (.cons (.od (.c (.str [60,32,62,32,60,61,32,62,61]))) (.cons (.od (.c (.str [60,60,32,62,62]))) (.cons (.od (.c (.str [43,32,45]))) (.cons (.od (.c (.str [42,32,47,32,37]))) .nil))))))))))))⟩])
 (.seq (.reg [⟨(some 4), none, (.u (some 4) .mv (.k (some 8) (.call 252) (.cons (.u (some 6) .mv (.od (.t 3))) (.cons (.k (some 7) (.mkf 253 0) (.cons (.od (.t 1)) .nil)) .nil))))⟩])
 (.seq (.seq (.reg [⟨(some 5), none, (.b (some 11) false (.bin .neq) (.u (some 10) .ld (.u (some 9) (.fad 0) (.od (.t 1)))) (.od (.c (.int .i64 (.ofNat 7)))))⟩])
 (.cond (.t 5) (.seq (.reg [⟨(some 2), none, (.u (some 2) .mv (.od (.c (.int .i64 (.ofNat 0)))))⟩])
 (.ret))
 (.skip)))
 (.seq (.reg [⟨(some 2), none, (.u (some 2) .mv (.b (some 13) false (.bin .add) (.u (some 12) .mv (.od (.t 4))) (.od (.c (.int .i64 (.ofNat 1))))))⟩])
 (.ret))))))
def lf235 : LF := ⟨6, 1, lc235, [.t 2], [0,1,2,3,4,11]⟩

-- (*oxbow/express.Reader).TypeName
def lc237 : LC := (.seq (.reg [⟨(some 2), none, (.a (some 4) [(.str []),(.str []),(.int .i64 (.ofNat 0)),(.int .i64 (.ofNat 0)),.nils] 50)⟩])
 (.seq (.seq (.reg [⟨(some 3), none, (.k (some 10) (.call 109) (.cons (.u (some 8) .mv (.od (.t 0))) (.cons (.u (some 9) .mv (.od (.t 1))) .nil)))⟩])
 (.cond (.t 3) (.seq (.reg [⟨none, none, (.b none false (.sta 5) (.od (.t 2)) (.u (some 11) (.lda 5) (.od (.t 2))))⟩])
 (.ret))
 (.skip)))
 (.seq (.reg [⟨(some 4), none, (.u (some 5) .mv (.u (some 15) .ld (.u (some 14) (.fad 1) (.u (some 13) .nck (.u (some 12) .mv (.od (.t 0)))))))⟩])
 (.seq (.reg [⟨(some 5), none, (.k (some 19) (.call 164) (.cons (.u (some 16) .mv (.od (.t 0))) (.cons (.b (some 18) false (.bin .add) (.u (some 17) .mv (.od (.t 1))) (.od (.c (.int .i64 (.ofNat 1))))) (.cons (.od (.c (.bool true))) .nil))))⟩,
 ⟨(some 6), none, (.a (some 6) [(.str []),(.str []),(.int .i64 (.ofNat 0)),(.int .i64 (.ofNat 0)),.nils] 50)⟩,
 ⟨none, none, (.b none false (.sta 5) (.od (.t 6)) (.od (.t 5)))⟩])
 (.seq (.reg [⟨(some 7), none, (.k (some 23) (.call 61) (.cons (.u (some 20) .mv (.od (.t 0))) (.cons (.b (some 22) false (.bin .add) (.u (some 21) .mv (.od (.t 1))) (.od (.c (.int .i64 (.ofNat 1))))) (.cons (.od (.c (.int .i64 (.ofNat 1)))) .nil))))⟩,
 ⟨(some 8), none, (.a (some 7) [(.str []),(.str []),(.int .i64 (.ofNat 0)),(.int .i64 (.ofNat 0)),.nils] 50)⟩,
 ⟨none, none, (.b none false (.sta 5) (.od (.t 8)) (.od (.t 7)))⟩])
 (.seq (.reg [⟨none, none, (.b none false (.sta 5) (.od (.t 2)) (.k (some 29) (.call 123) (.cons (.u (some 24) .mv (.od (.t 0))) (.cons (.od (.c (.str [116,121,112,101,110,97,109,101]))) (.cons (.od (.c (.str []))) (.cons (.u (some 25) .mv (.od (.t 4))) (.cons (.k (some 28) (.bsl 5 50) (.cons (.u (some 26) (.lda 5) (.od (.t 6))) (.cons (.u (some 27) (.lda 5) (.od (.t 8))) .nil))) .nil)))))))⟩])
 (.ret)))))))
def lf237 : LF := ⟨9, 2, lc237, [.ca 2 5], [0,1,4,10,5,19,6,23,7]⟩

-- (*oxbow/express.specs).named
def lc238 : LC := (.seq (.reg [⟨(some 1), none, (.u (some 2) .mv (.od (.c (.str []))))⟩])
 (.seq (.seq (.reg [⟨(some 2), none, (.k (some 8) (.call 100) (.cons (.u (some 7) .ld (.u (some 6) (.fad 0) (.u (some 5) .nck (.u (some 4) .mv (.od (.t 0)))))) .nil))⟩,
 ⟨(some 3), none, (.a (some 3) [(.int .i64 (.ofNat 0)),(.str []),(.str []),(.int .i64 (.ofNat 0)),(.int .i64 (.ofNat 0)),(.int .i64 (.ofNat 0)),(.int .i64 (.ofNat 0))] 95)⟩,
 ⟨none, none, (.b none false (.sta 7) (.od (.t 3)) (.od (.t 2)))⟩])
 (.seq (.reg [⟨(some 4), none, (.b (some 11) false (.bin .eql) (.u (some 10) .ld (.u (some 9) (.fad 0) (.od (.t 3)))) (.od (.c (.int .i64 (.ofNat 1)))))⟩])
 (.cond (.t 4) (.seq (.reg [⟨(some 1), none, (.u (some 2) .mv (.u (some 13) .ld (.u (some 12) (.fad 1) (.od (.t 3)))))⟩])
 (.reg [⟨(some 5), none, (.u (some 17) .ld (.u (some 16) (.fad 0) (.u (some 15) .nck (.u (some 14) .mv (.od (.t 0))))))⟩,
 ⟨none, none, (.b none true .st (.u (some 23) (.fad 1) (.u (some 22) .nck (.od (.t 5)))) (.b (some 21) false (.bin .add) (.u (some 20) .ld (.u (some 19) (.fad 1) (.u (some 18) .nck (.od (.t 5))))) (.od (.c (.int .i64 (.ofNat 1))))))⟩]))
 (.skip))))
 (.seq (.reg [⟨(some 1), none, (.u (some 2) .mv (.u (some 24) .mv (.od (.t 1))))⟩])
 (.ret))))
def lf238 : LF := ⟨6, 1, lc238, [.t 1], [0,2,8,3,11,17]⟩

-- (*oxbow/express.specs).member
def lc239 : LC := (.seq (.reg [⟨(some 1), none, (.a (some 2) [(.str []),(.str []),(.int .i64 (.ofNat 0)),(.int .i64 (.ofNat 0)),.nils] 50)⟩])
 (.seq (.seq (.drw [⟨.p, [], ⟨(some 2), none, (.u (some 5) .mv (.od (.t 0)))⟩⟩,
 ⟨.p, [0], ⟨(some 3), none, (.u (some 6) .nck (.od (.t 2)))⟩⟩,
 ⟨.p, [0,1], ⟨(some 4), none, (.u (some 7) (.fad 0) (.od (.t 3)))⟩⟩,
 ⟨(.l 0 0), [0,1,2], ⟨(some 5), none, (.u (some 8) .ld (.od (.t 4)))⟩⟩,
 ⟨.m, [0,1,2,3], ⟨(some 6), none, (.k (some 9) (.call 116) (.cons (.od (.t 5)) (.cons (.od (.c (.str [95,83,116,97,116,105,99,95,97,115,115,101,114,116]))) .nil)))⟩⟩,
 ⟨.p, [0,1,2,3,4], ⟨(some 7), none, (.u (some 10) .mv (.od (.t 6)))⟩⟩,
 ⟨.p, [0,1,2,3,4,5], ⟨(some 8), some (7, true), (.u (some 11) .mv (.od (.t 0)))⟩⟩,
 ⟨.p, [0,1,2,3,4,5,6], ⟨(some 9), some (7, true), (.u (some 12) .nck (.od (.t 8)))⟩⟩,
 ⟨.p, [0,1,2,3,4,5,6,7], ⟨(some 10), some (7, true), (.u (some 13) (.fad 0) (.od (.t 9)))⟩⟩,
 ⟨(.l 1 1), [0,1,2,3,4,5,6,7,8], ⟨(some 11), some (7, true), (.u (some 14) .ld (.od (.t 10)))⟩⟩,
 ⟨.p, [0,1,2,3,4,5], ⟨(some 12), some (7, true), (.u (some 15) .mv (.od (.t 0)))⟩⟩,
 ⟨.p, [0,1,2,3,4,5,10], ⟨(some 13), some (7, true), (.u (some 16) .nck (.od (.t 12)))⟩⟩,
 ⟨.p, [0,1,2,3,4,5,10,11], ⟨(some 14), some (7, true), (.u (some 17) (.fad 1) (.od (.t 13)))⟩⟩,
 ⟨(.l 1 1), [0,1,2,3,4,5,10,11,12], ⟨(some 15), some (7, true), (.u (some 18) .ld (.od (.t 14)))⟩⟩,
 ⟨.m, [0,1,2,3,4,5,6,7,8,9,10,11,12,13], ⟨(some 16), some (7, true), (.k (some 19) (.call 109) (.cons (.od (.t 11)) (.cons (.od (.t 15)) .nil)))⟩⟩,
 ⟨.p, [0,1,2,3,4,5,6,7,8,9,10,11,12,13,14], ⟨(some 17), some (7, true), (.u (some 20) (.un .not) (.od (.t 16)))⟩⟩,
 ⟨.p, [0,1,2,3,4,5,6,7,8,9,10,11,12,13,14,15], ⟨(some 18), none, (.k (some 21) .pick (.cons (.od (.t 7)) (.cons (.od (.t 17)) (.cons (.od (.c (.bool false))) .nil))))⟩⟩])
 (.cond (.t 18) (.seq (.drw [⟨.p, [], ⟨(some 19), none, (.u (some 22) .mv (.od (.t 0)))⟩⟩,
 ⟨.p, [0], ⟨(some 20), none, (.u (some 23) .nck (.od (.t 19)))⟩⟩,
 ⟨.p, [0,1], ⟨(some 21), none, (.u (some 24) (.fad 0) (.od (.t 20)))⟩⟩,
 ⟨(.l 0 0), [0,1,2], ⟨(some 22), none, (.u (some 25) .ld (.od (.t 21)))⟩⟩,
 ⟨.p, [], ⟨(some 23), none, (.u (some 26) .mv (.od (.t 0)))⟩⟩,
 ⟨.p, [4], ⟨(some 24), none, (.u (some 27) .nck (.od (.t 23)))⟩⟩,
 ⟨.p, [4,5], ⟨(some 25), none, (.u (some 28) (.fad 1) (.od (.t 24)))⟩⟩,
 ⟨(.l 0 0), [4,5,6], ⟨(some 26), none, (.u (some 29) .ld (.od (.t 25)))⟩⟩,
 ⟨.p, [4,5,6,7], ⟨(some 27), none, (.b (some 30) false (.bin .add) (.od (.t 26)) (.od (.c (.int .i64 (.ofNat 1)))))⟩⟩,
 ⟨.m, [0,1,2,3,4,5,6,7,8], ⟨(some 28), none, (.k (some 31) (.call 117) (.cons (.od (.t 22)) (.cons (.od (.t 27)) .nil)))⟩⟩,
 ⟨.m, [0,1,2,3,4,5,6,7,8,9], ⟨none, none, (.b none false (.sta 5) (.od (.t 1)) (.od (.t 28)))⟩⟩])
 (.ret))
 (.skip)))
 (.seq (.reg [⟨(some 29), none, (.u (some 3) .mv (.u (some 38) .ld (.u (some 37) (.fad 1) (.u (some 36) .nck (.u (some 35) .ld (.u (some 34) (.fad 0) (.u (some 33) .nck (.u (some 32) .mv (.od (.t 0))))))))))⟩])
 (.seq (.drw [⟨.p, [], ⟨(some 30), none, (.u (some 39) .mv (.od (.t 0)))⟩⟩,
 ⟨.p, [0], ⟨(some 31), none, (.u (some 40) .nck (.od (.t 30)))⟩⟩,
 ⟨.p, [0,1], ⟨(some 32), none, (.u (some 41) (.fad 0) (.od (.t 31)))⟩⟩,
 ⟨(.l 0 0), [0,1,2], ⟨(some 33), none, (.u (some 42) .ld (.od (.t 32)))⟩⟩,
 ⟨.p, [], ⟨(some 34), none, (.u (some 43) .mv (.od (.t 0)))⟩⟩,
 ⟨.p, [4], ⟨(some 35), none, (.u (some 44) .nck (.od (.t 34)))⟩⟩,
 ⟨.p, [4,5], ⟨(some 36), none, (.u (some 45) (.fad 1) (.od (.t 35)))⟩⟩,
 ⟨(.l 0 0), [4,5,6], ⟨(some 37), none, (.u (some 46) .ld (.od (.t 36)))⟩⟩,
 ⟨.m, [0,1,2,3,4,5,6,7], ⟨(some 38), none, (.k (some 47) (.call 164) (.cons (.od (.t 33)) (.cons (.od (.t 37)) (.cons (.od (.c (.bool true))) .nil))))⟩⟩,
 ⟨.m, [0,1,2,3,4,5,6,7,8], ⟨(some 39), none, (.k (some 48) (.bsl 5 50) (.cons (.od (.t 38)) .nil))⟩⟩,
 ⟨.p, [0,1,2,3,4,5,6,7,8,9], ⟨(some 40), none, (.u (some 4) .mv (.od (.t 39)))⟩⟩])
 (.seq (.seq (.reg [⟨(some 41), none, (.gd (some 64) true false (.u (some 57) .mv (.u (some 56) (.un .not) (.u (some 55) .ld (.u (some 54) (.fad 3) (.u (some 53) .nck (.u (some 52) .ld (.u (some 51) (.fad 0) (.u (some 50) .nck (.u (some 49) .mv (.od (.t 0))))))))))) (.u (some 63) (.un .not) (.k (some 62) (.call 119) (.cons (.u (some 61) .ld (.u (some 60) (.fad 0) (.u (some 59) .nck (.u (some 58) .mv (.od (.t 0)))))) (.cons (.od (.c (.str [59]))) .nil)))))⟩])
 (.cond (.t 41) (.seq (.reg [⟨(some 40), none, (.u (some 4) .mv (.b (some 69) false (.app 5 72 50) (.u (some 65) .mv (.od (.t 40))) (.k (some 68) (.bsl 5 50) (.cons (.k (some 67) (.call 256) (.cons (.u (some 66) .mv (.od (.t 0))) .nil)) .nil))))⟩])
 (.blk 0 (.loop (.seq (.seq (.reg [⟨(some 42), none, (.k (some 74) (.call 127) (.cons (.u (some 73) .ld (.u (some 72) (.fad 0) (.u (some 71) .nck (.u (some 70) .mv (.od (.t 0)))))) (.cons (.od (.c (.str [44]))) .nil)))⟩])
 (.cond (.t 42) (.skip)
 (.exit 0)))
 (.blk 1 (.reg [⟨(some 40), none, (.u (some 4) .mv (.b (some 79) false (.app 5 72 50) (.u (some 75) .mv (.od (.t 40))) (.k (some 78) (.bsl 5 50) (.cons (.k (some 77) (.call 256) (.cons (.u (some 76) .mv (.od (.t 0))) .nil)) .nil))))⟩]))))))
 (.skip)))
 (.seq (.reg [⟨none, none, (.k (some 84) (.call 122) (.cons (.u (some 83) .ld (.u (some 82) (.fad 0) (.u (some 81) .nck (.u (some 80) .mv (.od (.t 0)))))) (.cons (.od (.c (.str [59]))) .nil)))⟩])
 (.seq (.reg [⟨none, none, (.b none false (.sta 5) (.od (.t 1)) (.k (some 91) (.call 123) (.cons (.u (some 88) .ld (.u (some 87) (.fad 0) (.u (some 86) .nck (.u (some 85) .mv (.od (.t 0)))))) (.cons (.od (.c (.str [109,101,109,98,101,114]))) (.cons (.od (.c (.str []))) (.cons (.u (some 89) .mv (.od (.t 29))) (.cons (.u (some 90) .mv (.od (.t 40))) .nil)))))))⟩])
 (.ret))))))))
def lf239 : LF := ⟨43, 1, lc239, [.ca 1 5], [0,2,5,6,7,8,9,10,11,12,13,14,15,16,17,18,19,20,21,22,23,24,25,26,27,28,29,30,31,3,39,40,41,42,43,44,45,46,47,48,4,64,74]⟩

-- (*oxbow/express.specs).enumerator
def lc240 : LC := (.seq (.reg [⟨(some 1), none, (.a (some 2) [(.str []),(.str []),(.int .i64 (.ofNat 0)),(.int .i64 (.ofNat 0)),.nils] 50)⟩])
 (.seq (.reg [⟨(some 2), none, (.u (some 3) .mv (.u (some 12) .ld (.u (some 11) (.fad 1) (.u (some 10) .nck (.u (some 9) .ld (.u (some 8) (.fad 0) (.u (some 7) .nck (.u (some 6) .mv (.od (.t 0))))))))))⟩])
 (.seq (.reg [⟨(some 3), none, (.k (some 17) (.call 170) (.cons (.u (some 16) .ld (.u (some 15) (.fad 0) (.u (some 14) .nck (.u (some 13) .mv (.od (.t 0)))))) (.cons (.od (.c (.str []))) .nil)))⟩,
 ⟨(some 4), none, (.a (some 4) [(.str []),(.str []),(.int .i64 (.ofNat 0)),(.int .i64 (.ofNat 0)),.nils] 50)⟩,
 ⟨none, none, (.b none false (.sta 5) (.od (.t 4)) (.od (.t 3)))⟩])
 (.seq (.drw [⟨.p, [], ⟨(some 5), none, (.u (some 18) .mv (.od (.t 0)))⟩⟩,
 ⟨.p, [0], ⟨(some 6), none, (.u (some 19) .nck (.od (.t 5)))⟩⟩,
 ⟨.p, [0,1], ⟨(some 7), none, (.u (some 20) (.fad 0) (.od (.t 6)))⟩⟩,
 ⟨(.l 0 0), [0,1,2], ⟨(some 8), none, (.u (some 21) .ld (.od (.t 7)))⟩⟩,
 ⟨.p, [], ⟨(some 9), none, (.u (some 22) (.fad 1) (.od (.t 4)))⟩⟩,
 ⟨(.l 0 0), [4], ⟨(some 10), none, (.u (some 23) .ld (.od (.t 9)))⟩⟩,
 ⟨.m, [0,1,2,3,4,5], ⟨none, none, (.k (some 24) (.call 131) (.cons (.od (.t 8)) (.cons (.od (.t 10)) (.cons (.od (.c (.bool false))) .nil))))⟩⟩])
 (.seq (.seq (.reg [⟨(some 11), none, (.u (some 30) (.un .not) (.k (some 29) (.call 127) (.cons (.u (some 28) .ld (.u (some 27) (.fad 0) (.u (some 26) .nck (.u (some 25) .mv (.od (.t 0)))))) (.cons (.od (.c (.str [61]))) .nil))))⟩])
 (.cond (.t 11) (.seq (.drw [⟨.p, [], ⟨(some 12), none, (.u (some 31) .mv (.od (.t 0)))⟩⟩,
 ⟨.p, [0], ⟨(some 13), none, (.u (some 32) .nck (.od (.t 12)))⟩⟩,
 ⟨.p, [0,1], ⟨(some 14), none, (.u (some 33) (.fad 0) (.od (.t 13)))⟩⟩,
 ⟨(.l 0 0), [0,1,2], ⟨(some 15), none, (.u (some 34) .ld (.od (.t 14)))⟩⟩,
 ⟨.p, [], ⟨(some 16), none, (.u (some 35) (.fad 1) (.od (.t 4)))⟩⟩,
 ⟨(.l 0 0), [4], ⟨(some 17), none, (.u (some 36) .ld (.od (.t 16)))⟩⟩,
 ⟨.p, [], ⟨(some 18), none, (.u (some 37) .mv (.od (.t 2)))⟩⟩,
 ⟨.m, [0,1,2,3,4,5,6], ⟨(some 19), none, (.k (some 38) (.call 123) (.cons (.od (.t 15)) (.cons (.od (.c (.str [101,110,117,109,101,114,97,116,111,114]))) (.cons (.od (.t 17)) (.cons (.od (.t 18)) (.cons (.od (.c .nils)) .nil))))))⟩⟩,
 ⟨.m, [0,1,2,3,4,5,6,7], ⟨none, none, (.b none false (.sta 5) (.od (.t 1)) (.od (.t 19)))⟩⟩])
 (.ret))
 (.skip)))
 (.seq (.drw [⟨.p, [], ⟨(some 20), none, (.u (some 39) .mv (.od (.t 0)))⟩⟩,
 ⟨.p, [0], ⟨(some 21), none, (.u (some 40) .nck (.od (.t 20)))⟩⟩,
 ⟨.p, [0,1], ⟨(some 22), none, (.u (some 41) (.fad 0) (.od (.t 21)))⟩⟩,
 ⟨(.l 0 0), [0,1,2], ⟨(some 23), none, (.u (some 42) .ld (.od (.t 22)))⟩⟩,
 ⟨.p, [], ⟨(some 24), none, (.u (some 43) .mv (.od (.t 0)))⟩⟩,
 ⟨.p, [4], ⟨(some 25), none, (.u (some 44) .nck (.od (.t 24)))⟩⟩,
 ⟨.p, [4,5], ⟨(some 26), none, (.u (some 45) (.fad 1) (.od (.t 25)))⟩⟩,
 ⟨(.l 0 0), [4,5,6], ⟨(some 27), none, (.u (some 46) .ld (.od (.t 26)))⟩⟩,
 ⟨.m, [0,1,2,3,4,5,6,7], ⟨(some 28), none, (.k (some 47) (.call 162) (.cons (.od (.t 23)) (.cons (.od (.t 27)) .nil)))⟩⟩,
 ⟨.a, [], ⟨(some 29), none, (.a (some 5) [(.str []),(.str []),(.int .i64 (.ofNat 0)),(.int .i64 (.ofNat 0)),.nils] 50)⟩⟩,
 ⟨.m, [0,1,2,3,4,5,6,7,8,9], ⟨none, none, (.b none false (.sta 5) (.od (.t 29)) (.od (.t 28)))⟩⟩])
 (.seq (.drw [⟨.p, [], ⟨(some 30), none, (.u (some 48) .mv (.od (.t 0)))⟩⟩,
 ⟨.p, [0], ⟨(some 31), none, (.u (some 49) .nck (.od (.t 30)))⟩⟩,
 ⟨.p, [0,1], ⟨(some 32), none, (.u (some 50) (.fad 0) (.od (.t 31)))⟩⟩,
 ⟨(.l 0 1), [0,1,2], ⟨(some 33), none, (.u (some 51) .ld (.od (.t 32)))⟩⟩,
 ⟨.p, [], ⟨(some 34), none, (.u (some 52) (.fad 1) (.od (.t 4)))⟩⟩,
 ⟨(.l 0 1), [4], ⟨(some 35), none, (.u (some 53) .ld (.od (.t 34)))⟩⟩,
 ⟨.p, [], ⟨(some 36), none, (.u (some 54) .mv (.od (.t 2)))⟩⟩,
 ⟨(.l 0 0), [], ⟨(some 37), none, (.u (some 55) (.lda 5) (.od (.t 29)))⟩⟩,
 ⟨.m, [7], ⟨(some 38), none, (.k (some 56) (.bsl 5 50) (.cons (.od (.t 37)) .nil))⟩⟩,
 ⟨.m, [0,1,2,3,4,5,6,7,8], ⟨(some 39), none, (.k (some 57) (.call 123) (.cons (.od (.t 33)) (.cons (.od (.c (.str [101,110,117,109,101,114,97,116,111,114]))) (.cons (.od (.t 35)) (.cons (.od (.t 36)) (.cons (.od (.t 38)) .nil))))))⟩⟩,
 ⟨.m, [0,1,2,3,4,5,6,7,8,9], ⟨none, none, (.b none false (.sta 5) (.od (.t 1)) (.od (.t 39)))⟩⟩])
 (.ret))))))))
def lf240 : LF := ⟨40, 1, lc240, [.ca 1 5], [0,2,3,17,4,18,19,20,21,22,23,30,31,32,33,34,35,36,37,38,39,40,41,42,43,44,45,46,47,5,48,49,50,51,52,53,54,55,56,57]⟩

-- (*oxbow/express.Reader).bracketed
def lc249 : LC := (.seq (.reg [⟨(some 1), none, (.u (some 2) .mv (.od (.c (.bool false))))⟩])
 (.seq (.reg [⟨(some 1), none, (.u (some 2) .mv (.gd (some 10) true false (.u (some 5) .mv (.k (some 4) (.call 119) (.cons (.u (some 3) .mv (.od (.t 0))) (.cons (.od (.c (.str [40]))) .nil)))) (.k (some 9) (.call 99) (.cons (.u (some 6) .mv (.od (.t 0))) (.cons (.k (some 8) (.call 157) (.cons (.u (some 7) .mv (.od (.t 0))) (.cons (.od (.c (.int .i64 (.ofNat 1)))) .nil))) .nil)))))⟩])
 (.ret)))
def lf249 : LF := ⟨2, 1, lc249, [.t 1], [0,2]⟩

-- (*oxbow/express.Reader).unary
def lc250 : LC := (.seq (.reg [⟨(some 2), none, (.a (some 4) [(.str []),(.str []),(.int .i64 (.ofNat 0)),(.int .i64 (.ofNat 0)),.nils] 50)⟩])
 (.seq (.drw [⟨.p, [], ⟨(some 3), none, (.u (some 12) .mv (.od (.t 0)))⟩⟩,
 ⟨.p, [0], ⟨(some 4), none, (.u (some 13) .nck (.od (.t 3)))⟩⟩,
 ⟨.p, [0,1], ⟨(some 5), none, (.u (some 14) (.fad 1) (.od (.t 4)))⟩⟩,
 ⟨(.l 0 1), [0,1,2], ⟨(some 6), none, (.u (some 15) .ld (.od (.t 5)))⟩⟩,
 ⟨.p, [], ⟨(some 7), none, (.u (some 16) .mv (.od (.t 0)))⟩⟩,
 ⟨.m, [4], ⟨(some 8), none, (.k (some 17) (.call 100) (.cons (.od (.t 7)) .nil))⟩⟩,
 ⟨.a, [], ⟨(some 9), none, (.a (some 6) [(.int .i64 (.ofNat 0)),(.str []),(.str []),(.int .i64 (.ofNat 0)),(.int .i64 (.ofNat 0)),(.int .i64 (.ofNat 0)),(.int .i64 (.ofNat 0))] 95)⟩⟩,
 ⟨.p, [0,1,2,3,4,5,6], ⟨(some 10), none, (.u (some 5) .mv (.od (.t 6)))⟩⟩,
 ⟨.m, [0,1,2,3,4,5,6,7], ⟨none, none, (.b none false (.sta 7) (.od (.t 9)) (.od (.t 8)))⟩⟩])
 (.seq (.blk 0 (.seq (.reg [⟨(some 11), none, (.u (some 24) .mv (.u (some 28) .ld (.u (some 27) (.fad 3) (.u (some 26) .nck (.u (some 25) .mv (.od (.t 0)))))))⟩])
 (.cond (.t 11) (.skip)
 (.seq (.seq (.reg [⟨(some 12), none, (.u (some 29) .mv (.k (some 31) (.call 127) (.cons (.u (some 30) .mv (.od (.t 0))) (.cons (.od (.c (.str [43,43]))) .nil))))⟩])
 (.cond (.t 12) (.skip)
 (.reg [⟨(some 12), none, (.u (some 29) .mv (.k (some 33) (.call 127) (.cons (.u (some 32) .mv (.od (.t 0))) (.cons (.od (.c (.str [45,45]))) .nil))))⟩])))
 (.cond (.t 12) (.seq (.reg [⟨(some 13), none, (.k (some 36) (.call 250) (.cons (.u (some 34) .mv (.od (.t 0))) (.cons (.u (some 35) .mv (.od (.t 1))) .nil)))⟩,
 ⟨(some 14), none, (.a (some 7) [(.str []),(.str []),(.int .i64 (.ofNat 0)),(.int .i64 (.ofNat 0)),.nils] 50)⟩,
 ⟨none, none, (.b none false (.sta 5) (.od (.t 14)) (.od (.t 13)))⟩])
 (.seq (.reg [⟨none, none, (.b none false (.sta 5) (.od (.t 2)) (.k (some 43) (.call 123) (.cons (.u (some 37) .mv (.od (.t 0))) (.cons (.od (.c (.str [112,114,101]))) (.cons (.u (some 39) .ld (.u (some 38) (.fad 1) (.od (.t 9)))) (.cons (.u (some 40) .mv (.od (.t 10))) (.cons (.k (some 42) (.bsl 5 50) (.cons (.u (some 41) (.lda 5) (.od (.t 14))) .nil)) .nil)))))))⟩])
 (.ret)))
 (.seq (.seq (.reg [⟨(some 15), none, (.u (some 44) .mv (.k (some 46) (.call 127) (.cons (.u (some 45) .mv (.od (.t 0))) (.cons (.od (.c (.str [38]))) .nil))))⟩])
 (.cond (.t 15) (.skip)
 (.seq (.reg [⟨(some 15), none, (.u (some 44) .mv (.k (some 48) (.call 127) (.cons (.u (some 47) .mv (.od (.t 0))) (.cons (.od (.c (.str [42]))) .nil))))⟩])
 (.cond (.t 15) (.skip)
 (.seq (.reg [⟨(some 15), none, (.u (some 44) .mv (.k (some 50) (.call 127) (.cons (.u (some 49) .mv (.od (.t 0))) (.cons (.od (.c (.str [43]))) .nil))))⟩])
 (.cond (.t 15) (.skip)
 (.seq (.reg [⟨(some 15), none, (.u (some 44) .mv (.k (some 52) (.call 127) (.cons (.u (some 51) .mv (.od (.t 0))) (.cons (.od (.c (.str [45]))) .nil))))⟩])
 (.cond (.t 15) (.skip)
 (.seq (.reg [⟨(some 15), none, (.u (some 44) .mv (.k (some 54) (.call 127) (.cons (.u (some 53) .mv (.od (.t 0))) (.cons (.od (.c (.str [126]))) .nil))))⟩])
 (.cond (.t 15) (.skip)
 (.reg [⟨(some 15), none, (.u (some 44) .mv (.k (some 56) (.call 127) (.cons (.u (some 55) .mv (.od (.t 0))) (.cons (.od (.c (.str [33]))) .nil))))⟩])))))))))))
 (.cond (.t 15) (.seq (.reg [⟨(some 16), none, (.u (some 57) .mv (.k (some 60) (.call 234) (.cons (.u (some 58) .mv (.od (.t 0))) (.cons (.u (some 59) .mv (.od (.t 1))) .nil))))⟩,
 ⟨(some 17), none, (.u (some 61) (.ext 0) (.od (.t 16)))⟩,
 ⟨(some 18), none, (.u (some 62) (.ext 1) (.od (.t 16)))⟩,
 ⟨(some 19), none, (.a (some 8) [(.str []),(.str []),(.int .i64 (.ofNat 0)),(.int .i64 (.ofNat 0)),.nils] 50)⟩,
 ⟨none, none, (.b none false (.sta 5) (.od (.t 19)) (.od (.t 17)))⟩,
 ⟨none, none, (.u (some 9) .mv (.od (.t 18)))⟩])
 (.seq (.reg [⟨none, none, (.b none false (.sta 5) (.od (.t 2)) (.k (some 69) (.call 123) (.cons (.u (some 63) .mv (.od (.t 0))) (.cons (.od (.c (.str [117,110,97,114,121]))) (.cons (.u (some 65) .ld (.u (some 64) (.fad 1) (.od (.t 9)))) (.cons (.u (some 66) .mv (.od (.t 10))) (.cons (.k (some 68) (.bsl 5 50) (.cons (.u (some 67) (.lda 5) (.od (.t 19))) .nil)) .nil)))))))⟩])
 (.ret)))
 (.seq (.reg [⟨(some 20), none, (.u (some 70) .mv (.k (some 72) (.call 168) (.cons (.u (some 71) .mv (.od (.t 0))) (.cons (.od (.c (.str [115,105,122,101,111,102]))) .nil))))⟩])
 (.cond (.t 20) (.seq (.reg [⟨none, none, (.b none false (.sta 5) (.od (.t 2)) (.k (some 76) (.call 257) (.cons (.u (some 73) .mv (.od (.t 0))) (.cons (.u (some 74) .mv (.od (.t 10))) (.cons (.u (some 75) .mv (.od (.t 1))) .nil)))))⟩])
 (.ret))
 (.seq (.reg [⟨(some 21), none, (.u (some 77) .mv (.k (some 79) (.call 168) (.cons (.u (some 78) .mv (.od (.t 0))) (.cons (.od (.c (.str [95,65,108,105,103,110,111,102]))) .nil))))⟩])
 (.cond (.t 21) (.seq (.reg [⟨(some 22), none, (.k (some 82) (.call 219) (.cons (.u (some 80) .mv (.od (.t 0))) (.cons (.u (some 81) .mv (.od (.t 1))) .nil)))⟩,
 ⟨(some 23), none, (.a (some 10) [(.str []),(.str []),(.int .i64 (.ofNat 0)),(.int .i64 (.ofNat 0)),.nils] 50)⟩,
 ⟨none, none, (.b none false (.sta 5) (.od (.t 23)) (.od (.t 22)))⟩])
 (.seq (.reg [⟨none, none, (.b none false (.sta 5) (.od (.t 2)) (.k (some 87) (.call 123) (.cons (.u (some 83) .mv (.od (.t 0))) (.cons (.od (.c (.str [97,108,105,103,110,111,102]))) (.cons (.od (.c (.str []))) (.cons (.u (some 84) .mv (.od (.t 10))) (.cons (.k (some 86) (.bsl 5 50) (.cons (.u (some 85) (.lda 5) (.od (.t 23))) .nil)) .nil)))))))⟩])
 (.ret)))
 (.seq (.reg [⟨(some 24), none, (.u (some 88) .mv (.k (some 90) (.call 249) (.cons (.u (some 89) .mv (.od (.t 0))) .nil)))⟩])
 (.cond (.t 24) (.seq (.reg [⟨(some 25), none, (.k (some 93) (.call 219) (.cons (.u (some 91) .mv (.od (.t 0))) (.cons (.u (some 92) .mv (.od (.t 1))) .nil)))⟩,
 ⟨(some 26), none, (.a (some 11) [(.str []),(.str []),(.int .i64 (.ofNat 0)),(.int .i64 (.ofNat 0)),.nils] 50)⟩,
 ⟨none, none, (.b none false (.sta 5) (.od (.t 26)) (.od (.t 25)))⟩])
 (.seq (.reg [⟨none, none, (.b none false (.sta 5) (.od (.t 2)) (.k (some 98) (.call 251) (.cons (.u (some 94) .mv (.od (.t 0))) (.cons (.u (some 95) .mv (.od (.t 10))) (.cons (.u (some 96) (.lda 5) (.od (.t 26))) (.cons (.u (some 97) .mv (.od (.t 1))) .nil))))))⟩])
 (.ret)))
 (.seq (.reg [⟨none, none, (.b none false (.sta 5) (.od (.t 2)) (.k (some 23) (.call 258) (.cons (.u (some 18) .mv (.od (.t 0))) (.cons (.k (some 21) (.call 259) (.cons (.u (some 19) .mv (.od (.t 0))) (.cons (.u (some 20) .mv (.od (.t 1))) .nil))) (.cons (.u (some 22) .mv (.od (.t 1))) .nil)))))⟩])
 (.ret)))))))))))))))
 (.seq (.reg [⟨none, none, (.b none false (.sta 5) (.od (.t 2)) (.k (some 99) (.build [(.str []),(.str []),(.int .i64 (.ofNat 0)),(.int .i64 (.ofNat 0)),.nils] []) .nil))⟩])
 (.ret)))))
def lf250 : LF := ⟨27, 2, lc250, [.ca 2 5], [0,1,4,12,13,14,15,16,17,6,5,24,29,36,7,44,57,61,62,8,70,77,82,10,88,93,11]⟩

-- (*oxbow/express.Reader).literal
def lc251 : LC := (.seq (.reg [⟨(some 4), none, (.u (some 6) (.box 50) (.od (.t 2)))⟩,
 ⟨(some 5), none, (.a (some 8) [(.str []),(.str []),(.int .i64 (.ofNat 0)),(.int .i64 (.ofNat 0)),.nils] 50)⟩])
 (.seq (.seq (.reg [⟨(some 6), none, (.u (some 12) (.un .not) (.k (some 11) (.call 119) (.cons (.u (some 10) .mv (.od (.t 0))) (.cons (.od (.c (.str [123]))) .nil))))⟩])
 (.cond (.t 6) (.reg [⟨none, none, (.k (some 14) (.call 108) (.cons (.u (some 13) .mv (.od (.t 0))) .nil))⟩])
 (.skip)))
 (.seq (.reg [⟨(some 7), none, (.k (some 17) (.call 166) (.cons (.u (some 15) .mv (.od (.t 0))) (.cons (.u (some 16) .mv (.od (.t 3))) .nil)))⟩,
 ⟨(some 8), none, (.a (some 9) [(.str []),(.str []),(.int .i64 (.ofNat 0)),(.int .i64 (.ofNat 0)),.nils] 50)⟩,
 ⟨none, none, (.b none false (.sta 5) (.od (.t 8)) (.od (.t 7)))⟩])
 (.seq (.reg [⟨none, none, (.b none false (.sta 5) (.od (.t 5)) (.k (some 26) (.call 258) (.cons (.u (some 18) .mv (.od (.t 0))) (.cons (.k (some 24) (.call 123) (.cons (.u (some 19) .mv (.od (.t 0))) (.cons (.od (.c (.str [108,105,116,101,114,97,108]))) (.cons (.od (.c (.str []))) (.cons (.u (some 20) .mv (.od (.t 1))) (.cons (.k (some 23) (.bsl 5 50) (.cons (.u (some 21) (.lda 5) (.od (.t 4))) (.cons (.u (some 22) (.lda 5) (.od (.t 8))) .nil))) .nil)))))) (.cons (.u (some 25) .mv (.od (.t 3))) .nil)))))⟩])
 (.ret)))))
def lf251 : LF := ⟨9, 4, lc251, [.ca 5 5], [0,1,2,3,6,8,12,17,9]⟩

-- slices.IndexFunc[[]string,string]
def lc252 : LC := (.seq (.reg [⟨(some 2), none, (.u (some 4) .mv (.od (.c (.int .i64 (.ofNat 0)))))⟩])
 (.seq (.seq (.reg [⟨(some 3), none, (.u (some 7) .len (.u (some 6) .mv (.od (.t 0))))⟩,
 ⟨(some 4), none, (.u (some 8) .mv (.od (.c (.int .i64 (.ofNat 0)))))⟩])
 (.blk 0 (.loop (.seq (.reg [⟨(some 5), none, (.b (some 9) false (.bin .lss) (.od (.t 4)) (.od (.t 3)))⟩])
 (.seq (.cond (.t 5) (.skip)
 (.exit 0))
 (.seq (.blk 1 (.seq (.reg [⟨(some 6), none, (.u (some 5) .mv (.u (some 10) .mv (.od (.t 4))))⟩])
 (.seq (.reg [⟨(some 7), none, (.k (some 16) .callv (.cons (.u (some 11) .mv (.od (.t 1))) (.cons (.u (some 15) .ld (.b (some 14) false (.iad 1) (.u (some 12) .mv (.od (.t 0))) (.u (some 13) .mv (.od (.t 6))))) .nil)))⟩])
 (.cond (.t 7) (.seq (.reg [⟨(some 2), none, (.u (some 4) .mv (.u (some 17) .mv (.od (.t 6))))⟩])
 (.ret))
 (.skip)))))
 (.reg [⟨(some 4), none, (.u (some 8) .mv (.b (some 18) false (.bin .add) (.od (.t 4)) (.od (.c (.int .i64 (.ofNat 1))))))⟩])))))))
 (.seq (.reg [⟨(some 2), none, (.u (some 4) .mv (.od (.c (.int .i64 (.negSucc 0)))))⟩])
 (.ret))))
def lf252 : LF := ⟨8, 2, lc252, [.t 2], [0,1,4,7,8,9,5,16]⟩

-- oxbow/express.level$1
def lc253 : LC := (.seq (.reg [⟨(some 2), none, (.u (some 3) .mv (.od (.c (.bool false))))⟩])
 (.seq (.drw [⟨.p, [], ⟨(some 3), none, (.u (some 4) .mv (.od (.t 0)))⟩⟩,
 ⟨.m, [0], ⟨(some 4), none, (.k (some 5) (.call 186) (.cons (.od (.t 3)) .nil))⟩⟩,
 ⟨.p, [], ⟨(some 5), none, (.u (some 6) (.fad 1) (.od (.t 1)))⟩⟩,
 ⟨(.l 0 1), [2], ⟨(some 6), none, (.u (some 7) .ld (.od (.t 5)))⟩⟩,
 ⟨.m, [0,1,2,3], ⟨(some 7), none, (.k (some 8) (.call 187) (.cons (.od (.t 4)) (.cons (.od (.t 6)) .nil)))⟩⟩,
 ⟨.p, [0,1,2,3,4], ⟨(some 2), none, (.u (some 3) .mv (.od (.t 7)))⟩⟩])
 (.ret)))
def lf253 : LF := ⟨8, 2, lc253, [.t 2], [0,1,3,4,5,6,7,8]⟩

-- (*oxbow/express.specs).bits
def lc256 : LC := (.seq (.reg [⟨(some 1), none, (.a (some 2) [(.str []),(.str []),(.int .i64 (.ofNat 0)),(.int .i64 (.ofNat 0)),.nils] 50)⟩])
 (.seq (.reg [⟨(some 2), none, (.u (some 3) .mv (.od (.c .nils)))⟩])
 (.seq (.reg [⟨(some 3), none, (.u (some 4) .mv (.u (some 11) .ld (.u (some 10) (.fad 1) (.u (some 9) .nck (.u (some 8) .ld (.u (some 7) (.fad 0) (.u (some 6) .nck (.u (some 5) .mv (.od (.t 0))))))))))⟩])
 (.seq (.seq (.reg [⟨(some 4), none, (.u (some 17) (.un .not) (.k (some 16) (.call 119) (.cons (.u (some 15) .ld (.u (some 14) (.fad 0) (.u (some 13) .nck (.u (some 12) .mv (.od (.t 0)))))) (.cons (.od (.c (.str [58]))) .nil))))⟩])
 (.cond (.t 4) (.drw [⟨.p, [], ⟨(some 5), none, (.u (some 18) .mv (.od (.t 2)))⟩⟩,
 ⟨.p, [], ⟨(some 6), none, (.u (some 19) .mv (.od (.t 0)))⟩⟩,
 ⟨.p, [1], ⟨(some 7), none, (.u (some 20) .nck (.od (.t 6)))⟩⟩,
 ⟨.p, [1,2], ⟨(some 8), none, (.u (some 21) (.fad 0) (.od (.t 7)))⟩⟩,
 ⟨(.l 0 0), [1,2,3], ⟨(some 9), none, (.u (some 22) .ld (.od (.t 8)))⟩⟩,
 ⟨.p, [], ⟨(some 10), none, (.u (some 23) .mv (.od (.t 0)))⟩⟩,
 ⟨.p, [5], ⟨(some 11), none, (.u (some 24) .nck (.od (.t 10)))⟩⟩,
 ⟨.p, [5,6], ⟨(some 12), none, (.u (some 25) (.fad 1) (.od (.t 11)))⟩⟩,
 ⟨(.l 0 0), [5,6,7], ⟨(some 13), none, (.u (some 26) .ld (.od (.t 12)))⟩⟩,
 ⟨.m, [1,2,3,4,5,6,7,8], ⟨(some 14), none, (.k (some 27) (.call 61) (.cons (.od (.t 9)) (.cons (.od (.t 13)) (.cons (.od (.c (.int .i64 (.ofNat 0)))) .nil))))⟩⟩,
 ⟨.m, [1,2,3,4,5,6,7,8,9], ⟨(some 15), none, (.k (some 28) (.bsl 5 50) (.cons (.od (.t 14)) .nil))⟩⟩,
 ⟨.m, [0,1,2,3,4,5,6,7,8,9,10], ⟨(some 16), none, (.b (some 29) false (.app 5 72 50) (.od (.t 5)) (.od (.t 15)))⟩⟩,
 ⟨.p, [0,1,2,3,4,5,6,7,8,9,10,11], ⟨(some 2), none, (.u (some 3) .mv (.od (.t 16)))⟩⟩])
 (.skip)))
 (.seq (.seq (.reg [⟨(some 17), none, (.u (some 35) (.un .not) (.k (some 34) (.call 127) (.cons (.u (some 33) .ld (.u (some 32) (.fad 0) (.u (some 31) .nck (.u (some 30) .mv (.od (.t 0)))))) (.cons (.od (.c (.str [58]))) .nil))))⟩])
 (.cond (.t 17) (.seq (.reg [⟨none, none, (.b none false (.sta 5) (.od (.t 1)) (.u (some 38) (.lda 5) (.b (some 37) false (.iad 5) (.u (some 36) .mv (.od (.t 2))) (.od (.c (.int .i64 (.ofNat 0)))))))⟩])
 (.ret))
 (.skip)))
 (.seq (.drw [⟨.p, [], ⟨(some 18), none, (.u (some 39) .mv (.od (.t 2)))⟩⟩,
 ⟨.p, [], ⟨(some 19), none, (.u (some 40) .mv (.od (.t 0)))⟩⟩,
 ⟨.p, [1], ⟨(some 20), none, (.u (some 41) .nck (.od (.t 19)))⟩⟩,
 ⟨.p, [1,2], ⟨(some 21), none, (.u (some 42) (.fad 0) (.od (.t 20)))⟩⟩,
 ⟨(.l 0 0), [1,2,3], ⟨(some 22), none, (.u (some 43) .ld (.od (.t 21)))⟩⟩,
 ⟨.p, [], ⟨(some 23), none, (.u (some 44) .mv (.od (.t 0)))⟩⟩,
 ⟨.p, [5], ⟨(some 24), none, (.u (some 45) .nck (.od (.t 23)))⟩⟩,
 ⟨.p, [5,6], ⟨(some 25), none, (.u (some 46) (.fad 1) (.od (.t 24)))⟩⟩,
 ⟨(.l 0 0), [5,6,7], ⟨(some 26), none, (.u (some 47) .ld (.od (.t 25)))⟩⟩,
 ⟨.m, [1,2,3,4,5,6,7,8], ⟨(some 27), none, (.k (some 48) (.call 162) (.cons (.od (.t 22)) (.cons (.od (.t 26)) .nil)))⟩⟩,
 ⟨.m, [1,2,3,4,5,6,7,8,9], ⟨(some 28), none, (.k (some 49) (.bsl 5 50) (.cons (.od (.t 27)) .nil))⟩⟩,
 ⟨.m, [0,1,2,3,4,5,6,7,8,9,10], ⟨(some 29), none, (.b (some 50) false (.app 5 72 50) (.od (.t 18)) (.od (.t 28)))⟩⟩,
 ⟨.p, [0,1,2,3,4,5,6,7,8,9,10,11], ⟨(some 2), none, (.u (some 3) .mv (.od (.t 29)))⟩⟩])
 (.seq (.reg [⟨none, none, (.b none false (.sta 5) (.od (.t 1)) (.k (some 57) (.call 123) (.cons (.u (some 54) .ld (.u (some 53) (.fad 0) (.u (some 52) .nck (.u (some 51) .mv (.od (.t 0)))))) (.cons (.od (.c (.str [98,105,116,115]))) (.cons (.od (.c (.str []))) (.cons (.u (some 55) .mv (.od (.t 3))) (.cons (.u (some 56) .mv (.od (.t 2))) .nil)))))))⟩])
 (.ret))))))))
def lf256 : LF := ⟨30, 1, lc256, [.ca 1 5], [0,2,3,4,17,18,19,20,21,22,23,24,25,26,27,28,29,35,39,40,41,42,43,44,45,46,47,48,49,50]⟩

-- (*oxbow/express.Reader).size
def lc257 : LC := (.seq (.reg [⟨(some 3), none, (.a (some 6) [(.str []),(.str []),(.int .i64 (.ofNat 0)),(.int .i64 (.ofNat 0)),.nils] 50)⟩])
 (.seq (.seq (.reg [⟨(some 4), none, (.u (some 12) (.un .not) (.k (some 11) (.call 249) (.cons (.u (some 10) .mv (.od (.t 0))) .nil)))⟩])
 (.cond (.t 4) (.seq (.reg [⟨(some 5), none, (.k (some 15) (.call 250) (.cons (.u (some 13) .mv (.od (.t 0))) (.cons (.u (some 14) .mv (.od (.t 2))) .nil)))⟩,
 ⟨(some 6), none, (.a (some 7) [(.str []),(.str []),(.int .i64 (.ofNat 0)),(.int .i64 (.ofNat 0)),.nils] 50)⟩,
 ⟨none, none, (.b none false (.sta 5) (.od (.t 6)) (.od (.t 5)))⟩])
 (.seq (.reg [⟨none, none, (.b none false (.sta 5) (.od (.t 3)) (.k (some 20) (.call 123) (.cons (.u (some 16) .mv (.od (.t 0))) (.cons (.od (.c (.str [115,105,122,101,111,102]))) (.cons (.od (.c (.str []))) (.cons (.u (some 17) .mv (.od (.t 1))) (.cons (.k (some 19) (.bsl 5 50) (.cons (.u (some 18) (.lda 5) (.od (.t 6))) .nil)) .nil)))))))⟩])
 (.ret)))
 (.skip)))
 (.seq (.reg [⟨(some 7), none, (.u (some 8) .mv (.u (some 24) .ld (.u (some 23) (.fad 1) (.u (some 22) .nck (.u (some 21) .mv (.od (.t 0)))))))⟩])
 (.seq (.reg [⟨(some 8), none, (.k (some 27) (.call 219) (.cons (.u (some 25) .mv (.od (.t 0))) (.cons (.u (some 26) .mv (.od (.t 2))) .nil)))⟩,
 ⟨(some 9), none, (.a (some 9) [(.str []),(.str []),(.int .i64 (.ofNat 0)),(.int .i64 (.ofNat 0)),.nils] 50)⟩,
 ⟨none, none, (.b none false (.sta 5) (.od (.t 9)) (.od (.t 8)))⟩])
 (.seq (.seq (.reg [⟨(some 10), none, (.gd (some 36) false true (.u (some 32) .mv (.u (some 31) .ld (.u (some 30) (.fad 3) (.u (some 29) .nck (.u (some 28) .mv (.od (.t 0))))))) (.u (some 35) (.un .not) (.k (some 34) (.call 119) (.cons (.u (some 33) .mv (.od (.t 0))) (.cons (.od (.c (.str [123]))) .nil)))))⟩])
 (.cond (.t 10) (.seq (.reg [⟨none, none, (.b none false (.sta 5) (.od (.t 3)) (.k (some 41) (.call 123) (.cons (.u (some 37) .mv (.od (.t 0))) (.cons (.od (.c (.str [115,105,122,101,111,102,116,121,112,101]))) (.cons (.od (.c (.str []))) (.cons (.u (some 38) .mv (.od (.t 1))) (.cons (.k (some 40) (.bsl 5 50) (.cons (.u (some 39) (.lda 5) (.od (.t 9))) .nil)) .nil)))))))⟩])
 (.ret))
 (.skip)))
 (.seq (.reg [⟨none, none, (.b none false (.sta 5) (.od (.t 9)) (.k (some 46) (.call 251) (.cons (.u (some 42) .mv (.od (.t 0))) (.cons (.u (some 43) .mv (.od (.t 7))) (.cons (.u (some 44) (.lda 5) (.od (.t 9))) (.cons (.u (some 45) .mv (.od (.t 2))) .nil))))))⟩])
 (.seq (.reg [⟨none, none, (.b none false (.sta 5) (.od (.t 3)) (.k (some 51) (.call 123) (.cons (.u (some 47) .mv (.od (.t 0))) (.cons (.od (.c (.str [115,105,122,101,111,102]))) (.cons (.od (.c (.str []))) (.cons (.u (some 48) .mv (.od (.t 1))) (.cons (.k (some 50) (.bsl 5 50) (.cons (.u (some 49) (.lda 5) (.od (.t 9))) .nil)) .nil)))))))⟩])
 (.ret))))))))
def lf257 : LF := ⟨11, 3, lc257, [.ca 3 5], [0,1,2,6,12,15,7,8,27,9,36]⟩

-- (*oxbow/express.Reader).postfix
def lc258 : LC := (.seq (.reg [⟨(some 3), none, (.u (some 4) (.box 50) (.od (.t 1)))⟩,
 ⟨(some 4), none, (.a (some 6) [(.str []),(.str []),(.int .i64 (.ofNat 0)),(.int .i64 (.ofNat 0)),.nils] 50)⟩])
 (.seq (.blk 0 (.loop (.seq (.seq (.reg [⟨(some 5), none, (.u (some 14) (.un .not) (.u (some 13) .ld (.u (some 12) (.fad 3) (.u (some 11) .nck (.u (some 10) .mv (.od (.t 0)))))))⟩])
 (.cond (.t 5) (.skip)
 (.exit 0)))
 (.blk 1 (.seq (.reg [⟨(some 6), none, (.k (some 16) (.call 100) (.cons (.u (some 15) .mv (.od (.t 0))) .nil))⟩,
 ⟨(some 7), none, (.a (some 7) [(.int .i64 (.ofNat 0)),(.str []),(.str []),(.int .i64 (.ofNat 0)),(.int .i64 (.ofNat 0)),(.int .i64 (.ofNat 0)),(.int .i64 (.ofNat 0))] 95)⟩,
 ⟨none, none, (.b none false (.sta 7) (.od (.t 7)) (.od (.t 6)))⟩])
 (.blk 2 (.seq (.reg [⟨(some 8), none, (.u (some 18) .mv (.k (some 20) (.call 127) (.cons (.u (some 19) .mv (.od (.t 0))) (.cons (.od (.c (.str [91]))) .nil))))⟩])
 (.cond (.t 8) (.seq (.reg [⟨(some 9), none, (.k (some 23) (.call 85) (.cons (.u (some 21) .mv (.od (.t 0))) (.cons (.u (some 22) .mv (.od (.t 2))) .nil)))⟩,
 ⟨(some 10), none, (.a (some 8) [(.str []),(.str []),(.int .i64 (.ofNat 0)),(.int .i64 (.ofNat 0)),.nils] 50)⟩,
 ⟨none, none, (.b none false (.sta 5) (.od (.t 10)) (.od (.t 9)))⟩])
 (.seq (.reg [⟨none, none, (.k (some 25) (.call 122) (.cons (.u (some 24) .mv (.od (.t 0))) (.cons (.od (.c (.str [93]))) .nil)))⟩])
 (.reg [⟨none, none, (.b none false (.sta 5) (.od (.t 3)) (.k (some 32) (.call 123) (.cons (.u (some 26) .mv (.od (.t 0))) (.cons (.od (.c (.str [105,110,100,101,120]))) (.cons (.od (.c (.str []))) (.cons (.u (some 28) .ld (.u (some 27) (.fad 2) (.od (.t 3)))) (.cons (.k (some 31) (.bsl 5 50) (.cons (.u (some 29) (.lda 5) (.od (.t 3))) (.cons (.u (some 30) (.lda 5) (.od (.t 10))) .nil))) .nil)))))))⟩])))
 (.seq (.reg [⟨(some 11), none, (.u (some 33) .mv (.k (some 35) (.call 127) (.cons (.u (some 34) .mv (.od (.t 0))) (.cons (.od (.c (.str [40]))) .nil))))⟩])
 (.cond (.t 11) (.reg [⟨none, none, (.b none false (.sta 5) (.od (.t 3)) (.k (some 39) (.call 260) (.cons (.u (some 36) .mv (.od (.t 0))) (.cons (.u (some 37) (.lda 5) (.od (.t 3))) (.cons (.u (some 38) .mv (.od (.t 2))) .nil)))))⟩])
 (.seq (.seq (.reg [⟨(some 12), none, (.u (some 40) .mv (.k (some 42) (.call 127) (.cons (.u (some 41) .mv (.od (.t 0))) (.cons (.od (.c (.str [46]))) .nil))))⟩])
 (.cond (.t 12) (.skip)
 (.reg [⟨(some 12), none, (.u (some 40) .mv (.k (some 44) (.call 127) (.cons (.u (some 43) .mv (.od (.t 0))) (.cons (.od (.c (.str [45,62]))) .nil))))⟩])))
 (.cond (.t 12) (.seq (.reg [⟨(some 13), none, (.k (some 46) (.call 170) (.cons (.u (some 45) .mv (.od (.t 0))) (.cons (.od (.c (.str []))) .nil)))⟩,
 ⟨(some 14), none, (.a (some 9) [(.str []),(.str []),(.int .i64 (.ofNat 0)),(.int .i64 (.ofNat 0)),.nils] 50)⟩,
 ⟨none, none, (.b none false (.sta 5) (.od (.t 14)) (.od (.t 13)))⟩])
 (.reg [⟨none, none, (.b none false (.sta 5) (.od (.t 3)) (.k (some 57) (.call 123) (.cons (.u (some 47) .mv (.od (.t 0))) (.cons (.od (.c (.str [109,101,109,98,101,114]))) (.cons (.b (some 52) false (.bin .add) (.u (some 49) .ld (.u (some 48) (.fad 1) (.od (.t 7)))) (.u (some 51) .ld (.u (some 50) (.fad 1) (.od (.t 14))))) (.cons (.u (some 54) .ld (.u (some 53) (.fad 2) (.od (.t 3)))) (.cons (.k (some 56) (.bsl 5 50) (.cons (.u (some 55) (.lda 5) (.od (.t 3))) .nil)) .nil)))))))⟩]))
 (.seq (.seq (.reg [⟨(some 15), none, (.u (some 58) .mv (.k (some 60) (.call 127) (.cons (.u (some 59) .mv (.od (.t 0))) (.cons (.od (.c (.str [43,43]))) .nil))))⟩])
 (.cond (.t 15) (.skip)
 (.reg [⟨(some 15), none, (.u (some 58) .mv (.k (some 62) (.call 127) (.cons (.u (some 61) .mv (.od (.t 0))) (.cons (.od (.c (.str [45,45]))) .nil))))⟩])))
 (.cond (.t 15) (.reg [⟨none, none, (.b none false (.sta 5) (.od (.t 3)) (.k (some 70) (.call 123) (.cons (.u (some 63) .mv (.od (.t 0))) (.cons (.od (.c (.str [112,111,115,116]))) (.cons (.u (some 65) .ld (.u (some 64) (.fad 1) (.od (.t 7)))) (.cons (.u (some 67) .ld (.u (some 66) (.fad 2) (.od (.t 3)))) (.cons (.k (some 69) (.bsl 5 50) (.cons (.u (some 68) (.lda 5) (.od (.t 3))) .nil)) .nil)))))))⟩])
 (.seq (.reg [⟨none, none, (.b none false (.sta 5) (.od (.t 4)) (.u (some 17) (.lda 5) (.od (.t 3))))⟩])
 (.ret))))))))))))))))
 (.seq (.reg [⟨none, none, (.b none false (.sta 5) (.od (.t 4)) (.u (some 71) (.lda 5) (.od (.t 3))))⟩])
 (.ret))))
def lf258 : LF := ⟨16, 3, lc258, [.ca 4 5], [0,1,2,4,6,14,16,7,18,23,8,33,40,46,9,58]⟩

-- (*oxbow/express.Reader).primary
def lc259 : LC := (.seq (.reg [⟨(some 2), none, (.a (some 4) [(.str []),(.str []),(.int .i64 (.ofNat 0)),(.int .i64 (.ofNat 0)),.nils] 50)⟩])
 (.seq (.drw [⟨.p, [], ⟨(some 3), none, (.u (some 7) .mv (.od (.t 0)))⟩⟩,
 ⟨.p, [0], ⟨(some 4), none, (.u (some 8) .nck (.od (.t 3)))⟩⟩,
 ⟨.p, [0,1], ⟨(some 5), none, (.u (some 9) (.fad 1) (.od (.t 4)))⟩⟩,
 ⟨(.l 0 1), [0,1,2], ⟨(some 6), none, (.u (some 10) .ld (.od (.t 5)))⟩⟩,
 ⟨.p, [], ⟨(some 7), none, (.u (some 11) .mv (.od (.t 0)))⟩⟩,
 ⟨.m, [4], ⟨(some 8), none, (.k (some 12) (.call 100) (.cons (.od (.t 7)) .nil))⟩⟩,
 ⟨.a, [], ⟨(some 9), none, (.a (some 6) [(.int .i64 (.ofNat 0)),(.str []),(.str []),(.int .i64 (.ofNat 0)),(.int .i64 (.ofNat 0)),(.int .i64 (.ofNat 0)),(.int .i64 (.ofNat 0))] 95)⟩⟩,
 ⟨.p, [0,1,2,3,4,5,6], ⟨(some 10), none, (.u (some 5) .mv (.od (.t 6)))⟩⟩,
 ⟨.m, [0,1,2,3,4,5,6,7], ⟨none, none, (.b none false (.sta 7) (.od (.t 9)) (.od (.t 8)))⟩⟩])
 (.seq (.blk 0 (.seq (.reg [⟨(some 11), none, (.u (some 13) .mv (.gd (some 22) true false (.u (some 17) .mv (.b (some 16) false (.bin .eql) (.u (some 15) .ld (.u (some 14) (.fad 0) (.od (.t 9)))) (.od (.c (.int .i64 (.ofNat 1)))))) (.u (some 21) (.un .not) (.k (some 20) (.call 156) (.cons (.u (some 18) .mv (.od (.t 0))) (.cons (.u (some 19) (.lda 7) (.od (.t 9))) .nil))))))⟩])
 (.cond (.t 11) (.seq (.reg [⟨none, none, (.b none false (.sta 5) (.od (.t 2)) (.k (some 24) (.call 163) (.cons (.u (some 23) .mv (.od (.t 0))) (.cons (.od (.c (.str [110,97,109,101]))) .nil))))⟩])
 (.ret))
 (.seq (.reg [⟨(some 12), none, (.u (some 25) .mv (.b (some 28) false (.bin .eql) (.u (some 27) .ld (.u (some 26) (.fad 0) (.od (.t 9)))) (.od (.c (.int .i64 (.ofNat 3))))))⟩])
 (.cond (.t 12) (.seq (.reg [⟨none, none, (.b none false (.sta 5) (.od (.t 2)) (.k (some 30) (.call 163) (.cons (.u (some 29) .mv (.od (.t 0))) (.cons (.od (.c (.str [105,110,116]))) .nil))))⟩])
 (.ret))
 (.seq (.reg [⟨(some 13), none, (.u (some 31) .mv (.b (some 34) false (.bin .eql) (.u (some 33) .ld (.u (some 32) (.fad 0) (.od (.t 9)))) (.od (.c (.int .i64 (.ofNat 4))))))⟩])
 (.cond (.t 13) (.seq (.reg [⟨none, none, (.b none false (.sta 5) (.od (.t 2)) (.k (some 36) (.call 163) (.cons (.u (some 35) .mv (.od (.t 0))) (.cons (.od (.c (.str [102,108,111,97,116]))) .nil))))⟩])
 (.ret))
 (.seq (.reg [⟨(some 14), none, (.u (some 37) .mv (.b (some 40) false (.bin .eql) (.u (some 39) .ld (.u (some 38) (.fad 0) (.od (.t 9)))) (.od (.c (.int .i64 (.ofNat 5))))))⟩])
 (.cond (.t 14) (.seq (.reg [⟨none, none, (.b none false (.sta 5) (.od (.t 2)) (.k (some 42) (.call 163) (.cons (.u (some 41) .mv (.od (.t 0))) (.cons (.od (.c (.str [99,104,97,114]))) .nil))))⟩])
 (.ret))
 (.seq (.reg [⟨(some 15), none, (.u (some 43) .mv (.b (some 46) false (.bin .eql) (.u (some 45) .ld (.u (some 44) (.fad 0) (.od (.t 9)))) (.od (.c (.int .i64 (.ofNat 6))))))⟩])
 (.cond (.t 15) (.seq (.reg [⟨none, none, (.b none false (.sta 5) (.od (.t 2)) (.k (some 48) (.call 163) (.cons (.u (some 47) .mv (.od (.t 0))) (.cons (.od (.c (.str [115,116,114,105,110,103]))) .nil))))⟩])
 (.ret))
 (.seq (.reg [⟨(some 16), none, (.u (some 49) .mv (.k (some 51) (.call 168) (.cons (.u (some 50) .mv (.od (.t 0))) (.cons (.od (.c (.str [95,71,101,110,101,114,105,99]))) .nil))))⟩])
 (.cond (.t 16) (.seq (.reg [⟨none, none, (.b none false (.sta 5) (.od (.t 2)) (.k (some 55) (.call 261) (.cons (.u (some 52) .mv (.od (.t 0))) (.cons (.u (some 53) .mv (.od (.t 10))) (.cons (.u (some 54) .mv (.od (.t 1))) .nil)))))⟩])
 (.ret))
 (.seq (.reg [⟨(some 17), none, (.u (some 56) .mv (.k (some 58) (.call 127) (.cons (.u (some 57) .mv (.od (.t 0))) (.cons (.od (.c (.str [40]))) .nil))))⟩])
 (.cond (.t 17) (.seq (.reg [⟨none, none, (.b none false (.sta 5) (.od (.t 2)) (.k (some 61) (.call 85) (.cons (.u (some 59) .mv (.od (.t 0))) (.cons (.u (some 60) .mv (.od (.t 1))) .nil))))⟩])
 (.seq (.reg [⟨none, none, (.k (some 63) (.call 122) (.cons (.u (some 62) .mv (.od (.t 0))) (.cons (.od (.c (.str [41]))) .nil)))⟩])
 (.seq (.drw [⟨.p, [], ⟨(some 18), none, (.u (some 64) .mv (.od (.t 10)))⟩⟩,
 ⟨.p, [], ⟨(some 19), none, (.u (some 65) .mv (.od (.t 0)))⟩⟩,
 ⟨.p, [1], ⟨(some 20), none, (.u (some 66) .nck (.od (.t 19)))⟩⟩,
 ⟨.p, [1,2], ⟨(some 21), none, (.u (some 67) (.fad 1) (.od (.t 20)))⟩⟩,
 ⟨(.l 0 1), [1,2,3], ⟨(some 22), none, (.u (some 68) .ld (.od (.t 21)))⟩⟩,
 ⟨.p, [0], ⟨(some 23), none, (.u (some 69) (.fad 2) (.od (.t 2)))⟩⟩,
 ⟨.m, [0,5], ⟨none, none, (.b none false .st (.od (.t 23)) (.od (.t 18)))⟩⟩,
 ⟨.p, [0,1,2,3,4,5,6], ⟨(some 24), none, (.u (some 70) (.fad 3) (.od (.t 2)))⟩⟩,
 ⟨.m, [0,1,2,3,4,5,6,7], ⟨none, none, (.b none false .st (.od (.t 24)) (.od (.t 22)))⟩⟩])
 (.seq (.reg [⟨none, none, (.b none false (.sta 5) (.od (.t 2)) (.u (some 71) (.lda 5) (.od (.t 2))))⟩])
 (.ret)))))
 (.skip))))))))))))))))
 (.seq (.reg [⟨none, none, (.k (some 73) (.call 108) (.cons (.u (some 72) .mv (.od (.t 0))) .nil))⟩])
 (.seq (.reg [⟨none, none, (.b none false (.sta 5) (.od (.t 2)) (.u (some 74) (.lda 5) (.od (.t 2))))⟩])
 (.ret))))))
def lf259 : LF := ⟨25, 2, lc259, [.ca 2 5], [0,1,4,7,8,9,10,11,12,6,5,13,25,31,37,43,49,56,64,65,66,67,68,69,70]⟩

-- (*oxbow/express.Reader).call
def lc260 : LC := (.seq (.reg [⟨(some 3), none, (.u (some 4) (.box 50) (.od (.t 1)))⟩,
 ⟨(some 4), none, (.a (some 6) [(.str []),(.str []),(.int .i64 (.ofNat 0)),(.int .i64 (.ofNat 0)),.nils] 50)⟩])
 (.seq (.reg [⟨(some 5), none, (.u (some 7) .mv (.k (some 9) (.bsl 5 50) (.cons (.u (some 8) (.lda 5) (.od (.t 3))) .nil)))⟩])
 (.seq (.seq (.reg [⟨(some 6), none, (.u (some 12) (.un .not) (.k (some 11) (.call 127) (.cons (.u (some 10) .mv (.od (.t 0))) (.cons (.od (.c (.str [41]))) .nil))))⟩])
 (.cond (.t 6) (.seq (.reg [⟨(some 5), none, (.u (some 7) .mv (.b (some 18) false (.app 5 72 50) (.u (some 13) .mv (.od (.t 5))) (.k (some 17) (.bsl 5 50) (.cons (.k (some 16) (.call 138) (.cons (.u (some 14) .mv (.od (.t 0))) (.cons (.u (some 15) .mv (.od (.t 2))) .nil))) .nil))))⟩])
 (.seq (.blk 0 (.loop (.seq (.seq (.reg [⟨(some 7), none, (.k (some 20) (.call 127) (.cons (.u (some 19) .mv (.od (.t 0))) (.cons (.od (.c (.str [44]))) .nil)))⟩])
 (.cond (.t 7) (.skip)
 (.exit 0)))
 (.blk 1 (.reg [⟨(some 5), none, (.u (some 7) .mv (.b (some 26) false (.app 5 72 50) (.u (some 21) .mv (.od (.t 5))) (.k (some 25) (.bsl 5 50) (.cons (.k (some 24) (.call 138) (.cons (.u (some 22) .mv (.od (.t 0))) (.cons (.u (some 23) .mv (.od (.t 2))) .nil))) .nil))))⟩])))))
 (.reg [⟨none, none, (.k (some 28) (.call 122) (.cons (.u (some 27) .mv (.od (.t 0))) (.cons (.od (.c (.str [41]))) .nil)))⟩])))
 (.skip)))
 (.seq (.reg [⟨none, none, (.b none false (.sta 5) (.od (.t 4)) (.k (some 33) (.call 123) (.cons (.u (some 29) .mv (.od (.t 0))) (.cons (.od (.c (.str [99,97,108,108]))) (.cons (.od (.c (.str []))) (.cons (.u (some 31) .ld (.u (some 30) (.fad 2) (.od (.t 3)))) (.cons (.u (some 32) .mv (.od (.t 5))) .nil)))))))⟩])
 (.ret)))))
def lf260 : LF := ⟨8, 3, lc260, [.ca 4 5], [0,1,2,4,6,7,12,20]⟩

-- (*oxbow/express.Reader).generic
def lc261 : LC := (.seq (.reg [⟨(some 3), none, (.a (some 6) [(.str []),(.str []),(.int .i64 (.ofNat 0)),(.int .i64 (.ofNat 0)),.nils] 50)⟩])
 (.scope (.seq (.reg [⟨none, none, (.k (some 13) (.call 122) (.cons (.u (some 12) .mv (.od (.t 0))) (.cons (.od (.c (.str [40]))) .nil)))⟩])
 (.seq (.reg [⟨(some 4), none, (.u (some 7) .mv (.k (some 17) (.bsl 5 50) (.cons (.k (some 16) (.call 138) (.cons (.u (some 14) .mv (.od (.t 0))) (.cons (.u (some 15) .mv (.od (.t 2))) .nil))) .nil)))⟩])
 (.seq (.reg [⟨none, none, (.k (some 19) (.call 122) (.cons (.u (some 18) .mv (.od (.t 0))) (.cons (.od (.c (.str [44]))) .nil)))⟩])
 (.seq (.label 0)
 (.seq (.reg [⟨(some 5), none, (.u (some 8) .mv (.u (some 23) .ld (.u (some 22) (.fad 1) (.u (some 21) .nck (.u (some 20) .mv (.od (.t 0)))))))⟩])
 (.seq (.seq (.reg [⟨(some 6), none, (.k (some 25) (.call 168) (.cons (.u (some 24) .mv (.od (.t 0))) (.cons (.od (.c (.str [100,101,102,97,117,108,116]))) .nil)))⟩])
 (.cond (.t 6) (.seq (.reg [⟨none, none, (.k (some 27) (.call 122) (.cons (.u (some 26) .mv (.od (.t 0))) (.cons (.od (.c (.str [58]))) .nil)))⟩])
 (.seq (.reg [⟨(some 7), none, (.k (some 30) (.call 138) (.cons (.u (some 28) .mv (.od (.t 0))) (.cons (.u (some 29) .mv (.od (.t 2))) .nil)))⟩,
 ⟨(some 8), none, (.a (some 9) [(.str []),(.str []),(.int .i64 (.ofNat 0)),(.int .i64 (.ofNat 0)),.nils] 50)⟩,
 ⟨none, none, (.b none false (.sta 5) (.od (.t 8)) (.od (.t 7)))⟩])
 (.reg [⟨(some 4), none, (.u (some 7) .mv (.b (some 38) false (.app 5 72 50) (.u (some 31) .mv (.od (.t 4))) (.k (some 37) (.bsl 5 50) (.cons (.k (some 36) (.call 123) (.cons (.u (some 32) .mv (.od (.t 0))) (.cons (.od (.c (.str [100,101,102,97,117,108,116]))) (.cons (.od (.c (.str []))) (.cons (.u (some 33) .mv (.od (.t 5))) (.cons (.k (some 35) (.bsl 5 50) (.cons (.u (some 34) (.lda 5) (.od (.t 8))) .nil)) .nil)))))) .nil))))⟩])))
 (.seq (.reg [⟨(some 9), none, (.k (some 41) (.call 237) (.cons (.u (some 39) .mv (.od (.t 0))) (.cons (.u (some 40) .mv (.od (.t 2))) .nil)))⟩,
 ⟨(some 10), none, (.a (some 10) [(.str []),(.str []),(.int .i64 (.ofNat 0)),(.int .i64 (.ofNat 0)),.nils] 50)⟩,
 ⟨none, none, (.b none false (.sta 5) (.od (.t 10)) (.od (.t 9)))⟩])
 (.seq (.reg [⟨none, none, (.k (some 43) (.call 122) (.cons (.u (some 42) .mv (.od (.t 0))) (.cons (.od (.c (.str [58]))) .nil)))⟩])
 (.seq (.reg [⟨(some 11), none, (.k (some 46) (.call 138) (.cons (.u (some 44) .mv (.od (.t 0))) (.cons (.u (some 45) .mv (.od (.t 2))) .nil)))⟩,
 ⟨(some 12), none, (.a (some 11) [(.str []),(.str []),(.int .i64 (.ofNat 0)),(.int .i64 (.ofNat 0)),.nils] 50)⟩,
 ⟨none, none, (.b none false (.sta 5) (.od (.t 12)) (.od (.t 11)))⟩])
 (.reg [⟨(some 4), none, (.u (some 7) .mv (.b (some 55) false (.app 5 72 50) (.u (some 47) .mv (.od (.t 4))) (.k (some 54) (.bsl 5 50) (.cons (.k (some 53) (.call 123) (.cons (.u (some 48) .mv (.od (.t 0))) (.cons (.od (.c (.str [97,115,115,111,99]))) (.cons (.od (.c (.str []))) (.cons (.u (some 49) .mv (.od (.t 5))) (.cons (.k (some 52) (.bsl 5 50) (.cons (.u (some 50) (.lda 5) (.od (.t 10))) (.cons (.u (some 51) (.lda 5) (.od (.t 12))) .nil))) .nil)))))) .nil))))⟩]))))))
 (.seq (.seq (.reg [⟨(some 13), none, (.k (some 57) (.call 127) (.cons (.u (some 56) .mv (.od (.t 0))) (.cons (.od (.c (.str [44]))) .nil)))⟩])
 (.cond (.t 13) (.goto 0)
 (.skip)))
 (.seq (.reg [⟨none, none, (.k (some 59) (.call 122) (.cons (.u (some 58) .mv (.od (.t 0))) (.cons (.od (.c (.str [41]))) .nil)))⟩])
 (.seq (.reg [⟨none, none, (.b none false (.sta 5) (.od (.t 3)) (.k (some 63) (.call 123) (.cons (.u (some 60) .mv (.od (.t 0))) (.cons (.od (.c (.str [103,101,110,101,114,105,99]))) (.cons (.od (.c (.str []))) (.cons (.u (some 61) .mv (.od (.t 1))) (.cons (.u (some 62) .mv (.od (.t 4))) .nil)))))))⟩])
 (.ret))))))))))))
def lf261 : LF := ⟨14, 3, lc261, [.ca 3 5], [0,1,2,6,7,8,25,30,9,41,10,46,11,57]⟩

def fnT : Tr LF := (.nd none (.nd none (.nd (some lf3) (.nd (some lf7) (.nd (some lf15) (.nd (some lf31) (.nd (some lf63) (.nd (some lf127) .lf .lf) .lf) (.nd (some lf95) (.nd (some lf159) .lf .lf) .lf)) (.nd (some lf47) (.nd none (.nd (some lf143) .lf .lf) .lf) (.nd (some lf111) .lf (.nd (some lf239) .lf .lf)))) (.nd (some lf23) (.nd (some lf39) (.nd (some lf71) .lf .lf) (.nd (some lf103) (.nd (some lf167) .lf .lf) .lf)) (.nd (some lf55) (.nd (some lf87) (.nd (some lf151) .lf .lf) (.nd (some lf215) .lf .lf)) (.nd (some lf119) (.nd (some lf183) .lf .lf) .lf)))) (.nd (some lf11) (.nd (some lf19) (.nd (some lf35) (.nd (some lf67) (.nd (some lf131) (.nd (some lf259) .lf .lf) .lf) .lf) (.nd (some lf99) (.nd (some lf163) .lf .lf) .lf)) (.nd none (.nd none (.nd (some lf147) .lf .lf) .lf) (.nd (some lf115) .lf .lf))) (.nd (some lf27) (.nd (some lf43) (.nd (some lf75) (.nd (some lf139) .lf .lf) .lf) (.nd (some lf107) (.nd (some lf171) .lf .lf) (.nd (some lf235) .lf .lf))) (.nd (some lf59) (.nd (some lf91) (.nd (some lf155) .lf .lf) (.nd (some lf219) .lf .lf)) (.nd (some lf123) (.nd (some lf187) .lf .lf) (.nd (some lf251) .lf .lf)))))) (.nd (some lf5) (.nd (some lf9) (.nd none (.nd (some lf33) (.nd (some lf65) (.nd (some lf129) (.nd (some lf257) .lf .lf) .lf) (.nd (some lf193) .lf .lf)) (.nd (some lf97) (.nd (some lf161) .lf .lf) .lf)) (.nd (some lf49) (.nd none (.nd (some lf145) .lf .lf) .lf) (.nd (some lf113) .lf .lf))) (.nd (some lf25) (.nd (some lf41) (.nd (some lf73) .lf .lf) (.nd (some lf105) (.nd (some lf169) .lf .lf) .lf)) (.nd (some lf57) (.nd (some lf89) (.nd (some lf153) .lf .lf) (.nd (some lf217) .lf .lf)) (.nd (some lf121) (.nd (some lf185) .lf .lf) (.nd (some lf249) .lf .lf))))) (.nd (some lf13) (.nd (some lf21) (.nd (some lf37) (.nd (some lf69) (.nd none (.nd (some lf261) .lf .lf) .lf) .lf) (.nd (some lf101) (.nd (some lf165) .lf .lf) .lf)) (.nd (some lf53) (.nd (some lf85) (.nd (some lf149) .lf .lf) (.nd (some lf213) .lf .lf)) (.nd (some lf117) (.nd (some lf181) .lf .lf) .lf))) (.nd (some lf29) (.nd (some lf45) (.nd (some lf77) (.nd (some lf141) .lf .lf) .lf) (.nd (some lf109) (.nd (some lf173) .lf .lf) (.nd (some lf237) .lf .lf))) (.nd (some lf61) (.nd (some lf93) (.nd (some lf157) .lf .lf) .lf) (.nd (some lf125) (.nd (some lf189) .lf .lf) (.nd (some lf253) .lf .lf))))))) (.nd none (.nd (some lf4) (.nd (some lf8) (.nd (some lf16) (.nd (some lf32) (.nd (some lf64) (.nd (some lf128) (.nd (some lf256) .lf .lf) .lf) (.nd (some lf192) .lf .lf)) (.nd (some lf96) (.nd (some lf160) .lf .lf) .lf)) (.nd (some lf48) (.nd none (.nd (some lf144) .lf .lf) .lf) (.nd (some lf112) .lf (.nd (some lf240) .lf .lf)))) (.nd (some lf24) (.nd (some lf40) (.nd (some lf72) .lf .lf) (.nd (some lf104) (.nd (some lf168) .lf .lf) .lf)) (.nd (some lf56) (.nd (some lf88) (.nd (some lf152) .lf .lf) (.nd (some lf216) .lf .lf)) (.nd (some lf120) (.nd (some lf184) .lf .lf) .lf)))) (.nd (some lf12) (.nd (some lf20) (.nd (some lf36) (.nd (some lf68) (.nd (some lf132) (.nd (some lf260) .lf .lf) .lf) .lf) (.nd (some lf100) (.nd (some lf164) .lf .lf) .lf)) (.nd (some lf52) (.nd none (.nd (some lf148) .lf .lf) .lf) (.nd (some lf116) .lf .lf))) (.nd (some lf28) (.nd (some lf44) (.nd (some lf76) (.nd (some lf140) .lf .lf) .lf) (.nd (some lf108) (.nd (some lf172) .lf .lf) .lf)) (.nd (some lf60) (.nd (some lf92) (.nd (some lf156) .lf .lf) .lf) (.nd (some lf124) (.nd (some lf188) .lf .lf) (.nd (some lf252) .lf .lf)))))) (.nd (some lf6) (.nd (some lf10) (.nd (some lf18) (.nd (some lf34) (.nd (some lf66) (.nd (some lf130) (.nd (some lf258) .lf .lf) .lf) (.nd (some lf194) .lf .lf)) (.nd (some lf98) (.nd (some lf162) .lf .lf) .lf)) (.nd (some lf50) (.nd none (.nd (some lf146) .lf .lf) (.nd (some lf210) .lf .lf)) (.nd (some lf114) .lf .lf))) (.nd (some lf26) (.nd (some lf42) (.nd (some lf74) (.nd (some lf138) .lf .lf) .lf) (.nd (some lf106) (.nd (some lf170) .lf .lf) (.nd (some lf234) .lf .lf))) (.nd (some lf58) (.nd (some lf90) (.nd (some lf154) .lf .lf) (.nd (some lf218) .lf .lf)) (.nd (some lf122) (.nd (some lf186) .lf .lf) (.nd (some lf250) .lf .lf))))) (.nd (some lf14) (.nd (some lf22) (.nd (some lf38) (.nd (some lf70) .lf .lf) (.nd (some lf102) (.nd (some lf166) .lf .lf) .lf)) (.nd (some lf54) (.nd (some lf86) (.nd (some lf150) .lf .lf) (.nd (some lf214) .lf .lf)) (.nd (some lf118) (.nd (some lf182) .lf .lf) .lf))) (.nd (some lf30) (.nd (some lf46) (.nd none (.nd (some lf142) .lf .lf) .lf) (.nd (some lf110) .lf (.nd (some lf238) .lf .lf))) (.nd (some lf62) (.nd (some lf94) (.nd (some lf158) .lf .lf) .lf) (.nd (some lf126) (.nd (some lf190) .lf .lf) .lf)))))))

end Go.Proofs.YtmoihglcdmmmlaaGreatDoor
