/-
  The lean form of the functions' code, printed by wip/lt.py out of Lean's own print of the loaded functions.
-/
import Derived.Test.YtmoihglcdmmmlaaGreatDoorAb2
set_option maxRecDepth 100000
namespace Go.Proofs.YtmoihglcdmmmlaaGreatDoor
open Go

-- oxbow/oxbowlaw20.ExpressBinds
def lc3 : LC := (.seq (.reg [⟨(some 2), none, (.u (some 4) .mv (.od (.c (.bool false))))⟩])
 (.seq (.reg [⟨(some 3), none, (.u (some 5) .mv (.k (some 8) (.bsl 1 9) (.cons (.od (.c (.str [124,124]))) (.cons (.od (.c (.str [38,38]))) (.cons (.od (.c (.str [124]))) (.cons (.od (.c (.str [94]))) (.cons (.od (.c (.str [38]))) (.cons (.od (.c (.str [61,61]))) (.cons (.od (.c (.str [33,61]))) (.cons (.od (.c (.str [60]))) (.cons (.od (.c (.str [62]))) (.cons (.od (.c (.str [60,61]))) (.cons (.od (.c (.str [62,61]))) (.cons (.od (.c (.str [60,60]))) (.cons (.od (.c (.str [62,62]))) (.cons (.od (.c (.str [43]))) (.cons (.od (.c (.str [45]))) (.cons (.od (.c (.str [42]))) (.cons (.od (.c (.str [47]))) (.cons (.od (.c (.str [37]))) .nil))))))))))))))))))))⟩])
 (.seq (.reg [⟨(some 4), none, (.u (some 6) .mv (.k (some 9) (.bsl 1 3) (.cons (.od (.c (.int .i64 (.ofNat 0)))) (.cons (.od (.c (.int .i64 (.ofNat 1)))) (.cons (.od (.c (.int .i64 (.ofNat 2)))) (.cons (.od (.c (.int .i64 (.ofNat 3)))) (.cons (.od (.c (.int .i64 (.ofNat 4)))) (.cons (.od (.c (.int .i64 (.ofNat 5)))) (.cons (.od (.c (.int .i64 (.ofNat 5)))) (.cons (.od (.c (.int .i64 (.ofNat 6)))) (.cons (.od (.c (.int .i64 (.ofNat 6)))) (.cons (.od (.c (.int .i64 (.ofNat 6)))) (.cons (.od (.c (.int .i64 (.ofNat 6)))) (.cons (.od (.c (.int .i64 (.ofNat 7)))) (.cons (.od (.c (.int .i64 (.ofNat 7)))) (.cons (.od (.c (.int .i64 (.ofNat 8)))) (.cons (.od (.c (.int .i64 (.ofNat 8)))) (.cons (.od (.c (.int .i64 (.ofNat 9)))) (.cons (.od (.c (.int .i64 (.ofNat 9)))) (.cons (.od (.c (.int .i64 (.ofNat 9)))) .nil))))))))))))))))))))⟩])
 (.seq (.reg [⟨(some 5), none, (.b (some 13) false (.bin .rem) (.b (some 12) false (.bin .add) (.b (some 11) false (.bin .rem) (.u (some 10) .mv (.od (.t 0))) (.od (.c (.int .i64 (.ofNat 18))))) (.od (.c (.int .i64 (.ofNat 18))))) (.od (.c (.int .i64 (.ofNat 18)))))⟩,
 ⟨(some 6), none, (.b (some 17) false (.bin .rem) (.b (some 16) false (.bin .add) (.b (some 15) false (.bin .rem) (.u (some 14) .mv (.od (.t 1))) (.od (.c (.int .i64 (.ofNat 18))))) (.od (.c (.int .i64 (.ofNat 18))))) (.od (.c (.int .i64 (.ofNat 18)))))⟩,
 ⟨(some 0), none, (.u (some 0) .mv (.od (.t 5)))⟩,
 ⟨(some 1), none, (.u (some 1) .mv (.od (.t 6)))⟩])
 (.seq (.drw [⟨.p, [], ⟨(some 7), none, (.u (some 18) .mv (.od (.t 3)))⟩⟩,
 ⟨.p, [], ⟨(some 8), none, (.u (some 19) .mv (.od (.t 0)))⟩⟩,
 ⟨.p, [0,1], ⟨(some 9), none, (.b (some 20) false (.iad 1) (.od (.t 7)) (.od (.t 8)))⟩⟩,
 ⟨(.l 0 0), [0,1,2], ⟨(some 10), none, (.u (some 21) .ld (.od (.t 9)))⟩⟩,
 ⟨.p, [0,1,2,3], ⟨(some 11), none, (.b (some 22) false (.bin .add) (.od (.c (.str [120,32]))) (.od (.t 10)))⟩⟩,
 ⟨.p, [0,1,2,3,4], ⟨(some 12), none, (.b (some 23) false (.bin .add) (.od (.t 11)) (.od (.c (.str [32,121,32]))))⟩⟩,
 ⟨.p, [], ⟨(some 13), none, (.u (some 24) .mv (.od (.t 3)))⟩⟩,
 ⟨.p, [], ⟨(some 14), none, (.u (some 25) .mv (.od (.t 1)))⟩⟩,
 ⟨.p, [6,7], ⟨(some 15), none, (.b (some 26) false (.iad 1) (.od (.t 13)) (.od (.t 14)))⟩⟩,
 ⟨(.l 0 0), [6,7,8], ⟨(some 16), none, (.u (some 27) .ld (.od (.t 15)))⟩⟩,
 ⟨.p, [0,1,2,3,4,5,6,7,8,9], ⟨(some 17), none, (.b (some 28) false (.bin .add) (.od (.t 12)) (.od (.t 16)))⟩⟩,
 ⟨.p, [0,1,2,3,4,5,6,7,8,9,10], ⟨(some 18), none, (.b (some 29) false (.bin .add) (.od (.t 17)) (.od (.c (.str [32,122]))))⟩⟩,
 ⟨.m, [0,1,2,3,4,5,6,7,8,9,10,11], ⟨(some 19), none, (.k (some 30) (.call 18) (.cons (.od (.t 18)) (.cons (.od (.c .nils)) .nil)))⟩⟩,
 ⟨.p, [0,1,2,3,4,5,6,7,8,9,10,11,12], ⟨(some 20), none, (.u (some 7) .mv (.od (.t 19)))⟩⟩])
 (.seq (.seq (.drw [⟨.p, [], ⟨(some 21), none, (.u (some 31) .mv (.od (.t 4)))⟩⟩,
 ⟨.p, [], ⟨(some 22), none, (.u (some 32) .mv (.od (.t 0)))⟩⟩,
 ⟨.p, [0,1], ⟨(some 23), none, (.b (some 33) false (.iad 1) (.od (.t 21)) (.od (.t 22)))⟩⟩,
 ⟨(.l 0 0), [0,1,2], ⟨(some 24), none, (.u (some 34) .ld (.od (.t 23)))⟩⟩,
 ⟨.p, [], ⟨(some 25), none, (.u (some 35) .mv (.od (.t 4)))⟩⟩,
 ⟨.p, [], ⟨(some 26), none, (.u (some 36) .mv (.od (.t 1)))⟩⟩,
 ⟨.p, [4,5], ⟨(some 27), none, (.b (some 37) false (.iad 1) (.od (.t 25)) (.od (.t 26)))⟩⟩,
 ⟨(.l 0 0), [4,5,6], ⟨(some 28), none, (.u (some 38) .ld (.od (.t 27)))⟩⟩,
 ⟨.p, [0,1,2,3,4,5,6,7], ⟨(some 29), none, (.b (some 39) false (.bin .geq) (.od (.t 24)) (.od (.t 28)))⟩⟩])
 (.cond (.t 29) (.seq (.drw [⟨.p, [], ⟨(some 30), none, (.u (some 40) .mv (.od (.t 20)))⟩⟩,
 ⟨.p, [], ⟨(some 31), none, (.u (some 41) .mv (.od (.t 3)))⟩⟩,
 ⟨.p, [], ⟨(some 32), none, (.u (some 42) .mv (.od (.t 1)))⟩⟩,
 ⟨.p, [1,2], ⟨(some 33), none, (.b (some 43) false (.iad 1) (.od (.t 31)) (.od (.t 32)))⟩⟩,
 ⟨(.l 0 0), [1,2,3], ⟨(some 34), none, (.u (some 44) .ld (.od (.t 33)))⟩⟩,
 ⟨.p, [1,2,3,4], ⟨(some 35), none, (.b (some 45) false (.bin .add) (.od (.c (.str [40,98,105,110,97,114,121,32]))) (.od (.t 34)))⟩⟩,
 ⟨.p, [1,2,3,4,5], ⟨(some 36), none, (.b (some 46) false (.bin .add) (.od (.t 35)) (.od (.c (.str [32,40,98,105,110,97,114,121,32]))))⟩⟩,
 ⟨.p, [], ⟨(some 37), none, (.u (some 47) .mv (.od (.t 3)))⟩⟩,
 ⟨.p, [], ⟨(some 38), none, (.u (some 48) .mv (.od (.t 0)))⟩⟩,
 ⟨.p, [7,8], ⟨(some 39), none, (.b (some 49) false (.iad 1) (.od (.t 37)) (.od (.t 38)))⟩⟩,
 ⟨(.l 0 0), [7,8,9], ⟨(some 40), none, (.u (some 50) .ld (.od (.t 39)))⟩⟩,
 ⟨.p, [1,2,3,4,5,6,7,8,9,10], ⟨(some 41), none, (.b (some 51) false (.bin .add) (.od (.t 36)) (.od (.t 40)))⟩⟩,
 ⟨.p, [1,2,3,4,5,6,7,8,9,10,11], ⟨(some 42), none, (.b (some 52) false (.bin .add) (.od (.t 41)) (.od (.c (.str [32,40,110,97,109,101,32,120,41,32,40,110,97,109,101,32,121,41,41,32,40,110,97,109,101,32,122,41,41]))))⟩⟩,
 ⟨.p, [0,1,2,3,4,5,6,7,8,9,10,11,12], ⟨(some 43), none, (.b (some 53) false (.bin .eql) (.od (.t 30)) (.od (.t 42)))⟩⟩,
 ⟨.p, [0,1,2,3,4,5,6,7,8,9,10,11,12,13], ⟨(some 44), none, (.u (some 54) .mv (.od (.t 43)))⟩⟩,
 ⟨.m, [0,1,2,3,4,5,6,7,8,9,10,11,12,13,14], ⟨(some 45), some (44, true), (.k (some 55) (.call 19) .nil)⟩⟩,
 ⟨.p, [0,1,2,3,4,5,6,7,8,9,10,11,12,13,14,15], ⟨(some 46), none, (.k (some 56) .pick (.cons (.od (.t 44)) (.cons (.od (.t 45)) (.cons (.od (.c (.bool false))) .nil))))⟩⟩,
 ⟨.p, [0,1,2,3,4,5,6,7,8,9,10,11,12,13,14,15,16], ⟨(some 2), none, (.u (some 4) .mv (.od (.t 46)))⟩⟩])
 (.ret))
 (.skip)))
 (.seq (.drw [⟨.p, [], ⟨(some 47), none, (.u (some 57) .mv (.od (.t 20)))⟩⟩,
 ⟨.p, [], ⟨(some 48), none, (.u (some 58) .mv (.od (.t 3)))⟩⟩,
 ⟨.p, [], ⟨(some 49), none, (.u (some 59) .mv (.od (.t 0)))⟩⟩,
 ⟨.p, [1,2], ⟨(some 50), none, (.b (some 60) false (.iad 1) (.od (.t 48)) (.od (.t 49)))⟩⟩,
 ⟨(.l 0 0), [1,2,3], ⟨(some 51), none, (.u (some 61) .ld (.od (.t 50)))⟩⟩,
 ⟨.p, [1,2,3,4], ⟨(some 52), none, (.b (some 62) false (.bin .add) (.od (.c (.str [40,98,105,110,97,114,121,32]))) (.od (.t 51)))⟩⟩,
 ⟨.p, [1,2,3,4,5], ⟨(some 53), none, (.b (some 63) false (.bin .add) (.od (.t 52)) (.od (.c (.str [32,40,110,97,109,101,32,120,41,32,40,98,105,110,97,114,121,32]))))⟩⟩,
 ⟨.p, [], ⟨(some 54), none, (.u (some 64) .mv (.od (.t 3)))⟩⟩,
 ⟨.p, [], ⟨(some 55), none, (.u (some 65) .mv (.od (.t 1)))⟩⟩,
 ⟨.p, [7,8], ⟨(some 56), none, (.b (some 66) false (.iad 1) (.od (.t 54)) (.od (.t 55)))⟩⟩,
 ⟨(.l 0 0), [7,8,9], ⟨(some 57), none, (.u (some 67) .ld (.od (.t 56)))⟩⟩,
 ⟨.p, [1,2,3,4,5,6,7,8,9,10], ⟨(some 58), none, (.b (some 68) false (.bin .add) (.od (.t 53)) (.od (.t 57)))⟩⟩,
 ⟨.p, [1,2,3,4,5,6,7,8,9,10,11], ⟨(some 59), none, (.b (some 69) false (.bin .add) (.od (.t 58)) (.od (.c (.str [32,40,110,97,109,101,32,121,41,32,40,110,97,109,101,32,122,41,41,41]))))⟩⟩,
 ⟨.p, [0,1,2,3,4,5,6,7,8,9,10,11,12], ⟨(some 60), none, (.b (some 70) false (.bin .eql) (.od (.t 47)) (.od (.t 59)))⟩⟩,
 ⟨.p, [0,1,2,3,4,5,6,7,8,9,10,11,12,13], ⟨(some 61), none, (.u (some 71) .mv (.od (.t 60)))⟩⟩,
 ⟨.m, [0,1,2,3,4,5,6,7,8,9,10,11,12,13,14], ⟨(some 62), some (61, true), (.k (some 72) (.call 19) .nil)⟩⟩,
 ⟨.p, [0,1,2,3,4,5,6,7,8,9,10,11,12,13,14,15], ⟨(some 63), none, (.k (some 73) .pick (.cons (.od (.t 61)) (.cons (.od (.t 62)) (.cons (.od (.c (.bool false))) .nil))))⟩⟩,
 ⟨.p, [0,1,2,3,4,5,6,7,8,9,10,11,12,13,14,15,16], ⟨(some 2), none, (.u (some 4) .mv (.od (.t 63)))⟩⟩])
 (.ret))))))))
def lf3 : LF := ⟨64, 2, lc3, [.t 2], [0,1,4,5,6,13,17,18,19,20,21,22,23,24,25,26,27,28,29,30,7,31,32,33,34,35,36,37,38,39,40,41,42,43,44,45,46,47,48,49,50,51,52,53,54,55,56,57,58,59,60,61,62,63,64,65,66,67,68,69,70,71,72,73]⟩

-- oxbow/oxbowlaw20.ExpressDeep
def lc4 : LC := (.seq (.reg [⟨(some 2), none, (.u (some 4) .mv (.od (.c (.bool false))))⟩])
 (.seq (.seq (.reg [⟨(some 3), none, (.gd (some 25) false true (.u (some 22) .mv (.gd (some 21) false true (.u (some 18) .mv (.gd (some 17) false true (.u (some 14) .mv (.b (some 13) false (.bin .lss) (.u (some 12) .mv (.od (.t 0))) (.od (.c (.int .i64 (.ofNat 0)))))) (.b (some 16) false (.bin .gtr) (.u (some 15) .mv (.od (.t 0))) (.od (.c (.int .i64 (.ofNat 80))))))) (.b (some 20) false (.bin .lss) (.u (some 19) .mv (.od (.t 1))) (.od (.c (.int .i64 (.ofNat 0))))))) (.b (some 24) false (.bin .gtr) (.u (some 23) .mv (.od (.t 1))) (.od (.c (.int .i64 (.ofNat 400))))))⟩])
 (.cond (.t 3) (.seq (.reg [⟨(some 2), none, (.u (some 4) .mv (.k (some 26) (.call 19) .nil))⟩])
 (.ret))
 (.skip)))
 (.seq (.reg [⟨(some 4), none, (.u (some 5) .mv (.od (.c (.str []))))⟩])
 (.seq (.seq (.reg [⟨(some 5), none, (.u (some 6) .mv (.od (.c (.int .i64 (.ofNat 0)))))⟩])
 (.blk 0 (.loop (.seq (.seq (.reg [⟨(some 6), none, (.b (some 29) false (.bin .lss) (.u (some 27) .mv (.od (.t 5))) (.u (some 28) .mv (.od (.t 0))))⟩])
 (.cond (.t 6) (.skip)
 (.exit 0)))
 (.seq (.blk 1 (.reg [⟨(some 4), none, (.u (some 5) .mv (.b (some 33) false (.bin .add) (.u (some 32) .mv (.od (.t 4))) (.od (.c (.str [40])))))⟩]))
 (.reg [⟨(some 5), none, (.u (some 6) .mv (.b (some 31) false (.bin .add) (.u (some 30) .mv (.od (.t 5))) (.od (.c (.int .i64 (.ofNat 1))))))⟩]))))))
 (.seq (.reg [⟨(some 4), none, (.u (some 5) .mv (.b (some 35) false (.bin .add) (.u (some 34) .mv (.od (.t 4))) (.od (.c (.str [120])))))⟩])
 (.seq (.seq (.reg [⟨(some 7), none, (.u (some 7) .mv (.od (.c (.int .i64 (.ofNat 0)))))⟩])
 (.blk 2 (.loop (.seq (.seq (.reg [⟨(some 8), none, (.b (some 38) false (.bin .lss) (.u (some 36) .mv (.od (.t 7))) (.u (some 37) .mv (.od (.t 0))))⟩])
 (.cond (.t 8) (.skip)
 (.exit 2)))
 (.seq (.blk 3 (.reg [⟨(some 4), none, (.u (some 5) .mv (.b (some 42) false (.bin .add) (.u (some 41) .mv (.od (.t 4))) (.od (.c (.str [41])))))⟩]))
 (.reg [⟨(some 7), none, (.u (some 7) .mv (.b (some 40) false (.bin .add) (.u (some 39) .mv (.od (.t 7))) (.od (.c (.int .i64 (.ofNat 1))))))⟩]))))))
 (.seq (.reg [⟨(some 9), none, (.u (some 8) .mv (.od (.c (.str [40,110,97,109,101,32,120,41]))))⟩])
 (.seq (.seq (.reg [⟨(some 10), none, (.b (some 46) false (.bin .gtr) (.b (some 45) false (.bin .mul) (.od (.c (.int .i64 (.ofNat 3)))) (.b (some 44) false (.bin .add) (.u (some 43) .mv (.od (.t 0))) (.od (.c (.int .i64 (.ofNat 1)))))) (.od (.c (.int .i64 (.ofNat 200)))))⟩])
 (.cond (.t 10) (.reg [⟨(some 9), none, (.u (some 8) .mv (.od (.c (.str []))))⟩])
 (.skip)))
 (.seq (.reg [⟨(some 11), none, (.u (some 9) .mv (.od (.c (.str []))))⟩])
 (.seq (.seq (.reg [⟨(some 12), none, (.u (some 10) .mv (.od (.c (.int .i64 (.ofNat 0)))))⟩])
 (.blk 4 (.loop (.seq (.seq (.reg [⟨(some 13), none, (.b (some 49) false (.bin .lss) (.u (some 47) .mv (.od (.t 12))) (.u (some 48) .mv (.od (.t 1))))⟩])
 (.cond (.t 13) (.skip)
 (.exit 4)))
 (.seq (.blk 5 (.reg [⟨(some 11), none, (.u (some 9) .mv (.b (some 53) false (.bin .add) (.u (some 52) .mv (.od (.t 11))) (.od (.c (.str [33,32])))))⟩]))
 (.reg [⟨(some 12), none, (.u (some 10) .mv (.b (some 51) false (.bin .add) (.u (some 50) .mv (.od (.t 12))) (.od (.c (.int .i64 (.ofNat 1))))))⟩]))))))
 (.seq (.reg [⟨(some 14), none, (.u (some 11) .mv (.k (some 56) (.call 18) (.cons (.b (some 55) false (.bin .add) (.u (some 54) .mv (.od (.t 11))) (.od (.c (.str [120])))) (.cons (.od (.c .nils)) .nil))))⟩])
 (.seq (.reg [⟨(some 2), none, (.u (some 4) .mv (.gd (some 71) true false (.u (some 69) .mv (.gd (some 68) true false (.u (some 61) .mv (.b (some 60) false (.bin .eql) (.k (some 58) (.call 18) (.cons (.u (some 57) .mv (.od (.t 4))) (.cons (.od (.c .nils)) .nil))) (.u (some 59) .mv (.od (.t 9))))) (.b (some 67) false (.bin .eql) (.u (some 63) .lens (.u (some 62) .mv (.od (.t 14)))) (.b (some 66) false (.bin .add) (.od (.c (.int .i64 (.ofNat 8)))) (.b (some 65) false (.bin .mul) (.od (.c (.int .i64 (.ofNat 10)))) (.u (some 64) .mv (.od (.t 1)))))))) (.k (some 70) (.call 19) .nil)))⟩])
 (.ret)))))))))))))
def lf4 : LF := ⟨15, 2, lc4, [.t 2], [0,1,4,25,5,6,29,7,38,8,46,9,10,49,11]⟩

-- oxbow/oxbowlaw20.ExpressTypes
def lc5 : LC := (.seq (.reg [⟨(some 1), none, (.u (some 2) .mv (.od (.c (.bool false))))⟩])
 (.seq (.seq (.reg [⟨(some 2), none, (.u (some 3) .mv (.od (.c (.int .i64 (.ofNat 0)))))⟩])
 (.blk 0 (.loop (.seq (.seq (.reg [⟨(some 3), none, (.b (some 9) false (.bin .lss) (.u (some 6) .mv (.od (.t 2))) (.u (some 8) .lens (.u (some 7) .mv (.od (.t 0)))))⟩])
 (.cond (.t 3) (.skip)
 (.exit 0)))
 (.seq (.blk 1 (.seq (.reg [⟨(some 4), none, (.gd (some 21) false true (.u (some 16) .mv (.b (some 15) false (.bin .lss) (.b (some 14) false .ixs (.u (some 12) .mv (.od (.t 0))) (.u (some 13) .mv (.od (.t 2)))) (.od (.c (.int .u8 (.ofNat 65)))))) (.b (some 20) false (.bin .gtr) (.b (some 19) false .ixs (.u (some 17) .mv (.od (.t 0))) (.u (some 18) .mv (.od (.t 2)))) (.od (.c (.int .u8 (.ofNat 90))))))⟩])
 (.cond (.t 4) (.seq (.reg [⟨(some 1), none, (.u (some 2) .mv (.k (some 22) (.call 19) .nil))⟩])
 (.ret))
 (.skip))))
 (.reg [⟨(some 2), none, (.u (some 3) .mv (.b (some 11) false (.bin .add) (.u (some 10) .mv (.od (.t 2))) (.od (.c (.int .i64 (.ofNat 1))))))⟩]))))))
 (.seq (.seq (.reg [⟨(some 5), none, (.gd (some 37) false true (.u (some 34) .mv (.gd (some 33) false true (.u (some 30) .mv (.gd (some 29) false true (.u (some 25) .mv (.b (some 24) false (.bin .eql) (.u (some 23) .mv (.od (.t 0))) (.od (.c (.str []))))) (.b (some 28) false (.bin .gtr) (.u (some 27) .lens (.u (some 26) .mv (.od (.t 0)))) (.od (.c (.int .i64 (.ofNat 20))))))) (.b (some 32) false (.bin .eql) (.u (some 31) .mv (.od (.t 0))) (.od (.c (.str [76])))))) (.b (some 36) false (.bin .eql) (.u (some 35) .mv (.od (.t 0))) (.od (.c (.str [85])))))⟩])
 (.cond (.t 5) (.seq (.reg [⟨(some 1), none, (.u (some 2) .mv (.k (some 38) (.call 19) .nil))⟩])
 (.ret))
 (.skip)))
 (.seq (.reg [⟨(some 6), none, (.u (some 4) .mv (.b (some 41) false (.bin .add) (.b (some 40) false (.bin .add) (.od (.c (.str [40,110,97,109,101,32]))) (.u (some 39) .mv (.od (.t 0)))) (.od (.c (.str [41])))))⟩])
 (.seq (.reg [⟨(some 7), none, (.u (some 5) .mv (.b (some 44) false (.bin .add) (.b (some 43) false (.bin .add) (.od (.c (.str [40,116,121,112,101,110,97,109,101,32,40,115,112,101,99,115,32,40,116,121,112,101,110,97,109,101,32]))) (.u (some 42) .mv (.od (.t 0)))) (.od (.c (.str [41,41,32])))))⟩])
 (.seq (.reg [⟨(some 1), none, (.u (some 2) .mv (.gd (some 131) true false (.u (some 129) .mv (.gd (some 128) true false (.u (some 117) .mv (.gd (some 116) true false (.u (some 99) .mv (.gd (some 98) true false (.u (some 87) .mv (.gd (some 86) true false (.u (some 77) .mv (.gd (some 76) true false (.u (some 65) .mv (.gd (some 64) true false (.u (some 53) .mv (.b (some 52) false (.bin .eql) (.k (some 48) (.call 18) (.cons (.b (some 47) false (.bin .add) (.b (some 46) false (.bin .add) (.od (.c (.str [40]))) (.u (some 45) .mv (.od (.t 0)))) (.od (.c (.str [41,40,121,41])))) (.cons (.od (.c .nils)) .nil))) (.b (some 51) false (.bin .add) (.b (some 50) false (.bin .add) (.od (.c (.str [40,99,97,108,108,32]))) (.u (some 49) .mv (.od (.t 6)))) (.od (.c (.str [32,40,110,97,109,101,32,121,41,41])))))) (.b (some 63) false (.bin .eql) (.k (some 59) (.call 18) (.cons (.b (some 56) false (.bin .add) (.b (some 55) false (.bin .add) (.od (.c (.str [40]))) (.u (some 54) .mv (.od (.t 0)))) (.od (.c (.str [41,40,121,41])))) (.cons (.k (some 58) (.bsl 1 9) (.cons (.u (some 57) .mv (.od (.t 0))) .nil)) .nil))) (.b (some 62) false (.bin .add) (.b (some 61) false (.bin .add) (.od (.c (.str [40,99,97,115,116,32]))) (.u (some 60) .mv (.od (.t 7)))) (.od (.c (.str [40,110,111,110,101,41,41,32,40,110,97,109,101,32,121,41,41]))))))) (.b (some 75) false (.bin .eql) (.k (some 71) (.call 18) (.cons (.b (some 68) false (.bin .add) (.b (some 67) false (.bin .add) (.od (.c (.str [40]))) (.u (some 66) .mv (.od (.t 0)))) (.od (.c (.str [42,41,121])))) (.cons (.k (some 70) (.bsl 1 9) (.cons (.u (some 69) .mv (.od (.t 0))) .nil)) .nil))) (.b (some 74) false (.bin .add) (.b (some 73) false (.bin .add) (.od (.c (.str [40,99,97,115,116,32]))) (.u (some 72) .mv (.od (.t 7)))) (.od (.c (.str [40,112,111,105,110,116,101,114,32,40,110,111,110,101,41,41,41,32,40,110,97,109,101,32,121,41,41]))))))) (.b (some 85) false (.bin .eql) (.k (some 81) (.call 18) (.cons (.b (some 80) false (.bin .add) (.b (some 79) false (.bin .add) (.od (.c (.str [115,105,122,101,111,102,40]))) (.u (some 78) .mv (.od (.t 0)))) (.od (.c (.str [41])))) (.cons (.od (.c .nils)) .nil))) (.b (some 84) false (.bin .add) (.b (some 83) false (.bin .add) (.od (.c (.str [40,115,105,122,101,111,102,32]))) (.u (some 82) .mv (.od (.t 6)))) (.od (.c (.str [41]))))))) (.b (some 97) false (.bin .eql) (.k (some 93) (.call 18) (.cons (.b (some 90) false (.bin .add) (.b (some 89) false (.bin .add) (.od (.c (.str [115,105,122,101,111,102,40]))) (.u (some 88) .mv (.od (.t 0)))) (.od (.c (.str [41])))) (.cons (.k (some 92) (.bsl 1 9) (.cons (.u (some 91) .mv (.od (.t 0))) .nil)) .nil))) (.b (some 96) false (.bin .add) (.b (some 95) false (.bin .add) (.od (.c (.str [40,115,105,122,101,111,102,116,121,112,101,32]))) (.u (some 94) .mv (.od (.t 7)))) (.od (.c (.str [40,110,111,110,101,41,41,41]))))))) (.b (some 115) false (.bin .eql) (.k (some 108) (.call 18) (.cons (.b (some 105) false (.bin .add) (.b (some 104) false (.bin .add) (.b (some 102) false (.bin .add) (.b (some 101) false (.bin .add) (.od (.c (.str [40]))) (.u (some 100) .mv (.od (.t 0)))) (.od (.c (.str [40,42,41,40])))) (.u (some 103) .mv (.od (.t 0)))) (.od (.c (.str [44,32,46,46,46,41,41,48])))) (.cons (.k (some 107) (.bsl 1 9) (.cons (.u (some 106) .mv (.od (.t 0))) .nil)) .nil))) (.b (some 114) false (.bin .add) (.b (some 113) false (.bin .add) (.b (some 111) false (.bin .add) (.b (some 110) false (.bin .add) (.od (.c (.str [40,99,97,115,116,32]))) (.u (some 109) .mv (.od (.t 7)))) (.od (.c (.str [40,102,117,110,99,32,40,112,111,105,110,116,101,114,32,40,110,111,110,101,41,41,32,40,112,97,114,97,109,32,40,115,112,101,99,115,32,40,116,121,112,101,110,97,109,101,32])))) (.u (some 112) .mv (.od (.t 0)))) (.od (.c (.str [41,41,32,40,110,111,110,101,41,41,32,40,100,111,116,115,41,41,41,32,40,105,110,116,32,48,41,41]))))))) (.b (some 127) false (.bin .eql) (.k (some 123) (.call 18) (.cons (.b (some 120) false (.bin .add) (.b (some 119) false (.bin .add) (.od (.c (.str [40]))) (.u (some 118) .mv (.od (.t 0)))) (.od (.c (.str [41,123,49,44,32,46,97,91,50,93,32,61,32,51,125,46,98])))) (.cons (.k (some 122) (.bsl 1 9) (.cons (.u (some 121) .mv (.od (.t 0))) .nil)) .nil))) (.b (some 126) false (.bin .add) (.b (some 125) false (.bin .add) (.od (.c (.str [40,109,101,109,98,101,114,32,46,98,32,40,108,105,116,101,114,97,108,32]))) (.u (some 124) .mv (.od (.t 7)))) (.od (.c (.str [40,110,111,110,101,41,41,32,40,105,110,105,116,115,32,40,105,110,116,32,49,41,32,40,97,116,32,40,102,105,101,108,100,32,97,41,32,40,105,110,100,101,120,32,40,105,110,116,32,50,41,41,32,40,105,110,116,32,51,41,41,41,41,41]))))))) (.k (some 130) (.call 19) .nil)))⟩])
 (.ret)))))))
def lf5 : LF := ⟨8, 1, lc5, [.t 1], [0,2,3,9,21,37,4,5]⟩

-- oxbow/oxbowlaw20.ExpressForms
def lc6 : LC := (.seq (.reg [⟨(some 1), none, (.u (some 2) .mv (.od (.c (.bool false))))⟩])
 (.seq (.reg [⟨(some 2), none, (.u (some 3) .mv (.k (some 6) (.bsl 1 9) (.cons (.od (.c (.str [97,44,32,98,44,32,99]))) (.cons (.od (.c (.str [97,32,61,32,98,32,61,32,99]))) (.cons (.od (.c (.str [97,32,43,61,32,98]))) (.cons (.od (.c (.str [97,32,63,32,98,32,58,32,99,32,63,32,100,32,58,32,101]))) (.cons (.od (.c (.str [42,112,43,43]))) (.cons (.od (.c (.str [40,97,41]))) (.cons (.od (.c (.str [45,97,91,49,93,46,98,45,62,99]))) (.cons (.od (.c (.str [102,40,41]))) (.cons (.od (.c (.str [102,40,97,44,32,40,98,44,32,99,41,41]))) (.cons (.od (.c (.str [43,43,42,112]))) (.cons (.od (.c (.str [115,105,122,101,111,102,32,97]))) (.cons (.od (.c (.str [115,105,122,101,111,102,32,40,97,41]))) (.cons (.od (.c (.str [95,65,108,105,103,110,111,102,40,105,110,116,41]))) (.cons (.od (.c (.str [40,105,110,116,41,97]))) (.cons (.od (.c (.str [40,105,110,116,42,41,97]))) (.cons (.od (.c (.str [40,105,110,116,91,50,93,41,123,49,44,32,50,44,125]))) (.cons (.od (.c (.str [95,71,101,110,101,114,105,99,40,97,44,32,105,110,116,58,32,49,44,32,100,101,102,97,117,108,116,58,32,98,41]))) (.cons (.od (.c (.str [38,97,32,61,61,32,33,98]))) (.cons (.od (.c (.str [49,46,53,102,32,43,32,39,99,39]))) (.cons (.od (.c (.str [97,45,45,32,45,32,45,45,98]))) (.cons (.od (.c (.str [40,115,116,114,117,99,116,32,83,32,42,41,48]))) (.cons (.od (.c (.str [40,101,110,117,109,32,123,32,65,44,32,66,32,61,32,50,32,125,41,65]))) (.cons (.od (.c (.str [126,45,43,97]))) (.cons (.od (.c (.str [115,105,122,101,111,102,32,40,105,110,116,41,123,49,125]))) (.cons (.od (.c (.str [97,46,98,43,43]))) .nil)))))))))))))))))))))))))))⟩])
 (.seq (.reg [⟨(some 3), none, (.u (some 4) .mv (.k (some 7) (.bsl 1 9) (.cons (.od (.c (.str [40,99,111,109,109,97,32,40,99,111,109,109,97,32,40,110,97,109,101,32,97,41,32,40,110,97,109,101,32,98,41,41,32,40,110,97,109,101,32,99,41,41]))) (.cons (.od (.c (.str [40,97,115,115,105,103,110,32,61,32,40,110,97,109,101,32,97,41,32,40,97,115,115,105,103,110,32,61,32,40,110,97,109,101,32,98,41,32,40,110,97,109,101,32,99,41,41,41]))) (.cons (.od (.c (.str [40,97,115,115,105,103,110,32,43,61,32,40,110,97,109,101,32,97,41,32,40,110,97,109,101,32,98,41,41]))) (.cons (.od (.c (.str [40,99,111,110,100,32,40,110,97,109,101,32,97,41,32,40,110,97,109,101,32,98,41,32,40,99,111,110,100,32,40,110,97,109,101,32,99,41,32,40,110,97,109,101,32,100,41,32,40,110,97,109,101,32,101,41,41,41]))) (.cons (.od (.c (.str [40,117,110,97,114,121,32,42,32,40,112,111,115,116,32,43,43,32,40,110,97,109,101,32,112,41,41,41]))) (.cons (.od (.c (.str [40,110,97,109,101,32,97,41]))) (.cons (.od (.c (.str [40,117,110,97,114,121,32,45,32,40,109,101,109,98,101,114,32,45,62,99,32,40,109,101,109,98,101,114,32,46,98,32,40,105,110,100,101,120,32,40,110,97,109,101,32,97,41,32,40,105,110,116,32,49,41,41,41,41,41]))) (.cons (.od (.c (.str [40,99,97,108,108,32,40,110,97,109,101,32,102,41,41]))) (.cons (.od (.c (.str [40,99,97,108,108,32,40,110,97,109,101,32,102,41,32,40,110,97,109,101,32,97,41,32,40,99,111,109,109,97,32,40,110,97,109,101,32,98,41,32,40,110,97,109,101,32,99,41,41,41]))) (.cons (.od (.c (.str [40,112,114,101,32,43,43,32,40,117,110,97,114,121,32,42,32,40,110,97,109,101,32,112,41,41,41]))) (.cons (.od (.c (.str [40,115,105,122,101,111,102,32,40,110,97,109,101,32,97,41,41]))) (.cons (.od (.c (.str [40,115,105,122,101,111,102,32,40,110,97,109,101,32,97,41,41]))) (.cons (.od (.c (.str [40,97,108,105,103,110,111,102,32,40,116,121,112,101,110,97,109,101,32,40,115,112,101,99,115,32,40,116,121,112,101,32,105,110,116,41,41,32,40,110,111,110,101,41,41,41]))) (.cons (.od (.c (.str [40,99,97,115,116,32,40,116,121,112,101,110,97,109,101,32,40,115,112,101,99,115,32,40,116,121,112,101,32,105,110,116,41,41,32,40,110,111,110,101,41,41,32,40,110,97,109,101,32,97,41,41]))) (.cons (.od (.c (.str [40,99,97,115,116,32,40,116,121,112,101,110,97,109,101,32,40,115,112,101,99,115,32,40,116,121,112,101,32,105,110,116,41,41,32,40,112,111,105,110,116,101,114,32,40,110,111,110,101,41,41,41,32,40,110,97,109,101,32,97,41,41]))) (.cons (.od (.c (.str [40,108,105,116,101,114,97,108,32,40,116,121,112,101,110,97,109,101,32,40,115,112,101,99,115,32,40,116,121,112,101,32,105,110,116,41,41,32,40,97,114,114,97,121,32,40,110,111,110,101,41,32,40,105,110,116,32,50,41,41,41,32,40,105,110,105,116,115,32,40,105,110,116,32,49,41,32,40,105,110,116,32,50,41,41,41]))) (.cons (.od (.c (.str [40,103,101,110,101,114,105,99,32,40,110,97,109,101,32,97,41,32,40,97,115,115,111,99,32,40,116,121,112,101,110,97,109,101,32,40,115,112,101,99,115,32,40,116,121,112,101,32,105,110,116,41,41,32,40,110,111,110,101,41,41,32,40,105,110,116,32,49,41,41,32,40,100,101,102,97,117,108,116,32,40,110,97,109,101,32,98,41,41,41]))) (.cons (.od (.c (.str [40,98,105,110,97,114,121,32,61,61,32,40,117,110,97,114,121,32,38,32,40,110,97,109,101,32,97,41,41,32,40,117,110,97,114,121,32,33,32,40,110,97,109,101,32,98,41,41,41]))) (.cons (.od (.c (.str [40,98,105,110,97,114,121,32,43,32,40,102,108,111,97,116,32,49,46,53,102,41,32,40,99,104,97,114,32,39,99,39,41,41]))) (.cons (.od (.c (.str [40,98,105,110,97,114,121,32,45,32,40,112,111,115,116,32,45,45,32,40,110,97,109,101,32,97,41,41,32,40,112,114,101,32,45,45,32,40,110,97,109,101,32,98,41,41,41]))) (.cons (.od (.c (.str [40,99,97,115,116,32,40,116,121,112,101,110,97,109,101,32,40,115,112,101,99,115,32,40,115,116,114,117,99,116,32,83,41,41,32,40,112,111,105,110,116,101,114,32,40,110,111,110,101,41,41,41,32,40,105,110,116,32,48,41,41]))) (.cons (.od (.c (.str [40,99,97,115,116,32,40,116,121,112,101,110,97,109,101,32,40,115,112,101,99,115,32,40,101,110,117,109,32,40,101,110,117,109,101,114,97,116,111,114,32,65,41,32,40,101,110,117,109,101,114,97,116,111,114,32,66,32,40,105,110,116,32,50,41,41,41,41,32,40,110,111,110,101,41,41,32,40,110,97,109,101,32,65,41,41]))) (.cons (.od (.c (.str [40,117,110,97,114,121,32,126,32,40,117,110,97,114,121,32,45,32,40,117,110,97,114,121,32,43,32,40,110,97,109,101,32,97,41,41,41,41]))) (.cons (.od (.c (.str [40,115,105,122,101,111,102,32,40,108,105,116,101,114,97,108,32,40,116,121,112,101,110,97,109,101,32,40,115,112,101,99,115,32,40,116,121,112,101,32,105,110,116,41,41,32,40,110,111,110,101,41,41,32,40,105,110,105,116,115,32,40,105,110,116,32,49,41,41,41,41]))) (.cons (.od (.c (.str [40,112,111,115,116,32,43,43,32,40,109,101,109,98,101,114,32,46,98,32,40,110,97,109,101,32,97,41,41,41]))) .nil)))))))))))))))))))))))))))⟩])
 (.seq (.reg [⟨(some 4), none, (.u (some 5) .mv (.b (some 17) false (.bin .rem) (.b (some 14) false (.bin .add) (.b (some 11) false (.bin .rem) (.u (some 8) .mv (.od (.t 0))) (.u (some 10) .len (.u (some 9) .mv (.od (.t 2))))) (.u (some 13) .len (.u (some 12) .mv (.od (.t 2))))) (.u (some 16) .len (.u (some 15) .mv (.od (.t 2))))))⟩])
 (.seq (.drw [⟨.p, [], ⟨(some 5), none, (.u (some 18) .mv (.od (.t 2)))⟩⟩,
 ⟨.p, [], ⟨(some 6), none, (.u (some 19) .mv (.od (.t 4)))⟩⟩,
 ⟨.p, [0,1], ⟨(some 7), none, (.b (some 20) false (.iad 1) (.od (.t 5)) (.od (.t 6)))⟩⟩,
 ⟨(.l 0 0), [0,1,2], ⟨(some 8), none, (.u (some 21) .ld (.od (.t 7)))⟩⟩,
 ⟨.m, [0,1,2,3], ⟨(some 9), none, (.k (some 22) (.call 18) (.cons (.od (.t 8)) (.cons (.od (.c .nils)) .nil)))⟩⟩,
 ⟨.p, [], ⟨(some 10), none, (.u (some 23) .mv (.od (.t 3)))⟩⟩,
 ⟨.p, [], ⟨(some 11), none, (.u (some 24) .mv (.od (.t 4)))⟩⟩,
 ⟨.p, [5,6], ⟨(some 12), none, (.b (some 25) false (.iad 1) (.od (.t 10)) (.od (.t 11)))⟩⟩,
 ⟨(.l 0 1), [5,6,7], ⟨(some 13), none, (.u (some 26) .ld (.od (.t 12)))⟩⟩,
 ⟨.p, [0,1,2,3,4,5,6,7,8], ⟨(some 14), none, (.b (some 27) false (.bin .eql) (.od (.t 9)) (.od (.t 13)))⟩⟩,
 ⟨.p, [0,1,2,3,4,5,6,7,8,9], ⟨(some 15), none, (.u (some 28) .mv (.od (.t 14)))⟩⟩,
 ⟨.m, [0,1,2,3,4,5,6,7,8,9,10], ⟨(some 16), some (15, true), (.k (some 29) (.call 19) .nil)⟩⟩,
 ⟨.p, [0,1,2,3,4,5,6,7,8,9,10,11], ⟨(some 17), none, (.k (some 30) .pick (.cons (.od (.t 15)) (.cons (.od (.t 16)) (.cons (.od (.c (.bool false))) .nil))))⟩⟩,
 ⟨.p, [0,1,2,3,4,5,6,7,8,9,10,11,12], ⟨(some 1), none, (.u (some 2) .mv (.od (.t 17)))⟩⟩])
 (.ret))))))
def lf6 : LF := ⟨18, 1, lc6, [.t 1], [0,2,3,4,5,18,19,20,21,22,23,24,25,26,27,28,29,30]⟩

-- oxbow/oxbowlaw20.ExpressStarts
def lc7 : LC := (.seq (.reg [⟨(some 2), none, (.u (some 4) .mv (.od (.c (.bool false))))⟩])
 (.seq (.seq (.reg [⟨(some 3), none, (.u (some 15) (.un .not) (.k (some 14) (.call 20) (.cons (.u (some 12) .mv (.od (.t 1))) (.cons (.u (some 13) .mv (.od (.t 0))) .nil))))⟩])
 (.cond (.t 3) (.seq (.reg [⟨(some 2), none, (.u (some 4) .mv (.k (some 16) (.call 19) .nil))⟩])
 (.ret))
 (.skip)))
 (.seq (.reg [⟨(some 4), none, (.u (some 17) .mv (.k (some 19) (.call 21) (.cons (.u (some 18) .mv (.od (.t 1))) .nil)))⟩,
 ⟨(some 5), none, (.u (some 20) (.ext 0) (.od (.t 4)))⟩,
 ⟨(some 6), none, (.u (some 21) (.ext 1) (.od (.t 4)))⟩,
 ⟨(some 7), none, (.u (some 22) (.ext 2) (.od (.t 4)))⟩,
 ⟨(some 8), none, (.a (some 6) [.nils] 34)⟩,
 ⟨(some 9), none, (.u (some 5) .mv (.od (.t 5)))⟩,
 ⟨none, none, (.b none false (.sta 1) (.od (.t 8)) (.od (.t 6)))⟩,
 ⟨(some 10), none, (.u (some 7) .mv (.od (.t 7)))⟩])
 (.seq (.seq (.reg [⟨(some 11), none, (.u (some 24) (.un .not) (.u (some 23) .mv (.od (.t 10))))⟩])
 (.cond (.t 11) (.seq (.reg [⟨(some 2), none, (.u (some 4) .mv (.od (.c (.bool false))))⟩])
 (.ret))
 (.skip)))
 (.seq (.reg [⟨(some 12), none, (.u (some 8) .mv (.k (some 26) (.call 22) (.cons (.u (some 25) .mv (.od (.t 0))) .nil)))⟩])
 (.seq (.reg [⟨(some 13), none, (.u (some 9) .mv (.k (some 28) (.call 23) (.cons (.u (some 27) .mv (.od (.t 12))) .nil)))⟩])
 (.seq (.seq (.reg [⟨(some 14), none, (.u (some 10) .mv (.od (.c (.int .i64 (.negSucc 0)))))⟩])
 (.blk 0 (.loop (.seq (.seq (.reg [⟨(some 15), none, (.b (some 32) false (.bin .leq) (.u (some 29) .mv (.od (.t 14))) (.u (some 31) .len (.u (some 30) .mv (.od (.t 12)))))⟩])
 (.cond (.t 15) (.skip)
 (.exit 0)))
 (.seq (.blk 1 (.seq (.reg [⟨(some 16), none, (.u (some 11) .mv (.u (some 39) (.box 43) (.k (some 38) (.build [.nils,(.int .i64 (.ofNat 0)),.nils,(.int .i64 (.ofNat 0)),(.bool false)] [(0,1),(1,1),(2,1)]) (.cons (.u (some 35) .mv (.od (.t 12))) (.cons (.u (some 36) .mv (.od (.t 14))) (.cons (.u (some 37) (.lda 1) (.od (.t 8))) .nil))))))⟩])
 (.seq (.reg [⟨(some 17), none, (.b (some 47) false (.eqb true) (.k (some 44) (.call 24) (.cons (.k (some 43) (.build [.nils,(.int .i64 (.ofNat 0)),.nilp,(.int .i64 (.ofNat 0))] [(0,1),(1,1),(2,1)]) (.cons (.u (some 40) .mv (.od (.t 13))) (.cons (.u (some 41) .mv (.od (.t 14))) (.cons (.u (some 42) .mv (.od (.t 9))) .nil)))) .nil)) (.k (some 46) (.call 25) (.cons (.u (some 45) .mv (.od (.t 16))) .nil)))⟩])
 (.cond (.t 17) (.seq (.reg [⟨(some 2), none, (.u (some 4) .mv (.od (.c (.bool false))))⟩])
 (.ret))
 (.skip)))))
 (.reg [⟨(some 14), none, (.u (some 10) .mv (.b (some 34) false (.bin .add) (.u (some 33) .mv (.od (.t 14))) (.od (.c (.int .i64 (.ofNat 1))))))⟩]))))))
 (.seq (.reg [⟨(some 2), none, (.u (some 4) .mv (.k (some 48) (.call 19) .nil))⟩])
 (.ret)))))))))
def lf7 : LF := ⟨18, 2, lc7, [.t 2], [0,1,4,15,17,20,21,22,6,5,7,24,8,9,10,32,11,47]⟩

-- oxbow/oxbowlaw20.ExpressDeclares
def lc8 : LC := (.seq (.reg [⟨(some 1), none, (.u (some 2) .mv (.od (.c (.bool false))))⟩])
 (.seq (.reg [⟨(some 2), none, (.u (some 3) .mv (.k (some 10) (.bsl 1 9) (.cons (.od (.c (.str [97]))) (.cons (.od (.c (.str [42,97]))) (.cons (.od (.c (.str [42,32,99,111,110,115,116,32,118,111,108,97,116,105,108,101,32,97]))) (.cons (.od (.c (.str [42,42,97]))) (.cons (.od (.c (.str [40,97,41]))) (.cons (.od (.c (.str [42,97,91,50,93]))) (.cons (.od (.c (.str [40,42,97,41,91,50,93]))) (.cons (.od (.c (.str [97,91,50,93,91,51,93]))) (.cons (.od (.c (.str [97,40,41]))) (.cons (.od (.c (.str [97,40,118,111,105,100,41]))) (.cons (.od (.c (.str [97,40,105,110,116,32,98,41]))) (.cons (.od (.c (.str [97,40,105,110,116,44,32,99,104,97,114,32,42,41]))) (.cons (.od (.c (.str [97,40,105,110,116,32,98,44,32,46,46,46,41]))) (.cons (.od (.c (.str [97,40,98,44,32,99,41]))) (.cons (.od (.c (.str [40,42,97,41,40,105,110,116,32,40,42,98,41,40,118,111,105,100,41,41]))) (.cons (.od (.c (.str [97,91,115,116,97,116,105,99,32,50,93]))) (.cons (.od (.c (.str [97,91,99,111,110,115,116,32,42,93]))) (.cons (.od (.c (.str [97,91,93]))) (.cons (.od (.c (.str [42,40,42,97,40,105,110,116,32,98,41,41,91,51,93]))) (.cons (.od (.c (.str [97,40,105,110,116,32,40,98,41,41]))) (.cons (.od (.c (.str [97,40,105,110,116,32,40,42,41,40,105,110,116,41,41]))) .nil)))))))))))))))))))))))⟩])
 (.seq (.reg [⟨(some 3), none, (.u (some 4) .mv (.k (some 11) (.bsl 1 9) (.cons (.od (.c (.str [40,110,97,109,101,32,97,41]))) (.cons (.od (.c (.str [40,112,111,105,110,116,101,114,32,40,110,97,109,101,32,97,41,41]))) (.cons (.od (.c (.str [40,112,111,105,110,116,101,114,32,40,113,117,97,108,105,102,105,101,114,32,99,111,110,115,116,41,32,40,113,117,97,108,105,102,105,101,114,32,118,111,108,97,116,105,108,101,41,32,40,110,97,109,101,32,97,41,41]))) (.cons (.od (.c (.str [40,112,111,105,110,116,101,114,32,40,112,111,105,110,116,101,114,32,40,110,97,109,101,32,97,41,41,41]))) (.cons (.od (.c (.str [40,110,97,109,101,32,97,41]))) (.cons (.od (.c (.str [40,112,111,105,110,116,101,114,32,40,97,114,114,97,121,32,40,110,97,109,101,32,97,41,32,40,105,110,116,32,50,41,41,41]))) (.cons (.od (.c (.str [40,97,114,114,97,121,32,40,112,111,105,110,116,101,114,32,40,110,97,109,101,32,97,41,41,32,40,105,110,116,32,50,41,41]))) (.cons (.od (.c (.str [40,97,114,114,97,121,32,40,97,114,114,97,121,32,40,110,97,109,101,32,97,41,32,40,105,110,116,32,50,41,41,32,40,105,110,116,32,51,41,41]))) (.cons (.od (.c (.str [40,102,117,110,99,32,40,110,97,109,101,32,97,41,41]))) (.cons (.od (.c (.str [40,102,117,110,99,32,40,110,97,109,101,32,97,41,41]))) (.cons (.od (.c (.str [40,102,117,110,99,32,40,110,97,109,101,32,97,41,32,40,112,97,114,97,109,32,40,115,112,101,99,115,32,40,116,121,112,101,32,105,110,116,41,41,32,40,110,97,109,101,32,98,41,41,41]))) (.cons (.od (.c (.str [40,102,117,110,99,32,40,110,97,109,101,32,97,41,32,40,112,97,114,97,109,32,40,115,112,101,99,115,32,40,116,121,112,101,32,105,110,116,41,41,32,40,110,111,110,101,41,41,32,40,112,97,114,97,109,32,40,115,112,101,99,115,32,40,116,121,112,101,32,99,104,97,114,41,41,32,40,112,111,105,110,116,101,114,32,40,110,111,110,101,41,41,41,41]))) (.cons (.od (.c (.str [40,102,117,110,99,32,40,110,97,109,101,32,97,41,32,40,112,97,114,97,109,32,40,115,112,101,99,115,32,40,116,121,112,101,32,105,110,116,41,41,32,40,110,97,109,101,32,98,41,41,32,40,100,111,116,115,41,41]))) (.cons (.od (.c (.str [40,102,117,110,99,32,40,110,97,109,101,32,97,41,32,40,105,100,32,98,41,32,40,105,100,32,99,41,41]))) (.cons (.od (.c (.str [40,102,117,110,99,32,40,112,111,105,110,116,101,114,32,40,110,97,109,101,32,97,41,41,32,40,112,97,114,97,109,32,40,115,112,101,99,115,32,40,116,121,112,101,32,105,110,116,41,41,32,40,102,117,110,99,32,40,112,111,105,110,116,101,114,32,40,110,97,109,101,32,98,41,41,41,41,41]))) (.cons (.od (.c (.str [40,97,114,114,97,121,32,40,110,97,109,101,32,97,41,32,40,105,110,116,32,50,41,41]))) (.cons (.od (.c (.str [40,97,114,114,97,121,32,40,110,97,109,101,32,97,41,32,40,115,116,97,114,41,41]))) (.cons (.od (.c (.str [40,97,114,114,97,121,32,40,110,97,109,101,32,97,41,41]))) (.cons (.od (.c (.str [40,112,111,105,110,116,101,114,32,40,97,114,114,97,121,32,40,112,111,105,110,116,101,114,32,40,102,117,110,99,32,40,110,97,109,101,32,97,41,32,40,112,97,114,97,109,32,40,115,112,101,99,115,32,40,116,121,112,101,32,105,110,116,41,41,32,40,110,97,109,101,32,98,41,41,41,41,32,40,105,110,116,32,51,41,41,41]))) (.cons (.od (.c (.str [40,102,117,110,99,32,40,110,97,109,101,32,97,41,32,40,112,97,114,97,109,32,40,115,112,101,99,115,32,40,116,121,112,101,32,105,110,116,41,41,32,40,110,97,109,101,32,98,41,41,41]))) (.cons (.od (.c (.str [40,102,117,110,99,32,40,110,97,109,101,32,97,41,32,40,112,97,114,97,109,32,40,115,112,101,99,115,32,40,116,121,112,101,32,105,110,116,41,41,32,40,102,117,110,99,32,40,112,111,105,110,116,101,114,32,40,110,111,110,101,41,41,32,40,112,97,114,97,109,32,40,115,112,101,99,115,32,40,116,121,112,101,32,105,110,116,41,41,32,40,110,111,110,101,41,41,41,41,41]))) .nil)))))))))))))))))))))))⟩])
 (.seq (.reg [⟨(some 4), none, (.u (some 5) .mv (.b (some 21) false (.bin .rem) (.b (some 18) false (.bin .add) (.b (some 15) false (.bin .rem) (.u (some 12) .mv (.od (.t 0))) (.u (some 14) .len (.u (some 13) .mv (.od (.t 2))))) (.u (some 17) .len (.u (some 16) .mv (.od (.t 2))))) (.u (some 20) .len (.u (some 19) .mv (.od (.t 2))))))⟩])
 (.seq (.reg [⟨(some 5), none, (.u (some 6) .mv (.k (some 26) (.call 22) (.cons (.u (some 25) .ld (.b (some 24) false (.iad 1) (.u (some 22) .mv (.od (.t 2))) (.u (some 23) .mv (.od (.t 4))))) .nil)))⟩])
 (.seq (.reg [⟨(some 6), none, (.u (some 27) .mv (.k (some 32) (.call 26) (.cons (.k (some 31) (.build [.nils,(.int .i64 (.ofNat 0)),.nilp,(.int .i64 (.ofNat 0))] [(0,1),(2,1)]) (.cons (.k (some 29) (.call 23) (.cons (.u (some 28) .mv (.od (.t 5))) .nil)) (.cons (.k (some 30) (.call 27) .nil) .nil))) (.cons (.od (.c (.int .i64 (.ofNat 0)))) .nil))))⟩,
 ⟨(some 7), none, (.u (some 33) (.ext 0) (.od (.t 6)))⟩,
 ⟨(some 8), none, (.u (some 34) (.ext 1) (.od (.t 6)))⟩,
 ⟨(some 9), none, (.u (some 35) (.ext 2) (.od (.t 6)))⟩,
 ⟨(some 10), none, (.a (some 7) [(.str []),(.str []),(.int .i64 (.ofNat 0)),(.int .i64 (.ofNat 0)),.nils] 50)⟩,
 ⟨(some 11), none, (.a (some 8) [.nils,(.int .i64 (.ofNat 0)),.nilp,(.int .i64 (.ofNat 0))] 46)⟩,
 ⟨none, none, (.b none false (.sta 5) (.od (.t 10)) (.od (.t 7)))⟩,
 ⟨none, none, (.b none false (.sta 4) (.od (.t 11)) (.od (.t 8)))⟩,
 ⟨(some 12), none, (.u (some 9) .mv (.od (.t 9)))⟩])
 (.seq (.drw [⟨.p, [], ⟨(some 13), none, (.u (some 36) .mv (.od (.t 12)))⟩⟩,
 ⟨.p, [0], ⟨(some 14), none, (.u (some 37) .mv (.od (.t 13)))⟩⟩,
 ⟨.p, [0,1], ⟨(some 15), some (14, true), (.u (some 38) (.fad 1) (.od (.t 11)))⟩⟩,
 ⟨(.l 0 0), [0,1,2], ⟨(some 16), some (14, true), (.u (some 39) .ld (.od (.t 15)))⟩⟩,
 ⟨.p, [0,1], ⟨(some 17), some (14, true), (.u (some 40) .mv (.od (.t 5)))⟩⟩,
 ⟨.p, [0,1,4], ⟨(some 18), some (14, true), (.u (some 41) .len (.od (.t 17)))⟩⟩,
 ⟨.p, [0,1,4,5], ⟨(some 19), some (14, true), (.b (some 42) false (.bin .sub) (.od (.t 18)) (.od (.c (.int .i64 (.ofNat 1)))))⟩⟩,
 ⟨.p, [0,1,2,3,4,5,6], ⟨(some 20), some (14, true), (.b (some 43) false (.bin .eql) (.od (.t 16)) (.od (.t 19)))⟩⟩,
 ⟨.p, [0,1,2,3,4,5,6,7], ⟨(some 21), none, (.k (some 44) .pick (.cons (.od (.t 14)) (.cons (.od (.t 20)) (.cons (.od (.c (.bool false))) .nil))))⟩⟩,
 ⟨.p, [0,1,2,3,4,5,6,7,8], ⟨(some 22), none, (.u (some 45) .mv (.od (.t 21)))⟩⟩,
 ⟨(.l 0 0), [0,1,2,3,4,5,6,7,8,9], ⟨(some 23), some (22, true), (.u (some 46) (.lda 5) (.od (.t 10)))⟩⟩,
 ⟨.m, [0,1,2,3,4,5,6,7,8,9,10], ⟨(some 24), some (22, true), (.k (some 47) (.call 28) (.cons (.od (.t 23)) .nil))⟩⟩,
 ⟨.p, [0,1,2,3,4,5,6,7,8,9], ⟨(some 25), some (22, true), (.u (some 48) .mv (.od (.t 3)))⟩⟩,
 ⟨.p, [0,1,2,3,4,5,6,7,8,9], ⟨(some 26), some (22, true), (.u (some 49) .mv (.od (.t 4)))⟩⟩,
 ⟨.p, [0,1,2,3,4,5,6,7,8,9,12,13], ⟨(some 27), some (22, true), (.b (some 50) false (.iad 1) (.od (.t 25)) (.od (.t 26)))⟩⟩,
 ⟨(.l 0 1), [0,1,2,3,4,5,6,7,8,9,12,13,14], ⟨(some 28), some (22, true), (.u (some 51) .ld (.od (.t 27)))⟩⟩,
 ⟨.p, [0,1,2,3,4,5,6,7,8,9,10,11,12,13,14,15], ⟨(some 29), some (22, true), (.b (some 52) false (.bin .eql) (.od (.t 24)) (.od (.t 28)))⟩⟩,
 ⟨.p, [0,1,2,3,4,5,6,7,8,9,10,11,12,13,14,15,16], ⟨(some 30), none, (.k (some 53) .pick (.cons (.od (.t 22)) (.cons (.od (.t 29)) (.cons (.od (.c (.bool false))) .nil))))⟩⟩,
 ⟨.p, [0,1,2,3,4,5,6,7,8,9,10,11,12,13,14,15,16,17], ⟨(some 31), none, (.u (some 54) .mv (.od (.t 30)))⟩⟩,
 ⟨(.l 1 1), [0,1,2,3,4,5,6,7,8,9,10,11,12,13,14,15,16,17,18], ⟨(some 32), some (31, true), (.u (some 55) (.lda 5) (.od (.t 10)))⟩⟩,
 ⟨.m, [0,1,2,3,4,5,6,7,8,9,10,11,12,13,14,15,16,17,18,19], ⟨(some 33), some (31, true), (.k (some 56) (.call 29) (.cons (.od (.t 32)) .nil))⟩⟩,
 ⟨.p, [0,1,2,3,4,5,6,7,8,9,10,11,12,13,14,15,16,17,18,19,20], ⟨(some 34), some (31, true), (.b (some 57) false (.bin .eql) (.od (.t 33)) (.od (.c (.str [97]))))⟩⟩,
 ⟨.p, [0,1,2,3,4,5,6,7,8,9,10,11,12,13,14,15,16,17,18,19,20,21], ⟨(some 35), none, (.k (some 58) .pick (.cons (.od (.t 31)) (.cons (.od (.t 34)) (.cons (.od (.c (.bool false))) .nil))))⟩⟩,
 ⟨.p, [0,1,2,3,4,5,6,7,8,9,10,11,12,13,14,15,16,17,18,19,20,21,22], ⟨(some 36), none, (.u (some 59) .mv (.od (.t 35)))⟩⟩,
 ⟨.m, [0,1,2,3,4,5,6,7,8,9,10,11,12,13,14,15,16,17,18,19,20,21,22,23], ⟨(some 37), some (36, true), (.k (some 60) (.call 19) .nil)⟩⟩,
 ⟨.p, [0,1,2,3,4,5,6,7,8,9,10,11,12,13,14,15,16,17,18,19,20,21,22,23,24], ⟨(some 38), none, (.k (some 61) .pick (.cons (.od (.t 36)) (.cons (.od (.t 37)) (.cons (.od (.c (.bool false))) .nil))))⟩⟩,
 ⟨.p, [0,1,2,3,4,5,6,7,8,9,10,11,12,13,14,15,16,17,18,19,20,21,22,23,24,25], ⟨(some 1), none, (.u (some 2) .mv (.od (.t 38)))⟩⟩])
 (.ret))))))))
def lf8 : LF := ⟨39, 1, lc8, [.t 1], [0,2,3,4,5,6,27,33,34,35,7,8,9,36,37,38,39,40,41,42,43,44,45,46,47,48,49,50,51,52,53,54,55,56,57,58,59,60,61]⟩

-- oxbow/oxbowlaw21.DeclareElse
def lc9 : LC := (.seq (.reg [⟨(some 2), none, (.u (some 4) .mv (.od (.c (.bool false))))⟩])
 (.seq (.seq (.reg [⟨(some 3), none, (.gd (some 23) false true (.u (some 19) .mv (.gd (some 18) false true (.u (some 15) .mv (.gd (some 14) false true (.u (some 11) .mv (.b (some 10) false (.bin .lss) (.u (some 9) .mv (.od (.t 0))) (.od (.c (.int .i64 (.ofNat 1)))))) (.b (some 13) false (.bin .gtr) (.u (some 12) .mv (.od (.t 0))) (.od (.c (.int .i64 (.ofNat 30))))))) (.b (some 17) false (.bin .lss) (.u (some 16) .mv (.od (.t 1))) (.od (.c (.int .i64 (.ofNat 0))))))) (.b (some 22) false (.bin .gtr) (.u (some 20) .mv (.od (.t 1))) (.u (some 21) .mv (.od (.t 0)))))⟩])
 (.cond (.t 3) (.seq (.reg [⟨(some 2), none, (.u (some 4) .mv (.k (some 24) (.call 30) .nil))⟩])
 (.ret))
 (.skip)))
 (.seq (.reg [⟨(some 4), none, (.u (some 5) .mv (.od (.c (.str []))))⟩])
 (.seq (.seq (.reg [⟨(some 5), none, (.u (some 6) .mv (.od (.c (.int .i64 (.ofNat 0)))))⟩])
 (.blk 0 (.loop (.seq (.seq (.reg [⟨(some 6), none, (.b (some 27) false (.bin .lss) (.u (some 25) .mv (.od (.t 5))) (.u (some 26) .mv (.od (.t 0))))⟩])
 (.cond (.t 6) (.skip)
 (.exit 0)))
 (.seq (.blk 1 (.reg [⟨(some 4), none, (.u (some 5) .mv (.b (some 31) false (.bin .add) (.u (some 30) .mv (.od (.t 4))) (.od (.c (.str [105,102,32,40,97,41,32])))))⟩]))
 (.reg [⟨(some 5), none, (.u (some 6) .mv (.b (some 29) false (.bin .add) (.u (some 28) .mv (.od (.t 5))) (.od (.c (.int .i64 (.ofNat 1))))))⟩]))))))
 (.seq (.reg [⟨(some 4), none, (.u (some 5) .mv (.b (some 33) false (.bin .add) (.u (some 32) .mv (.od (.t 4))) (.od (.c (.str [98,59])))))⟩])
 (.seq (.reg [⟨(some 7), none, (.u (some 7) .mv (.od (.c (.str [40,101,120,112,114,32,40,110,97,109,101,32,98,41,41]))))⟩])
 (.seq (.seq (.reg [⟨(some 8), none, (.u (some 8) .mv (.od (.c (.int .i64 (.ofNat 0)))))⟩])
 (.blk 2 (.loop (.seq (.seq (.reg [⟨(some 9), none, (.b (some 36) false (.bin .lss) (.u (some 34) .mv (.od (.t 8))) (.u (some 35) .mv (.od (.t 0))))⟩])
 (.cond (.t 9) (.skip)
 (.exit 2)))
 (.seq (.blk 3 (.seq (.reg [⟨(some 10), none, (.b (some 41) false (.bin .lss) (.u (some 39) .mv (.od (.t 8))) (.u (some 40) .mv (.od (.t 1))))⟩])
 (.cond (.t 10) (.seq (.reg [⟨(some 4), none, (.u (some 5) .mv (.b (some 43) false (.bin .add) (.u (some 42) .mv (.od (.t 4))) (.od (.c (.str [32,101,108,115,101,32,99,59])))))⟩])
 (.reg [⟨(some 7), none, (.u (some 7) .mv (.b (some 46) false (.bin .add) (.b (some 45) false (.bin .add) (.od (.c (.str [40,105,102,32,40,110,97,109,101,32,97,41,32]))) (.u (some 44) .mv (.od (.t 7)))) (.od (.c (.str [32,40,101,120,112,114,32,40,110,97,109,101,32,99,41,41,41])))))⟩]))
 (.reg [⟨(some 7), none, (.u (some 7) .mv (.b (some 49) false (.bin .add) (.b (some 48) false (.bin .add) (.od (.c (.str [40,105,102,32,40,110,97,109,101,32,97,41,32]))) (.u (some 47) .mv (.od (.t 7)))) (.od (.c (.str [41])))))⟩]))))
 (.reg [⟨(some 8), none, (.u (some 8) .mv (.b (some 38) false (.bin .add) (.u (some 37) .mv (.od (.t 8))) (.od (.c (.int .i64 (.ofNat 1))))))⟩]))))))
 (.seq (.reg [⟨(some 2), none, (.u (some 4) .mv (.gd (some 60) true false (.u (some 58) .mv (.gd (some 57) true false (.u (some 54) .mv (.b (some 53) false (.bin .eql) (.k (some 51) (.call 31) (.cons (.u (some 50) .mv (.od (.t 4))) (.cons (.od (.c .nils)) .nil))) (.u (some 52) .mv (.od (.t 7))))) (.b (some 56) false (.bin .eql) (.k (some 55) (.call 31) (.cons (.od (.c (.str [120,58,32,99,97,115,101,32,49,58,32,100,101,102,97,117,108,116,58,32,119,104,105,108,101,32,40,97,41,32,100,111,32,59,32,119,104,105,108,101,32,40,98,41,59,32]))) (.cons (.od (.c .nils)) .nil))) (.od (.c (.str [40,108,97,98,101,108,32,120,32,40,99,97,115,101,32,40,105,110,116,32,49,41,32,40,100,101,102,97,117,108,116,32,40,119,104,105,108,101,32,40,110,97,109,101,32,97,41,32,40,100,111,32,40,101,109,112,116,121,41,32,40,110,97,109,101,32,98,41,41,41,41,41,41])))))) (.k (some 59) (.call 30) .nil)))⟩])
 (.ret)))))))))
def lf9 : LF := ⟨11, 2, lc9, [.t 2], [0,1,4,23,5,6,27,7,8,36,41]⟩

-- oxbow/oxbowlaw21.DeclareForms
def lc10 : LC := (.seq (.reg [⟨(some 1), none, (.u (some 2) .mv (.od (.c (.bool false))))⟩])
 (.seq (.reg [⟨(some 2), none, (.u (some 3) .mv (.k (some 6) (.bsl 1 9) (.cons (.od (.c (.str [59]))) (.cons (.od (.c (.str [97,59]))) (.cons (.od (.c (.str [123,32,125]))) (.cons (.od (.c (.str [123,32,97,59,32,59,32,125]))) (.cons (.od (.c (.str [120,58,32,97,59]))) (.cons (.od (.c (.str [99,97,115,101,32,49,58,32,97,59]))) (.cons (.od (.c (.str [100,101,102,97,117,108,116,58,32,59]))) (.cons (.od (.c (.str [105,102,32,40,97,41,32,98,59]))) (.cons (.od (.c (.str [115,119,105,116,99,104,32,40,97,41,32,98,59]))) (.cons (.od (.c (.str [119,104,105,108,101,32,40,97,41,32,59]))) (.cons (.od (.c (.str [100,111,32,97,59,32,119,104,105,108,101,32,40,98,41,59]))) (.cons (.od (.c (.str [102,111,114,32,40,97,59,32,98,59,32,99,41,32,100,59]))) (.cons (.od (.c (.str [102,111,114,32,40,105,110,116,32,105,32,61,32,48,59,59,41,32,59]))) (.cons (.od (.c (.str [103,111,116,111,32,120,59]))) (.cons (.od (.c (.str [99,111,110,116,105,110,117,101,59]))) (.cons (.od (.c (.str [98,114,101,97,107,59]))) (.cons (.od (.c (.str [114,101,116,117,114,110,59]))) (.cons (.od (.c (.str [114,101,116,117,114,110,32,97,44,32,98,59]))) (.cons (.od (.c (.str [123,32,105,110,116,32,97,59,32,125]))) (.cons (.od (.c (.str [123,32,105,110,116,32,97,32,61,32,49,44,32,42,98,59,32,125]))) (.cons (.od (.c (.str [123,32,105,110,116,32,97,91,93,32,61,32,123,32,91,49,93,32,61,32,50,44,32,46,120,32,61,32,123,32,51,32,125,32,125,59,32,125]))) (.cons (.od (.c (.str [123,32,115,116,114,117,99,116,32,83,32,123,32,105,110,116,32,97,32,58,32,51,44,32,58,32,48,59,32,125,32,115,59,32,125]))) (.cons (.od (.c (.str [123,32,101,110,117,109,32,69,32,123,32,65,32,125,32,101,59,32,125]))) (.cons (.od (.c (.str [123,32,95,83,116,97,116,105,99,95,97,115,115,101,114,116,40,49,44,32,34,109,34,41,59,32,125]))) (.cons (.od (.c (.str [123,32,115,116,97,116,105,99,32,99,111,110,115,116,32,105,110,116,32,120,59,32,125]))) .nil)))))))))))))))))))))))))))⟩])
 (.seq (.reg [⟨(some 3), none, (.u (some 4) .mv (.k (some 7) (.bsl 1 9) (.cons (.od (.c (.str [40,101,109,112,116,121,41]))) (.cons (.od (.c (.str [40,101,120,112,114,32,40,110,97,109,101,32,97,41,41]))) (.cons (.od (.c (.str [40,98,108,111,99,107,41]))) (.cons (.od (.c (.str [40,98,108,111,99,107,32,40,101,120,112,114,32,40,110,97,109,101,32,97,41,41,32,40,101,109,112,116,121,41,41]))) (.cons (.od (.c (.str [40,108,97,98,101,108,32,120,32,40,101,120,112,114,32,40,110,97,109,101,32,97,41,41,41]))) (.cons (.od (.c (.str [40,99,97,115,101,32,40,105,110,116,32,49,41,32,40,101,120,112,114,32,40,110,97,109,101,32,97,41,41,41]))) (.cons (.od (.c (.str [40,100,101,102,97,117,108,116,32,40,101,109,112,116,121,41,41]))) (.cons (.od (.c (.str [40,105,102,32,40,110,97,109,101,32,97,41,32,40,101,120,112,114,32,40,110,97,109,101,32,98,41,41,41]))) (.cons (.od (.c (.str [40,115,119,105,116,99,104,32,40,110,97,109,101,32,97,41,32,40,101,120,112,114,32,40,110,97,109,101,32,98,41,41,41]))) (.cons (.od (.c (.str [40,119,104,105,108,101,32,40,110,97,109,101,32,97,41,32,40,101,109,112,116,121,41,41]))) (.cons (.od (.c (.str [40,100,111,32,40,101,120,112,114,32,40,110,97,109,101,32,97,41,41,32,40,110,97,109,101,32,98,41,41]))) (.cons (.od (.c (.str [40,102,111,114,32,40,110,97,109,101,32,97,41,32,40,110,97,109,101,32,98,41,32,40,110,97,109,101,32,99,41,32,40,101,120,112,114,32,40,110,97,109,101,32,100,41,41,41]))) (.cons (.od (.c (.str [40,102,111,114,32,40,100,101,99,108,97,114,101,32,40,115,112,101,99,115,32,40,116,121,112,101,32,105,110,116,41,41,32,40,105,110,105,116,32,40,110,97,109,101,32,105,41,32,40,105,110,116,32,48,41,41,41,32,40,110,111,110,101,41,32,40,110,111,110,101,41,32,40,101,109,112,116,121,41,41]))) (.cons (.od (.c (.str [40,103,111,116,111,32,120,41]))) (.cons (.od (.c (.str [40,99,111,110,116,105,110,117,101,41]))) (.cons (.od (.c (.str [40,98,114,101,97,107,41]))) (.cons (.od (.c (.str [40,114,101,116,117,114,110,41]))) (.cons (.od (.c (.str [40,114,101,116,117,114,110,32,40,99,111,109,109,97,32,40,110,97,109,101,32,97,41,32,40,110,97,109,101,32,98,41,41,41]))) (.cons (.od (.c (.str [40,98,108,111,99,107,32,40,100,101,99,108,97,114,101,32,40,115,112,101,99,115,32,40,116,121,112,101,32,105,110,116,41,41,32,40,110,97,109,101,32,97,41,41,41]))) (.cons (.od (.c (.str [40,98,108,111,99,107,32,40,100,101,99,108,97,114,101,32,40,115,112,101,99,115,32,40,116,121,112,101,32,105,110,116,41,41,32,40,105,110,105,116,32,40,110,97,109,101,32,97,41,32,40,105,110,116,32,49,41,41,32,40,112,111,105,110,116,101,114,32,40,110,97,109,101,32,98,41,41,41,41]))) (.cons (.od (.c (.str [40,98,108,111,99,107,32,40,100,101,99,108,97,114,101,32,40,115,112,101,99,115,32,40,116,121,112,101,32,105,110,116,41,41,32,40,105,110,105,116,32,40,97,114,114,97,121,32,40,110,97,109,101,32,97,41,41,32,40,105,110,105,116,115,32,40,97,116,32,40,105,110,100,101,120,32,40,105,110,116,32,49,41,41,32,40,105,110,116,32,50,41,41,32,40,97,116,32,40,102,105,101,108,100,32,120,41,32,40,105,110,105,116,115,32,40,105,110,116,32,51,41,41,41,41,41,41,41]))) (.cons (.od (.c (.str [40,98,108,111,99,107,32,40,100,101,99,108,97,114,101,32,40,115,112,101,99,115,32,40,115,116,114,117,99,116,32,83,32,40,109,101,109,98,101,114,32,40,115,112,101,99,115,32,40,116,121,112,101,32,105,110,116,41,41,32,40,98,105,116,115,32,40,110,97,109,101,32,97,41,32,40,105,110,116,32,51,41,41,32,40,98,105,116,115,32,40,105,110,116,32,48,41,41,41,41,41,32,40,110,97,109,101,32,115,41,41,41]))) (.cons (.od (.c (.str [40,98,108,111,99,107,32,40,100,101,99,108,97,114,101,32,40,115,112,101,99,115,32,40,101,110,117,109,32,69,32,40,101,110,117,109,101,114,97,116,111,114,32,65,41,41,41,32,40,110,97,109,101,32,101,41,41,41]))) (.cons (.od (.c (.str [40,98,108,111,99,107,32,40,97,115,115,101,114,116,32,40,105,110,116,32,49,41,32,40,115,116,114,105,110,103,32,34,109,34,41,41,41]))) (.cons (.od (.c (.str [40,98,108,111,99,107,32,40,100,101,99,108,97,114,101,32,40,115,112,101,99,115,32,40,115,116,111,114,97,103,101,32,115,116,97,116,105,99,41,32,40,113,117,97,108,105,102,105,101,114,32,99,111,110,115,116,41,32,40,116,121,112,101,32,105,110,116,41,41,32,40,110,97,109,101,32,120,41,41,41]))) .nil)))))))))))))))))))))))))))⟩])
 (.seq (.reg [⟨(some 4), none, (.u (some 5) .mv (.b (some 17) false (.bin .rem) (.b (some 14) false (.bin .add) (.b (some 11) false (.bin .rem) (.u (some 8) .mv (.od (.t 0))) (.u (some 10) .len (.u (some 9) .mv (.od (.t 2))))) (.u (some 13) .len (.u (some 12) .mv (.od (.t 2))))) (.u (some 16) .len (.u (some 15) .mv (.od (.t 2))))))⟩])
 (.seq (.drw [⟨.p, [], ⟨(some 5), none, (.u (some 18) .mv (.od (.t 2)))⟩⟩,
 ⟨.p, [], ⟨(some 6), none, (.u (some 19) .mv (.od (.t 4)))⟩⟩,
 ⟨.p, [0,1], ⟨(some 7), none, (.b (some 20) false (.iad 1) (.od (.t 5)) (.od (.t 6)))⟩⟩,
 ⟨(.l 0 0), [0,1,2], ⟨(some 8), none, (.u (some 21) .ld (.od (.t 7)))⟩⟩,
 ⟨.m, [0,1,2,3], ⟨(some 9), none, (.k (some 22) (.call 31) (.cons (.od (.t 8)) (.cons (.od (.c .nils)) .nil)))⟩⟩,
 ⟨.p, [], ⟨(some 10), none, (.u (some 23) .mv (.od (.t 3)))⟩⟩,
 ⟨.p, [], ⟨(some 11), none, (.u (some 24) .mv (.od (.t 4)))⟩⟩,
 ⟨.p, [5,6], ⟨(some 12), none, (.b (some 25) false (.iad 1) (.od (.t 10)) (.od (.t 11)))⟩⟩,
 ⟨(.l 0 1), [5,6,7], ⟨(some 13), none, (.u (some 26) .ld (.od (.t 12)))⟩⟩,
 ⟨.p, [0,1,2,3,4,5,6,7,8], ⟨(some 14), none, (.b (some 27) false (.bin .eql) (.od (.t 9)) (.od (.t 13)))⟩⟩,
 ⟨.p, [0,1,2,3,4,5,6,7,8,9], ⟨(some 15), none, (.u (some 28) .mv (.od (.t 14)))⟩⟩,
 ⟨.m, [0,1,2,3,4,5,6,7,8,9,10], ⟨(some 16), some (15, true), (.k (some 29) (.call 30) .nil)⟩⟩,
 ⟨.p, [0,1,2,3,4,5,6,7,8,9,10,11], ⟨(some 17), none, (.k (some 30) .pick (.cons (.od (.t 15)) (.cons (.od (.t 16)) (.cons (.od (.c (.bool false))) .nil))))⟩⟩,
 ⟨.p, [0,1,2,3,4,5,6,7,8,9,10,11,12], ⟨(some 1), none, (.u (some 2) .mv (.od (.t 17)))⟩⟩])
 (.ret))))))
def lf10 : LF := ⟨18, 1, lc10, [.t 1], [0,2,3,4,5,18,19,20,21,22,23,24,25,26,27,28,29,30]⟩

-- oxbow/oxbowlaw21.DeclareScopes
def lc11 : LC := (.seq (.reg [⟨(some 2), none, (.u (some 4) .mv (.od (.c (.bool false))))⟩])
 (.seq (.seq (.reg [⟨(some 3), none, (.gd (some 22) false true (.u (some 19) .mv (.b (some 18) false (.bin .lss) (.u (some 17) .mv (.od (.t 0))) (.od (.c (.int .i64 (.ofNat 1)))))) (.b (some 21) false (.bin .gtr) (.u (some 20) .mv (.od (.t 0))) (.od (.c (.int .i64 (.ofNat 30))))))⟩])
 (.cond (.t 3) (.seq (.reg [⟨(some 2), none, (.u (some 4) .mv (.k (some 23) (.call 30) .nil))⟩])
 (.ret))
 (.skip)))
 (.seq (.reg [⟨(some 4), none, (.u (some 5) .mv (.od (.c (.str []))))⟩,
 ⟨(some 5), none, (.u (some 6) .mv (.od (.c (.str []))))⟩,
 ⟨(some 6), none, (.u (some 7) .mv (.od (.c (.str []))))⟩])
 (.seq (.seq (.reg [⟨(some 7), none, (.u (some 8) .mv (.od (.c (.int .i64 (.ofNat 0)))))⟩])
 (.blk 0 (.loop (.seq (.seq (.reg [⟨(some 8), none, (.b (some 26) false (.bin .lss) (.u (some 24) .mv (.od (.t 7))) (.u (some 25) .mv (.od (.t 0))))⟩])
 (.cond (.t 8) (.skip)
 (.exit 0)))
 (.seq (.blk 1 (.seq (.seq (.reg [⟨(some 9), none, (.u (some 29) .mv (.od (.t 1)))⟩])
 (.cond (.t 9) (.seq (.reg [⟨(some 4), none, (.u (some 5) .mv (.b (some 31) false (.bin .add) (.u (some 30) .mv (.od (.t 4))) (.od (.c (.str [102,111,114,32,40,105,110,116,32,84,32,61,32,49,59,32,84,59,32,84,32,42,32,120,41,32,123,32,84,32,42,32,120,59,32])))))⟩])
 (.reg [⟨(some 5), none, (.u (some 6) .mv (.b (some 33) false (.bin .add) (.u (some 32) .mv (.od (.t 5))) (.od (.c (.str [40,102,111,114,32,40,100,101,99,108,97,114,101,32,40,115,112,101,99,115,32,40,116,121,112,101,32,105,110,116,41,41,32,40,105,110,105,116,32,40,110,97,109,101,32,84,41,32,40,105,110,116,32,49,41,41,41,32,40,110,97,109,101,32,84,41,32,40,98,105,110,97,114,121,32,42,32,40,110,97,109,101,32,84,41,32,40,110,97,109,101,32,120,41,41,32,40,98,108,111,99,107,32,40,101,120,112,114,32,40,98,105,110,97,114,121,32,42,32,40,110,97,109,101,32,84,41,32,40,110,97,109,101,32,120,41,41,41,32])))))⟩]))
 (.seq (.reg [⟨(some 4), none, (.u (some 5) .mv (.b (some 35) false (.bin .add) (.u (some 34) .mv (.od (.t 4))) (.od (.c (.str [123,32,84,32,42,32,120,59,32,105,110,116,32,84,59,32,84,32,42,32,120,59,32])))))⟩])
 (.reg [⟨(some 5), none, (.u (some 6) .mv (.b (some 37) false (.bin .add) (.u (some 36) .mv (.od (.t 5))) (.od (.c (.str [40,98,108,111,99,107,32,40,100,101,99,108,97,114,101,32,40,115,112,101,99,115,32,40,116,121,112,101,110,97,109,101,32,84,41,41,32,40,112,111,105,110,116,101,114,32,40,110,97,109,101,32,120,41,41,41,32,40,100,101,99,108,97,114,101,32,40,115,112,101,99,115,32,40,116,121,112,101,32,105,110,116,41,41,32,40,110,97,109,101,32,84,41,41,32,40,101,120,112,114,32,40,98,105,110,97,114,121,32,42,32,40,110,97,109,101,32,84,41,32,40,110,97,109,101,32,120,41,41,41,32])))))⟩]))))
 (.seq (.seq (.reg [⟨(some 10), none, (.b (some 41) false (.bin .lss) (.b (some 39) false (.bin .add) (.u (some 38) .mv (.od (.t 7))) (.od (.c (.int .i64 (.ofNat 1))))) (.u (some 40) .mv (.od (.t 0))))⟩])
 (.cond (.t 10) (.seq (.reg [⟨(some 4), none, (.u (some 5) .mv (.b (some 43) false (.bin .add) (.u (some 42) .mv (.od (.t 4))) (.od (.c (.str [123,32,116,121,112,101,100,101,102,32,105,110,116,32,84,59,32])))))⟩])
 (.seq (.reg [⟨(some 5), none, (.u (some 6) .mv (.b (some 45) false (.bin .add) (.u (some 44) .mv (.od (.t 5))) (.od (.c (.str [40,98,108,111,99,107,32,40,100,101,99,108,97,114,101,32,40,115,112,101,99,115,32,40,115,116,111,114,97,103,101,32,116,121,112,101,100,101,102,41,32,40,116,121,112,101,32,105,110,116,41,41,32,40,110,97,109,101,32,84,41,41,32])))))⟩])
 (.reg [⟨(some 6), none, (.u (some 7) .mv (.b (some 47) false (.bin .add) (.u (some 46) .mv (.od (.t 6))) (.od (.c (.str [125,32])))))⟩])))
 (.skip)))
 (.reg [⟨(some 6), none, (.u (some 7) .mv (.b (some 49) false (.bin .add) (.u (some 48) .mv (.od (.t 6))) (.od (.c (.str [125,32])))))⟩]))))
 (.reg [⟨(some 7), none, (.u (some 8) .mv (.b (some 28) false (.bin .add) (.u (some 27) .mv (.od (.t 7))) (.od (.c (.int .i64 (.ofNat 1))))))⟩]))))))
 (.seq (.reg [⟨(some 4), none, (.u (some 5) .mv (.b (some 52) false (.bin .add) (.u (some 50) .mv (.od (.t 4))) (.u (some 51) .mv (.od (.t 6)))))⟩])
 (.seq (.reg [⟨(some 11), none, (.u (some 9) .mv (.k (some 56) (.call 32) (.cons (.b (some 55) false (.bin .add) (.b (some 54) false (.bin .add) (.od (.c (.str [123,32]))) (.u (some 53) .mv (.od (.t 4)))) (.od (.c (.str [84,32,42,32,121,59,32,125])))) .nil)))⟩])
 (.seq (.reg [⟨(some 12), none, (.u (some 10) .mv (.k (some 57) (.call 27) .nil))⟩])
 (.seq (.seq (.reg [⟨(some 13), none, (.b (some 59) false (.eqp false) (.u (some 58) .mv (.od (.t 12))) (.od (.c .nilp)))⟩])
 (.cond (.t 13) (.seq (.reg [⟨(some 2), none, (.u (some 4) .mv (.od (.c (.bool false))))⟩])
 (.ret))
 (.skip)))
 (.seq (.reg [⟨(some 14), none, (.u (some 60) .mv (.k (some 62) (.call 33) (.cons (.u (some 61) .mv (.od (.t 12))) (.cons (.od (.c (.str [84]))) (.cons (.od (.c (.bool true))) .nil)))))⟩,
 ⟨(some 15), none, (.u (some 63) (.ext 0) (.od (.t 14)))⟩,
 ⟨none, none, (.u (some 64) (.ext 1) (.od (.t 14)))⟩,
 ⟨(some 12), none, (.u (some 10) .mv (.od (.t 15)))⟩])
 (.seq (.reg [⟨(some 16), none, (.u (some 65) .mv (.k (some 70) (.call 34) (.cons (.k (some 69) (.build [.nils,(.int .i64 (.ofNat 0)),.nilp,(.int .i64 (.ofNat 0))] [(0,1),(2,1)]) (.cons (.k (some 67) (.call 35) (.cons (.u (some 66) .mv (.od (.t 11))) .nil)) (.cons (.u (some 68) .mv (.od (.t 12))) .nil))) .nil)))⟩,
 ⟨(some 17), none, (.u (some 71) (.ext 0) (.od (.t 16)))⟩,
 ⟨(some 18), none, (.u (some 72) (.ext 1) (.od (.t 16)))⟩,
 ⟨(some 19), none, (.u (some 73) (.ext 2) (.od (.t 16)))⟩,
 ⟨(some 20), none, (.a (some 11) [(.str []),(.str []),(.int .i64 (.ofNat 0)),(.int .i64 (.ofNat 0)),.nils] 50)⟩,
 ⟨(some 21), none, (.a (some 12) [.nils,(.int .i64 (.ofNat 0)),.nilp,(.int .i64 (.ofNat 0))] 46)⟩,
 ⟨none, none, (.b none false (.sta 5) (.od (.t 20)) (.od (.t 17)))⟩,
 ⟨none, none, (.b none false (.sta 4) (.od (.t 21)) (.od (.t 18)))⟩,
 ⟨(some 22), none, (.u (some 13) .mv (.od (.t 19)))⟩])
 (.seq (.reg [⟨(some 23), none, (.u (some 14) .mv (.k (some 75) (.call 28) (.cons (.u (some 74) (.lda 5) (.od (.t 20))) .nil)))⟩])
 (.seq (.reg [⟨(some 24), none, (.u (some 15) .mv (.od (.c (.str [40,100,101,99,108,97,114,101,32,40,115,112,101,99,115,32,40,116,121,112,101,110,97,109,101,32,84,41,41,32,40,112,111,105,110,116,101,114,32,40,110,97,109,101,32,121,41,41,41,41]))))⟩])
 (.seq (.reg [⟨(some 25), none, (.u (some 16) .mv (.b (some 77) false (.bin .add) (.od (.c (.str [40,98,108,111,99,107,32]))) (.u (some 76) .mv (.od (.t 5)))))⟩])
 (.seq (.seq (.reg [⟨(some 26), none, (.gd (some 112) false true (.u (some 106) .mv (.gd (some 105) false true (.u (some 99) .mv (.gd (some 98) false true (.u (some 93) .mv (.gd (some 92) false true (.u (some 88) .mv (.gd (some 87) false true (.u (some 80) .mv (.u (some 79) (.un .not) (.u (some 78) .mv (.od (.t 22))))) (.b (some 86) false (.bin .neq) (.u (some 82) .ld (.u (some 81) (.fad 1) (.od (.t 21)))) (.b (some 85) false (.bin .sub) (.u (some 84) .len (.u (some 83) .mv (.od (.t 11)))) (.od (.c (.int .i64 (.ofNat 1)))))))) (.b (some 91) false (.eqp false) (.u (some 90) .ld (.u (some 89) (.fad 2) (.od (.t 21)))) (.od (.c .nilp))))) (.u (some 97) (.un .not) (.k (some 96) (.call 36) (.cons (.u (some 95) .ld (.u (some 94) (.fad 2) (.od (.t 21)))) (.cons (.od (.c (.str [84]))) .nil)))))) (.b (some 104) false (.bin .lss) (.u (some 101) .lens (.u (some 100) .mv (.od (.t 23)))) (.u (some 103) .lens (.u (some 102) .mv (.od (.t 24))))))) (.b (some 111) false (.bin .lss) (.u (some 108) .lens (.u (some 107) .mv (.od (.t 23)))) (.u (some 110) .lens (.u (some 109) .mv (.od (.t 25))))))⟩])
 (.cond (.t 26) (.seq (.reg [⟨(some 2), none, (.u (some 4) .mv (.od (.c (.bool false))))⟩])
 (.ret))
 (.skip)))
 (.seq (.drw [⟨.p, [], ⟨(some 27), none, (.u (some 113) .mv (.od (.t 23)))⟩⟩,
 ⟨.p, [], ⟨(some 28), none, (.u (some 114) .mv (.od (.t 23)))⟩⟩,
 ⟨.p, [1], ⟨(some 29), none, (.u (some 115) .lens (.od (.t 28)))⟩⟩,
 ⟨.p, [], ⟨(some 30), none, (.u (some 116) .mv (.od (.t 24)))⟩⟩,
 ⟨.p, [3], ⟨(some 31), none, (.u (some 117) .lens (.od (.t 30)))⟩⟩,
 ⟨.p, [1,2,3,4], ⟨(some 32), none, (.b (some 118) false (.bin .sub) (.od (.t 29)) (.od (.t 31)))⟩⟩,
 ⟨.p, [0,1,2,3,4,5], ⟨(some 33), none, (.k (some 119) (.sls true false) (.cons (.od (.t 27)) (.cons (.od (.t 32)) .nil)))⟩⟩,
 ⟨.p, [], ⟨(some 34), none, (.u (some 120) .mv (.od (.t 24)))⟩⟩,
 ⟨.p, [0,1,2,3,4,5,6,7], ⟨(some 35), none, (.b (some 121) false (.bin .eql) (.od (.t 33)) (.od (.t 34)))⟩⟩,
 ⟨.p, [0,1,2,3,4,5,6,7,8], ⟨(some 36), none, (.u (some 122) .mv (.od (.t 35)))⟩⟩,
 ⟨.p, [0,1,2,3,4,5,6,7,8,9], ⟨(some 37), some (36, true), (.u (some 123) .mv (.od (.t 23)))⟩⟩,
 ⟨.p, [0,1,2,3,4,5,6,7,8,9], ⟨(some 38), some (36, true), (.u (some 124) .mv (.od (.t 25)))⟩⟩,
 ⟨.p, [0,1,2,3,4,5,6,7,8,9,11], ⟨(some 39), some (36, true), (.u (some 125) .lens (.od (.t 38)))⟩⟩,
 ⟨.p, [0,1,2,3,4,5,6,7,8,9,11,12], ⟨(some 40), some (36, true), (.b (some 126) false (.bin .sub) (.od (.t 39)) (.od (.c (.int .i64 (.ofNat 1)))))⟩⟩,
 ⟨.p, [0,1,2,3,4,5,6,7,8,9,10,11,12,13], ⟨(some 41), some (36, true), (.k (some 127) (.sls false true) (.cons (.od (.t 37)) (.cons (.od (.t 40)) .nil)))⟩⟩,
 ⟨.p, [0,1,2,3,4,5,6,7,8,9], ⟨(some 42), some (36, true), (.u (some 128) .mv (.od (.t 25)))⟩⟩,
 ⟨.p, [0,1,2,3,4,5,6,7,8,9], ⟨(some 43), some (36, true), (.u (some 129) .mv (.od (.t 25)))⟩⟩,
 ⟨.p, [0,1,2,3,4,5,6,7,8,9,16], ⟨(some 44), some (36, true), (.u (some 130) .lens (.od (.t 43)))⟩⟩,
 ⟨.p, [0,1,2,3,4,5,6,7,8,9,16,17], ⟨(some 45), some (36, true), (.b (some 131) false (.bin .sub) (.od (.t 44)) (.od (.c (.int .i64 (.ofNat 1)))))⟩⟩,
 ⟨.p, [0,1,2,3,4,5,6,7,8,9,15,16,17,18], ⟨(some 46), some (36, true), (.k (some 132) (.sls false true) (.cons (.od (.t 42)) (.cons (.od (.t 45)) .nil)))⟩⟩,
 ⟨.p, [0,1,2,3,4,5,6,7,8,9,10,11,12,13,14,15,16,17,18,19], ⟨(some 47), some (36, true), (.b (some 133) false (.bin .eql) (.od (.t 41)) (.od (.t 46)))⟩⟩,
 ⟨.p, [0,1,2,3,4,5,6,7,8,9,10,11,12,13,14,15,16,17,18,19,20], ⟨(some 48), none, (.k (some 134) .pick (.cons (.od (.t 36)) (.cons (.od (.t 47)) (.cons (.od (.c (.bool false))) .nil))))⟩⟩,
 ⟨.p, [0,1,2,3,4,5,6,7,8,9,10,11,12,13,14,15,16,17,18,19,20,21], ⟨(some 49), none, (.u (some 135) .mv (.od (.t 48)))⟩⟩,
 ⟨.m, [0,1,2,3,4,5,6,7,8,9,10,11,12,13,14,15,16,17,18,19,20,21,22], ⟨(some 50), some (49, true), (.k (some 136) (.call 30) .nil)⟩⟩,
 ⟨.p, [0,1,2,3,4,5,6,7,8,9,10,11,12,13,14,15,16,17,18,19,20,21,22,23], ⟨(some 51), none, (.k (some 137) .pick (.cons (.od (.t 49)) (.cons (.od (.t 50)) (.cons (.od (.c (.bool false))) .nil))))⟩⟩,
 ⟨.p, [0,1,2,3,4,5,6,7,8,9,10,11,12,13,14,15,16,17,18,19,20,21,22,23,24], ⟨(some 2), none, (.u (some 4) .mv (.od (.t 51)))⟩⟩])
 (.ret))))))))))))))))
def lf11 : LF := ⟨52, 2, lc11, [.t 2], [0,1,4,22,5,6,7,8,26,29,41,9,10,59,60,63,65,71,72,73,11,12,13,14,15,16,112,113,114,115,116,117,118,119,120,121,122,123,124,125,126,127,128,129,130,131,132,133,134,135,136,137]⟩

-- oxbow/oxbowlaw21.DeclareNames
def lc12 : LC := (.seq (.reg [⟨(some 4), none, (.u (some 8) .mv (.od (.c (.bool false))))⟩])
 (.seq (.seq (.reg [⟨(some 5), none, (.gd (some 34) false true (.u (some 31) .mv (.gd (some 30) false true (.u (some 27) .mv (.gd (some 26) false true (.u (some 23) .mv (.b (some 22) false (.bin .lss) (.u (some 21) .mv (.od (.t 1))) (.od (.c (.int .i64 (.ofNat 0)))))) (.b (some 25) false (.bin .gtr) (.u (some 24) .mv (.od (.t 1))) (.od (.c (.int .i64 (.ofNat 10))))))) (.b (some 29) false (.bin .lss) (.u (some 28) .mv (.od (.t 2))) (.od (.c (.int .i64 (.ofNat 0))))))) (.b (some 33) false (.bin .gtr) (.u (some 32) .mv (.od (.t 2))) (.od (.c (.int .i64 (.ofNat 10))))))⟩])
 (.cond (.t 5) (.seq (.reg [⟨(some 4), none, (.u (some 8) .mv (.k (some 35) (.call 30) .nil))⟩])
 (.ret))
 (.skip)))
 (.seq (.reg [⟨(some 6), none, (.u (some 9) .mv (.od (.c (.str [105,110,116,32]))))⟩])
 (.seq (.seq (.reg [⟨(some 7), none, (.u (some 36) .mv (.od (.t 0)))⟩])
 (.cond (.t 7) (.reg [⟨(some 6), none, (.u (some 9) .mv (.od (.c (.str [116,121,112,101,100,101,102,32,105,110,116,32]))))⟩])
 (.skip)))
 (.seq (.seq (.reg [⟨(some 8), none, (.u (some 10) .mv (.od (.c (.int .i64 (.ofNat 0)))))⟩])
 (.blk 0 (.loop (.seq (.seq (.reg [⟨(some 9), none, (.b (some 39) false (.bin .lss) (.u (some 37) .mv (.od (.t 8))) (.u (some 38) .mv (.od (.t 1))))⟩])
 (.cond (.t 9) (.skip)
 (.exit 0)))
 (.seq (.blk 1 (.reg [⟨(some 6), none, (.u (some 9) .mv (.b (some 43) false (.bin .add) (.u (some 42) .mv (.od (.t 6))) (.od (.c (.str [42])))))⟩]))
 (.reg [⟨(some 8), none, (.u (some 10) .mv (.b (some 41) false (.bin .add) (.u (some 40) .mv (.od (.t 8))) (.od (.c (.int .i64 (.ofNat 1))))))⟩]))))))
 (.seq (.reg [⟨(some 6), none, (.u (some 9) .mv (.b (some 45) false (.bin .add) (.u (some 44) .mv (.od (.t 6))) (.od (.c (.str [78])))))⟩])
 (.seq (.seq (.reg [⟨(some 10), none, (.u (some 11) .mv (.od (.c (.int .i64 (.ofNat 0)))))⟩])
 (.blk 2 (.loop (.seq (.seq (.reg [⟨(some 11), none, (.b (some 48) false (.bin .lss) (.u (some 46) .mv (.od (.t 10))) (.u (some 47) .mv (.od (.t 2))))⟩])
 (.cond (.t 11) (.skip)
 (.exit 2)))
 (.seq (.blk 3 (.reg [⟨(some 6), none, (.u (some 9) .mv (.b (some 52) false (.bin .add) (.u (some 51) .mv (.od (.t 6))) (.od (.c (.str [91,50,93])))))⟩]))
 (.reg [⟨(some 10), none, (.u (some 11) .mv (.b (some 50) false (.bin .add) (.u (some 49) .mv (.od (.t 10))) (.od (.c (.int .i64 (.ofNat 1))))))⟩]))))))
 (.seq (.reg [⟨(some 6), none, (.u (some 9) .mv (.b (some 54) false (.bin .add) (.u (some 53) .mv (.od (.t 6))) (.od (.c (.str [44,32,77,91,115,105,122,101,111,102,40,78,41,93,59])))))⟩])
 (.seq (.reg [⟨(some 12), none, (.u (some 55) .mv (.k (some 59) (.call 37) (.cons (.k (some 58) (.bsl 2 61) (.cons (.k (some 57) (.build [(.str []),(.bool false)] [(0,1),(1,1)]) (.cons (.od (.c (.str [78]))) (.cons (.u (some 56) .mv (.od (.t 3))) .nil))) .nil)) .nil)))⟩,
 ⟨(some 13), none, (.u (some 60) (.ext 0) (.od (.t 12)))⟩,
 ⟨(some 14), none, (.u (some 61) (.ext 1) (.od (.t 12)))⟩,
 ⟨(some 15), none, (.u (some 62) (.ext 2) (.od (.t 12)))⟩,
 ⟨(some 16), none, (.a (some 13) [.nils] 34)⟩,
 ⟨(some 17), none, (.u (some 12) .mv (.od (.t 13)))⟩,
 ⟨none, none, (.b none false (.sta 1) (.od (.t 16)) (.od (.t 14)))⟩,
 ⟨(some 18), none, (.u (some 14) .mv (.od (.t 15)))⟩])
 (.seq (.reg [⟨(some 19), none, (.u (some 15) .mv (.k (some 64) (.call 32) (.cons (.u (some 63) .mv (.od (.t 6))) .nil)))⟩])
 (.seq (.reg [⟨(some 20), none, (.u (some 65) .mv (.k (some 70) (.call 38) (.cons (.k (some 69) (.build [.nils,(.int .i64 (.ofNat 0)),.nilp,(.int .i64 (.ofNat 0))] [(0,1),(2,1)]) (.cons (.k (some 67) (.call 35) (.cons (.u (some 66) .mv (.od (.t 19))) .nil)) (.cons (.u (some 68) .mv (.od (.t 17))) .nil))) .nil)))⟩,
 ⟨(some 21), none, (.u (some 71) (.ext 0) (.od (.t 20)))⟩,
 ⟨(some 22), none, (.u (some 72) (.ext 1) (.od (.t 20)))⟩,
 ⟨(some 23), none, (.u (some 73) (.ext 2) (.od (.t 20)))⟩,
 ⟨(some 24), none, (.a (some 16) [(.str []),(.str []),(.int .i64 (.ofNat 0)),(.int .i64 (.ofNat 0)),.nils] 50)⟩,
 ⟨(some 25), none, (.a (some 17) [.nils,(.int .i64 (.ofNat 0)),.nilp,(.int .i64 (.ofNat 0))] 46)⟩,
 ⟨none, none, (.b none false (.sta 5) (.od (.t 24)) (.od (.t 21)))⟩,
 ⟨none, none, (.b none false (.sta 4) (.od (.t 25)) (.od (.t 22)))⟩,
 ⟨(some 26), none, (.u (some 18) .mv (.od (.t 23)))⟩])
 (.seq (.seq (.reg [⟨(some 27), none, (.gd (some 107) false true (.u (some 99) .mv (.gd (some 98) false true (.u (some 93) .mv (.gd (some 92) false true (.u (some 88) .mv (.gd (some 87) false true (.u (some 80) .mv (.gd (some 79) false true (.u (some 76) .mv (.u (some 75) (.un .not) (.u (some 74) .mv (.od (.t 18))))) (.u (some 78) (.un .not) (.u (some 77) .mv (.od (.t 26)))))) (.b (some 86) false (.bin .neq) (.u (some 82) .ld (.u (some 81) (.fad 1) (.od (.t 25)))) (.b (some 85) false (.bin .sub) (.u (some 84) .len (.u (some 83) .mv (.od (.t 19)))) (.od (.c (.int .i64 (.ofNat 1)))))))) (.b (some 91) false (.eqp false) (.u (some 90) .ld (.u (some 89) (.fad 2) (.od (.t 25)))) (.od (.c .nilp))))) (.b (some 97) false (.bin .neq) (.u (some 96) .len (.u (some 95) .ld (.u (some 94) (.fad 4) (.od (.t 24))))) (.od (.c (.int .i64 (.ofNat 3))))))) (.b (some 106) false (.bin .neq) (.u (some 105) .len (.u (some 104) .ld (.u (some 103) (.fad 4) (.b (some 102) false (.iad 5) (.u (some 101) .ld (.u (some 100) (.fad 4) (.od (.t 24)))) (.od (.c (.int .i64 (.ofNat 2)))))))) (.od (.c (.int .i64 (.ofNat 2))))))⟩])
 (.cond (.t 27) (.seq (.reg [⟨(some 4), none, (.u (some 8) .mv (.od (.c (.bool false))))⟩])
 (.ret))
 (.skip)))
 (.seq (.reg [⟨(some 28), none, (.u (some 19) .mv (.od (.c (.str [115,105,122,101,111,102]))))⟩])
 (.seq (.seq (.reg [⟨(some 29), none, (.u (some 108) .mv (.od (.t 0)))⟩])
 (.cond (.t 29) (.reg [⟨(some 28), none, (.u (some 19) .mv (.od (.c (.str [115,105,122,101,111,102,116,121,112,101]))))⟩])
 (.skip)))
 (.seq (.drw [⟨.p, [], ⟨(some 30), none, (.u (some 109) (.fad 4) (.od (.t 24)))⟩⟩,
 ⟨(.l 0 0), [0], ⟨(some 31), none, (.u (some 110) .ld (.od (.t 30)))⟩⟩,
 ⟨.p, [0,1], ⟨(some 32), none, (.b (some 111) false (.iad 5) (.od (.t 31)) (.od (.c (.int .i64 (.ofNat 0)))))⟩⟩,
 ⟨(.l 0 0), [0,1,2], ⟨(some 33), none, (.u (some 112) (.lda 5) (.od (.t 32)))⟩⟩,
 ⟨.p, [], ⟨(some 34), none, (.u (some 113) (.fad 4) (.od (.t 24)))⟩⟩,
 ⟨(.l 0 0), [4], ⟨(some 35), none, (.u (some 114) .ld (.od (.t 34)))⟩⟩,
 ⟨.p, [4,5], ⟨(some 36), none, (.b (some 115) false (.iad 5) (.od (.t 35)) (.od (.c (.int .i64 (.ofNat 1)))))⟩⟩,
 ⟨(.l 0 0), [4,5,6], ⟨(some 37), none, (.u (some 116) (.lda 5) (.od (.t 36)))⟩⟩,
 ⟨.p, [], ⟨(some 38), none, (.u (some 117) .mv (.od (.t 17)))⟩⟩,
 ⟨.m, [0,1,2,3,4,5,6,7,8], ⟨(some 39), none, (.k (some 118) (.call 39) (.cons (.od (.t 33)) (.cons (.od (.t 37)) (.cons (.od (.t 38)) .nil))))⟩⟩,
 ⟨.p, [0,1,2,3,4,5,6,7,8,9], ⟨(some 40), none, (.u (some 20) .mv (.od (.t 39)))⟩⟩])
 (.seq (.reg [⟨(some 4), none, (.u (some 8) .mv (.gd (some 174) true false (.u (some 172) .mv (.gd (some 171) true false (.u (some 166) .mv (.gd (some 165) true false (.u (some 160) .mv (.gd (some 159) true false (.u (some 156) .mv (.gd (some 155) true false (.u (some 148) .mv (.gd (some 147) true false (.u (some 136) .mv (.gd (some 135) true false (.u (some 131) .mv (.gd (some 130) true false (.u (some 124) .mv (.b (some 123) false (.eqb false) (.k (some 121) (.call 36) (.cons (.u (some 120) .ld (.u (some 119) (.fad 2) (.od (.t 25)))) (.cons (.od (.c (.str [78]))) .nil))) (.u (some 122) .mv (.od (.t 0))))) (.b (some 129) false (.eqb false) (.k (some 127) (.call 36) (.cons (.u (some 126) .ld (.u (some 125) (.fad 2) (.od (.t 25)))) (.cons (.od (.c (.str [77]))) .nil))) (.u (some 128) .mv (.od (.t 0)))))) (.k (some 134) (.call 40) (.cons (.u (some 133) .ld (.u (some 132) (.fad 2) (.od (.t 25)))) (.cons (.od (.c (.str [77]))) .nil))))) (.b (some 146) false (.bin .eql) (.u (some 144) .ld (.u (some 143) (.fad 0) (.b (some 142) false (.iad 5) (.u (some 141) .ld (.u (some 140) (.fad 4) (.b (some 139) false (.iad 5) (.u (some 138) .ld (.u (some 137) (.fad 4) (.od (.t 24)))) (.od (.c (.int .i64 (.ofNat 2))))))) (.od (.c (.int .i64 (.ofNat 1))))))) (.u (some 145) .mv (.od (.t 28)))))) (.b (some 154) false (.bin .eql) (.k (some 153) (.call 29) (.cons (.u (some 152) (.lda 5) (.b (some 151) false (.iad 5) (.u (some 150) .ld (.u (some 149) (.fad 4) (.od (.t 24)))) (.od (.c (.int .i64 (.ofNat 1)))))) .nil)) (.od (.c (.str [78])))))) (.b (some 158) false (.eqp true) (.u (some 157) .mv (.od (.t 40))) (.od (.c .nilp))))) (.b (some 164) false (.eqb false) (.k (some 162) (.call 36) (.cons (.u (some 161) .mv (.od (.t 40))) (.cons (.od (.c (.str [78]))) .nil))) (.u (some 163) .mv (.od (.t 0)))))) (.b (some 170) false (.eqb false) (.k (some 168) (.call 36) (.cons (.u (some 167) .mv (.od (.t 17))) (.cons (.od (.c (.str [78]))) .nil))) (.u (some 169) .mv (.od (.t 3)))))) (.k (some 173) (.call 30) .nil)))⟩])
 (.ret)))))))))))))))))
def lf12 : LF := ⟨41, 4, lc12, [.t 4], [0,1,2,3,8,34,9,36,10,39,11,48,55,60,61,62,13,12,14,15,65,71,72,73,16,17,18,107,19,108,109,110,111,112,113,114,115,116,117,118,20]⟩

-- oxbow/oxbowlaw21.DeclareOdd
def lc13 : LC := (.seq (.reg [⟨(some 1), none, (.u (some 2) .mv (.od (.c (.bool false))))⟩])
 (.seq (.reg [⟨(some 2), none, (.u (some 3) .mv (.k (some 9) (.bsl 1 9) (.cons (.od (.c (.str [97]))) (.cons (.od (.c (.str [123,32,97,59]))) (.cons (.od (.c (.str [105,102,32,97]))) (.cons (.od (.c (.str [105,102,32,40,97,41]))) (.cons (.od (.c (.str [102,111,114,32,40,97,59,41]))) (.cons (.od (.c (.str [100,111,32,59,32,119,104,105,108,101,32,40,97,41]))) (.cons (.od (.c (.str [103,111,116,111,32,49,59]))) (.cons (.od (.c (.str [99,97,115,101,32,58,32,97,59]))) (.cons (.od (.c (.str [114,101,116,117,114,110,32,97]))) (.cons (.od (.c (.str [123,32,105,110,116,32,49,59,32,125]))) (.cons (.od (.c (.str [123,32,105,110,116,32,97,32,61,32,59,32,125]))) (.cons (.od (.c (.str [101,108,115,101,32,97,59]))) (.cons (.od (.c (.str [120,58]))) (.cons (.od (.c (.str [123,32,105,110,116,32,97,32,98,59,32,125]))) (.cons (.od (.c (.str [123,32,115,116,114,117,99,116,32,123,32,125,32,97,59,32,125]))) (.cons (.od (.c (.str [123,32,101,110,117,109,32,123,32,125,32,97,59,32,125]))) (.cons (.od (.c (.str [123,32,95,83,116,97,116,105,99,95,97,115,115,101,114,116,40,49,44,32,50,41,59,32,125]))) (.cons (.od (.c (.str [119,104,105,108,101,32,40,41]))) (.cons (.od (.c (.str [123,32,116,121,112,101,100,101,102,59,32,43,32,125]))) (.cons (.od (.c (.str [115,119,105,116,99,104,32,40,97,41,32,123]))) .nil))))))))))))))))))))))⟩])
 (.seq (.reg [⟨(some 3), none, (.u (some 4) .mv (.k (some 10) (.bsl 1 3) (.cons (.od (.c (.int .i64 (.ofNat 1)))) (.cons (.od (.c (.int .i64 (.ofNat 3)))) (.cons (.od (.c (.int .i64 (.ofNat 1)))) (.cons (.od (.c (.int .i64 (.ofNat 4)))) (.cons (.od (.c (.int .i64 (.ofNat 4)))) (.cons (.od (.c (.int .i64 (.ofNat 6)))) (.cons (.od (.c (.int .i64 (.ofNat 1)))) (.cons (.od (.c (.int .i64 (.ofNat 1)))) (.cons (.od (.c (.int .i64 (.ofNat 2)))) (.cons (.od (.c (.int .i64 (.ofNat 2)))) (.cons (.od (.c (.int .i64 (.ofNat 4)))) (.cons (.od (.c (.int .i64 (.ofNat 0)))) (.cons (.od (.c (.int .i64 (.ofNat 2)))) (.cons (.od (.c (.int .i64 (.ofNat 3)))) (.cons (.od (.c (.int .i64 (.ofNat 3)))) (.cons (.od (.c (.int .i64 (.ofNat 3)))) (.cons (.od (.c (.int .i64 (.ofNat 5)))) (.cons (.od (.c (.int .i64 (.ofNat 2)))) (.cons (.od (.c (.int .i64 (.ofNat 4)))) (.cons (.od (.c (.int .i64 (.ofNat 5)))) .nil))))))))))))))))))))))⟩])
 (.seq (.reg [⟨(some 4), none, (.u (some 5) .mv (.b (some 20) false (.bin .rem) (.b (some 17) false (.bin .add) (.b (some 14) false (.bin .rem) (.u (some 11) .mv (.od (.t 0))) (.u (some 13) .len (.u (some 12) .mv (.od (.t 2))))) (.u (some 16) .len (.u (some 15) .mv (.od (.t 2))))) (.u (some 19) .len (.u (some 18) .mv (.od (.t 2))))))⟩])
 (.seq (.reg [⟨(some 5), none, (.u (some 21) .mv (.k (some 30) (.call 41) (.cons (.k (some 29) (.build [.nils,(.int .i64 (.ofNat 0)),.nilp,(.int .i64 (.ofNat 0))] [(0,1),(2,1)]) (.cons (.k (some 27) (.call 35) (.cons (.k (some 26) (.call 32) (.cons (.u (some 25) .ld (.b (some 24) false (.iad 1) (.u (some 22) .mv (.od (.t 2))) (.u (some 23) .mv (.od (.t 4))))) .nil)) .nil)) (.cons (.k (some 28) (.call 27) .nil) .nil))) .nil)))⟩,
 ⟨(some 6), none, (.u (some 31) (.ext 0) (.od (.t 5)))⟩,
 ⟨(some 7), none, (.u (some 32) (.ext 1) (.od (.t 5)))⟩,
 ⟨(some 8), none, (.u (some 33) (.ext 2) (.od (.t 5)))⟩,
 ⟨(some 9), none, (.a (some 6) [(.str []),(.str []),(.int .i64 (.ofNat 0)),(.int .i64 (.ofNat 0)),.nils] 50)⟩,
 ⟨(some 10), none, (.a (some 7) [.nils,(.int .i64 (.ofNat 0)),.nilp,(.int .i64 (.ofNat 0))] 46)⟩,
 ⟨none, none, (.b none false (.sta 5) (.od (.t 9)) (.od (.t 6)))⟩,
 ⟨none, none, (.b none false (.sta 4) (.od (.t 10)) (.od (.t 7)))⟩,
 ⟨(some 11), none, (.u (some 8) .mv (.od (.t 8)))⟩])
 (.seq (.drw [⟨.p, [], ⟨(some 12), none, (.u (some 34) .mv (.od (.t 11)))⟩⟩,
 ⟨.p, [0], ⟨(some 13), none, (.u (some 35) (.un .not) (.od (.t 12)))⟩⟩,
 ⟨.p, [0,1], ⟨(some 14), none, (.u (some 36) .mv (.od (.t 13)))⟩⟩,
 ⟨.p, [0,1,2], ⟨(some 15), some (14, true), (.u (some 37) (.fad 1) (.od (.t 10)))⟩⟩,
 ⟨(.l 0 0), [0,1,2,3], ⟨(some 16), some (14, true), (.u (some 38) .ld (.od (.t 15)))⟩⟩,
 ⟨.p, [0,1,2], ⟨(some 17), some (14, true), (.u (some 39) .mv (.od (.t 3)))⟩⟩,
 ⟨.p, [0,1,2], ⟨(some 18), some (14, true), (.u (some 40) .mv (.od (.t 4)))⟩⟩,
 ⟨.p, [0,1,2,5,6], ⟨(some 19), some (14, true), (.b (some 41) false (.iad 1) (.od (.t 17)) (.od (.t 18)))⟩⟩,
 ⟨(.l 0 0), [0,1,2,5,6,7], ⟨(some 20), some (14, true), (.u (some 42) .ld (.od (.t 19)))⟩⟩,
 ⟨.p, [0,1,2,3,4,5,6,7,8], ⟨(some 21), some (14, true), (.b (some 43) false (.bin .eql) (.od (.t 16)) (.od (.t 20)))⟩⟩,
 ⟨.p, [0,1,2,3,4,5,6,7,8,9], ⟨(some 22), none, (.k (some 44) .pick (.cons (.od (.t 14)) (.cons (.od (.t 21)) (.cons (.od (.c (.bool false))) .nil))))⟩⟩,
 ⟨.p, [0,1,2,3,4,5,6,7,8,9,10], ⟨(some 23), none, (.u (some 45) .mv (.od (.t 22)))⟩⟩,
 ⟨(.l 0 0), [0,1,2,3,4,5,6,7,8,9,10,11], ⟨(some 24), some (23, true), (.u (some 46) (.lda 5) (.od (.t 9)))⟩⟩,
 ⟨.p, [0,1,2,3,4,5,6,7,8,9,10,11], ⟨(some 25), some (23, true), (.k (some 47) (.build [(.str []),(.str []),(.int .i64 (.ofNat 0)),(.int .i64 (.ofNat 0)),.nils] []) .nil)⟩⟩,
 ⟨.m, [0,1,2,3,4,5,6,7,8,9,10,11,12,13], ⟨(some 26), some (23, true), (.k (some 48) (.call 42) (.cons (.od (.t 24)) (.cons (.od (.t 25)) .nil)))⟩⟩,
 ⟨.p, [0,1,2,3,4,5,6,7,8,9,10,11,12,13,14], ⟨(some 27), none, (.k (some 49) .pick (.cons (.od (.t 23)) (.cons (.od (.t 26)) (.cons (.od (.c (.bool false))) .nil))))⟩⟩,
 ⟨.p, [0,1,2,3,4,5,6,7,8,9,10,11,12,13,14,15], ⟨(some 28), none, (.u (some 50) .mv (.od (.t 27)))⟩⟩,
 ⟨.m, [0,1,2,3,4,5,6,7,8,9,10,11,12,13,14,15,16], ⟨(some 29), some (28, true), (.k (some 51) (.call 30) .nil)⟩⟩,
 ⟨.p, [0,1,2,3,4,5,6,7,8,9,10,11,12,13,14,15,16,17], ⟨(some 30), none, (.k (some 52) .pick (.cons (.od (.t 28)) (.cons (.od (.t 29)) (.cons (.od (.c (.bool false))) .nil))))⟩⟩,
 ⟨.p, [0,1,2,3,4,5,6,7,8,9,10,11,12,13,14,15,16,17,18], ⟨(some 1), none, (.u (some 2) .mv (.od (.t 30)))⟩⟩])
 (.ret)))))))
def lf13 : LF := ⟨31, 1, lc13, [.t 1], [0,2,3,4,5,21,31,32,33,6,7,8,34,35,36,37,38,39,40,41,42,43,44,45,46,47,48,49,50,51,52]⟩

-- oxbow/oxbowlaw22.UnitCovers
def lc14 : LC := (.seq (.reg [⟨(some 1), none, (.u (some 2) .mv (.od (.c (.bool false))))⟩])
 (.seq (.seq (.reg [⟨(some 2), none, (.u (some 13) (.un .not) (.k (some 12) (.call 43) (.cons (.od (.c .nils)) (.cons (.u (some 11) .mv (.od (.t 0))) .nil))))⟩])
 (.cond (.t 2) (.seq (.reg [⟨(some 1), none, (.u (some 2) .mv (.k (some 14) (.call 44) .nil))⟩])
 (.ret))
 (.skip)))
 (.seq (.reg [⟨(some 3), none, (.u (some 3) .mv (.k (some 16) (.call 45) (.cons (.u (some 15) .mv (.od (.t 0))) .nil)))⟩])
 (.seq (.reg [⟨(some 4), none, (.u (some 17) .mv (.k (some 20) (.call 46) (.cons (.k (some 19) (.call 47) (.cons (.u (some 18) .mv (.od (.t 3))) .nil)) .nil)))⟩,
 ⟨(some 5), none, (.u (some 21) (.ext 0) (.od (.t 4)))⟩,
 ⟨(some 6), none, (.u (some 22) (.ext 1) (.od (.t 4)))⟩,
 ⟨(some 7), none, (.u (some 4) .mv (.od (.t 5)))⟩,
 ⟨none, none, (.u (some 5) .mv (.od (.t 6)))⟩])
 (.seq (.reg [⟨(some 8), none, (.u (some 23) .mv (.k (some 26) (.call 48) (.cons (.k (some 25) (.call 47) (.cons (.u (some 24) .mv (.od (.t 3))) .nil)) .nil)))⟩,
 ⟨(some 9), none, (.u (some 27) (.ext 0) (.od (.t 8)))⟩,
 ⟨(some 10), none, (.u (some 28) (.ext 1) (.od (.t 8)))⟩,
 ⟨(some 11), none, (.a (some 6) [(.str []),(.str []),(.int .i64 (.ofNat 0)),(.int .i64 (.ofNat 0)),.nils] 50)⟩,
 ⟨none, none, (.b none false (.sta 5) (.od (.t 11)) (.od (.t 9)))⟩,
 ⟨(some 12), none, (.u (some 7) .mv (.od (.t 10)))⟩])
 (.seq (.reg [⟨(some 13), none, (.u (some 8) .mv (.od (.c (.int .i64 (.ofNat 0)))))⟩,
 ⟨(some 14), none, (.u (some 9) .mv (.od (.c (.int .i64 (.ofNat 0)))))⟩])
 (.seq (.seq (.reg [⟨(some 15), none, (.u (some 10) .mv (.od (.c (.int .i64 (.ofNat 0)))))⟩])
 (.blk 0 (.loop (.seq (.seq (.reg [⟨(some 16), none, (.b (some 32) false (.bin .lss) (.u (some 29) .mv (.od (.t 15))) (.u (some 31) .len (.u (some 30) .mv (.od (.t 7)))))⟩])
 (.cond (.t 16) (.skip)
 (.exit 0)))
 (.seq (.blk 1 (.seq (.seq (.drw [⟨.p, [], ⟨(some 17), none, (.u (some 35) .mv (.od (.t 7)))⟩⟩,
 ⟨.p, [], ⟨(some 18), none, (.u (some 36) .mv (.od (.t 15)))⟩⟩,
 ⟨.p, [0,1], ⟨(some 19), none, (.b (some 37) false (.iad 9) (.od (.t 17)) (.od (.t 18)))⟩⟩,
 ⟨.p, [0,1,2], ⟨(some 20), none, (.u (some 38) (.fad 5) (.od (.t 19)))⟩⟩,
 ⟨(.l 0 0), [0,1,2,3], ⟨(some 21), none, (.u (some 39) .ld (.od (.t 20)))⟩⟩,
 ⟨.p, [], ⟨(some 22), none, (.u (some 40) .mv (.od (.t 13)))⟩⟩,
 ⟨.p, [0,1,2,3,4,5], ⟨(some 23), none, (.b (some 41) false (.bin .neq) (.od (.t 21)) (.od (.t 22)))⟩⟩,
 ⟨.p, [0,1,2,3,4,5,6], ⟨(some 24), none, (.u (some 42) .mv (.od (.t 23)))⟩⟩,
 ⟨.p, [0,1,2,3,4,5,6,7], ⟨(some 25), some (24, false), (.u (some 43) .mv (.od (.t 7)))⟩⟩,
 ⟨.p, [0,1,2,3,4,5,6,7], ⟨(some 26), some (24, false), (.u (some 44) .mv (.od (.t 15)))⟩⟩,
 ⟨.p, [0,1,2,3,4,5,6,7,8,9], ⟨(some 27), some (24, false), (.b (some 45) false (.iad 9) (.od (.t 25)) (.od (.t 26)))⟩⟩,
 ⟨.p, [0,1,2,3,4,5,6,7,8,9,10], ⟨(some 28), some (24, false), (.u (some 46) (.fad 6) (.od (.t 27)))⟩⟩,
 ⟨(.l 0 0), [0,1,2,3,4,5,6,7,8,9,10,11], ⟨(some 29), some (24, false), (.u (some 47) .ld (.od (.t 28)))⟩⟩,
 ⟨.p, [0,1,2,3,4,5,6,7], ⟨(some 30), some (24, false), (.u (some 48) .mv (.od (.t 13)))⟩⟩,
 ⟨.p, [0,1,2,3,4,5,6,7,8,9,10,11,12,13], ⟨(some 31), some (24, false), (.b (some 49) false (.bin .leq) (.od (.t 29)) (.od (.t 30)))⟩⟩,
 ⟨.p, [0,1,2,3,4,5,6,7,8,9,10,11,12,13,14], ⟨(some 32), none, (.k (some 50) .pick (.cons (.od (.t 24)) (.cons (.od (.c (.bool true))) (.cons (.od (.t 31)) .nil))))⟩⟩,
 ⟨.p, [0,1,2,3,4,5,6,7,8,9,10,11,12,13,14,15], ⟨(some 33), none, (.u (some 51) .mv (.od (.t 32)))⟩⟩,
 ⟨.p, [0,1,2,3,4,5,6,7,8,9,10,11,12,13,14,15,16], ⟨(some 34), some (33, false), (.u (some 52) .mv (.od (.t 7)))⟩⟩,
 ⟨.p, [0,1,2,3,4,5,6,7,8,9,10,11,12,13,14,15,16], ⟨(some 35), some (33, false), (.u (some 53) .mv (.od (.t 15)))⟩⟩,
 ⟨.p, [0,1,2,3,4,5,6,7,8,9,10,11,12,13,14,15,16,17,18], ⟨(some 36), some (33, false), (.b (some 54) false (.iad 9) (.od (.t 34)) (.od (.t 35)))⟩⟩,
 ⟨.p, [0,1,2,3,4,5,6,7,8,9,10,11,12,13,14,15,16,17,18,19], ⟨(some 37), some (33, false), (.u (some 55) (.fad 6) (.od (.t 36)))⟩⟩,
 ⟨(.l 0 0), [0,1,2,3,4,5,6,7,8,9,10,11,12,13,14,15,16,17,18,19,20], ⟨(some 38), some (33, false), (.u (some 56) .ld (.od (.t 37)))⟩⟩,
 ⟨.p, [0,1,2,3,4,5,6,7,8,9,10,11,12,13,14,15,16], ⟨(some 39), some (33, false), (.u (some 57) .mv (.od (.t 3)))⟩⟩,
 ⟨.p, [0,1,2,3,4,5,6,7,8,9,10,11,12,13,14,15,16,22], ⟨(some 40), some (33, false), (.u (some 58) .len (.od (.t 39)))⟩⟩,
 ⟨.p, [0,1,2,3,4,5,6,7,8,9,10,11,12,13,14,15,16,22,23], ⟨(some 41), some (33, false), (.b (some 59) false (.bin .sub) (.od (.t 40)) (.od (.c (.int .i64 (.ofNat 1)))))⟩⟩,
 ⟨.p, [0,1,2,3,4,5,6,7,8,9,10,11,12,13,14,15,16,17,18,19,20,21,22,23,24], ⟨(some 42), some (33, false), (.b (some 60) false (.bin .gtr) (.od (.t 38)) (.od (.t 41)))⟩⟩,
 ⟨.p, [0,1,2,3,4,5,6,7,8,9,10,11,12,13,14,15,16,17,18,19,20,21,22,23,24,25], ⟨(some 43), none, (.k (some 61) .pick (.cons (.od (.t 33)) (.cons (.od (.c (.bool true))) (.cons (.od (.t 42)) .nil))))⟩⟩,
 ⟨.p, [0,1,2,3,4,5,6,7,8,9,10,11,12,13,14,15,16,17,18,19,20,21,22,23,24,25,26], ⟨(some 44), none, (.u (some 62) .mv (.od (.t 43)))⟩⟩,
 ⟨.p, [0,1,2,3,4,5,6,7,8,9,10,11,12,13,14,15,16,17,18,19,20,21,22,23,24,25,26,27], ⟨(some 45), some (44, false), (.u (some 63) .mv (.od (.t 7)))⟩⟩,
 ⟨.p, [0,1,2,3,4,5,6,7,8,9,10,11,12,13,14,15,16,17,18,19,20,21,22,23,24,25,26,27], ⟨(some 46), some (44, false), (.u (some 64) .mv (.od (.t 15)))⟩⟩,
 ⟨.p, [0,1,2,3,4,5,6,7,8,9,10,11,12,13,14,15,16,17,18,19,20,21,22,23,24,25,26,27,28,29], ⟨(some 47), some (44, false), (.b (some 65) false (.iad 9) (.od (.t 45)) (.od (.t 46)))⟩⟩,
 ⟨.p, [0,1,2,3,4,5,6,7,8,9,10,11,12,13,14,15,16,17,18,19,20,21,22,23,24,25,26,27,28,29,30], ⟨(some 48), some (44, false), (.u (some 66) (.fad 0) (.od (.t 47)))⟩⟩,
 ⟨(.l 0 0), [0,1,2,3,4,5,6,7,8,9,10,11,12,13,14,15,16,17,18,19,20,21,22,23,24,25,26,27,28,29,30,31], ⟨(some 49), some (44, false), (.u (some 67) (.lda 5) (.od (.t 48)))⟩⟩,
 ⟨.p, [0,1,2,3,4,5,6,7,8,9,10,11,12,13,14,15,16,17,18,19,20,21,22,23,24,25,26,27], ⟨(some 50), some (44, false), (.u (some 68) .mv (.od (.t 7)))⟩⟩,
 ⟨.p, [0,1,2,3,4,5,6,7,8,9,10,11,12,13,14,15,16,17,18,19,20,21,22,23,24,25,26,27], ⟨(some 51), some (44, false), (.u (some 69) .mv (.od (.t 15)))⟩⟩,
 ⟨.p, [0,1,2,3,4,5,6,7,8,9,10,11,12,13,14,15,16,17,18,19,20,21,22,23,24,25,26,27,33,34], ⟨(some 52), some (44, false), (.b (some 70) false (.iad 9) (.od (.t 50)) (.od (.t 51)))⟩⟩,
 ⟨.p, [0,1,2,3,4,5,6,7,8,9,10,11,12,13,14,15,16,17,18,19,20,21,22,23,24,25,26,27,33,34,35], ⟨(some 53), some (44, false), (.u (some 71) (.fad 5) (.od (.t 52)))⟩⟩,
 ⟨(.l 0 0), [0,1,2,3,4,5,6,7,8,9,10,11,12,13,14,15,16,17,18,19,20,21,22,23,24,25,26,27,33,34,35,36], ⟨(some 54), some (44, false), (.u (some 72) .ld (.od (.t 53)))⟩⟩,
 ⟨.p, [0,1,2,3,4,5,6,7,8,9,10,11,12,13,14,15,16,17,18,19,20,21,22,23,24,25,26,27], ⟨(some 55), some (44, false), (.u (some 73) .mv (.od (.t 7)))⟩⟩,
 ⟨.p, [0,1,2,3,4,5,6,7,8,9,10,11,12,13,14,15,16,17,18,19,20,21,22,23,24,25,26,27], ⟨(some 56), some (44, false), (.u (some 74) .mv (.od (.t 15)))⟩⟩,
 ⟨.p, [0,1,2,3,4,5,6,7,8,9,10,11,12,13,14,15,16,17,18,19,20,21,22,23,24,25,26,27,38,39], ⟨(some 57), some (44, false), (.b (some 75) false (.iad 9) (.od (.t 55)) (.od (.t 56)))⟩⟩,
 ⟨.p, [0,1,2,3,4,5,6,7,8,9,10,11,12,13,14,15,16,17,18,19,20,21,22,23,24,25,26,27,38,39,40], ⟨(some 58), some (44, false), (.u (some 76) (.fad 6) (.od (.t 57)))⟩⟩,
 ⟨(.l 0 0), [0,1,2,3,4,5,6,7,8,9,10,11,12,13,14,15,16,17,18,19,20,21,22,23,24,25,26,27,38,39,40,41], ⟨(some 59), some (44, false), (.u (some 77) .ld (.od (.t 58)))⟩⟩,
 ⟨.m, [0,1,2,3,4,5,6,7,8,9,10,11,12,13,14,15,16,17,18,19,20,21,22,23,24,25,26,27,28,29,30,31,32,33,34,35,36,37,38,39,40,41,42], ⟨(some 60), some (44, false), (.k (some 78) (.call 49) (.cons (.od (.t 49)) (.cons (.od (.t 54)) (.cons (.od (.t 59)) .nil))))⟩⟩,
 ⟨.p, [0,1,2,3,4,5,6,7,8,9,10,11,12,13,14,15,16,17,18,19,20,21,22,23,24,25,26,27,28,29,30,31,32,33,34,35,36,37,38,39,40,41,42,43], ⟨(some 61), some (44, false), (.u (some 79) (.un .not) (.od (.t 60)))⟩⟩,
 ⟨.p, [0,1,2,3,4,5,6,7,8,9,10,11,12,13,14,15,16,17,18,19,20,21,22,23,24,25,26,27,28,29,30,31,32,33,34,35,36,37,38,39,40,41,42,43,44], ⟨(some 62), none, (.k (some 80) .pick (.cons (.od (.t 44)) (.cons (.od (.c (.bool true))) (.cons (.od (.t 61)) .nil))))⟩⟩])
 (.cond (.t 62) (.seq (.reg [⟨(some 1), none, (.u (some 2) .mv (.od (.c (.bool false))))⟩])
 (.ret))
 (.skip)))
 (.seq (.seq (.reg [⟨(some 63), none, (.u (some 85) .ld (.u (some 84) (.fad 7) (.b (some 83) false (.iad 9) (.u (some 81) .mv (.od (.t 7))) (.u (some 82) .mv (.od (.t 15))))))⟩])
 (.cond (.t 63) (.seq (.reg [⟨(some 14), none, (.u (some 9) .mv (.b (some 87) false (.bin .add) (.u (some 86) .mv (.od (.t 14))) (.od (.c (.int .i64 (.ofNat 1))))))⟩])
 (.seq (.drw [⟨.p, [], ⟨(some 64), none, (.u (some 88) .mv (.od (.t 7)))⟩⟩,
 ⟨.p, [], ⟨(some 65), none, (.u (some 89) .mv (.od (.t 15)))⟩⟩,
 ⟨.p, [0,1], ⟨(some 66), none, (.b (some 90) false (.iad 9) (.od (.t 64)) (.od (.t 65)))⟩⟩,
 ⟨.p, [0,1,2], ⟨(some 67), none, (.u (some 91) (.fad 8) (.od (.t 66)))⟩⟩,
 ⟨(.l 0 0), [0,1,2,3], ⟨(some 68), none, (.u (some 92) .ld (.od (.t 67)))⟩⟩,
 ⟨.p, [], ⟨(some 69), none, (.u (some 93) .mv (.od (.t 7)))⟩⟩,
 ⟨.p, [], ⟨(some 70), none, (.u (some 94) .mv (.od (.t 15)))⟩⟩,
 ⟨.p, [5,6], ⟨(some 71), none, (.b (some 95) false (.iad 9) (.od (.t 69)) (.od (.t 70)))⟩⟩,
 ⟨.p, [5,6,7], ⟨(some 72), none, (.u (some 96) (.fad 5) (.od (.t 71)))⟩⟩,
 ⟨(.l 0 0), [5,6,7,8], ⟨(some 73), none, (.u (some 97) .ld (.od (.t 72)))⟩⟩,
 ⟨.p, [0,1,2,3,4,5,6,7,8,9], ⟨(some 74), none, (.b (some 98) false (.bin .lss) (.od (.t 68)) (.od (.t 73)))⟩⟩,
 ⟨.p, [0,1,2,3,4,5,6,7,8,9,10], ⟨(some 75), none, (.u (some 99) .mv (.od (.t 74)))⟩⟩,
 ⟨.p, [0,1,2,3,4,5,6,7,8,9,10,11], ⟨(some 76), some (75, false), (.u (some 100) .mv (.od (.t 7)))⟩⟩,
 ⟨.p, [0,1,2,3,4,5,6,7,8,9,10,11], ⟨(some 77), some (75, false), (.u (some 101) .mv (.od (.t 15)))⟩⟩,
 ⟨.p, [0,1,2,3,4,5,6,7,8,9,10,11,12,13], ⟨(some 78), some (75, false), (.b (some 102) false (.iad 9) (.od (.t 76)) (.od (.t 77)))⟩⟩,
 ⟨.p, [0,1,2,3,4,5,6,7,8,9,10,11,12,13,14], ⟨(some 79), some (75, false), (.u (some 103) (.fad 8) (.od (.t 78)))⟩⟩,
 ⟨(.l 0 0), [0,1,2,3,4,5,6,7,8,9,10,11,12,13,14,15], ⟨(some 80), some (75, false), (.u (some 104) .ld (.od (.t 79)))⟩⟩,
 ⟨.p, [0,1,2,3,4,5,6,7,8,9,10,11], ⟨(some 81), some (75, false), (.u (some 105) .mv (.od (.t 3)))⟩⟩,
 ⟨.p, [0,1,2,3,4,5,6,7,8,9,10,11,17], ⟨(some 82), some (75, false), (.u (some 106) .len (.od (.t 81)))⟩⟩,
 ⟨.p, [0,1,2,3,4,5,6,7,8,9,10,11,12,13,14,15,16,17,18], ⟨(some 83), some (75, false), (.b (some 107) false (.bin .geq) (.od (.t 80)) (.od (.t 82)))⟩⟩,
 ⟨.p, [0,1,2,3,4,5,6,7,8,9,10,11,12,13,14,15,16,17,18,19], ⟨(some 84), none, (.k (some 108) .pick (.cons (.od (.t 75)) (.cons (.od (.c (.bool true))) (.cons (.od (.t 83)) .nil))))⟩⟩,
 ⟨.p, [0,1,2,3,4,5,6,7,8,9,10,11,12,13,14,15,16,17,18,19,20], ⟨(some 85), none, (.u (some 109) .mv (.od (.t 84)))⟩⟩,
 ⟨.p, [0,1,2,3,4,5,6,7,8,9,10,11,12,13,14,15,16,17,18,19,20,21], ⟨(some 86), some (85, false), (.u (some 110) .mv (.od (.t 7)))⟩⟩,
 ⟨.p, [0,1,2,3,4,5,6,7,8,9,10,11,12,13,14,15,16,17,18,19,20,21], ⟨(some 87), some (85, false), (.u (some 111) .mv (.od (.t 15)))⟩⟩,
 ⟨.p, [0,1,2,3,4,5,6,7,8,9,10,11,12,13,14,15,16,17,18,19,20,21,22,23], ⟨(some 88), some (85, false), (.b (some 112) false (.iad 9) (.od (.t 86)) (.od (.t 87)))⟩⟩,
 ⟨.p, [0,1,2,3,4,5,6,7,8,9,10,11,12,13,14,15,16,17,18,19,20,21,22,23,24], ⟨(some 89), some (85, false), (.u (some 113) (.fad 0) (.od (.t 88)))⟩⟩,
 ⟨.p, [0,1,2,3,4,5,6,7,8,9,10,11,12,13,14,15,16,17,18,19,20,21,22,23,24,25], ⟨(some 90), some (85, false), (.u (some 114) (.fad 0) (.od (.t 89)))⟩⟩,
 ⟨(.l 0 0), [0,1,2,3,4,5,6,7,8,9,10,11,12,13,14,15,16,17,18,19,20,21,22,23,24,25,26], ⟨(some 91), some (85, false), (.u (some 115) .ld (.od (.t 90)))⟩⟩,
 ⟨.p, [0,1,2,3,4,5,6,7,8,9,10,11,12,13,14,15,16,17,18,19,20,21,22,23,24,25,26,27], ⟨(some 92), some (85, false), (.b (some 116) false (.bin .neq) (.od (.t 91)) (.od (.c (.str [101,114,114,111,114]))))⟩⟩,
 ⟨.p, [0,1,2,3,4,5,6,7,8,9,10,11,12,13,14,15,16,17,18,19,20,21,22,23,24,25,26,27,28], ⟨(some 93), none, (.k (some 117) .pick (.cons (.od (.t 85)) (.cons (.od (.c (.bool true))) (.cons (.od (.t 92)) .nil))))⟩⟩,
 ⟨.p, [0,1,2,3,4,5,6,7,8,9,10,11,12,13,14,15,16,17,18,19,20,21,22,23,24,25,26,27,28,29], ⟨(some 94), none, (.u (some 118) .mv (.od (.t 93)))⟩⟩,
 ⟨.p, [0,1,2,3,4,5,6,7,8,9,10,11,12,13,14,15,16,17,18,19,20,21,22,23,24,25,26,27,28,29,30], ⟨(some 95), some (94, false), (.u (some 119) .mv (.od (.t 7)))⟩⟩,
 ⟨.p, [0,1,2,3,4,5,6,7,8,9,10,11,12,13,14,15,16,17,18,19,20,21,22,23,24,25,26,27,28,29,30], ⟨(some 96), some (94, false), (.u (some 120) .mv (.od (.t 15)))⟩⟩,
 ⟨.p, [0,1,2,3,4,5,6,7,8,9,10,11,12,13,14,15,16,17,18,19,20,21,22,23,24,25,26,27,28,29,30,31,32], ⟨(some 97), some (94, false), (.b (some 121) false (.iad 9) (.od (.t 95)) (.od (.t 96)))⟩⟩,
 ⟨.p, [0,1,2,3,4,5,6,7,8,9,10,11,12,13,14,15,16,17,18,19,20,21,22,23,24,25,26,27,28,29,30,31,32,33], ⟨(some 98), some (94, false), (.u (some 122) (.fad 0) (.od (.t 97)))⟩⟩,
 ⟨.p, [0,1,2,3,4,5,6,7,8,9,10,11,12,13,14,15,16,17,18,19,20,21,22,23,24,25,26,27,28,29,30,31,32,33,34], ⟨(some 99), some (94, false), (.u (some 123) (.fad 4) (.od (.t 98)))⟩⟩,
 ⟨(.l 0 0), [0,1,2,3,4,5,6,7,8,9,10,11,12,13,14,15,16,17,18,19,20,21,22,23,24,25,26,27,28,29,30,31,32,33,34,35], ⟨(some 100), some (94, false), (.u (some 124) .ld (.od (.t 99)))⟩⟩,
 ⟨.p, [0,1,2,3,4,5,6,7,8,9,10,11,12,13,14,15,16,17,18,19,20,21,22,23,24,25,26,27,28,29,30,31,32,33,34,35,36], ⟨(some 101), some (94, false), (.u (some 125) .len (.od (.t 100)))⟩⟩,
 ⟨.p, [0,1,2,3,4,5,6,7,8,9,10,11,12,13,14,15,16,17,18,19,20,21,22,23,24,25,26,27,28,29,30,31,32,33,34,35,36,37], ⟨(some 102), some (94, false), (.b (some 126) false (.bin .neq) (.od (.t 101)) (.od (.c (.int .i64 (.ofNat 0)))))⟩⟩,
 ⟨.p, [0,1,2,3,4,5,6,7,8,9,10,11,12,13,14,15,16,17,18,19,20,21,22,23,24,25,26,27,28,29,30,31,32,33,34,35,36,37,38], ⟨(some 103), none, (.k (some 127) .pick (.cons (.od (.t 94)) (.cons (.od (.c (.bool true))) (.cons (.od (.t 102)) .nil))))⟩⟩])
 (.cond (.t 103) (.seq (.reg [⟨(some 1), none, (.u (some 2) .mv (.od (.c (.bool false))))⟩])
 (.ret))
 (.skip))))
 (.skip)))
 (.reg [⟨(some 13), none, (.u (some 8) .mv (.u (some 132) .ld (.u (some 131) (.fad 6) (.b (some 130) false (.iad 9) (.u (some 128) .mv (.od (.t 7))) (.u (some 129) .mv (.od (.t 15)))))))⟩]))))
 (.reg [⟨(some 15), none, (.u (some 10) .mv (.b (some 34) false (.bin .add) (.u (some 33) .mv (.od (.t 15))) (.od (.c (.int .i64 (.ofNat 1))))))⟩]))))))
 (.seq (.reg [⟨(some 1), none, (.u (some 2) .mv (.gd (some 162) true false (.u (some 160) .mv (.gd (some 159) true false (.u (some 152) .mv (.gd (some 151) true false (.u (some 144) .mv (.gd (some 143) true false (.u (some 138) .mv (.b (some 137) false (.bin .eql) (.u (some 133) .mv (.od (.t 13))) (.b (some 136) false (.bin .sub) (.u (some 135) .len (.u (some 134) .mv (.od (.t 3)))) (.od (.c (.int .i64 (.ofNat 1))))))) (.b (some 142) false (.bin .eql) (.u (some 140) .len (.u (some 139) .mv (.od (.t 12)))) (.u (some 141) .mv (.od (.t 14)))))) (.b (some 150) false (.bin .eql) (.u (some 147) .len (.u (some 146) .ld (.u (some 145) (.fad 4) (.od (.t 11))))) (.u (some 149) .len (.u (some 148) .mv (.od (.t 7))))))) (.b (some 158) false (.bin .eql) (.u (some 154) .ld (.u (some 153) (.fad 3) (.od (.t 11)))) (.b (some 157) false (.bin .sub) (.u (some 156) .len (.u (some 155) .mv (.od (.t 3)))) (.od (.c (.int .i64 (.ofNat 1)))))))) (.k (some 161) (.call 44) .nil)))⟩])
 (.ret)))))))))
def lf14 : LF := ⟨104, 1, lc14, [.t 1], [0,2,13,3,17,21,22,4,23,27,28,6,7,8,9,10,32,35,36,37,38,39,40,41,42,43,44,45,46,47,48,49,50,51,52,53,54,55,56,57,58,59,60,61,62,63,64,65,66,67,68,69,70,71,72,73,74,75,76,77,78,79,80,85,88,89,90,91,92,93,94,95,96,97,98,99,100,101,102,103,104,105,106,107,108,109,110,111,112,113,114,115,116,117,118,119,120,121,122,123,124,125,126,127]⟩

-- oxbow/oxbowlaw22.UnitErrors
def lc15 : LC := (.seq (.reg [⟨(some 3), none, (.u (some 6) .mv (.od (.c (.bool false))))⟩])
 (.seq (.reg [⟨(some 4), none, (.u (some 7) .mv (.k (some 14) (.bsl 1 9) (.cons (.od (.c (.str [105,110,116,32,59,59,32,43,32,120,59]))) (.cons (.od (.c (.str [42,32,120,59]))) (.cons (.od (.c (.str [105,110,116,32,102,40,32,123,32,97,59,32,123,32,98,59,32,125,32,125]))) (.cons (.od (.c (.str [115,116,114,117,99,116,32,123,32,105,110,116,59,32]))) (.cons (.od (.c (.str [120,32,121,32,122,59]))) (.cons (.od (.c (.str [105,110,116,32,97,91,59]))) (.cons (.od (.c (.str [125,32]))) .nil)))))))))⟩])
 (.seq (.seq (.reg [⟨(some 5), none, (.gd (some 20) false true (.u (some 17) .mv (.b (some 16) false (.bin .lss) (.u (some 15) .mv (.od (.t 0))) (.od (.c (.int .i64 (.ofNat 1)))))) (.b (some 19) false (.bin .gtr) (.u (some 18) .mv (.od (.t 0))) (.od (.c (.int .i64 (.ofNat 20))))))⟩])
 (.cond (.t 5) (.seq (.reg [⟨(some 3), none, (.u (some 6) .mv (.k (some 21) (.call 44) .nil))⟩])
 (.ret))
 (.skip)))
 (.seq (.reg [⟨(some 1), none, (.u (some 1) .mv (.b (some 28) false (.bin .rem) (.b (some 26) false (.bin .add) (.b (some 24) false (.bin .rem) (.u (some 22) .mv (.od (.t 1))) (.u (some 23) .mv (.od (.t 0)))) (.u (some 25) .mv (.od (.t 0)))) (.u (some 27) .mv (.od (.t 0)))))⟩])
 (.seq (.reg [⟨(some 2), none, (.u (some 2) .mv (.b (some 32) false (.bin .rem) (.b (some 31) false (.bin .add) (.b (some 30) false (.bin .rem) (.u (some 29) .mv (.od (.t 2))) (.od (.c (.int .i64 (.ofNat 4))))) (.od (.c (.int .i64 (.ofNat 4))))) (.od (.c (.int .i64 (.ofNat 4))))))⟩])
 (.seq (.reg [⟨(some 6), none, (.u (some 8) .mv (.od (.c (.str []))))⟩])
 (.seq (.reg [⟨(some 7), none, (.u (some 9) .mv (.od (.c .nils)))⟩])
 (.seq (.seq (.reg [⟨(some 8), none, (.u (some 10) .mv (.od (.c (.int .i64 (.ofNat 0)))))⟩])
 (.blk 0 (.loop (.seq (.seq (.reg [⟨(some 9), none, (.b (some 35) false (.bin .lss) (.u (some 33) .mv (.od (.t 8))) (.u (some 34) .mv (.od (.t 0))))⟩])
 (.cond (.t 9) (.skip)
 (.exit 0)))
 (.seq (.blk 1 (.seq (.seq (.reg [⟨(some 10), none, (.b (some 40) false (.bin .eql) (.u (some 38) .mv (.od (.t 8))) (.u (some 39) .mv (.od (.t 1))))⟩])
 (.cond (.t 10) (.seq (.reg [⟨(some 6), none, (.u (some 8) .mv (.b (some 50) false (.bin .add) (.b (some 49) false (.bin .add) (.u (some 41) .mv (.od (.t 6))) (.u (some 48) .ld (.b (some 47) false (.iad 1) (.u (some 42) .mv (.od (.t 4))) (.u (some 46) .ld (.b (some 45) false (.iad 1) (.k (some 43) (.bsl 1 3) (.cons (.od (.c (.int .i64 (.ofNat 1)))) (.cons (.od (.c (.int .i64 (.ofNat 2)))) (.cons (.od (.c (.int .i64 (.ofNat 4)))) (.cons (.od (.c (.int .i64 (.ofNat 5)))) .nil))))) (.u (some 44) .mv (.od (.t 2)))))))) (.od (.c (.str [32])))))⟩])
 (.reg [⟨(some 7), none, (.u (some 9) .mv (.b (some 53) false (.app 1 16 9) (.u (some 51) .mv (.od (.t 7))) (.k (some 52) (.bsl 1 9) (.cons (.od (.c (.str [40,101,114,114,111,114,41]))) .nil))))⟩]))
 (.skip)))
 (.seq (.reg [⟨(some 6), none, (.u (some 8) .mv (.b (some 55) false (.bin .add) (.u (some 54) .mv (.od (.t 6))) (.od (.c (.str [105,110,116,32,118,59,32])))))⟩])
 (.reg [⟨(some 7), none, (.u (some 9) .mv (.b (some 58) false (.app 1 16 9) (.u (some 56) .mv (.od (.t 7))) (.k (some 57) (.bsl 1 9) (.cons (.od (.c (.str [40,100,101,99,108,97,114,101,32,40,115,112,101,99,115,32,40,116,121,112,101,32,105,110,116,41,41,32,40,110,97,109,101,32,118,41,41]))) .nil))))⟩]))))
 (.reg [⟨(some 8), none, (.u (some 10) .mv (.b (some 37) false (.bin .add) (.u (some 36) .mv (.od (.t 8))) (.od (.c (.int .i64 (.ofNat 1))))))⟩]))))))
 (.seq (.reg [⟨(some 11), none, (.u (some 59) .mv (.k (some 63) (.call 48) (.cons (.k (some 62) (.call 47) (.cons (.k (some 61) (.call 45) (.cons (.u (some 60) .mv (.od (.t 6))) .nil)) .nil)) .nil)))⟩,
 ⟨(some 12), none, (.u (some 64) (.ext 0) (.od (.t 11)))⟩,
 ⟨(some 13), none, (.u (some 65) (.ext 1) (.od (.t 11)))⟩,
 ⟨(some 14), none, (.a (some 11) [(.str []),(.str []),(.int .i64 (.ofNat 0)),(.int .i64 (.ofNat 0)),.nils] 50)⟩,
 ⟨none, none, (.b none false (.sta 5) (.od (.t 14)) (.od (.t 12)))⟩,
 ⟨(some 15), none, (.u (some 12) .mv (.od (.t 13)))⟩])
 (.seq (.seq (.reg [⟨(some 16), none, (.gd (some 76) false true (.u (some 72) .mv (.b (some 71) false (.bin .neq) (.u (some 68) .len (.u (some 67) .ld (.u (some 66) (.fad 4) (.od (.t 14))))) (.u (some 70) .len (.u (some 69) .mv (.od (.t 7)))))) (.b (some 75) false (.bin .neq) (.u (some 74) .len (.u (some 73) .mv (.od (.t 15)))) (.od (.c (.int .i64 (.ofNat 1))))))⟩])
 (.cond (.t 16) (.seq (.reg [⟨(some 3), none, (.u (some 6) .mv (.od (.c (.bool false))))⟩])
 (.ret))
 (.skip)))
 (.seq (.seq (.reg [⟨(some 17), none, (.u (some 13) .mv (.od (.c (.int .i64 (.ofNat 0)))))⟩])
 (.blk 2 (.loop (.seq (.seq (.reg [⟨(some 18), none, (.b (some 80) false (.bin .lss) (.u (some 77) .mv (.od (.t 17))) (.u (some 79) .len (.u (some 78) .mv (.od (.t 7)))))⟩])
 (.cond (.t 18) (.skip)
 (.exit 2)))
 (.seq (.blk 3 (.seq (.drw [⟨.p, [], ⟨(some 19), none, (.u (some 83) (.fad 4) (.od (.t 14)))⟩⟩,
 ⟨(.l 0 0), [0], ⟨(some 20), none, (.u (some 84) .ld (.od (.t 19)))⟩⟩,
 ⟨.p, [], ⟨(some 21), none, (.u (some 85) .mv (.od (.t 17)))⟩⟩,
 ⟨.p, [0,1,2], ⟨(some 22), none, (.b (some 86) false (.iad 5) (.od (.t 20)) (.od (.t 21)))⟩⟩,
 ⟨(.l 0 0), [0,1,2,3], ⟨(some 23), none, (.u (some 87) (.lda 5) (.od (.t 22)))⟩⟩,
 ⟨.m, [0,1,2,3,4], ⟨(some 24), none, (.k (some 88) (.call 28) (.cons (.od (.t 23)) .nil))⟩⟩,
 ⟨.p, [], ⟨(some 25), none, (.u (some 89) .mv (.od (.t 7)))⟩⟩,
 ⟨.p, [], ⟨(some 26), none, (.u (some 90) .mv (.od (.t 17)))⟩⟩,
 ⟨.p, [6,7], ⟨(some 27), none, (.b (some 91) false (.iad 1) (.od (.t 25)) (.od (.t 26)))⟩⟩,
 ⟨(.l 0 1), [6,7,8], ⟨(some 28), none, (.u (some 92) .ld (.od (.t 27)))⟩⟩,
 ⟨.p, [0,1,2,3,4,5,6,7,8,9], ⟨(some 29), none, (.b (some 93) false (.bin .neq) (.od (.t 24)) (.od (.t 28)))⟩⟩])
 (.cond (.t 29) (.seq (.reg [⟨(some 3), none, (.u (some 6) .mv (.od (.c (.bool false))))⟩])
 (.ret))
 (.skip))))
 (.reg [⟨(some 17), none, (.u (some 13) .mv (.b (some 82) false (.bin .add) (.u (some 81) .mv (.od (.t 17))) (.od (.c (.int .i64 (.ofNat 1))))))⟩]))))))
 (.seq (.reg [⟨(some 3), none, (.u (some 6) .mv (.k (some 94) (.call 44) .nil))⟩])
 (.ret)))))))))))))
def lf15 : LF := ⟨30, 3, lc15, [.t 3], [0,1,2,6,7,20,8,9,10,35,40,59,64,65,11,12,76,13,80,83,84,85,86,87,88,89,90,91,92,93]⟩

-- oxbow/oxbowlaw22.UnitFunctions
def lc16 : LC := (.seq (.reg [⟨(some 1), none, (.u (some 2) .mv (.od (.c (.bool false))))⟩])
 (.seq (.reg [⟨(some 2), none, (.u (some 3) .mv (.k (some 9) (.bsl 1 9) (.cons (.od (.c (.str [105,110,116,32,102,40,105,110,116,32,84,41,32,123,32,114,101,116,117,114,110,32,84,32,42,32,120,59,32,125,32,84,32,42,32,121,59]))) (.cons (.od (.c (.str [105,110,116,32,102,40,84,41,32,105,110,116,32,84,59,32,123,32,84,32,42,32,120,59,32,125,32,84,32,42,32,121,59]))) (.cons (.od (.c (.str [105,110,116,32,102,40,97,41,32,84,32,97,59,32,123,32,84,32,42,32,97,59,32,125,32]))) (.cons (.od (.c (.str [84,32,102,40,84,32,97,41,32,123,32,84,32,98,59,32,125]))) (.cons (.od (.c (.str [105,110,116,32,84,40,118,111,105,100,41,32,123,32,84,32,42,32,120,59,32,125,32,105,110,116,32,122,32,61,32,84,32,42,32,121,59]))) (.cons (.od (.c (.str [116,121,112,101,100,101,102,32,105,110,116,32,102,40,105,110,116,32,97,41,59,32,102,32,103,59]))) (.cons (.od (.c (.str [105,110,116,32,102,40,105,110,116,32,84,44,32,84,32,98,41,32,59]))) (.cons (.od (.c (.str [105,110,116,32,40,42,102,40,105,110,116,32,84,41,41,40,118,111,105,100,41,32,123,32,84,32,42,32,120,59,32,125]))) (.cons (.od (.c (.str [118,111,105,100,32,102,40,118,111,105,100,41,32,123,32,116,121,112,101,100,101,102,32,105,110,116,32,85,59,32,85,32,42,32,97,59,32,125,32,105,110,116,32,98,32,61,32,85,32,42,32,99,59]))) .nil)))))))))))⟩])
 (.seq (.reg [⟨(some 3), none, (.u (some 4) .mv (.k (some 10) (.bsl 1 9) (.cons (.od (.c (.str [40,117,110,105,116,32,40,102,117,110,99,116,105,111,110,32,40,115,112,101,99,115,32,40,116,121,112,101,32,105,110,116,41,41,32,40,102,117,110,99,32,40,110,97,109,101,32,102,41,32,40,112,97,114,97,109,32,40,115,112,101,99,115,32,40,116,121,112,101,32,105,110,116,41,41,32,40,110,97,109,101,32,84,41,41,41,32,40,98,108,111,99,107,32,40,114,101,116,117,114,110,32,40,98,105,110,97,114,121,32,42,32,40,110,97,109,101,32,84,41,32,40,110,97,109,101,32,120,41,41,41,41,41,32,40,100,101,99,108,97,114,101,32,40,115,112,101,99,115,32,40,116,121,112,101,110,97,109,101,32,84,41,41,32,40,112,111,105,110,116,101,114,32,40,110,97,109,101,32,121,41,41,41,41]))) (.cons (.od (.c (.str [40,117,110,105,116,32,40,102,117,110,99,116,105,111,110,32,40,115,112,101,99,115,32,40,116,121,112,101,32,105,110,116,41,41,32,40,102,117,110,99,32,40,110,97,109,101,32,102,41,32,40,112,97,114,97,109,32,40,115,112,101,99,115,32,40,116,121,112,101,110,97,109,101,32,84,41,41,32,40,110,111,110,101,41,41,41,32,40,100,101,99,108,97,114,101,32,40,115,112,101,99,115,32,40,116,121,112,101,32,105,110,116,41,41,32,40,110,97,109,101,32,84,41,41,32,40,98,108,111,99,107,32,40,101,120,112,114,32,40,98,105,110,97,114,121,32,42,32,40,110,97,109,101,32,84,41,32,40,110,97,109,101,32,120,41,41,41,41,41,32,40,100,101,99,108,97,114,101,32,40,115,112,101,99,115,32,40,116,121,112,101,110,97,109,101,32,84,41,41,32,40,112,111,105,110,116,101,114,32,40,110,97,109,101,32,121,41,41,41,41]))) (.cons (.od (.c (.str [40,117,110,105,116,32,40,102,117,110,99,116,105,111,110,32,40,115,112,101,99,115,32,40,116,121,112,101,32,105,110,116,41,41,32,40,102,117,110,99,32,40,110,97,109,101,32,102,41,32,40,105,100,32,97,41,41,32,40,100,101,99,108,97,114,101,32,40,115,112,101,99,115,32,40,116,121,112,101,110,97,109,101,32,84,41,41,32,40,110,97,109,101,32,97,41,41,32,40,98,108,111,99,107,32,40,100,101,99,108,97,114,101,32,40,115,112,101,99,115,32,40,116,121,112,101,110,97,109,101,32,84,41,41,32,40,112,111,105,110,116,101,114,32,40,110,97,109,101,32,97,41,41,41,41,41,41]))) (.cons (.od (.c (.str [40,117,110,105,116,32,40,102,117,110,99,116,105,111,110,32,40,115,112,101,99,115,32,40,116,121,112,101,110,97,109,101,32,84,41,41,32,40,102,117,110,99,32,40,110,97,109,101,32,102,41,32,40,112,97,114,97,109,32,40,115,112,101,99,115,32,40,116,121,112,101,110,97,109,101,32,84,41,41,32,40,110,97,109,101,32,97,41,41,41,32,40,98,108,111,99,107,32,40,100,101,99,108,97,114,101,32,40,115,112,101,99,115,32,40,116,121,112,101,110,97,109,101,32,84,41,41,32,40,110,97,109,101,32,98,41,41,41,41,41]))) (.cons (.od (.c (.str [40,117,110,105,116,32,40,102,117,110,99,116,105,111,110,32,40,115,112,101,99,115,32,40,116,121,112,101,32,105,110,116,41,41,32,40,102,117,110,99,32,40,110,97,109,101,32,84,41,41,32,40,98,108,111,99,107,32,40,101,120,112,114,32,40,98,105,110,97,114,121,32,42,32,40,110,97,109,101,32,84,41,32,40,110,97,109,101,32,120,41,41,41,41,41,32,40,100,101,99,108,97,114,101,32,40,115,112,101,99,115,32,40,116,121,112,101,32,105,110,116,41,41,32,40,105,110,105,116,32,40,110,97,109,101,32,122,41,32,40,98,105,110,97,114,121,32,42,32,40,110,97,109,101,32,84,41,32,40,110,97,109,101,32,121,41,41,41,41,41]))) (.cons (.od (.c (.str [40,117,110,105,116,32,40,100,101,99,108,97,114,101,32,40,115,112,101,99,115,32,40,115,116,111,114,97,103,101,32,116,121,112,101,100,101,102,41,32,40,116,121,112,101,32,105,110,116,41,41,32,40,102,117,110,99,32,40,110,97,109,101,32,102,41,32,40,112,97,114,97,109,32,40,115,112,101,99,115,32,40,116,121,112,101,32,105,110,116,41,41,32,40,110,97,109,101,32,97,41,41,41,41,32,40,100,101,99,108,97,114,101,32,40,115,112,101,99,115,32,40,116,121,112,101,110,97,109,101,32,102,41,41,32,40,110,97,109,101,32,103,41,41,41]))) (.cons (.od (.c (.str []))) (.cons (.od (.c (.str [40,117,110,105,116,32,40,102,117,110,99,116,105,111,110,32,40,115,112,101,99,115,32,40,116,121,112,101,32,105,110,116,41,41,32,40,102,117,110,99,32,40,112,111,105,110,116,101,114,32,40,102,117,110,99,32,40,110,97,109,101,32,102,41,32,40,112,97,114,97,109,32,40,115,112,101,99,115,32,40,116,121,112,101,32,105,110,116,41,41,32,40,110,97,109,101,32,84,41,41,41,41,41,32,40,98,108,111,99,107,32,40,101,120,112,114,32,40,98,105,110,97,114,121,32,42,32,40,110,97,109,101,32,84,41,32,40,110,97,109,101,32,120,41,41,41,41,41,41]))) (.cons (.od (.c (.str [40,117,110,105,116,32,40,102,117,110,99,116,105,111,110,32,40,115,112,101,99,115,32,40,116,121,112,101,32,118,111,105,100,41,41,32,40,102,117,110,99,32,40,110,97,109,101,32,102,41,41,32,40,98,108,111,99,107,32,40,100,101,99,108,97,114,101,32,40,115,112,101,99,115,32,40,115,116,111,114,97,103,101,32,116,121,112,101,100,101,102,41,32,40,116,121,112,101,32,105,110,116,41,41,32,40,110,97,109,101,32,85,41,41,32,40,100,101,99,108,97,114,101,32,40,115,112,101,99,115,32,40,116,121,112,101,110,97,109,101,32,85,41,41,32,40,112,111,105,110,116,101,114,32,40,110,97,109,101,32,97,41,41,41,41,41,32,40,100,101,99,108,97,114,101,32,40,115,112,101,99,115,32,40,116,121,112,101,32,105,110,116,41,41,32,40,105,110,105,116,32,40,110,97,109,101,32,98,41,32,40,98,105,110,97,114,121,32,42,32,40,110,97,109,101,32,85,41,32,40,110,97,109,101,32,99,41,41,41,41,41]))) .nil)))))))))))⟩])
 (.seq (.reg [⟨(some 4), none, (.u (some 5) .mv (.b (some 20) false (.bin .rem) (.b (some 17) false (.bin .add) (.b (some 14) false (.bin .rem) (.u (some 11) .mv (.od (.t 0))) (.u (some 13) .len (.u (some 12) .mv (.od (.t 2))))) (.u (some 16) .len (.u (some 15) .mv (.od (.t 2))))) (.u (some 19) .len (.u (some 18) .mv (.od (.t 2))))))⟩])
 (.seq (.reg [⟨(some 5), none, (.u (some 6) .mv (.od (.c (.str [116,121,112,101,100,101,102,32,105,110,116,32,84,59,32]))))⟩])
 (.seq (.reg [⟨(some 6), none, (.u (some 21) .mv (.k (some 30) (.call 48) (.cons (.k (some 29) (.call 47) (.cons (.k (some 28) (.call 45) (.cons (.b (some 27) false (.bin .add) (.u (some 22) .mv (.od (.t 5))) (.u (some 26) .ld (.b (some 25) false (.iad 1) (.u (some 23) .mv (.od (.t 2))) (.u (some 24) .mv (.od (.t 4)))))) .nil)) .nil)) .nil)))⟩,
 ⟨(some 7), none, (.u (some 31) (.ext 0) (.od (.t 6)))⟩,
 ⟨(some 8), none, (.u (some 32) (.ext 1) (.od (.t 6)))⟩,
 ⟨(some 9), none, (.a (some 7) [(.str []),(.str []),(.int .i64 (.ofNat 0)),(.int .i64 (.ofNat 0)),.nils] 50)⟩,
 ⟨none, none, (.b none false (.sta 5) (.od (.t 9)) (.od (.t 7)))⟩,
 ⟨(some 10), none, (.u (some 8) .mv (.od (.t 8)))⟩])
 (.seq (.seq (.reg [⟨(some 11), none, (.b (some 36) false (.bin .eql) (.u (some 35) .len (.u (some 34) .ld (.u (some 33) (.fad 4) (.od (.t 9))))) (.od (.c (.int .i64 (.ofNat 0)))))⟩])
 (.cond (.t 11) (.seq (.reg [⟨(some 1), none, (.u (some 2) .mv (.od (.c (.bool false))))⟩])
 (.ret))
 (.skip)))
 (.seq (.reg [⟨none, none, (.b none true .st (.u (some 40) (.fad 4) (.od (.t 9))) (.k (some 39) (.slv 5 true false) (.cons (.u (some 38) .ld (.u (some 37) (.fad 4) (.od (.t 9)))) (.cons (.od (.c (.int .i64 (.ofNat 1)))) .nil))))⟩])
 (.seq (.seq (.reg [⟨(some 12), none, (.b (some 45) false (.bin .eql) (.u (some 44) .ld (.b (some 43) false (.iad 1) (.u (some 41) .mv (.od (.t 3))) (.u (some 42) .mv (.od (.t 4))))) (.od (.c (.str []))))⟩])
 (.cond (.t 12) (.seq (.reg [⟨(some 1), none, (.u (some 2) .mv (.gd (some 58) true false (.u (some 56) .mv (.gd (some 55) true false (.u (some 49) .mv (.b (some 48) false (.bin .geq) (.u (some 47) .len (.u (some 46) .mv (.od (.t 10)))) (.od (.c (.int .i64 (.ofNat 1)))))) (.b (some 54) false (.bin .eql) (.u (some 53) .ld (.u (some 52) (.fad 0) (.b (some 51) false (.iad 4) (.u (some 50) .mv (.od (.t 10))) (.od (.c (.int .i64 (.ofNat 0))))))) (.od (.c (.int .i64 (.ofNat 20))))))) (.k (some 57) (.call 44) .nil)))⟩])
 (.ret))
 (.skip)))
 (.seq (.drw [⟨.p, [], ⟨(some 13), none, (.u (some 59) .mv (.od (.t 10)))⟩⟩,
 ⟨.p, [0], ⟨(some 14), none, (.u (some 60) .len (.od (.t 13)))⟩⟩,
 ⟨.p, [0,1], ⟨(some 15), none, (.b (some 61) false (.bin .eql) (.od (.t 14)) (.od (.c (.int .i64 (.ofNat 0)))))⟩⟩,
 ⟨.p, [0,1,2], ⟨(some 16), none, (.u (some 62) .mv (.od (.t 15)))⟩⟩,
 ⟨(.l 0 0), [0,1,2,3], ⟨(some 17), some (16, true), (.u (some 63) (.lda 5) (.od (.t 9)))⟩⟩,
 ⟨.m, [0,1,2,3,4], ⟨(some 18), some (16, true), (.k (some 64) (.call 28) (.cons (.od (.t 17)) .nil))⟩⟩,
 ⟨.p, [0,1,2,3], ⟨(some 19), some (16, true), (.u (some 65) .mv (.od (.t 3)))⟩⟩,
 ⟨.p, [0,1,2,3], ⟨(some 20), some (16, true), (.u (some 66) .mv (.od (.t 4)))⟩⟩,
 ⟨.p, [0,1,2,3,6,7], ⟨(some 21), some (16, true), (.b (some 67) false (.iad 1) (.od (.t 19)) (.od (.t 20)))⟩⟩,
 ⟨(.l 0 1), [0,1,2,3,6,7,8], ⟨(some 22), some (16, true), (.u (some 68) .ld (.od (.t 21)))⟩⟩,
 ⟨.p, [0,1,2,3,4,5,6,7,8,9], ⟨(some 23), some (16, true), (.b (some 69) false (.bin .eql) (.od (.t 18)) (.od (.t 22)))⟩⟩,
 ⟨.p, [0,1,2,3,4,5,6,7,8,9,10], ⟨(some 24), none, (.k (some 70) .pick (.cons (.od (.t 16)) (.cons (.od (.t 23)) (.cons (.od (.c (.bool false))) .nil))))⟩⟩,
 ⟨.p, [0,1,2,3,4,5,6,7,8,9,10,11], ⟨(some 25), none, (.u (some 71) .mv (.od (.t 24)))⟩⟩,
 ⟨.m, [0,1,2,3,4,5,6,7,8,9,10,11,12], ⟨(some 26), some (25, true), (.k (some 72) (.call 44) .nil)⟩⟩,
 ⟨.p, [0,1,2,3,4,5,6,7,8,9,10,11,12,13], ⟨(some 27), none, (.k (some 73) .pick (.cons (.od (.t 25)) (.cons (.od (.t 26)) (.cons (.od (.c (.bool false))) .nil))))⟩⟩,
 ⟨.p, [0,1,2,3,4,5,6,7,8,9,10,11,12,13,14], ⟨(some 1), none, (.u (some 2) .mv (.od (.t 27)))⟩⟩])
 (.ret)))))))))))
def lf16 : LF := ⟨28, 1, lc16, [.t 1], [0,2,3,4,5,6,21,31,32,7,8,36,45,59,60,61,62,63,64,65,66,67,68,69,70,71,72,73]⟩

-- oxbow/oxbowlaw20.written
def lc18 : LC := (.seq (.reg [⟨(some 2), none, (.u (some 4) .mv (.od (.c (.str []))))⟩])
 (.seq (.reg [⟨(some 3), none, (.u (some 5) .mv (.k (some 11) (.call 27) .nil))⟩])
 (.seq (.seq (.reg [⟨(some 4), none, (.u (some 6) .mv (.od (.c (.int .i64 (.ofNat 0)))))⟩])
 (.blk 0 (.loop (.seq (.seq (.reg [⟨(some 5), none, (.gd (some 19) true false (.u (some 16) .mv (.b (some 15) false (.bin .lss) (.u (some 12) .mv (.od (.t 4))) (.u (some 14) .len (.u (some 13) .mv (.od (.t 1)))))) (.b (some 18) false (.eqp true) (.u (some 17) .mv (.od (.t 3))) (.od (.c .nilp))))⟩])
 (.cond (.t 5) (.skip)
 (.exit 0)))
 (.seq (.blk 1 (.reg [⟨(some 6), none, (.u (some 22) .mv (.k (some 28) (.call 33) (.cons (.u (some 23) .mv (.od (.t 3))) (.cons (.u (some 27) .ld (.b (some 26) false (.iad 1) (.u (some 24) .mv (.od (.t 1))) (.u (some 25) .mv (.od (.t 4))))) (.cons (.od (.c (.bool true))) .nil)))))⟩,
 ⟨(some 7), none, (.u (some 29) (.ext 0) (.od (.t 6)))⟩,
 ⟨none, none, (.u (some 30) (.ext 1) (.od (.t 6)))⟩,
 ⟨(some 3), none, (.u (some 5) .mv (.od (.t 7)))⟩]))
 (.reg [⟨(some 4), none, (.u (some 6) .mv (.b (some 21) false (.bin .add) (.u (some 20) .mv (.od (.t 4))) (.od (.c (.int .i64 (.ofNat 1))))))⟩]))))))
 (.seq (.reg [⟨(some 8), none, (.u (some 7) .mv (.k (some 32) (.call 22) (.cons (.u (some 31) .mv (.od (.t 0))) .nil)))⟩])
 (.seq (.reg [⟨(some 9), none, (.u (some 33) .mv (.k (some 38) (.call 52) (.cons (.k (some 37) (.build [.nils,(.int .i64 (.ofNat 0)),.nilp,(.int .i64 (.ofNat 0))] [(0,1),(2,1)]) (.cons (.k (some 35) (.call 23) (.cons (.u (some 34) .mv (.od (.t 8))) .nil)) (.cons (.u (some 36) .mv (.od (.t 3))) .nil))) .nil)))⟩,
 ⟨(some 10), none, (.u (some 39) (.ext 0) (.od (.t 9)))⟩,
 ⟨(some 11), none, (.u (some 40) (.ext 1) (.od (.t 9)))⟩,
 ⟨(some 12), none, (.u (some 41) (.ext 2) (.od (.t 9)))⟩,
 ⟨(some 13), none, (.a (some 8) [(.str []),(.str []),(.int .i64 (.ofNat 0)),(.int .i64 (.ofNat 0)),.nils] 50)⟩,
 ⟨(some 14), none, (.a (some 9) [.nils,(.int .i64 (.ofNat 0)),.nilp,(.int .i64 (.ofNat 0))] 46)⟩,
 ⟨none, none, (.b none false (.sta 5) (.od (.t 13)) (.od (.t 10)))⟩,
 ⟨none, none, (.b none false (.sta 4) (.od (.t 14)) (.od (.t 11)))⟩,
 ⟨(some 15), none, (.u (some 10) .mv (.od (.t 12)))⟩])
 (.seq (.seq (.reg [⟨(some 16), none, (.gd (some 51) false true (.u (some 44) .mv (.u (some 43) (.un .not) (.u (some 42) .mv (.od (.t 15))))) (.b (some 50) false (.bin .neq) (.u (some 46) .ld (.u (some 45) (.fad 1) (.od (.t 14)))) (.b (some 49) false (.bin .sub) (.u (some 48) .len (.u (some 47) .mv (.od (.t 8)))) (.od (.c (.int .i64 (.ofNat 1)))))))⟩])
 (.cond (.t 16) (.seq (.reg [⟨(some 2), none, (.u (some 4) .mv (.od (.c (.str []))))⟩])
 (.ret))
 (.skip)))
 (.seq (.reg [⟨(some 2), none, (.u (some 4) .mv (.k (some 53) (.call 28) (.cons (.u (some 52) (.lda 5) (.od (.t 13))) .nil)))⟩])
 (.ret))))))))
def lf18 : LF := ⟨17, 2, lc18, [.t 2], [0,1,4,5,6,19,22,29,7,33,39,40,41,8,9,10,51]⟩

-- oxbow/oxbowlaw20.awake
def lc19 : LC := (.seq (.reg [⟨(some 0), none, (.u (some 0) .mv (.od (.c (.bool false))))⟩])
 (.seq (.reg [⟨(some 0), none, (.u (some 0) .mv (.gd (some 20) true false (.u (some 16) .mv (.gd (some 15) true false (.u (some 12) .mv (.gd (some 11) true false (.u (some 8) .mv (.gd (some 7) true false (.u (some 4) .mv (.b (some 3) false (.bin .eql) (.k (some 2) (.call 18) (.cons (.od (.c (.str [40,84,41,45,49]))) (.cons (.k (some 1) (.bsl 1 9) (.cons (.od (.c (.str [84]))) .nil)) .nil))) (.od (.c (.str [40,99,97,115,116,32,40,116,121,112,101,110,97,109,101,32,40,115,112,101,99,115,32,40,116,121,112,101,110,97,109,101,32,84,41,41,32,40,110,111,110,101,41,41,32,40,117,110,97,114,121,32,45,32,40,105,110,116,32,49,41,41,41]))))) (.b (some 6) false (.bin .eql) (.k (some 5) (.call 18) (.cons (.od (.c (.str [40,84,41,45,49]))) (.cons (.od (.c .nils)) .nil))) (.od (.c (.str [40,98,105,110,97,114,121,32,45,32,40,110,97,109,101,32,84,41,32,40,105,110,116,32,49,41,41])))))) (.b (some 10) false (.bin .eql) (.k (some 9) (.call 18) (.cons (.od (.c (.str [97,32,61,32,98,32,63,32,99,32,58,32,100,44,32,101]))) (.cons (.od (.c .nils)) .nil))) (.od (.c (.str [40,99,111,109,109,97,32,40,97,115,115,105,103,110,32,61,32,40,110,97,109,101,32,97,41,32,40,99,111,110,100,32,40,110,97,109,101,32,98,41,32,40,110,97,109,101,32,99,41,32,40,110,97,109,101,32,100,41,41,41,32,40,110,97,109,101,32,101,41,41])))))) (.b (some 14) false (.bin .eql) (.k (some 13) (.call 18) (.cons (.od (.c (.str [97,32,43]))) (.cons (.od (.c .nils)) .nil))) (.od (.c (.str [])))))) (.b (some 19) false (.bin .eql) (.k (some 18) (.call 18) (.cons (.od (.c (.str [115,105,122,101,111,102,40,84,41,32,42,32,120]))) (.cons (.k (some 17) (.bsl 1 9) (.cons (.od (.c (.str [84]))) .nil)) .nil))) (.od (.c (.str [40,98,105,110,97,114,121,32,42,32,40,115,105,122,101,111,102,116,121,112,101,32,40,116,121,112,101,110,97,109,101,32,40,115,112,101,99,115,32,40,116,121,112,101,110,97,109,101,32,84,41,41,32,40,110,111,110,101,41,41,41,32,40,110,97,109,101,32,120,41,41]))))))⟩])
 (.ret)))
def lf19 : LF := ⟨1, 0, lc19, [.t 0], [0]⟩

-- oxbow/oxbowlaw20.short
def lc20 : LC := (.seq (.reg [⟨(some 2), none, (.u (some 4) .mv (.od (.c (.bool false))))⟩])
 (.seq (.seq (.reg [⟨(some 3), none, (.u (some 5) .mv (.od (.c (.int .i64 (.ofNat 0)))))⟩])
 (.blk 0 (.loop (.seq (.seq (.reg [⟨(some 4), none, (.gd (some 13) true false (.u (some 10) .mv (.b (some 9) false (.bin .lss) (.u (some 6) .mv (.od (.t 3))) (.u (some 8) .len (.u (some 7) .mv (.od (.t 0)))))) (.b (some 12) false (.bin .lss) (.u (some 11) .mv (.od (.t 3))) (.od (.c (.int .i64 (.ofNat 20))))))⟩])
 (.cond (.t 4) (.skip)
 (.exit 0)))
 (.seq (.blk 1 (.seq (.reg [⟨(some 5), none, (.b (some 22) false (.bin .gtr) (.u (some 21) .lens (.u (some 20) .ld (.u (some 19) (.fad 0) (.b (some 18) false (.iad 2) (.u (some 16) .mv (.od (.t 0))) (.u (some 17) .mv (.od (.t 3))))))) (.od (.c (.int .i64 (.ofNat 30)))))⟩])
 (.cond (.t 5) (.seq (.reg [⟨(some 2), none, (.u (some 4) .mv (.od (.c (.bool false))))⟩])
 (.ret))
 (.skip))))
 (.reg [⟨(some 3), none, (.u (some 5) .mv (.b (some 15) false (.bin .add) (.u (some 14) .mv (.od (.t 3))) (.od (.c (.int .i64 (.ofNat 1))))))⟩]))))))
 (.seq (.reg [⟨(some 2), none, (.u (some 4) .mv (.gd (some 30) true false (.u (some 26) .mv (.b (some 25) false (.bin .leq) (.u (some 24) .len (.u (some 23) .mv (.od (.t 0)))) (.od (.c (.int .i64 (.ofNat 15)))))) (.b (some 29) false (.bin .leq) (.u (some 28) .lens (.u (some 27) .mv (.od (.t 1)))) (.od (.c (.int .i64 (.ofNat 1200)))))))⟩])
 (.ret))))
def lf20 : LF := ⟨6, 2, lc20, [.t 2], [0,1,4,5,13,22]⟩

-- oxbow/oxbowlaw20.envs
def lc21 : LC := (.seq (.reg [⟨(some 1), none, (.u (some 2) .mv (.od (.c .nilp)))⟩,
 ⟨(some 2), none, (.a (some 3) [.nils] 34)⟩,
 ⟨(some 3), none, (.u (some 4) .mv (.od (.c (.bool false))))⟩])
 (.seq (.reg [⟨(some 4), none, (.k (some 10) (.call 27) .nil)⟩,
 ⟨(some 5), none, (.k (some 11) (.call 53) .nil)⟩,
 ⟨(some 6), none, (.a (some 6) [.nils] 34)⟩,
 ⟨(some 7), none, (.u (some 5) .mv (.od (.t 4)))⟩,
 ⟨none, none, (.b none false (.sta 1) (.od (.t 6)) (.od (.t 5)))⟩])
 (.seq (.seq (.reg [⟨(some 8), none, (.u (some 7) .mv (.od (.c (.int .i64 (.ofNat 0)))))⟩])
 (.blk 0 (.loop (.seq (.seq (.reg [⟨(some 9), none, (.gd (some 19) true false (.u (some 16) .mv (.b (some 15) false (.bin .lss) (.u (some 12) .mv (.od (.t 8))) (.u (some 14) .len (.u (some 13) .mv (.od (.t 0)))))) (.b (some 18) false (.eqp true) (.u (some 17) .mv (.od (.t 7))) (.od (.c .nilp))))⟩])
 (.cond (.t 9) (.skip)
 (.exit 0)))
 (.seq (.blk 1 (.seq (.drw [⟨.p, [], ⟨(some 10), none, (.u (some 23) .mv (.od (.t 7)))⟩⟩,
 ⟨.p, [], ⟨(some 11), none, (.u (some 24) .mv (.od (.t 0)))⟩⟩,
 ⟨.p, [], ⟨(some 12), none, (.u (some 25) .mv (.od (.t 8)))⟩⟩,
 ⟨.p, [1,2], ⟨(some 13), none, (.b (some 26) false (.iad 2) (.od (.t 11)) (.od (.t 12)))⟩⟩,
 ⟨.p, [1,2,3], ⟨(some 14), none, (.u (some 27) (.fad 0) (.od (.t 13)))⟩⟩,
 ⟨(.l 0 0), [1,2,3,4], ⟨(some 15), none, (.u (some 28) .ld (.od (.t 14)))⟩⟩,
 ⟨.p, [], ⟨(some 16), none, (.u (some 29) .mv (.od (.t 0)))⟩⟩,
 ⟨.p, [], ⟨(some 17), none, (.u (some 30) .mv (.od (.t 8)))⟩⟩,
 ⟨.p, [6,7], ⟨(some 18), none, (.b (some 31) false (.iad 2) (.od (.t 16)) (.od (.t 17)))⟩⟩,
 ⟨.p, [6,7,8], ⟨(some 19), none, (.u (some 32) (.fad 1) (.od (.t 18)))⟩⟩,
 ⟨(.l 0 0), [6,7,8,9], ⟨(some 20), none, (.u (some 33) .ld (.od (.t 19)))⟩⟩,
 ⟨.m, [0,1,2,3,4,5,6,7,8,9,10], ⟨(some 21), none, (.k (some 34) (.call 33) (.cons (.od (.t 10)) (.cons (.od (.t 15)) (.cons (.od (.t 20)) .nil))))⟩⟩,
 ⟨.p, [0,1,2,3,4,5,6,7,8,9,10,11], ⟨(some 22), none, (.u (some 22) .mv (.od (.t 21)))⟩⟩,
 ⟨.p, [0,1,2,3,4,5,6,7,8,9,10,11,12], ⟨(some 23), none, (.u (some 35) (.ext 0) (.od (.t 22)))⟩⟩,
 ⟨.p, [0,1,2,3,4,5,6,7,8,9,10,11,12], ⟨(some 24), none, (.u (some 36) (.ext 1) (.od (.t 22)))⟩⟩,
 ⟨.p, [0,1,2,3,4,5,6,7,8,9,10,11,12,13], ⟨(some 25), none, (.u (some 8) .mv (.od (.t 23)))⟩⟩,
 ⟨.p, [0,1,2,3,4,5,6,7,8,9,10,11,12,13,14,15], ⟨(some 26), none, (.u (some 9) .mv (.od (.t 24)))⟩⟩])
 (.seq (.seq (.reg [⟨(some 27), none, (.b (some 45) false (.eqb true) (.b (some 38) false (.bin .eql) (.u (some 37) .mv (.od (.t 26))) (.od (.c (.int .i64 (.ofNat 0))))) (.b (some 44) false (.bin .neq) (.u (some 43) .ld (.u (some 42) (.fad 0) (.b (some 41) false (.iad 2) (.u (some 39) .mv (.od (.t 0))) (.u (some 40) .mv (.od (.t 8)))))) (.od (.c (.str [])))))⟩])
 (.cond (.t 27) (.seq (.drw [⟨(.l 0 0), [], ⟨(some 28), none, (.u (some 46) (.lda 1) (.od (.t 6)))⟩⟩,
 ⟨.p, [], ⟨(some 1), none, (.u (some 2) .mv (.od (.c .nilp)))⟩⟩,
 ⟨.m, [0,1], ⟨none, none, (.b none false (.sta 1) (.od (.t 2)) (.od (.t 28)))⟩⟩,
 ⟨.p, [0,1,2], ⟨(some 3), none, (.u (some 4) .mv (.od (.c (.bool false))))⟩⟩])
 (.ret))
 (.skip)))
 (.seq (.reg [⟨(some 29), none, (.b (some 48) false (.bin .eql) (.u (some 47) .mv (.od (.t 26))) (.od (.c (.int .i64 (.ofNat 0)))))⟩])
 (.cond (.t 29) (.seq (.reg [⟨(some 7), none, (.u (some 5) .mv (.u (some 49) .mv (.od (.t 25))))⟩])
 (.drw [⟨(.l 0 0), [], ⟨(some 30), none, (.u (some 50) (.lda 1) (.od (.t 6)))⟩⟩,
 ⟨.p, [], ⟨(some 31), none, (.u (some 51) .mv (.od (.t 0)))⟩⟩,
 ⟨.p, [], ⟨(some 32), none, (.u (some 52) .mv (.od (.t 8)))⟩⟩,
 ⟨.p, [1,2], ⟨(some 33), none, (.b (some 53) false (.iad 2) (.od (.t 31)) (.od (.t 32)))⟩⟩,
 ⟨.p, [1,2,3], ⟨(some 34), none, (.u (some 54) (.fad 0) (.od (.t 33)))⟩⟩,
 ⟨(.l 0 0), [1,2,3,4], ⟨(some 35), none, (.u (some 55) .ld (.od (.t 34)))⟩⟩,
 ⟨.p, [], ⟨(some 36), none, (.u (some 56) .mv (.od (.t 0)))⟩⟩,
 ⟨.p, [], ⟨(some 37), none, (.u (some 57) .mv (.od (.t 8)))⟩⟩,
 ⟨.p, [6,7], ⟨(some 38), none, (.b (some 58) false (.iad 2) (.od (.t 36)) (.od (.t 37)))⟩⟩,
 ⟨.p, [6,7,8], ⟨(some 39), none, (.u (some 59) (.fad 1) (.od (.t 38)))⟩⟩,
 ⟨(.l 0 0), [6,7,8,9], ⟨(some 40), none, (.u (some 60) .ld (.od (.t 39)))⟩⟩,
 ⟨.m, [0,1,2,3,4,5,6,7,8,9,10], ⟨(some 41), none, (.k (some 61) (.call 54) (.cons (.od (.t 30)) (.cons (.od (.t 35)) (.cons (.od (.t 40)) .nil))))⟩⟩,
 ⟨.m, [0,1,2,3,4,5,6,7,8,9,10,11], ⟨none, none, (.b none false (.sta 1) (.od (.t 6)) (.od (.t 41)))⟩⟩]))
 (.skip))))))
 (.reg [⟨(some 8), none, (.u (some 7) .mv (.b (some 21) false (.bin .add) (.u (some 20) .mv (.od (.t 8))) (.od (.c (.int .i64 (.ofNat 1))))))⟩]))))))
 (.seq (.drw [⟨.p, [], ⟨(some 42), none, (.u (some 62) .mv (.od (.t 7)))⟩⟩,
 ⟨(.l 0 0), [], ⟨(some 43), none, (.u (some 63) (.lda 1) (.od (.t 6)))⟩⟩,
 ⟨.p, [], ⟨(some 44), none, (.u (some 64) .mv (.od (.t 7)))⟩⟩,
 ⟨.p, [2], ⟨(some 45), none, (.b (some 65) false (.eqp true) (.od (.t 44)) (.od (.c .nilp)))⟩⟩,
 ⟨.p, [0], ⟨(some 1), none, (.u (some 2) .mv (.od (.t 42)))⟩⟩,
 ⟨.m, [0,1,4], ⟨none, none, (.b none false (.sta 1) (.od (.t 2)) (.od (.t 43)))⟩⟩,
 ⟨.p, [0,1,2,3,4,5], ⟨(some 3), none, (.u (some 4) .mv (.od (.t 45)))⟩⟩])
 (.ret)))))
def lf21 : LF := ⟨46, 1, lc21, [.t 1,.ca 2 1,.t 3], [0,2,3,4,10,11,6,5,7,19,23,24,25,26,27,28,29,30,31,32,33,34,22,35,36,8,9,45,46,48,50,51,52,53,54,55,56,57,58,59,60,61,62,63,64,65]⟩

-- oxbow/oxbowlaw20.toks
def lc22 : LC := (.seq (.reg [⟨(some 1), none, (.u (some 2) .mv (.od (.c .nils)))⟩])
 (.seq (.reg [⟨(some 2), none, (.u (some 9) .mv (.k (some 11) (.call 55) (.cons (.od (.c (.str [102]))) (.cons (.u (some 10) .mv (.od (.t 0))) .nil))))⟩,
 ⟨(some 3), none, (.u (some 12) (.ext 0) (.od (.t 2)))⟩,
 ⟨(some 4), none, (.u (some 13) (.ext 1) (.od (.t 2)))⟩,
 ⟨(some 5), none, (.u (some 3) .mv (.od (.t 3)))⟩,
 ⟨none, none, (.u (some 4) .mv (.od (.t 4)))⟩])
 (.seq (.reg [⟨(some 6), none, (.u (some 5) .mv (.od (.c .nils)))⟩])
 (.seq (.seq (.reg [⟨(some 7), none, (.u (some 6) .mv (.od (.c (.int .i64 (.ofNat 0)))))⟩])
 (.blk 0 (.loop (.seq (.seq (.reg [⟨(some 8), none, (.b (some 17) false (.bin .lss) (.u (some 14) .mv (.od (.t 7))) (.u (some 16) .len (.u (some 15) .mv (.od (.t 5)))))⟩])
 (.cond (.t 8) (.skip)
 (.exit 0)))
 (.seq (.blk 1 (.reg [⟨(some 6), none, (.u (some 5) .mv (.b (some 26) false (.app 8 96 160) (.u (some 20) .mv (.od (.t 6))) (.u (some 25) .ld (.u (some 24) (.fad 0) (.b (some 23) false (.iad 4) (.u (some 21) .mv (.od (.t 5))) (.u (some 22) .mv (.od (.t 7))))))))⟩]))
 (.reg [⟨(some 7), none, (.u (some 6) .mv (.b (some 19) false (.bin .add) (.u (some 18) .mv (.od (.t 7))) (.od (.c (.int .i64 (.ofNat 1))))))⟩]))))))
 (.seq (.reg [⟨(some 9), none, (.u (some 27) .mv (.k (some 29) (.call 56) (.cons (.u (some 28) .mv (.od (.t 6))) .nil)))⟩,
 ⟨(some 10), none, (.u (some 30) (.ext 0) (.od (.t 9)))⟩,
 ⟨(some 11), none, (.u (some 31) (.ext 1) (.od (.t 9)))⟩,
 ⟨(some 12), none, (.u (some 7) .mv (.od (.t 10)))⟩,
 ⟨none, none, (.u (some 8) .mv (.od (.t 11)))⟩])
 (.seq (.reg [⟨(some 1), none, (.u (some 2) .mv (.u (some 32) .mv (.od (.t 12))))⟩])
 (.ret)))))))
def lf22 : LF := ⟨13, 1, lc22, [.t 1], [0,2,9,12,13,3,5,6,17,27,30,31,7]⟩

-- oxbow/oxbowlaw20.made
def lc23 : LC := (.seq (.reg [⟨(some 1), none, (.u (some 2) .mv (.od (.c .nils)))⟩])
 (.seq (.reg [⟨(some 2), none, (.u (some 3) .mv (.od (.c .nils)))⟩])
 (.seq (.seq (.reg [⟨(some 3), none, (.u (some 4) .mv (.od (.c (.int .i64 (.ofNat 0)))))⟩])
 (.blk 0 (.loop (.seq (.seq (.reg [⟨(some 4), none, (.b (some 9) false (.bin .lss) (.u (some 6) .mv (.od (.t 3))) (.u (some 8) .len (.u (some 7) .mv (.od (.t 0)))))⟩])
 (.cond (.t 4) (.skip)
 (.exit 0)))
 (.seq (.blk 1 (.seq (.reg [⟨(some 5), none, (.u (some 15) (.lda 7) (.b (some 14) false (.iad 7) (.u (some 12) .mv (.od (.t 0))) (.u (some 13) .mv (.od (.t 3)))))⟩,
 ⟨(some 6), none, (.a (some 5) [(.int .i64 (.ofNat 0)),(.str []),(.str []),(.int .i64 (.ofNat 0)),(.int .i64 (.ofNat 0)),(.int .i64 (.ofNat 0)),(.int .i64 (.ofNat 0))] 94)⟩,
 ⟨none, none, (.b none false (.sta 7) (.od (.t 6)) (.od (.t 5)))⟩])
 (.reg [⟨(some 2), none, (.u (some 3) .mv (.b (some 29) false (.app 7 72 95) (.u (some 16) .mv (.od (.t 2))) (.k (some 28) (.bsl 7 95) (.cons (.k (some 27) (.build [(.int .i64 (.ofNat 0)),(.str []),(.str []),(.int .i64 (.ofNat 0)),(.int .i64 (.ofNat 0)),(.int .i64 (.ofNat 0)),(.int .i64 (.ofNat 0))] [(0,1),(1,1),(2,3),(5,1),(6,1)]) (.cons (.u (some 18) .ld (.u (some 17) (.fad 0) (.od (.t 6)))) (.cons (.u (some 20) .ld (.u (some 19) (.fad 1) (.od (.t 6)))) (.cons (.u (some 22) (.lda 3) (.u (some 21) (.fad 2) (.od (.t 6)))) (.cons (.u (some 24) .ld (.u (some 23) (.fad 5) (.od (.t 6)))) (.cons (.u (some 26) .ld (.u (some 25) (.fad 6) (.od (.t 6)))) .nil)))))) .nil))))⟩])))
 (.reg [⟨(some 3), none, (.u (some 4) .mv (.b (some 11) false (.bin .add) (.u (some 10) .mv (.od (.t 3))) (.od (.c (.int .i64 (.ofNat 1))))))⟩]))))))
 (.seq (.reg [⟨(some 1), none, (.u (some 2) .mv (.u (some 30) .mv (.od (.t 2))))⟩])
 (.ret)))))
def lf23 : LF := ⟨7, 1, lc23, [.t 1], [0,2,3,4,9,15,5]⟩

-- oxbow/express.Starts
def lc24 : LC := (.seq (.reg [⟨(some 1), none, (.u (some 1) (.box 46) (.od (.t 0)))⟩,
 ⟨(some 2), none, (.u (some 2) .mv (.od (.c (.bool false))))⟩])
 (.seq (.reg [⟨(some 2), none, (.u (some 2) .mv (.k (some 5) (.call 58) (.cons (.k (some 4) (.call 57) (.cons (.u (some 3) (.lda 4) (.od (.t 1))) .nil)) .nil)))⟩])
 (.ret)))
def lf24 : LF := ⟨3, 1, lc24, [.t 2], [0,1,2]⟩

-- (*oxbow/oxbowref17.Parser).Starts
def lc25 : LC := (.seq (.reg [⟨(some 1), none, (.u (some 2) .mv (.od (.c (.bool false))))⟩])
 (.seq (.reg [⟨(some 1), none, (.u (some 2) .mv (.k (some 4) (.call 59) (.cons (.u (some 3) .mv (.od (.t 0))) (.cons (.od (.c (.int .i64 (.ofNat 0)))) .nil))))⟩])
 (.ret)))
def lf25 : LF := ⟨2, 1, lc25, [.t 1], [0,2]⟩

-- oxbow/express.Declarator
def lc26 : LC := (.seq (.reg [⟨(some 2), none, (.u (some 2) (.box 46) (.od (.t 0)))⟩,
 ⟨(some 3), none, (.a (some 4) [(.str []),(.str []),(.int .i64 (.ofNat 0)),(.int .i64 (.ofNat 0)),.nils] 50)⟩,
 ⟨(some 4), none, (.a (some 5) [.nils,(.int .i64 (.ofNat 0)),.nilp,(.int .i64 (.ofNat 0))] 46)⟩,
 ⟨(some 5), none, (.u (some 6) .mv (.od (.c (.bool false))))⟩])
 (.seq (.reg [⟨(some 6), none, (.u (some 7) .mv (.k (some 9) (.call 57) (.cons (.u (some 8) (.lda 4) (.od (.t 2))) .nil)))⟩])
 (.seq (.drw [⟨.p, [], ⟨(some 7), none, (.u (some 10) .mv (.od (.t 6)))⟩⟩,
 ⟨(.l 0 1), [], ⟨(some 8), none, (.u (some 11) (.lda 4) (.od (.t 2)))⟩⟩,
 ⟨.p, [], ⟨(some 9), none, (.u (some 12) .mv (.od (.t 6)))⟩⟩,
 ⟨.p, [], ⟨(some 10), none, (.u (some 13) (.fad 3) (.od (.t 2)))⟩⟩,
 ⟨(.l 0 0), [3], ⟨(some 11), none, (.u (some 14) .ld (.od (.t 10)))⟩⟩,
 ⟨.p, [], ⟨(some 12), none, (.u (some 15) .mv (.od (.t 1)))⟩⟩,
 ⟨.m, [2,3,4,5], ⟨(some 13), none, (.k (some 16) (.call 61) (.cons (.od (.t 9)) (.cons (.od (.t 11)) (.cons (.od (.t 12)) .nil))))⟩⟩,
 ⟨.m, [0,1,2,3,4,5,6], ⟨(some 14), none, (.k (some 17) (.call 60) (.cons (.od (.t 7)) (.cons (.od (.t 8)) (.cons (.od (.t 13)) .nil))))⟩⟩,
 ⟨.p, [0,1,2,3,4,5,6,7], ⟨(some 15), none, (.u (some 18) (.ext 0) (.od (.t 14)))⟩⟩,
 ⟨.p, [0,1,2,3,4,5,6,7], ⟨(some 16), none, (.u (some 19) (.ext 1) (.od (.t 14)))⟩⟩,
 ⟨.p, [0,1,2,3,4,5,6,7], ⟨(some 17), none, (.u (some 20) (.ext 2) (.od (.t 14)))⟩⟩,
 ⟨.m, [0,1,2,3,4,5,6,7,8,9,10], ⟨none, none, (.b none false (.sta 5) (.od (.t 3)) (.od (.t 15)))⟩⟩,
 ⟨.m, [0,1,2,3,4,5,6,7,8,9,10,11], ⟨none, none, (.b none false (.sta 4) (.od (.t 4)) (.od (.t 16)))⟩⟩,
 ⟨.p, [0,1,2,3,4,5,6,7,8,9,10,11,12], ⟨(some 5), none, (.u (some 6) .mv (.od (.t 17)))⟩⟩])
 (.ret))))
def lf26 : LF := ⟨18, 2, lc26, [.ca 3 5,.ca 4 4,.t 5], [0,1,2,4,5,6,7,10,11,12,13,14,15,16,17,18,19,20]⟩

-- oxbow/scope.New
def lc27 : LC := (.seq (.reg [⟨(some 0), none, (.u (some 0) .mv (.od (.c .nilp)))⟩])
 (.seq (.reg [⟨(some 0), none, (.u (some 0) .mv (.u (some 2) (.box 113) (.k (some 1) (.build [.nilp,.nilp,(.str []),(.bool false),(.int .i64 (.ofNat 0)),(.int .u32 (.ofNat 0)),(.int .i32 (.ofNat 0)),(.int .u32 (.ofNat 0)),.nils] [(4,1)]) (.cons (.od (.c (.int .i64 (.ofNat 1)))) .nil))))⟩])
 (.ret)))
def lf27 : LF := ⟨1, 0, lc27, [.t 0], [0]⟩

-- oxbow/tree.Write
def lc28 : LC := (.seq (.reg [⟨(some 1), none, (.u (some 1) (.box 50) (.od (.t 0)))⟩,
 ⟨(some 2), none, (.u (some 2) .mv (.od (.c (.str []))))⟩])
 (.seq (.reg [⟨(some 3), none, (.a (some 3) [.nilp,.nils] 117)⟩])
 (.seq (.reg [⟨none, none, (.k (some 4) (.call 62) (.cons (.od (.t 3)) (.cons (.od (.t 1)) .nil)))⟩])
 (.seq (.reg [⟨(some 2), none, (.u (some 2) .mv (.k (some 5) (.call 63) (.cons (.od (.t 3)) .nil)))⟩])
 (.ret)))))
def lf28 : LF := ⟨4, 1, lc28, [.t 2], [0,1,2,3]⟩

-- oxbow/express.Name
def lc29 : LC := (.seq (.reg [⟨(some 1), none, (.u (some 1) (.box 50) (.od (.t 0)))⟩,
 ⟨(some 2), none, (.u (some 2) .mv (.od (.c (.str []))))⟩])
 (.scope (.seq (.label 0)
 (.seq (.seq (.reg [⟨(some 3), none, (.b (some 6) false (.bin .eql) (.u (some 5) .ld (.u (some 4) (.fad 0) (.od (.t 1)))) (.od (.c (.str [110,97,109,101]))))⟩])
 (.cond (.t 3) (.seq (.reg [⟨(some 2), none, (.u (some 2) .mv (.u (some 8) .ld (.u (some 7) (.fad 1) (.od (.t 1)))))⟩])
 (.ret))
 (.skip)))
 (.seq (.reg [⟨(some 4), none, (.u (some 3) .mv (.k (some 11) (.call 64) (.cons (.u (some 10) .ld (.u (some 9) (.fad 4) (.od (.t 1)))) (.cons (.od (.c (.fn 65 [] []))) .nil))))⟩])
 (.seq (.seq (.reg [⟨(some 5), none, (.b (some 13) false (.bin .lss) (.u (some 12) .mv (.od (.t 4))) (.od (.c (.int .i64 (.ofNat 0)))))⟩])
 (.cond (.t 5) (.seq (.reg [⟨(some 2), none, (.u (some 2) .mv (.od (.c (.str []))))⟩])
 (.ret))
 (.skip)))
 (.seq (.reg [⟨none, none, (.b none false (.sta 5) (.od (.t 1)) (.u (some 18) (.lda 5) (.b (some 17) false (.iad 5) (.u (some 15) .ld (.u (some 14) (.fad 4) (.od (.t 1)))) (.u (some 16) .mv (.od (.t 4))))))⟩])
 (.goto 0))))))))
def lf29 : LF := ⟨6, 1, lc29, [.t 2], [0,1,2,6,3,13]⟩

-- oxbow/oxbowlaw21.awake
def lc30 : LC := (.seq (.reg [⟨(some 0), none, (.u (some 0) .mv (.od (.c (.bool false))))⟩])
 (.seq (.reg [⟨(some 0), none, (.u (some 0) .mv (.gd (some 19) true false (.u (some 16) .mv (.gd (some 15) true false (.u (some 12) .mv (.gd (some 11) true false (.u (some 8) .mv (.gd (some 7) true false (.u (some 3) .mv (.b (some 2) false (.bin .eql) (.k (some 1) (.call 31) (.cons (.od (.c (.str [105,102,32,40,97,41,32,98,59,32,101,108,115,101,32,59]))) (.cons (.od (.c .nils)) .nil))) (.od (.c (.str [40,105,102,32,40,110,97,109,101,32,97,41,32,40,101,120,112,114,32,40,110,97,109,101,32,98,41,41,32,40,101,109,112,116,121,41,41]))))) (.b (some 6) false (.bin .eql) (.k (some 5) (.call 31) (.cons (.od (.c (.str [123,32,84,32,42,32,120,59,32,125]))) (.cons (.k (some 4) (.bsl 1 9) (.cons (.od (.c (.str [84]))) .nil)) .nil))) (.od (.c (.str [40,98,108,111,99,107,32,40,100,101,99,108,97,114,101,32,40,115,112,101,99,115,32,40,116,121,112,101,110,97,109,101,32,84,41,41,32,40,112,111,105,110,116,101,114,32,40,110,97,109,101,32,120,41,41,41,41])))))) (.b (some 10) false (.bin .eql) (.k (some 9) (.call 31) (.cons (.od (.c (.str [123,32,84,32,42,32,120,59,32,125]))) (.cons (.od (.c .nils)) .nil))) (.od (.c (.str [40,98,108,111,99,107,32,40,101,120,112,114,32,40,98,105,110,97,114,121,32,42,32,40,110,97,109,101,32,84,41,32,40,110,97,109,101,32,120,41,41,41,41])))))) (.b (some 14) false (.bin .eql) (.k (some 13) (.call 31) (.cons (.od (.c (.str [102,111,114,32,40,59,59,41,32,98,114,101,97,107,59]))) (.cons (.od (.c .nils)) .nil))) (.od (.c (.str [40,102,111,114,32,40,110,111,110,101,41,32,40,110,111,110,101,41,32,40,110,111,110,101,41,32,40,98,114,101,97,107,41,41])))))) (.b (some 18) false (.bin .eql) (.k (some 17) (.call 31) (.cons (.od (.c (.str [120]))) (.cons (.od (.c .nils)) .nil))) (.od (.c (.str []))))))⟩])
 (.ret)))
def lf30 : LF := ⟨1, 0, lc30, [.t 0], [0]⟩

-- oxbow/oxbowlaw21.written
def lc31 : LC := (.seq (.reg [⟨(some 2), none, (.u (some 4) .mv (.od (.c (.str []))))⟩])
 (.seq (.reg [⟨(some 3), none, (.u (some 5) .mv (.k (some 11) (.call 27) .nil))⟩])
 (.seq (.seq (.reg [⟨(some 4), none, (.u (some 6) .mv (.od (.c (.int .i64 (.ofNat 0)))))⟩])
 (.blk 0 (.loop (.seq (.seq (.reg [⟨(some 5), none, (.gd (some 19) true false (.u (some 16) .mv (.b (some 15) false (.bin .lss) (.u (some 12) .mv (.od (.t 4))) (.u (some 14) .len (.u (some 13) .mv (.od (.t 1)))))) (.b (some 18) false (.eqp true) (.u (some 17) .mv (.od (.t 3))) (.od (.c .nilp))))⟩])
 (.cond (.t 5) (.skip)
 (.exit 0)))
 (.seq (.blk 1 (.reg [⟨(some 6), none, (.u (some 22) .mv (.k (some 28) (.call 33) (.cons (.u (some 23) .mv (.od (.t 3))) (.cons (.u (some 27) .ld (.b (some 26) false (.iad 1) (.u (some 24) .mv (.od (.t 1))) (.u (some 25) .mv (.od (.t 4))))) (.cons (.od (.c (.bool true))) .nil)))))⟩,
 ⟨(some 7), none, (.u (some 29) (.ext 0) (.od (.t 6)))⟩,
 ⟨none, none, (.u (some 30) (.ext 1) (.od (.t 6)))⟩,
 ⟨(some 3), none, (.u (some 5) .mv (.od (.t 7)))⟩]))
 (.reg [⟨(some 4), none, (.u (some 6) .mv (.b (some 21) false (.bin .add) (.u (some 20) .mv (.od (.t 4))) (.od (.c (.int .i64 (.ofNat 1))))))⟩]))))))
 (.seq (.reg [⟨(some 8), none, (.u (some 7) .mv (.k (some 32) (.call 32) (.cons (.u (some 31) .mv (.od (.t 0))) .nil)))⟩])
 (.seq (.reg [⟨(some 9), none, (.u (some 33) .mv (.k (some 38) (.call 41) (.cons (.k (some 37) (.build [.nils,(.int .i64 (.ofNat 0)),.nilp,(.int .i64 (.ofNat 0))] [(0,1),(2,1)]) (.cons (.k (some 35) (.call 35) (.cons (.u (some 34) .mv (.od (.t 8))) .nil)) (.cons (.u (some 36) .mv (.od (.t 3))) .nil))) .nil)))⟩,
 ⟨(some 10), none, (.u (some 39) (.ext 0) (.od (.t 9)))⟩,
 ⟨(some 11), none, (.u (some 40) (.ext 1) (.od (.t 9)))⟩,
 ⟨(some 12), none, (.u (some 41) (.ext 2) (.od (.t 9)))⟩,
 ⟨(some 13), none, (.a (some 8) [(.str []),(.str []),(.int .i64 (.ofNat 0)),(.int .i64 (.ofNat 0)),.nils] 50)⟩,
 ⟨(some 14), none, (.a (some 9) [.nils,(.int .i64 (.ofNat 0)),.nilp,(.int .i64 (.ofNat 0))] 46)⟩,
 ⟨none, none, (.b none false (.sta 5) (.od (.t 13)) (.od (.t 10)))⟩,
 ⟨none, none, (.b none false (.sta 4) (.od (.t 14)) (.od (.t 11)))⟩,
 ⟨(some 15), none, (.u (some 10) .mv (.od (.t 12)))⟩])
 (.seq (.seq (.reg [⟨(some 16), none, (.gd (some 51) false true (.u (some 44) .mv (.u (some 43) (.un .not) (.u (some 42) .mv (.od (.t 15))))) (.b (some 50) false (.bin .neq) (.u (some 46) .ld (.u (some 45) (.fad 1) (.od (.t 14)))) (.b (some 49) false (.bin .sub) (.u (some 48) .len (.u (some 47) .mv (.od (.t 8)))) (.od (.c (.int .i64 (.ofNat 1)))))))⟩])
 (.cond (.t 16) (.seq (.reg [⟨(some 2), none, (.u (some 4) .mv (.od (.c (.str []))))⟩])
 (.ret))
 (.skip)))
 (.seq (.reg [⟨(some 2), none, (.u (some 4) .mv (.k (some 53) (.call 28) (.cons (.u (some 52) (.lda 5) (.od (.t 13))) .nil)))⟩])
 (.ret))))))))
def lf31 : LF := ⟨17, 2, lc31, [.t 2], [0,1,4,5,6,19,22,29,7,33,39,40,41,8,9,10,51]⟩

-- oxbow/oxbowlaw21.toks
def lc32 : LC := (.seq (.reg [⟨(some 1), none, (.u (some 2) .mv (.od (.c .nils)))⟩])
 (.seq (.reg [⟨(some 2), none, (.u (some 9) .mv (.k (some 11) (.call 55) (.cons (.od (.c (.str [102]))) (.cons (.u (some 10) .mv (.od (.t 0))) .nil))))⟩,
 ⟨(some 3), none, (.u (some 12) (.ext 0) (.od (.t 2)))⟩,
 ⟨(some 4), none, (.u (some 13) (.ext 1) (.od (.t 2)))⟩,
 ⟨(some 5), none, (.u (some 3) .mv (.od (.t 3)))⟩,
 ⟨none, none, (.u (some 4) .mv (.od (.t 4)))⟩])
 (.seq (.reg [⟨(some 6), none, (.u (some 5) .mv (.od (.c .nils)))⟩])
 (.seq (.seq (.reg [⟨(some 7), none, (.u (some 6) .mv (.od (.c (.int .i64 (.ofNat 0)))))⟩])
 (.blk 0 (.loop (.seq (.seq (.reg [⟨(some 8), none, (.b (some 17) false (.bin .lss) (.u (some 14) .mv (.od (.t 7))) (.u (some 16) .len (.u (some 15) .mv (.od (.t 5)))))⟩])
 (.cond (.t 8) (.skip)
 (.exit 0)))
 (.seq (.blk 1 (.reg [⟨(some 6), none, (.u (some 5) .mv (.b (some 26) false (.app 8 96 160) (.u (some 20) .mv (.od (.t 6))) (.u (some 25) .ld (.u (some 24) (.fad 0) (.b (some 23) false (.iad 4) (.u (some 21) .mv (.od (.t 5))) (.u (some 22) .mv (.od (.t 7))))))))⟩]))
 (.reg [⟨(some 7), none, (.u (some 6) .mv (.b (some 19) false (.bin .add) (.u (some 18) .mv (.od (.t 7))) (.od (.c (.int .i64 (.ofNat 1))))))⟩]))))))
 (.seq (.reg [⟨(some 9), none, (.u (some 27) .mv (.k (some 29) (.call 56) (.cons (.u (some 28) .mv (.od (.t 6))) .nil)))⟩,
 ⟨(some 10), none, (.u (some 30) (.ext 0) (.od (.t 9)))⟩,
 ⟨(some 11), none, (.u (some 31) (.ext 1) (.od (.t 9)))⟩,
 ⟨(some 12), none, (.u (some 7) .mv (.od (.t 10)))⟩,
 ⟨none, none, (.u (some 8) .mv (.od (.t 11)))⟩])
 (.seq (.reg [⟨(some 1), none, (.u (some 2) .mv (.u (some 32) .mv (.od (.t 12))))⟩])
 (.ret)))))))
def lf32 : LF := ⟨13, 1, lc32, [.t 1], [0,2,9,12,13,3,5,6,17,27,30,31,7]⟩

-- (*oxbow/scope.Env).Declare
def lc33 : LC := (.seq (.reg [⟨(some 3), none, (.u (some 6) .mv (.od (.c .nilp)))⟩,
 ⟨(some 4), none, (.u (some 7) .mv (.od (.c (.int .i64 (.ofNat 0)))))⟩])
 (.seq (.seq (.reg [⟨(some 5), none, (.b (some 9) false (.bin .eql) (.u (some 8) .mv (.od (.t 1))) (.od (.c (.str []))))⟩])
 (.cond (.t 5) (.seq (.reg [⟨(some 3), none, (.u (some 6) .mv (.od (.c .nilp)))⟩,
 ⟨(some 4), none, (.u (some 7) .mv (.od (.c (.int .i64 (.ofNat 1)))))⟩])
 (.ret))
 (.skip)))
 (.seq (.reg [⟨(some 0), none, (.u (some 0) .mv (.k (some 11) (.call 66) (.cons (.u (some 10) .mv (.od (.t 0))) .nil)))⟩])
 (.seq (.drw [⟨.p, [], ⟨(some 6), none, (.u (some 12) .mv (.od (.t 0)))⟩⟩,
 ⟨.p, [0], ⟨(some 7), none, (.u (some 13) .nck (.od (.t 6)))⟩⟩,
 ⟨.p, [0,1], ⟨(some 8), none, (.u (some 14) (.fad 0) (.od (.t 7)))⟩⟩,
 ⟨(.l 0 0), [0,1,2], ⟨(some 9), none, (.u (some 15) .ld (.od (.t 8)))⟩⟩,
 ⟨.p, [], ⟨(some 10), none, (.u (some 16) .mv (.od (.t 0)))⟩⟩,
 ⟨.p, [], ⟨(some 11), none, (.u (some 17) .mv (.od (.t 1)))⟩⟩,
 ⟨.p, [], ⟨(some 12), none, (.u (some 18) .mv (.od (.t 2)))⟩⟩,
 ⟨.p, [], ⟨(some 13), none, (.u (some 19) .mv (.od (.t 0)))⟩⟩,
 ⟨.p, [7], ⟨(some 14), none, (.u (some 20) .nck (.od (.t 13)))⟩⟩,
 ⟨.p, [7,8], ⟨(some 15), none, (.u (some 21) (.fad 4) (.od (.t 14)))⟩⟩,
 ⟨(.l 0 0), [7,8,9], ⟨(some 16), none, (.u (some 22) .ld (.od (.t 15)))⟩⟩,
 ⟨.p, [0,1,2,3,4,5,6,7,8,9,10], ⟨(some 17), none, (.k (some 23) (.build [.nilp,.nilp,(.str []),(.bool false),(.int .i64 (.ofNat 0)),(.int .u32 (.ofNat 0)),(.int .i32 (.ofNat 0)),(.int .u32 (.ofNat 0)),.nils] [(0,1),(1,1),(2,1),(3,1),(4,1)]) (.cons (.od (.t 9)) (.cons (.od (.t 10)) (.cons (.od (.t 11)) (.cons (.od (.t 12)) (.cons (.od (.t 16)) .nil))))))⟩⟩,
 ⟨.m, [0,1,2,3,4,5,6,7,8,9,10,11], ⟨(some 18), none, (.u (some 24) (.box 113) (.od (.t 17)))⟩⟩,
 ⟨.p, [0,1,2,3,4,5,6,7,8,9,10,11,12], ⟨(some 3), none, (.u (some 6) .mv (.od (.t 18)))⟩⟩,
 ⟨.p, [0,1,2,3,4,5,6,7,8,9,10,11,12,13], ⟨(some 4), none, (.u (some 7) .mv (.od (.c (.int .i64 (.ofNat 0)))))⟩⟩])
 (.ret)))))
def lf33 : LF := ⟨19, 3, lc33, [.t 3,.t 4], [0,1,2,6,7,9,12,13,14,15,16,17,18,19,20,21,22,23,24]⟩

-- oxbow/declare.Block
def lc34 : LC := (.seq (.reg [⟨(some 1), none, (.u (some 1) (.box 46) (.od (.t 0)))⟩,
 ⟨(some 2), none, (.a (some 2) [(.str []),(.str []),(.int .i64 (.ofNat 0)),(.int .i64 (.ofNat 0)),.nils] 50)⟩,
 ⟨(some 3), none, (.a (some 3) [.nils,(.int .i64 (.ofNat 0)),.nilp,(.int .i64 (.ofNat 0))] 46)⟩,
 ⟨(some 4), none, (.u (some 4) .mv (.od (.c (.bool false))))⟩])
 (.seq (.reg [⟨(some 5), none, (.k (some 7) (.call 67) (.cons (.u (some 6) (.lda 4) (.od (.t 1))) .nil))⟩,
 ⟨(some 6), none, (.a (some 5) [.nilp] 124)⟩,
 ⟨none, none, (.b none false (.sta 1) (.od (.t 6)) (.od (.t 5)))⟩])
 (.seq (.drw [⟨.p, [], ⟨(some 7), none, (.u (some 8) (.fad 0) (.od (.t 6)))⟩⟩,
 ⟨(.l 0 1), [0], ⟨(some 8), none, (.u (some 9) .ld (.od (.t 7)))⟩⟩,
 ⟨(.l 0 1), [], ⟨(some 9), none, (.u (some 10) (.lda 4) (.od (.t 1)))⟩⟩,
 ⟨(.l 0 0), [], ⟨(some 10), none, (.u (some 11) (.lda 1) (.od (.t 6)))⟩⟩,
 ⟨.p, [], ⟨(some 11), none, (.u (some 12) (.fad 3) (.od (.t 1)))⟩⟩,
 ⟨(.l 0 0), [4], ⟨(some 12), none, (.u (some 13) .ld (.od (.t 11)))⟩⟩,
 ⟨.m, [3,4,5], ⟨(some 13), none, (.k (some 14) (.call 68) (.cons (.od (.t 10)) (.cons (.od (.t 12)) .nil)))⟩⟩,
 ⟨.m, [0,1,2,3,4,5,6], ⟨(some 14), none, (.k (some 15) (.call 60) (.cons (.od (.t 8)) (.cons (.od (.t 9)) (.cons (.od (.t 13)) .nil))))⟩⟩,
 ⟨.p, [0,1,2,3,4,5,6,7], ⟨(some 15), none, (.u (some 16) (.ext 0) (.od (.t 14)))⟩⟩,
 ⟨.p, [0,1,2,3,4,5,6,7], ⟨(some 16), none, (.u (some 17) (.ext 1) (.od (.t 14)))⟩⟩,
 ⟨.p, [0,1,2,3,4,5,6,7], ⟨(some 17), none, (.u (some 18) (.ext 2) (.od (.t 14)))⟩⟩,
 ⟨.m, [0,1,2,3,4,5,6,7,8,9,10], ⟨none, none, (.b none false (.sta 5) (.od (.t 2)) (.od (.t 15)))⟩⟩,
 ⟨.m, [0,1,2,3,4,5,6,7,8,9,10,11], ⟨none, none, (.b none false (.sta 4) (.od (.t 3)) (.od (.t 16)))⟩⟩,
 ⟨.p, [0,1,2,3,4,5,6,7,8,9,10,11,12], ⟨(some 4), none, (.u (some 4) .mv (.od (.t 17)))⟩⟩])
 (.ret))))
def lf34 : LF := ⟨18, 1, lc34, [.ca 2 5,.ca 3 4,.t 4], [0,1,2,3,4,7,5,8,9,10,11,12,13,14,15,16,17,18]⟩

-- oxbow/oxbowlaw21.made
def lc35 : LC := (.seq (.reg [⟨(some 1), none, (.u (some 2) .mv (.od (.c .nils)))⟩])
 (.seq (.reg [⟨(some 2), none, (.u (some 3) .mv (.od (.c .nils)))⟩])
 (.seq (.seq (.reg [⟨(some 3), none, (.u (some 4) .mv (.od (.c (.int .i64 (.ofNat 0)))))⟩])
 (.blk 0 (.loop (.seq (.seq (.reg [⟨(some 4), none, (.b (some 9) false (.bin .lss) (.u (some 6) .mv (.od (.t 3))) (.u (some 8) .len (.u (some 7) .mv (.od (.t 0)))))⟩])
 (.cond (.t 4) (.skip)
 (.exit 0)))
 (.seq (.blk 1 (.seq (.reg [⟨(some 5), none, (.u (some 15) (.lda 7) (.b (some 14) false (.iad 7) (.u (some 12) .mv (.od (.t 0))) (.u (some 13) .mv (.od (.t 3)))))⟩,
 ⟨(some 6), none, (.a (some 5) [(.int .i64 (.ofNat 0)),(.str []),(.str []),(.int .i64 (.ofNat 0)),(.int .i64 (.ofNat 0)),(.int .i64 (.ofNat 0)),(.int .i64 (.ofNat 0))] 94)⟩,
 ⟨none, none, (.b none false (.sta 7) (.od (.t 6)) (.od (.t 5)))⟩])
 (.reg [⟨(some 2), none, (.u (some 3) .mv (.b (some 29) false (.app 7 72 95) (.u (some 16) .mv (.od (.t 2))) (.k (some 28) (.bsl 7 95) (.cons (.k (some 27) (.build [(.int .i64 (.ofNat 0)),(.str []),(.str []),(.int .i64 (.ofNat 0)),(.int .i64 (.ofNat 0)),(.int .i64 (.ofNat 0)),(.int .i64 (.ofNat 0))] [(0,1),(1,1),(2,3),(5,1),(6,1)]) (.cons (.u (some 18) .ld (.u (some 17) (.fad 0) (.od (.t 6)))) (.cons (.u (some 20) .ld (.u (some 19) (.fad 1) (.od (.t 6)))) (.cons (.u (some 22) (.lda 3) (.u (some 21) (.fad 2) (.od (.t 6)))) (.cons (.u (some 24) .ld (.u (some 23) (.fad 5) (.od (.t 6)))) (.cons (.u (some 26) .ld (.u (some 25) (.fad 6) (.od (.t 6)))) .nil)))))) .nil))))⟩])))
 (.reg [⟨(some 3), none, (.u (some 4) .mv (.b (some 11) false (.bin .add) (.u (some 10) .mv (.od (.t 3))) (.od (.c (.int .i64 (.ofNat 1))))))⟩]))))))
 (.seq (.reg [⟨(some 1), none, (.u (some 2) .mv (.u (some 30) .mv (.od (.t 2))))⟩])
 (.ret)))))
def lf35 : LF := ⟨7, 1, lc35, [.t 1], [0,2,3,4,9,15,5]⟩

-- (*oxbow/scope.Env).IsType
def lc36 : LC := (.seq (.reg [⟨(some 2), none, (.u (some 4) .mv (.od (.c (.bool false))))⟩])
 (.seq (.reg [⟨(some 3), none, (.u (some 5) .mv (.k (some 8) (.call 69) (.cons (.u (some 6) .mv (.od (.t 0))) (.cons (.u (some 7) .mv (.od (.t 1))) .nil))))⟩])
 (.seq (.reg [⟨(some 2), none, (.u (some 4) .mv (.gd (some 16) true false (.u (some 11) .mv (.b (some 10) false (.eqp true) (.u (some 9) .mv (.od (.t 3))) (.od (.c .nilp)))) (.u (some 15) .ld (.u (some 14) (.fad 3) (.u (some 13) .nck (.u (some 12) .mv (.od (.t 3))))))))⟩])
 (.ret))))
def lf36 : LF := ⟨4, 2, lc36, [.t 2], [0,1,4,5]⟩

-- oxbow/oxbowlaw21.envs
def lc37 : LC := (.seq (.reg [⟨(some 1), none, (.u (some 2) .mv (.od (.c .nilp)))⟩,
 ⟨(some 2), none, (.a (some 3) [.nils] 34)⟩,
 ⟨(some 3), none, (.u (some 4) .mv (.od (.c (.bool false))))⟩])
 (.seq (.reg [⟨(some 4), none, (.k (some 10) (.call 27) .nil)⟩,
 ⟨(some 5), none, (.k (some 11) (.call 53) .nil)⟩,
 ⟨(some 6), none, (.a (some 6) [.nils] 34)⟩,
 ⟨(some 7), none, (.u (some 5) .mv (.od (.t 4)))⟩,
 ⟨none, none, (.b none false (.sta 1) (.od (.t 6)) (.od (.t 5)))⟩])
 (.seq (.seq (.reg [⟨(some 8), none, (.u (some 7) .mv (.od (.c (.int .i64 (.ofNat 0)))))⟩])
 (.blk 0 (.loop (.seq (.seq (.reg [⟨(some 9), none, (.gd (some 19) true false (.u (some 16) .mv (.b (some 15) false (.bin .lss) (.u (some 12) .mv (.od (.t 8))) (.u (some 14) .len (.u (some 13) .mv (.od (.t 0)))))) (.b (some 18) false (.eqp true) (.u (some 17) .mv (.od (.t 7))) (.od (.c .nilp))))⟩])
 (.cond (.t 9) (.skip)
 (.exit 0)))
 (.seq (.blk 1 (.seq (.drw [⟨.p, [], ⟨(some 10), none, (.u (some 23) .mv (.od (.t 7)))⟩⟩,
 ⟨.p, [], ⟨(some 11), none, (.u (some 24) .mv (.od (.t 0)))⟩⟩,
 ⟨.p, [], ⟨(some 12), none, (.u (some 25) .mv (.od (.t 8)))⟩⟩,
 ⟨.p, [1,2], ⟨(some 13), none, (.b (some 26) false (.iad 2) (.od (.t 11)) (.od (.t 12)))⟩⟩,
 ⟨.p, [1,2,3], ⟨(some 14), none, (.u (some 27) (.fad 0) (.od (.t 13)))⟩⟩,
 ⟨(.l 0 0), [1,2,3,4], ⟨(some 15), none, (.u (some 28) .ld (.od (.t 14)))⟩⟩,
 ⟨.p, [], ⟨(some 16), none, (.u (some 29) .mv (.od (.t 0)))⟩⟩,
 ⟨.p, [], ⟨(some 17), none, (.u (some 30) .mv (.od (.t 8)))⟩⟩,
 ⟨.p, [6,7], ⟨(some 18), none, (.b (some 31) false (.iad 2) (.od (.t 16)) (.od (.t 17)))⟩⟩,
 ⟨.p, [6,7,8], ⟨(some 19), none, (.u (some 32) (.fad 1) (.od (.t 18)))⟩⟩,
 ⟨(.l 0 0), [6,7,8,9], ⟨(some 20), none, (.u (some 33) .ld (.od (.t 19)))⟩⟩,
 ⟨.m, [0,1,2,3,4,5,6,7,8,9,10], ⟨(some 21), none, (.k (some 34) (.call 33) (.cons (.od (.t 10)) (.cons (.od (.t 15)) (.cons (.od (.t 20)) .nil))))⟩⟩,
 ⟨.p, [0,1,2,3,4,5,6,7,8,9,10,11], ⟨(some 22), none, (.u (some 22) .mv (.od (.t 21)))⟩⟩,
 ⟨.p, [0,1,2,3,4,5,6,7,8,9,10,11,12], ⟨(some 23), none, (.u (some 35) (.ext 0) (.od (.t 22)))⟩⟩,
 ⟨.p, [0,1,2,3,4,5,6,7,8,9,10,11,12], ⟨(some 24), none, (.u (some 36) (.ext 1) (.od (.t 22)))⟩⟩,
 ⟨.p, [0,1,2,3,4,5,6,7,8,9,10,11,12,13], ⟨(some 25), none, (.u (some 8) .mv (.od (.t 23)))⟩⟩,
 ⟨.p, [0,1,2,3,4,5,6,7,8,9,10,11,12,13,14,15], ⟨(some 26), none, (.u (some 9) .mv (.od (.t 24)))⟩⟩])
 (.seq (.seq (.reg [⟨(some 27), none, (.b (some 45) false (.eqb true) (.b (some 38) false (.bin .eql) (.u (some 37) .mv (.od (.t 26))) (.od (.c (.int .i64 (.ofNat 0))))) (.b (some 44) false (.bin .neq) (.u (some 43) .ld (.u (some 42) (.fad 0) (.b (some 41) false (.iad 2) (.u (some 39) .mv (.od (.t 0))) (.u (some 40) .mv (.od (.t 8)))))) (.od (.c (.str [])))))⟩])
 (.cond (.t 27) (.seq (.drw [⟨(.l 0 0), [], ⟨(some 28), none, (.u (some 46) (.lda 1) (.od (.t 6)))⟩⟩,
 ⟨.p, [], ⟨(some 1), none, (.u (some 2) .mv (.od (.c .nilp)))⟩⟩,
 ⟨.m, [0,1], ⟨none, none, (.b none false (.sta 1) (.od (.t 2)) (.od (.t 28)))⟩⟩,
 ⟨.p, [0,1,2], ⟨(some 3), none, (.u (some 4) .mv (.od (.c (.bool false))))⟩⟩])
 (.ret))
 (.skip)))
 (.seq (.reg [⟨(some 29), none, (.b (some 48) false (.bin .eql) (.u (some 47) .mv (.od (.t 26))) (.od (.c (.int .i64 (.ofNat 0)))))⟩])
 (.cond (.t 29) (.seq (.reg [⟨(some 7), none, (.u (some 5) .mv (.u (some 49) .mv (.od (.t 25))))⟩])
 (.drw [⟨(.l 0 0), [], ⟨(some 30), none, (.u (some 50) (.lda 1) (.od (.t 6)))⟩⟩,
 ⟨.p, [], ⟨(some 31), none, (.u (some 51) .mv (.od (.t 0)))⟩⟩,
 ⟨.p, [], ⟨(some 32), none, (.u (some 52) .mv (.od (.t 8)))⟩⟩,
 ⟨.p, [1,2], ⟨(some 33), none, (.b (some 53) false (.iad 2) (.od (.t 31)) (.od (.t 32)))⟩⟩,
 ⟨.p, [1,2,3], ⟨(some 34), none, (.u (some 54) (.fad 0) (.od (.t 33)))⟩⟩,
 ⟨(.l 0 0), [1,2,3,4], ⟨(some 35), none, (.u (some 55) .ld (.od (.t 34)))⟩⟩,
 ⟨.p, [], ⟨(some 36), none, (.u (some 56) .mv (.od (.t 0)))⟩⟩,
 ⟨.p, [], ⟨(some 37), none, (.u (some 57) .mv (.od (.t 8)))⟩⟩,
 ⟨.p, [6,7], ⟨(some 38), none, (.b (some 58) false (.iad 2) (.od (.t 36)) (.od (.t 37)))⟩⟩,
 ⟨.p, [6,7,8], ⟨(some 39), none, (.u (some 59) (.fad 1) (.od (.t 38)))⟩⟩,
 ⟨(.l 0 0), [6,7,8,9], ⟨(some 40), none, (.u (some 60) .ld (.od (.t 39)))⟩⟩,
 ⟨.m, [0,1,2,3,4,5,6,7,8,9,10], ⟨(some 41), none, (.k (some 61) (.call 54) (.cons (.od (.t 30)) (.cons (.od (.t 35)) (.cons (.od (.t 40)) .nil))))⟩⟩,
 ⟨.m, [0,1,2,3,4,5,6,7,8,9,10,11], ⟨none, none, (.b none false (.sta 1) (.od (.t 6)) (.od (.t 41)))⟩⟩]))
 (.skip))))))
 (.reg [⟨(some 8), none, (.u (some 7) .mv (.b (some 21) false (.bin .add) (.u (some 20) .mv (.od (.t 8))) (.od (.c (.int .i64 (.ofNat 1))))))⟩]))))))
 (.seq (.drw [⟨.p, [], ⟨(some 42), none, (.u (some 62) .mv (.od (.t 7)))⟩⟩,
 ⟨(.l 0 0), [], ⟨(some 43), none, (.u (some 63) (.lda 1) (.od (.t 6)))⟩⟩,
 ⟨.p, [], ⟨(some 44), none, (.u (some 64) .mv (.od (.t 7)))⟩⟩,
 ⟨.p, [2], ⟨(some 45), none, (.b (some 65) false (.eqp true) (.od (.t 44)) (.od (.c .nilp)))⟩⟩,
 ⟨.p, [0], ⟨(some 1), none, (.u (some 2) .mv (.od (.t 42)))⟩⟩,
 ⟨.m, [0,1,4], ⟨none, none, (.b none false (.sta 1) (.od (.t 2)) (.od (.t 43)))⟩⟩,
 ⟨.p, [0,1,2,3,4,5], ⟨(some 3), none, (.u (some 4) .mv (.od (.t 45)))⟩⟩])
 (.ret)))))
def lf37 : LF := ⟨46, 1, lc37, [.t 1,.ca 2 1,.t 3], [0,2,3,4,10,11,6,5,7,19,23,24,25,26,27,28,29,30,31,32,33,34,22,35,36,8,9,45,46,48,50,51,52,53,54,55,56,57,58,59,60,61,62,63,64,65]⟩

-- oxbow/declare.Declaration
def lc38 : LC := (.seq (.reg [⟨(some 1), none, (.u (some 1) (.box 46) (.od (.t 0)))⟩,
 ⟨(some 2), none, (.a (some 2) [(.str []),(.str []),(.int .i64 (.ofNat 0)),(.int .i64 (.ofNat 0)),.nils] 50)⟩,
 ⟨(some 3), none, (.a (some 3) [.nils,(.int .i64 (.ofNat 0)),.nilp,(.int .i64 (.ofNat 0))] 46)⟩,
 ⟨(some 4), none, (.u (some 4) .mv (.od (.c (.bool false))))⟩])
 (.seq (.reg [⟨(some 5), none, (.k (some 7) (.call 67) (.cons (.u (some 6) (.lda 4) (.od (.t 1))) .nil))⟩,
 ⟨(some 6), none, (.a (some 5) [.nilp] 124)⟩,
 ⟨none, none, (.b none false (.sta 1) (.od (.t 6)) (.od (.t 5)))⟩])
 (.seq (.drw [⟨.p, [], ⟨(some 7), none, (.u (some 8) (.fad 0) (.od (.t 6)))⟩⟩,
 ⟨(.l 0 1), [0], ⟨(some 8), none, (.u (some 9) .ld (.od (.t 7)))⟩⟩,
 ⟨(.l 0 1), [], ⟨(some 9), none, (.u (some 10) (.lda 4) (.od (.t 1)))⟩⟩,
 ⟨(.l 0 0), [], ⟨(some 10), none, (.u (some 11) (.lda 1) (.od (.t 6)))⟩⟩,
 ⟨.p, [], ⟨(some 11), none, (.u (some 12) (.fad 3) (.od (.t 1)))⟩⟩,
 ⟨(.l 0 0), [4], ⟨(some 12), none, (.u (some 13) .ld (.od (.t 11)))⟩⟩,
 ⟨.m, [3,4,5], ⟨(some 13), none, (.k (some 14) (.call 70) (.cons (.od (.t 10)) (.cons (.od (.t 12)) .nil)))⟩⟩,
 ⟨.m, [0,1,2,3,4,5,6], ⟨(some 14), none, (.k (some 15) (.call 60) (.cons (.od (.t 8)) (.cons (.od (.t 9)) (.cons (.od (.t 13)) .nil))))⟩⟩,
 ⟨.p, [0,1,2,3,4,5,6,7], ⟨(some 15), none, (.u (some 16) (.ext 0) (.od (.t 14)))⟩⟩,
 ⟨.p, [0,1,2,3,4,5,6,7], ⟨(some 16), none, (.u (some 17) (.ext 1) (.od (.t 14)))⟩⟩,
 ⟨.p, [0,1,2,3,4,5,6,7], ⟨(some 17), none, (.u (some 18) (.ext 2) (.od (.t 14)))⟩⟩,
 ⟨.m, [0,1,2,3,4,5,6,7,8,9,10], ⟨none, none, (.b none false (.sta 5) (.od (.t 2)) (.od (.t 15)))⟩⟩,
 ⟨.m, [0,1,2,3,4,5,6,7,8,9,10,11], ⟨none, none, (.b none false (.sta 4) (.od (.t 3)) (.od (.t 16)))⟩⟩,
 ⟨.p, [0,1,2,3,4,5,6,7,8,9,10,11,12], ⟨(some 4), none, (.u (some 4) .mv (.od (.t 17)))⟩⟩])
 (.ret))))
def lf38 : LF := ⟨18, 1, lc38, [.ca 2 5,.ca 3 4,.t 4], [0,1,2,3,4,7,5,8,9,10,11,12,13,14,15,16,17,18]⟩

-- oxbow/declare.Names
def lc39 : LC := (.seq (.reg [⟨(some 3), none, (.u (some 3) (.box 50) (.od (.t 0)))⟩,
 ⟨(some 4), none, (.u (some 4) (.box 50) (.od (.t 1)))⟩,
 ⟨(some 5), none, (.u (some 6) .mv (.od (.c .nilp)))⟩])
 (.seq (.seq (.reg [⟨(some 6), none, (.u (some 7) .mv (.k (some 9) (.call 29) (.cons (.u (some 8) (.lda 5) (.od (.t 4))) .nil)))⟩])
 (.seq (.reg [⟨(some 7), none, (.b (some 11) false (.bin .neq) (.u (some 10) .mv (.od (.t 6))) (.od (.c (.str []))))⟩])
 (.cond (.t 7) (.reg [⟨(some 8), none, (.u (some 12) .mv (.k (some 17) (.call 33) (.cons (.u (some 13) .mv (.od (.t 2))) (.cons (.u (some 14) .mv (.od (.t 6))) (.cons (.k (some 16) (.call 71) (.cons (.u (some 15) (.lda 5) (.od (.t 3))) .nil)) .nil)))))⟩,
 ⟨(some 9), none, (.u (some 18) (.ext 0) (.od (.t 8)))⟩,
 ⟨none, none, (.u (some 19) (.ext 1) (.od (.t 8)))⟩,
 ⟨(some 2), none, (.u (some 2) .mv (.od (.t 9)))⟩])
 (.skip))))
 (.seq (.reg [⟨(some 5), none, (.u (some 6) .mv (.u (some 20) .mv (.od (.t 2))))⟩])
 (.ret))))
def lf39 : LF := ⟨10, 3, lc39, [.t 5], [0,1,2,3,4,6,7,11,12,18]⟩

-- (*oxbow/scope.Env).Known
def lc40 : LC := (.seq (.reg [⟨(some 2), none, (.u (some 4) .mv (.od (.c (.bool false))))⟩])
 (.seq (.reg [⟨(some 2), none, (.u (some 4) .mv (.b (some 8) false (.eqp true) (.k (some 7) (.call 69) (.cons (.u (some 5) .mv (.od (.t 0))) (.cons (.u (some 6) .mv (.od (.t 1))) .nil))) (.od (.c .nilp))))⟩])
 (.ret)))
def lf40 : LF := ⟨3, 2, lc40, [.t 2], [0,1,4]⟩

-- oxbow/declare.Stmt
def lc41 : LC := (.seq (.reg [⟨(some 1), none, (.u (some 1) (.box 46) (.od (.t 0)))⟩,
 ⟨(some 2), none, (.a (some 2) [(.str []),(.str []),(.int .i64 (.ofNat 0)),(.int .i64 (.ofNat 0)),.nils] 50)⟩,
 ⟨(some 3), none, (.a (some 3) [.nils,(.int .i64 (.ofNat 0)),.nilp,(.int .i64 (.ofNat 0))] 46)⟩,
 ⟨(some 4), none, (.u (some 4) .mv (.od (.c (.bool false))))⟩])
 (.seq (.reg [⟨(some 5), none, (.k (some 7) (.call 67) (.cons (.u (some 6) (.lda 4) (.od (.t 1))) .nil))⟩,
 ⟨(some 6), none, (.a (some 5) [.nilp] 124)⟩,
 ⟨none, none, (.b none false (.sta 1) (.od (.t 6)) (.od (.t 5)))⟩])
 (.seq (.drw [⟨.p, [], ⟨(some 7), none, (.u (some 8) (.fad 0) (.od (.t 6)))⟩⟩,
 ⟨(.l 0 1), [0], ⟨(some 8), none, (.u (some 9) .ld (.od (.t 7)))⟩⟩,
 ⟨(.l 0 1), [], ⟨(some 9), none, (.u (some 10) (.lda 4) (.od (.t 1)))⟩⟩,
 ⟨(.l 0 0), [], ⟨(some 10), none, (.u (some 11) (.lda 1) (.od (.t 6)))⟩⟩,
 ⟨.p, [], ⟨(some 11), none, (.u (some 12) (.fad 3) (.od (.t 1)))⟩⟩,
 ⟨(.l 0 0), [4], ⟨(some 12), none, (.u (some 13) .ld (.od (.t 11)))⟩⟩,
 ⟨.m, [3,4,5], ⟨(some 13), none, (.k (some 14) (.call 72) (.cons (.od (.t 10)) (.cons (.od (.t 12)) .nil)))⟩⟩,
 ⟨.m, [0,1,2,3,4,5,6], ⟨(some 14), none, (.k (some 15) (.call 60) (.cons (.od (.t 8)) (.cons (.od (.t 9)) (.cons (.od (.t 13)) .nil))))⟩⟩,
 ⟨.p, [0,1,2,3,4,5,6,7], ⟨(some 15), none, (.u (some 16) (.ext 0) (.od (.t 14)))⟩⟩,
 ⟨.p, [0,1,2,3,4,5,6,7], ⟨(some 16), none, (.u (some 17) (.ext 1) (.od (.t 14)))⟩⟩,
 ⟨.p, [0,1,2,3,4,5,6,7], ⟨(some 17), none, (.u (some 18) (.ext 2) (.od (.t 14)))⟩⟩,
 ⟨.m, [0,1,2,3,4,5,6,7,8,9,10], ⟨none, none, (.b none false (.sta 5) (.od (.t 2)) (.od (.t 15)))⟩⟩,
 ⟨.m, [0,1,2,3,4,5,6,7,8,9,10,11], ⟨none, none, (.b none false (.sta 4) (.od (.t 3)) (.od (.t 16)))⟩⟩,
 ⟨.p, [0,1,2,3,4,5,6,7,8,9,10,11,12], ⟨(some 4), none, (.u (some 4) .mv (.od (.t 17)))⟩⟩])
 (.ret))))
def lf41 : LF := ⟨18, 1, lc41, [.ca 2 5,.ca 3 4,.t 4], [0,1,2,3,4,7,5,8,9,10,11,12,13,14,15,16,17,18]⟩

-- oxbow/tree.Same
def lc42 : LC := (.seq (.reg [⟨(some 2), none, (.u (some 2) (.box 50) (.od (.t 0)))⟩,
 ⟨(some 3), none, (.u (some 3) (.box 50) (.od (.t 1)))⟩,
 ⟨(some 4), none, (.u (some 4) .mv (.od (.c (.bool false))))⟩])
 (.seq (.reg [⟨(some 5), none, (.u (some 5) .mv (.gd (some 31) true false (.u (some 25) .mv (.gd (some 24) true false (.u (some 18) .mv (.gd (some 17) true false (.u (some 11) .mv (.b (some 10) false (.bin .eql) (.u (some 7) .ld (.u (some 6) (.fad 0) (.od (.t 2)))) (.u (some 9) .ld (.u (some 8) (.fad 0) (.od (.t 3)))))) (.b (some 16) false (.bin .eql) (.u (some 13) .ld (.u (some 12) (.fad 1) (.od (.t 2)))) (.u (some 15) .ld (.u (some 14) (.fad 1) (.od (.t 3))))))) (.b (some 23) false (.bin .eql) (.u (some 20) .ld (.u (some 19) (.fad 2) (.od (.t 2)))) (.u (some 22) .ld (.u (some 21) (.fad 2) (.od (.t 3))))))) (.b (some 30) false (.bin .eql) (.u (some 27) .ld (.u (some 26) (.fad 3) (.od (.t 2)))) (.u (some 29) .ld (.u (some 28) (.fad 3) (.od (.t 3)))))))⟩])
 (.seq (.reg [⟨(some 4), none, (.u (some 4) .mv (.gd (some 39) true false (.u (some 33) .mv (.u (some 32) .mv (.od (.t 5)))) (.k (some 38) (.call 73) (.cons (.u (some 35) .ld (.u (some 34) (.fad 4) (.od (.t 2)))) (.cons (.u (some 37) .ld (.u (some 36) (.fad 4) (.od (.t 3)))) (.cons (.od (.c (.fn 42 [] []))) .nil))))))⟩])
 (.ret))))
def lf42 : LF := ⟨6, 2, lc42, [.t 4], [0,1,2,3,4,5]⟩

-- oxbow/oxbowlaw22.short
def lc43 : LC := (.seq (.reg [⟨(some 2), none, (.u (some 4) .mv (.od (.c (.bool false))))⟩])
 (.seq (.seq (.reg [⟨(some 3), none, (.u (some 5) .mv (.od (.c (.int .i64 (.ofNat 0)))))⟩])
 (.blk 0 (.loop (.seq (.seq (.reg [⟨(some 4), none, (.gd (some 13) true false (.u (some 10) .mv (.b (some 9) false (.bin .lss) (.u (some 6) .mv (.od (.t 3))) (.u (some 8) .len (.u (some 7) .mv (.od (.t 0)))))) (.b (some 12) false (.bin .lss) (.u (some 11) .mv (.od (.t 3))) (.od (.c (.int .i64 (.ofNat 20))))))⟩])
 (.cond (.t 4) (.skip)
 (.exit 0)))
 (.seq (.blk 1 (.seq (.reg [⟨(some 5), none, (.b (some 22) false (.bin .gtr) (.u (some 21) .lens (.u (some 20) .ld (.u (some 19) (.fad 0) (.b (some 18) false (.iad 2) (.u (some 16) .mv (.od (.t 0))) (.u (some 17) .mv (.od (.t 3))))))) (.od (.c (.int .i64 (.ofNat 30)))))⟩])
 (.cond (.t 5) (.seq (.reg [⟨(some 2), none, (.u (some 4) .mv (.od (.c (.bool false))))⟩])
 (.ret))
 (.skip))))
 (.reg [⟨(some 3), none, (.u (some 5) .mv (.b (some 15) false (.bin .add) (.u (some 14) .mv (.od (.t 3))) (.od (.c (.int .i64 (.ofNat 1))))))⟩]))))))
 (.seq (.reg [⟨(some 2), none, (.u (some 4) .mv (.gd (some 30) true false (.u (some 26) .mv (.b (some 25) false (.bin .leq) (.u (some 24) .len (.u (some 23) .mv (.od (.t 0)))) (.od (.c (.int .i64 (.ofNat 15)))))) (.b (some 29) false (.bin .leq) (.u (some 28) .lens (.u (some 27) .mv (.od (.t 1)))) (.od (.c (.int .i64 (.ofNat 1200)))))))⟩])
 (.ret))))
def lf43 : LF := ⟨6, 2, lc43, [.t 2], [0,1,4,5,13,22]⟩

-- oxbow/oxbowlaw22.awake
def lc44 : LC := (.seq (.reg [⟨(some 0), none, (.u (some 0) .mv (.od (.c (.bool false))))⟩])
 (.seq (.reg [⟨(some 1), none, (.u (some 3) .mv (.k (some 6) (.call 48) (.cons (.k (some 5) (.call 47) (.cons (.k (some 4) (.call 45) (.cons (.od (.c (.str [116,121,112,101,100,101,102,32,105,110,116,32,84,59,32,84,32,120,59,32,105,110,116,32,102,40,84,32,97,41,32,123,32,114,101,116,117,114,110,32,97,32,42,32,120,59,32,125,32,43,32,59,32,105,110,116,32,121,59]))) .nil)) .nil)) .nil)))⟩,
 ⟨(some 2), none, (.u (some 7) (.ext 0) (.od (.t 1)))⟩,
 ⟨(some 3), none, (.u (some 8) (.ext 1) (.od (.t 1)))⟩,
 ⟨(some 4), none, (.a (some 1) [(.str []),(.str []),(.int .i64 (.ofNat 0)),(.int .i64 (.ofNat 0)),.nils] 50)⟩,
 ⟨none, none, (.b none false (.sta 5) (.od (.t 4)) (.od (.t 2)))⟩,
 ⟨(some 5), none, (.u (some 2) .mv (.od (.t 3)))⟩])
 (.seq (.reg [⟨(some 0), none, (.u (some 0) .mv (.gd (some 54) true false (.u (some 49) .mv (.gd (some 48) true false (.u (some 41) .mv (.gd (some 40) true false (.u (some 33) .mv (.gd (some 32) true false (.u (some 25) .mv (.gd (some 24) true false (.u (some 19) .mv (.gd (some 18) true false (.u (some 12) .mv (.b (some 11) false (.bin .eql) (.u (some 10) .len (.u (some 9) .mv (.od (.t 5)))) (.od (.c (.int .i64 (.ofNat 1)))))) (.b (some 17) false (.bin .eql) (.u (some 16) .ld (.u (some 15) (.fad 0) (.b (some 14) false (.iad 4) (.u (some 13) .mv (.od (.t 5))) (.od (.c (.int .i64 (.ofNat 0))))))) (.od (.c (.int .i64 (.ofNat 20))))))) (.b (some 23) false (.bin .eql) (.u (some 22) .len (.u (some 21) .ld (.u (some 20) (.fad 4) (.od (.t 4))))) (.od (.c (.int .i64 (.ofNat 5))))))) (.b (some 31) false (.bin .eql) (.u (some 30) .ld (.u (some 29) (.fad 0) (.b (some 28) false (.iad 5) (.u (some 27) .ld (.u (some 26) (.fad 4) (.od (.t 4)))) (.od (.c (.int .i64 (.ofNat 2))))))) (.od (.c (.str [102,117,110,99,116,105,111,110])))))) (.b (some 39) false (.bin .eql) (.u (some 38) .ld (.u (some 37) (.fad 0) (.b (some 36) false (.iad 5) (.u (some 35) .ld (.u (some 34) (.fad 4) (.od (.t 4)))) (.od (.c (.int .i64 (.ofNat 3))))))) (.od (.c (.str [101,114,114,111,114])))))) (.b (some 47) false (.bin .eql) (.k (some 46) (.call 28) (.cons (.u (some 45) (.lda 5) (.b (some 44) false (.iad 5) (.u (some 43) .ld (.u (some 42) (.fad 4) (.od (.t 4)))) (.od (.c (.int .i64 (.ofNat 4)))))) .nil)) (.od (.c (.str [40,100,101,99,108,97,114,101,32,40,115,112,101,99,115,32,40,116,121,112,101,32,105,110,116,41,41,32,40,110,97,109,101,32,121,41,41])))))) (.b (some 53) false (.bin .eql) (.k (some 52) (.call 74) (.cons (.k (some 51) (.call 47) (.cons (.k (some 50) (.call 45) (.cons (.od (.c (.str [97,32,123,32,59,32,125,32,98]))) .nil)) .nil)) (.cons (.od (.c (.int .i64 (.ofNat 0)))) (.cons (.od (.c (.int .i64 (.ofNat 0)))) .nil)))) (.od (.c (.int .i64 (.ofNat 4)))))))⟩])
 (.ret))))
def lf44 : LF := ⟨6, 0, lc44, [.t 0], [0,3,7,8,1,2]⟩

-- oxbow/oxbowlaw22.toks
def lc45 : LC := (.seq (.reg [⟨(some 1), none, (.u (some 2) .mv (.od (.c .nils)))⟩])
 (.seq (.reg [⟨(some 2), none, (.u (some 9) .mv (.k (some 11) (.call 55) (.cons (.od (.c (.str [102]))) (.cons (.u (some 10) .mv (.od (.t 0))) .nil))))⟩,
 ⟨(some 3), none, (.u (some 12) (.ext 0) (.od (.t 2)))⟩,
 ⟨(some 4), none, (.u (some 13) (.ext 1) (.od (.t 2)))⟩,
 ⟨(some 5), none, (.u (some 3) .mv (.od (.t 3)))⟩,
 ⟨none, none, (.u (some 4) .mv (.od (.t 4)))⟩])
 (.seq (.reg [⟨(some 6), none, (.u (some 5) .mv (.od (.c .nils)))⟩])
 (.seq (.seq (.reg [⟨(some 7), none, (.u (some 6) .mv (.od (.c (.int .i64 (.ofNat 0)))))⟩])
 (.blk 0 (.loop (.seq (.seq (.reg [⟨(some 8), none, (.b (some 17) false (.bin .lss) (.u (some 14) .mv (.od (.t 7))) (.u (some 16) .len (.u (some 15) .mv (.od (.t 5)))))⟩])
 (.cond (.t 8) (.skip)
 (.exit 0)))
 (.seq (.blk 1 (.reg [⟨(some 6), none, (.u (some 5) .mv (.b (some 26) false (.app 8 96 160) (.u (some 20) .mv (.od (.t 6))) (.u (some 25) .ld (.u (some 24) (.fad 0) (.b (some 23) false (.iad 4) (.u (some 21) .mv (.od (.t 5))) (.u (some 22) .mv (.od (.t 7))))))))⟩]))
 (.reg [⟨(some 7), none, (.u (some 6) .mv (.b (some 19) false (.bin .add) (.u (some 18) .mv (.od (.t 7))) (.od (.c (.int .i64 (.ofNat 1))))))⟩]))))))
 (.seq (.reg [⟨(some 9), none, (.u (some 27) .mv (.k (some 29) (.call 56) (.cons (.u (some 28) .mv (.od (.t 6))) .nil)))⟩,
 ⟨(some 10), none, (.u (some 30) (.ext 0) (.od (.t 9)))⟩,
 ⟨(some 11), none, (.u (some 31) (.ext 1) (.od (.t 9)))⟩,
 ⟨(some 12), none, (.u (some 7) .mv (.od (.t 10)))⟩,
 ⟨none, none, (.u (some 8) .mv (.od (.t 11)))⟩])
 (.seq (.reg [⟨(some 1), none, (.u (some 2) .mv (.u (some 32) .mv (.od (.t 12))))⟩])
 (.ret)))))))
def lf45 : LF := ⟨13, 1, lc45, [.t 1], [0,2,9,12,13,3,5,6,17,27,30,31,7]⟩

-- oxbow/unit.All
def lc46 : LC := (.seq (.reg [⟨(some 1), none, (.u (some 2) .mv (.od (.c .nils)))⟩,
 ⟨(some 2), none, (.u (some 3) .mv (.od (.c .nilp)))⟩])
 (.seq (.reg [⟨(some 3), none, (.u (some 4) .mv (.k (some 7) (.call 27) .nil))⟩])
 (.seq (.reg [⟨(some 4), none, (.u (some 8) .mv (.k (some 11) (.call 75) (.cons (.u (some 9) .mv (.od (.t 0))) (.cons (.od (.c (.int .i64 (.ofNat 0)))) (.cons (.u (some 10) .mv (.od (.t 3))) .nil)))))⟩,
 ⟨(some 5), none, (.u (some 12) (.ext 0) (.od (.t 4)))⟩,
 ⟨(some 6), none, (.u (some 13) (.ext 1) (.od (.t 4)))⟩,
 ⟨(some 7), none, (.u (some 5) .mv (.od (.t 5)))⟩,
 ⟨(some 8), none, (.u (some 6) .mv (.od (.t 6)))⟩])
 (.seq (.seq (.reg [⟨(some 9), none, (.b (some 16) false (.bin .gtr) (.u (some 15) .len (.u (some 14) .mv (.od (.t 8)))) (.od (.c (.int .i64 (.ofNat 0)))))⟩])
 (.cond (.t 9) (.reg [⟨(some 3), none, (.u (some 4) .mv (.u (some 22) .ld (.b (some 21) false (.iad 1) (.u (some 17) .mv (.od (.t 8))) (.b (some 20) false (.bin .sub) (.u (some 19) .len (.u (some 18) .mv (.od (.t 8)))) (.od (.c (.int .i64 (.ofNat 1))))))))⟩])
 (.skip)))
 (.seq (.reg [⟨(some 10), none, (.u (some 23) .mv (.od (.t 7)))⟩,
 ⟨(some 11), none, (.u (some 24) .mv (.od (.t 3)))⟩,
 ⟨(some 1), none, (.u (some 2) .mv (.od (.t 10)))⟩,
 ⟨(some 2), none, (.u (some 3) .mv (.od (.t 11)))⟩])
 (.ret))))))
def lf46 : LF := ⟨12, 1, lc46, [.t 1,.t 2], [0,2,3,4,8,12,13,5,6,16,23,24]⟩

-- oxbow/oxbowlaw22.made
def lc47 : LC := (.seq (.reg [⟨(some 1), none, (.u (some 2) .mv (.od (.c .nils)))⟩])
 (.seq (.reg [⟨(some 2), none, (.u (some 3) .mv (.od (.c .nils)))⟩])
 (.seq (.seq (.reg [⟨(some 3), none, (.u (some 4) .mv (.od (.c (.int .i64 (.ofNat 0)))))⟩])
 (.blk 0 (.loop (.seq (.seq (.reg [⟨(some 4), none, (.b (some 9) false (.bin .lss) (.u (some 6) .mv (.od (.t 3))) (.u (some 8) .len (.u (some 7) .mv (.od (.t 0)))))⟩])
 (.cond (.t 4) (.skip)
 (.exit 0)))
 (.seq (.blk 1 (.seq (.reg [⟨(some 5), none, (.u (some 15) (.lda 7) (.b (some 14) false (.iad 7) (.u (some 12) .mv (.od (.t 0))) (.u (some 13) .mv (.od (.t 3)))))⟩,
 ⟨(some 6), none, (.a (some 5) [(.int .i64 (.ofNat 0)),(.str []),(.str []),(.int .i64 (.ofNat 0)),(.int .i64 (.ofNat 0)),(.int .i64 (.ofNat 0)),(.int .i64 (.ofNat 0))] 94)⟩,
 ⟨none, none, (.b none false (.sta 7) (.od (.t 6)) (.od (.t 5)))⟩])
 (.reg [⟨(some 2), none, (.u (some 3) .mv (.b (some 29) false (.app 7 72 95) (.u (some 16) .mv (.od (.t 2))) (.k (some 28) (.bsl 7 95) (.cons (.k (some 27) (.build [(.int .i64 (.ofNat 0)),(.str []),(.str []),(.int .i64 (.ofNat 0)),(.int .i64 (.ofNat 0)),(.int .i64 (.ofNat 0)),(.int .i64 (.ofNat 0))] [(0,1),(1,1),(2,3),(5,1),(6,1)]) (.cons (.u (some 18) .ld (.u (some 17) (.fad 0) (.od (.t 6)))) (.cons (.u (some 20) .ld (.u (some 19) (.fad 1) (.od (.t 6)))) (.cons (.u (some 22) (.lda 3) (.u (some 21) (.fad 2) (.od (.t 6)))) (.cons (.u (some 24) .ld (.u (some 23) (.fad 5) (.od (.t 6)))) (.cons (.u (some 26) .ld (.u (some 25) (.fad 6) (.od (.t 6)))) .nil)))))) .nil))))⟩])))
 (.reg [⟨(some 3), none, (.u (some 4) .mv (.b (some 11) false (.bin .add) (.u (some 10) .mv (.od (.t 3))) (.od (.c (.int .i64 (.ofNat 1))))))⟩]))))))
 (.seq (.reg [⟨(some 1), none, (.u (some 2) .mv (.u (some 30) .mv (.od (.t 2))))⟩])
 (.ret)))))
def lf47 : LF := ⟨7, 1, lc47, [.t 1], [0,2,3,4,9,15,5]⟩

-- oxbow/unit.Parse
def lc48 : LC := (.seq (.reg [⟨(some 1), none, (.a (some 2) [(.str []),(.str []),(.int .i64 (.ofNat 0)),(.int .i64 (.ofNat 0)),.nils] 50)⟩,
 ⟨(some 2), none, (.u (some 3) .mv (.od (.c .nils)))⟩])
 (.seq (.reg [⟨(some 3), none, (.u (some 6) .mv (.k (some 8) (.call 46) (.cons (.u (some 7) .mv (.od (.t 0))) .nil)))⟩,
 ⟨(some 4), none, (.u (some 9) (.ext 0) (.od (.t 3)))⟩,
 ⟨(some 5), none, (.u (some 10) (.ext 1) (.od (.t 3)))⟩,
 ⟨(some 6), none, (.u (some 4) .mv (.od (.t 4)))⟩,
 ⟨none, none, (.u (some 5) .mv (.od (.t 5)))⟩])
 (.seq (.reg [⟨(some 7), none, (.k (some 13) (.call 76) (.cons (.u (some 11) .mv (.od (.t 0))) (.cons (.u (some 12) .mv (.od (.t 6))) .nil)))⟩,
 ⟨(some 8), none, (.u (some 14) (.ext 0) (.od (.t 7)))⟩,
 ⟨(some 9), none, (.u (some 15) (.ext 1) (.od (.t 7)))⟩,
 ⟨none, none, (.b none false (.sta 5) (.od (.t 1)) (.od (.t 8)))⟩,
 ⟨(some 2), none, (.u (some 3) .mv (.od (.t 9)))⟩])
 (.ret))))
def lf48 : LF := ⟨10, 1, lc48, [.ca 1 5,.t 2], [0,2,3,6,9,10,4,13,14,15]⟩

-- oxbow/oxbowlaw22.within
def lc49 : LC := (.seq (.reg [⟨(some 3), none, (.u (some 3) (.box 50) (.od (.t 0)))⟩,
 ⟨(some 4), none, (.u (some 6) .mv (.od (.c (.bool false))))⟩])
 (.seq (.seq (.reg [⟨(some 5), none, (.gd (some 24) false true (.u (some 18) .mv (.gd (some 17) false true (.u (some 12) .mv (.b (some 11) false (.bin .lss) (.u (some 9) .ld (.u (some 8) (.fad 2) (.od (.t 3)))) (.u (some 10) .mv (.od (.t 1))))) (.b (some 16) false (.bin .gtr) (.u (some 14) .ld (.u (some 13) (.fad 3) (.od (.t 3)))) (.u (some 15) .mv (.od (.t 2)))))) (.b (some 23) false (.bin .gtr) (.u (some 20) .ld (.u (some 19) (.fad 2) (.od (.t 3)))) (.u (some 22) .ld (.u (some 21) (.fad 3) (.od (.t 3))))))⟩])
 (.cond (.t 5) (.seq (.reg [⟨(some 4), none, (.u (some 6) .mv (.od (.c (.bool false))))⟩])
 (.ret))
 (.skip)))
 (.seq (.seq (.reg [⟨(some 6), none, (.u (some 7) .mv (.od (.c (.int .i64 (.ofNat 0)))))⟩])
 (.blk 0 (.loop (.seq (.seq (.reg [⟨(some 7), none, (.b (some 29) false (.bin .lss) (.u (some 25) .mv (.od (.t 6))) (.u (some 28) .len (.u (some 27) .ld (.u (some 26) (.fad 4) (.od (.t 3))))))⟩])
 (.cond (.t 7) (.skip)
 (.exit 0)))
 (.seq (.blk 1 (.seq (.drw [⟨.p, [], ⟨(some 8), none, (.u (some 32) (.fad 4) (.od (.t 3)))⟩⟩,
 ⟨(.l 0 0), [0], ⟨(some 9), none, (.u (some 33) .ld (.od (.t 8)))⟩⟩,
 ⟨.p, [], ⟨(some 10), none, (.u (some 34) .mv (.od (.t 6)))⟩⟩,
 ⟨.p, [0,1,2], ⟨(some 11), none, (.b (some 35) false (.iad 5) (.od (.t 9)) (.od (.t 10)))⟩⟩,
 ⟨(.l 0 0), [0,1,2,3], ⟨(some 12), none, (.u (some 36) (.lda 5) (.od (.t 11)))⟩⟩,
 ⟨.p, [], ⟨(some 13), none, (.u (some 37) (.fad 2) (.od (.t 3)))⟩⟩,
 ⟨(.l 0 0), [5], ⟨(some 14), none, (.u (some 38) .ld (.od (.t 13)))⟩⟩,
 ⟨.p, [], ⟨(some 15), none, (.u (some 39) (.fad 3) (.od (.t 3)))⟩⟩,
 ⟨(.l 0 0), [7], ⟨(some 16), none, (.u (some 40) .ld (.od (.t 15)))⟩⟩,
 ⟨.m, [0,1,2,3,4,5,6,7,8], ⟨(some 17), none, (.k (some 41) (.call 49) (.cons (.od (.t 12)) (.cons (.od (.t 14)) (.cons (.od (.t 16)) .nil))))⟩⟩,
 ⟨.p, [0,1,2,3,4,5,6,7,8,9], ⟨(some 18), none, (.u (some 42) (.un .not) (.od (.t 17)))⟩⟩])
 (.cond (.t 18) (.seq (.reg [⟨(some 4), none, (.u (some 6) .mv (.od (.c (.bool false))))⟩])
 (.ret))
 (.skip))))
 (.reg [⟨(some 6), none, (.u (some 7) .mv (.b (some 31) false (.bin .add) (.u (some 30) .mv (.od (.t 6))) (.od (.c (.int .i64 (.ofNat 1))))))⟩]))))))
 (.seq (.reg [⟨(some 4), none, (.u (some 6) .mv (.od (.c (.bool true))))⟩])
 (.ret)))))
def lf49 : LF := ⟨19, 3, lc49, [.t 4], [0,1,2,3,6,24,7,29,32,33,34,35,36,37,38,39,40,41,42]⟩

-- oxbow/unit.One
def lc50 : LC := (.seq (.reg [⟨(some 3), none, (.a (some 6) [(.str []),(.str []),(.int .i64 (.ofNat 0)),(.int .i64 (.ofNat 0)),.nils,(.int .i64 (.ofNat 0)),(.int .i64 (.ofNat 0)),(.bool false),(.int .i64 (.ofNat 0))] 72)⟩,
 ⟨(some 4), none, (.u (some 7) .mv (.od (.c .nilp)))⟩])
 (.seq (.reg [⟨(some 5), none, (.k (some 16) (.build [.nilp] [(0,1)]) (.cons (.k (some 15) (.call 67) (.cons (.k (some 14) (.build [.nils,(.int .i64 (.ofNat 0)),.nilp,(.int .i64 (.ofNat 0))] [(0,1),(1,1),(2,1)]) (.cons (.u (some 11) .mv (.od (.t 0))) (.cons (.u (some 12) .mv (.od (.t 1))) (.cons (.u (some 13) .mv (.od (.t 2))) .nil)))) .nil)) .nil))⟩,
 ⟨(some 6), none, (.a (some 8) [.nilp] 135)⟩,
 ⟨none, none, (.b none false (.sta 1) (.od (.t 6)) (.od (.t 5)))⟩])
 (.seq (.reg [⟨(some 7), none, (.k (some 18) (.call 77) (.cons (.u (some 17) (.lda 1) (.od (.t 6))) .nil))⟩,
 ⟨(some 8), none, (.a (some 9) [(.str []),(.str []),(.int .i64 (.ofNat 0)),(.int .i64 (.ofNat 0)),.nils] 50)⟩,
 ⟨none, none, (.b none false (.sta 5) (.od (.t 8)) (.od (.t 7)))⟩])
 (.seq (.seq (.reg [⟨(some 9), none, (.u (some 25) (.un .not) (.u (some 24) .ld (.u (some 23) (.fad 3) (.u (some 22) .nck (.u (some 21) .ld (.u (some 20) (.fad 0) (.u (some 19) (.fad 0) (.od (.t 6)))))))))⟩])
 (.cond (.t 9) (.seq (.drw [⟨(.l 0 0), [], ⟨(some 10), none, (.u (some 26) (.lda 5) (.od (.t 8)))⟩⟩,
 ⟨.p, [], ⟨(some 11), none, (.u (some 27) .mv (.od (.t 1)))⟩⟩,
 ⟨.p, [], ⟨(some 12), none, (.u (some 28) (.fad 0) (.od (.t 6)))⟩⟩,
 ⟨.p, [2], ⟨(some 13), none, (.u (some 29) (.fad 0) (.od (.t 12)))⟩⟩,
 ⟨(.l 0 0), [2,3], ⟨(some 14), none, (.u (some 30) .ld (.od (.t 13)))⟩⟩,
 ⟨.p, [2,3,4], ⟨(some 15), none, (.u (some 31) .nck (.od (.t 14)))⟩⟩,
 ⟨.p, [2,3,4,5], ⟨(some 16), none, (.u (some 32) (.fad 1) (.od (.t 15)))⟩⟩,
 ⟨(.l 0 0), [2,3,4,5,6], ⟨(some 17), none, (.u (some 33) .ld (.od (.t 16)))⟩⟩,
 ⟨.p, [0,1,2,3,4,5,6,7], ⟨(some 18), none, (.k (some 34) (.build [(.str []),(.str []),(.int .i64 (.ofNat 0)),(.int .i64 (.ofNat 0)),.nils,(.int .i64 (.ofNat 0)),(.int .i64 (.ofNat 0)),(.bool false),(.int .i64 (.ofNat 0))] [(0,5),(5,1),(6,1)]) (.cons (.od (.t 10)) (.cons (.od (.t 11)) (.cons (.od (.t 17)) .nil))))⟩⟩,
 ⟨.p, [], ⟨(some 19), none, (.u (some 35) (.fad 0) (.od (.t 6)))⟩⟩,
 ⟨.p, [9], ⟨(some 20), none, (.u (some 36) (.fad 0) (.od (.t 19)))⟩⟩,
 ⟨(.l 0 1), [9,10], ⟨(some 21), none, (.u (some 37) .ld (.od (.t 20)))⟩⟩,
 ⟨.p, [9,10,11], ⟨(some 22), none, (.u (some 38) .nck (.od (.t 21)))⟩⟩,
 ⟨.p, [9,10,11,12], ⟨(some 23), none, (.u (some 39) (.fad 2) (.od (.t 22)))⟩⟩,
 ⟨(.l 0 1), [9,10,11,12,13], ⟨(some 24), none, (.u (some 40) .ld (.od (.t 23)))⟩⟩,
 ⟨.m, [0,1,2,3,4,5,6,7,8], ⟨none, none, (.b none false (.sta 9) (.od (.t 3)) (.od (.t 18)))⟩⟩,
 ⟨.p, [0,1,2,3,4,5,6,7,8,9,10,11,12,13,14,15], ⟨(some 4), none, (.u (some 7) .mv (.od (.t 24)))⟩⟩])
 (.ret))
 (.skip)))
 (.seq (.reg [⟨(some 25), none, (.u (some 10) .mv (.k (some 49) (.call 74) (.cons (.u (some 41) .mv (.od (.t 0))) (.cons (.u (some 42) .mv (.od (.t 1))) (.cons (.u (some 48) .ld (.u (some 47) (.fad 1) (.u (some 46) .nck (.u (some 45) .ld (.u (some 44) (.fad 0) (.u (some 43) (.fad 0) (.od (.t 6)))))))) .nil)))))⟩])
 (.seq (.reg [⟨(some 26), none, (.k (some 61) (.build [(.str []),(.str []),(.int .i64 (.ofNat 0)),(.int .i64 (.ofNat 0)),.nils,(.int .i64 (.ofNat 0)),(.int .i64 (.ofNat 0)),(.bool false),(.int .i64 (.ofNat 0))] [(0,5),(5,1),(6,1),(7,1),(8,1)]) (.cons (.k (some 52) (.build [(.str []),(.str []),(.int .i64 (.ofNat 0)),(.int .i64 (.ofNat 0)),.nils] [(0,1),(2,1),(3,1)]) (.cons (.od (.c (.str [101,114,114,111,114]))) (.cons (.u (some 50) .mv (.od (.t 1))) (.cons (.u (some 51) .mv (.od (.t 25))) .nil)))) (.cons (.u (some 53) .mv (.od (.t 1))) (.cons (.u (some 54) .mv (.od (.t 25))) (.cons (.od (.c (.bool true))) (.cons (.u (some 60) .ld (.u (some 59) (.fad 1) (.u (some 58) .nck (.u (some 57) .ld (.u (some 56) (.fad 0) (.u (some 55) (.fad 0) (.od (.t 6)))))))) .nil))))))⟩,
 ⟨(some 27), none, (.u (some 62) .mv (.od (.t 2)))⟩,
 ⟨none, none, (.b none false (.sta 9) (.od (.t 3)) (.od (.t 26)))⟩,
 ⟨(some 4), none, (.u (some 7) .mv (.od (.t 27)))⟩])
 (.ret)))))))
def lf50 : LF := ⟨28, 3, lc50, [.ca 3 9,.t 4], [0,1,2,6,7,16,8,18,9,25,26,27,28,29,30,31,32,33,34,35,36,37,38,39,40,10,61,62]⟩

-- oxbow/express.Expr
def lc52 : LC := (.seq (.reg [⟨(some 1), none, (.u (some 1) (.box 46) (.od (.t 0)))⟩,
 ⟨(some 2), none, (.a (some 2) [(.str []),(.str []),(.int .i64 (.ofNat 0)),(.int .i64 (.ofNat 0)),.nils] 50)⟩,
 ⟨(some 3), none, (.a (some 3) [.nils,(.int .i64 (.ofNat 0)),.nilp,(.int .i64 (.ofNat 0))] 46)⟩,
 ⟨(some 4), none, (.u (some 4) .mv (.od (.c (.bool false))))⟩])
 (.seq (.reg [⟨(some 5), none, (.u (some 5) .mv (.k (some 7) (.call 57) (.cons (.u (some 6) (.lda 4) (.od (.t 1))) .nil)))⟩])
 (.seq (.drw [⟨.p, [], ⟨(some 6), none, (.u (some 8) .mv (.od (.t 5)))⟩⟩,
 ⟨(.l 0 1), [], ⟨(some 7), none, (.u (some 9) (.lda 4) (.od (.t 1)))⟩⟩,
 ⟨.p, [], ⟨(some 8), none, (.u (some 10) .mv (.od (.t 5)))⟩⟩,
 ⟨.p, [], ⟨(some 9), none, (.u (some 11) (.fad 3) (.od (.t 1)))⟩⟩,
 ⟨(.l 0 0), [3], ⟨(some 10), none, (.u (some 12) .ld (.od (.t 9)))⟩⟩,
 ⟨.m, [2,3,4], ⟨(some 11), none, (.k (some 13) (.call 85) (.cons (.od (.t 8)) (.cons (.od (.t 10)) .nil)))⟩⟩,
 ⟨.m, [0,1,2,3,4,5], ⟨(some 12), none, (.k (some 14) (.call 60) (.cons (.od (.t 6)) (.cons (.od (.t 7)) (.cons (.od (.t 11)) .nil))))⟩⟩,
 ⟨.p, [0,1,2,3,4,5,6], ⟨(some 13), none, (.u (some 15) (.ext 0) (.od (.t 12)))⟩⟩,
 ⟨.p, [0,1,2,3,4,5,6], ⟨(some 14), none, (.u (some 16) (.ext 1) (.od (.t 12)))⟩⟩,
 ⟨.p, [0,1,2,3,4,5,6], ⟨(some 15), none, (.u (some 17) (.ext 2) (.od (.t 12)))⟩⟩,
 ⟨.m, [0,1,2,3,4,5,6,7,8,9], ⟨none, none, (.b none false (.sta 5) (.od (.t 2)) (.od (.t 13)))⟩⟩,
 ⟨.m, [0,1,2,3,4,5,6,7,8,9,10], ⟨none, none, (.b none false (.sta 4) (.od (.t 3)) (.od (.t 14)))⟩⟩,
 ⟨.p, [0,1,2,3,4,5,6,7,8,9,10,11], ⟨(some 4), none, (.u (some 4) .mv (.od (.t 15)))⟩⟩])
 (.ret))))
def lf52 : LF := ⟨16, 1, lc52, [.ca 2 5,.ca 3 4,.t 4], [0,1,2,3,4,5,8,9,10,11,12,13,14,15,16,17]⟩

-- oxbow/oxbowref17.NewEnv
def lc53 : LC := (.seq (.reg [⟨(some 0), none, (.a (some 0) [.nils] 34)⟩])
 (.seq (.reg [⟨none, none, (.b none false (.sta 1) (.od (.t 0)) (.k (some 2) (.build [.nils] [(0,1)]) (.cons (.k (some 1) (.bsl 1 29) (.cons (.od (.c .nils)) .nil)) .nil)))⟩])
 (.ret)))
def lf53 : LF := ⟨1, 0, lc53, [.ca 0 1], [0]⟩

-- (oxbow/oxbowref17.Env).Declare
def lc54 : LC := (.seq (.reg [⟨(some 3), none, (.u (some 3) (.box 34) (.od (.t 0)))⟩,
 ⟨(some 4), none, (.a (some 6) [.nils] 34)⟩])
 (.seq (.seq (.reg [⟨(some 5), none, (.b (some 10) false (.bin .eql) (.u (some 9) .mv (.od (.t 1))) (.od (.c (.str []))))⟩])
 (.cond (.t 5) (.seq (.reg [⟨none, none, (.b none false (.sta 1) (.od (.t 4)) (.u (some 11) (.lda 1) (.od (.t 3))))⟩])
 (.ret))
 (.skip)))
 (.seq (.reg [⟨(some 6), none, (.u (some 7) .mv (.b (some 15) false (.appg 1 24 29) (.k (some 12) (.bsl 1 29) .nil) (.u (some 14) .ld (.u (some 13) (.fad 0) (.od (.t 3))))))⟩])
 (.seq (.reg [⟨(some 7), none, (.u (some 8) .mv (.b (some 18) false (.bin .sub) (.u (some 17) .len (.u (some 16) .mv (.od (.t 6)))) (.od (.c (.int .i64 (.ofNat 1))))))⟩])
 (.seq (.reg [⟨(some 8), none, (.u (some 19) .mv (.od (.t 6)))⟩,
 ⟨(some 9), none, (.u (some 20) .mv (.od (.t 7)))⟩,
 ⟨(some 10), none, (.b (some 31) false (.app 2 24 61) (.b (some 26) false (.app 2 24 61) (.k (some 21) (.bsl 2 61) .nil) (.u (some 25) .ld (.b (some 24) false (.iad 1) (.u (some 22) .mv (.od (.t 6))) (.u (some 23) .mv (.od (.t 7)))))) (.k (some 30) (.bsl 2 61) (.cons (.k (some 29) (.build [(.str []),(.bool false)] [(0,1),(1,1)]) (.cons (.u (some 27) .mv (.od (.t 1))) (.cons (.u (some 28) .mv (.od (.t 2))) .nil))) .nil)))⟩,
 ⟨none, none, (.b none false .st (.b (some 32) false (.iad 1) (.od (.t 8)) (.od (.t 9))) (.od (.t 10)))⟩])
 (.seq (.reg [⟨none, none, (.b none false (.sta 1) (.od (.t 4)) (.k (some 34) (.build [.nils] [(0,1)]) (.cons (.u (some 33) .mv (.od (.t 6))) .nil)))⟩])
 (.ret)))))))
def lf54 : LF := ⟨11, 3, lc54, [.ca 4 1], [0,1,2,3,6,10,7,8,19,20,31]⟩

-- oxbow/oxbowref4.Lines
def lc55 : LC := (.seq (.reg [⟨(some 2), none, (.u (some 4) .mv (.od (.c .nils)))⟩,
 ⟨(some 3), none, (.u (some 5) .mv (.od (.c .nils)))⟩])
 (.seq (.reg [⟨(some 4), none, (.u (some 6) .mv (.k (some 19) (.call 86) (.cons (.u (some 18) .mv (.od (.t 1))) .nil)))⟩])
 (.seq (.reg [⟨(some 5), none, (.u (some 7) .mv (.od (.c .nils)))⟩])
 (.seq (.reg [⟨(some 6), none, (.u (some 8) .mv (.od (.c .nils)))⟩])
 (.seq (.reg [⟨(some 7), none, (.a (some 9) [.nils,(.int .i64 (.ofNat 0)),(.int .i64 (.ofNat 0)),(.bool false)] 90)⟩])
 (.seq (.reg [⟨(some 8), none, (.u (some 10) .mv (.od (.c (.bool false))))⟩])
 (.seq (.seq (.reg [⟨(some 9), none, (.u (some 11) .mv (.od (.c (.int .i64 (.ofNat 0)))))⟩])
 (.blk 0 (.loop (.seq (.seq (.reg [⟨(some 10), none, (.b (some 23) false (.bin .lss) (.u (some 20) .mv (.od (.t 9))) (.u (some 22) .len (.u (some 21) .mv (.od (.t 4)))))⟩])
 (.cond (.t 10) (.skip)
 (.exit 0)))
 (.blk 1 (.seq (.seq (.reg [⟨(some 11), none, (.b (some 29) false (.bin .eql) (.u (some 28) .ld (.u (some 27) (.fad 0) (.b (some 26) false (.iad 3) (.u (some 24) .mv (.od (.t 4))) (.u (some 25) .mv (.od (.t 9)))))) (.od (.c (.int .u8 (.ofNat 10)))))⟩])
 (.cond (.t 11) (.seq (.reg [⟨none, none, (.b none true .st (.u (some 35) (.fad 2) (.od (.t 7))) (.u (some 34) .ld (.u (some 33) (.fad 2) (.b (some 32) false (.iad 3) (.u (some 30) .mv (.od (.t 4))) (.u (some 31) .mv (.od (.t 9)))))))⟩])
 (.seq (.reg [⟨(some 5), none, (.u (some 7) .mv (.b (some 39) false (.appg 4 48 90) (.u (some 36) .mv (.od (.t 5))) (.k (some 38) (.bsl 4 90) (.cons (.u (some 37) (.lda 4) (.od (.t 7))) .nil))))⟩])
 (.seq (.reg [⟨none, none, (.b none false (.sta 4) (.od (.t 7)) (.k (some 45) (.build [.nils,(.int .i64 (.ofNat 0)),(.int .i64 (.ofNat 0)),(.bool false)] [(1,1)]) (.cons (.u (some 44) .ld (.u (some 43) (.fad 2) (.b (some 42) false (.iad 3) (.u (some 40) .mv (.od (.t 4))) (.u (some 41) .mv (.od (.t 9)))))) .nil)))⟩])
 (.seq (.reg [⟨(some 8), none, (.u (some 10) .mv (.od (.c (.bool false))))⟩])
 (.seq (.reg [⟨(some 9), none, (.u (some 11) .mv (.b (some 47) false (.bin .add) (.u (some 46) .mv (.od (.t 9))) (.od (.c (.int .i64 (.ofNat 1))))))⟩])
 (.exit 1))))))
 (.skip)))
 (.seq (.seq (.reg [⟨(some 12), none, (.k (some 53) (.call 87) (.cons (.u (some 52) .ld (.u (some 51) (.fad 0) (.b (some 50) false (.iad 3) (.u (some 48) .mv (.od (.t 4))) (.u (some 49) .mv (.od (.t 9)))))) .nil))⟩])
 (.cond (.t 12) (.seq (.reg [⟨(some 8), none, (.u (some 10) .mv (.od (.c (.bool true))))⟩])
 (.seq (.reg [⟨(some 9), none, (.u (some 11) .mv (.b (some 55) false (.bin .add) (.u (some 54) .mv (.od (.t 9))) (.od (.c (.int .i64 (.ofNat 1))))))⟩])
 (.exit 1)))
 (.skip)))
 (.seq (.reg [⟨(some 13), none, (.u (some 56) .mv (.k (some 59) (.call 88) (.cons (.u (some 57) .mv (.od (.t 4))) (.cons (.u (some 58) .mv (.od (.t 9))) .nil))))⟩,
 ⟨(some 14), none, (.u (some 60) (.ext 0) (.od (.t 13)))⟩,
 ⟨(some 15), none, (.u (some 61) (.ext 1) (.od (.t 13)))⟩,
 ⟨(some 16), none, (.u (some 12) .mv (.od (.t 14)))⟩,
 ⟨(some 17), none, (.u (some 13) .mv (.od (.t 15)))⟩])
 (.seq (.seq (.reg [⟨(some 18), none, (.b (some 64) false (.bin .gtr) (.u (some 62) .mv (.od (.t 16))) (.u (some 63) .mv (.od (.t 9))))⟩])
 (.cond (.t 18) (.seq (.seq (.reg [⟨(some 19), none, (.u (some 65) .mv (.od (.t 17)))⟩])
 (.cond (.t 19) (.seq (.drw [⟨.p, [], ⟨(some 20), none, (.u (some 66) .mv (.od (.t 6)))⟩⟩,
 ⟨.p, [], ⟨(some 21), none, (.u (some 67) .mv (.od (.t 0)))⟩⟩,
 ⟨.p, [], ⟨(some 22), none, (.u (some 68) .mv (.od (.t 4)))⟩⟩,
 ⟨.p, [], ⟨(some 23), none, (.u (some 69) .mv (.od (.t 9)))⟩⟩,
 ⟨.p, [2,3], ⟨(some 24), none, (.b (some 70) false (.iad 3) (.od (.t 22)) (.od (.t 23)))⟩⟩,
 ⟨.p, [2,3,4], ⟨(some 25), none, (.u (some 71) (.fad 1) (.od (.t 24)))⟩⟩,
 ⟨(.l 0 0), [2,3,4,5], ⟨(some 26), none, (.u (some 72) .ld (.od (.t 25)))⟩⟩,
 ⟨.p, [], ⟨(some 27), none, (.u (some 73) .mv (.od (.t 4)))⟩⟩,
 ⟨.p, [], ⟨(some 28), none, (.u (some 74) .mv (.od (.t 9)))⟩⟩,
 ⟨.p, [8], ⟨(some 29), none, (.b (some 75) false (.bin .add) (.od (.t 28)) (.od (.c (.int .i64 (.ofNat 1)))))⟩⟩,
 ⟨.p, [7,8,9], ⟨(some 30), none, (.b (some 76) false (.iad 3) (.od (.t 27)) (.od (.t 29)))⟩⟩,
 ⟨.p, [7,8,9,10], ⟨(some 31), none, (.u (some 77) (.fad 2) (.od (.t 30)))⟩⟩,
 ⟨(.l 0 0), [7,8,9,10,11], ⟨(some 32), none, (.u (some 78) .ld (.od (.t 31)))⟩⟩,
 ⟨.p, [1,2,3,4,5,6,7,8,9,10,11,12], ⟨(some 33), none, (.k (some 79) (.build [(.str []),(.int .i64 (.ofNat 0)),(.int .i64 (.ofNat 0))] [(0,1),(1,1),(2,1)]) (.cons (.od (.t 21)) (.cons (.od (.t 26)) (.cons (.od (.t 32)) .nil))))⟩⟩,
 ⟨.p, [1,2,3,4,5,6,7,8,9,10,11,12,13], ⟨(some 34), none, (.k (some 80) (.build [(.int .i64 (.ofNat 0)),(.str []),(.int .i64 (.ofNat 0)),(.int .i64 (.ofNat 0))] [(0,1),(1,3)]) (.cons (.od (.c (.int .i64 (.ofNat 1)))) (.cons (.od (.t 33)) .nil)))⟩⟩,
 ⟨.m, [1,2,3,4,5,6,7,8,9,10,11,12,13,14], ⟨(some 35), none, (.k (some 81) (.bsl 4 78) (.cons (.od (.t 34)) .nil))⟩⟩,
 ⟨.m, [0,1,2,3,4,5,6,7,8,9,10,11,12,13,14,15], ⟨(some 36), none, (.b (some 82) false (.app 4 40 78) (.od (.t 20)) (.od (.t 35)))⟩⟩,
 ⟨.p, [0,1,2,3,4,5,6,7,8,9,10,11,12,13,14,15,16], ⟨(some 6), none, (.u (some 8) .mv (.od (.t 36)))⟩⟩])
 (.seq (.reg [⟨none, none, (.b none true .st (.u (some 85) (.fad 2) (.od (.t 7))) (.u (some 84) .lens (.u (some 83) .mv (.od (.t 1)))))⟩])
 (.seq (.reg [⟨none, none, (.b none false .st (.u (some 86) (.fad 3) (.od (.t 7))) (.od (.c (.bool true))))⟩])
 (.seq (.reg [⟨(some 37), none, (.b (some 90) false (.appg 4 48 90) (.u (some 87) .mv (.od (.t 5))) (.k (some 89) (.bsl 4 90) (.cons (.u (some 88) (.lda 4) (.od (.t 7))) .nil)))⟩,
 ⟨(some 38), none, (.u (some 91) .mv (.od (.t 6)))⟩,
 ⟨(some 2), none, (.u (some 4) .mv (.od (.t 37)))⟩,
 ⟨(some 3), none, (.u (some 5) .mv (.od (.t 38)))⟩])
 (.ret)))))
 (.skip)))
 (.seq (.reg [⟨(some 8), none, (.u (some 10) .mv (.od (.c (.bool true))))⟩])
 (.seq (.reg [⟨(some 9), none, (.u (some 11) .mv (.u (some 92) .mv (.od (.t 16))))⟩])
 (.exit 1))))
 (.skip)))
 (.seq (.reg [⟨(some 39), none, (.u (some 93) .mv (.k (some 96) (.call 89) (.cons (.u (some 94) .mv (.od (.t 4))) (.cons (.u (some 95) .mv (.od (.t 9))) .nil))))⟩,
 ⟨(some 40), none, (.u (some 97) (.ext 0) (.od (.t 39)))⟩,
 ⟨(some 41), none, (.u (some 98) (.ext 1) (.od (.t 39)))⟩,
 ⟨(some 42), none, (.u (some 99) (.ext 2) (.od (.t 39)))⟩,
 ⟨(some 43), none, (.u (some 14) .mv (.od (.t 40)))⟩,
 ⟨(some 44), none, (.u (some 15) .mv (.od (.t 41)))⟩,
 ⟨(some 45), none, (.u (some 16) .mv (.od (.t 42)))⟩])
 (.seq (.drw [⟨.p, [], ⟨(some 46), none, (.u (some 100) .mv (.od (.t 0)))⟩⟩,
 ⟨.p, [], ⟨(some 47), none, (.u (some 101) .mv (.od (.t 4)))⟩⟩,
 ⟨.p, [], ⟨(some 48), none, (.u (some 102) .mv (.od (.t 9)))⟩⟩,
 ⟨.p, [1,2], ⟨(some 49), none, (.b (some 103) false (.iad 3) (.od (.t 47)) (.od (.t 48)))⟩⟩,
 ⟨.p, [1,2,3], ⟨(some 50), none, (.u (some 104) (.fad 1) (.od (.t 49)))⟩⟩,
 ⟨(.l 0 0), [1,2,3,4], ⟨(some 51), none, (.u (some 105) .ld (.od (.t 50)))⟩⟩,
 ⟨.p, [], ⟨(some 52), none, (.u (some 106) .mv (.od (.t 4)))⟩⟩,
 ⟨.p, [], ⟨(some 53), none, (.u (some 107) .mv (.od (.t 44)))⟩⟩,
 ⟨.p, [7], ⟨(some 54), none, (.b (some 108) false (.bin .sub) (.od (.t 53)) (.od (.c (.int .i64 (.ofNat 1)))))⟩⟩,
 ⟨.p, [6,7,8], ⟨(some 55), none, (.b (some 109) false (.iad 3) (.od (.t 52)) (.od (.t 54)))⟩⟩,
 ⟨.p, [6,7,8,9], ⟨(some 56), none, (.u (some 110) (.fad 2) (.od (.t 55)))⟩⟩,
 ⟨(.l 0 0), [6,7,8,9,10], ⟨(some 57), none, (.u (some 111) .ld (.od (.t 56)))⟩⟩,
 ⟨.p, [0,1,2,3,4,5,6,7,8,9,10,11], ⟨(some 58), none, (.k (some 112) (.build [(.str []),(.int .i64 (.ofNat 0)),(.int .i64 (.ofNat 0))] [(0,1),(1,1),(2,1)]) (.cons (.od (.t 46)) (.cons (.od (.t 51)) (.cons (.od (.t 57)) .nil))))⟩⟩,
 ⟨.a, [], ⟨(some 59), none, (.a (some 17) [(.str []),(.int .i64 (.ofNat 0)),(.int .i64 (.ofNat 0))] 76)⟩⟩,
 ⟨.m, [0,1,2,3,4,5,6,7,8,9,10,11,12,13], ⟨none, none, (.b none false (.sta 3) (.od (.t 59)) (.od (.t 58)))⟩⟩])
 (.seq (.drw [⟨.p, [], ⟨(some 60), none, (.u (some 113) (.fad 0) (.od (.t 7)))⟩⟩,
 ⟨(.l 0 2), [0], ⟨(some 61), none, (.u (some 114) .ld (.od (.t 60)))⟩⟩,
 ⟨.p, [], ⟨(some 62), none, (.u (some 115) .mv (.od (.t 43)))⟩⟩,
 ⟨.p, [], ⟨(some 63), none, (.u (some 116) .mv (.od (.t 4)))⟩⟩,
 ⟨.p, [], ⟨(some 64), none, (.u (some 117) .mv (.od (.t 9)))⟩⟩,
 ⟨.p, [], ⟨(some 65), none, (.u (some 118) .mv (.od (.t 44)))⟩⟩,
 ⟨.p, [3,4,5], ⟨(some 66), none, (.k (some 119) (.slv 3 true true) (.cons (.od (.t 63)) (.cons (.od (.t 64)) (.cons (.od (.t 65)) .nil))))⟩⟩,
 ⟨.m, [3,4,5,6], ⟨(some 67), none, (.k (some 120) (.call 90) (.cons (.od (.t 66)) .nil))⟩⟩,
 ⟨.p, [], ⟨(some 68), none, (.u (some 121) .mv (.od (.t 8)))⟩⟩,
 ⟨(.l 0 1), [], ⟨(some 69), none, (.u (some 122) (.lda 3) (.od (.t 59)))⟩⟩,
 ⟨.p, [2,3,4,5,6,7,8,9], ⟨(some 70), none, (.k (some 123) (.build [(.int .i64 (.ofNat 0)),(.str []),(.bool false),(.str []),(.int .i64 (.ofNat 0)),(.int .i64 (.ofNat 0)),(.bool false),.nils] [(0,1),(1,1),(2,1),(3,3)]) (.cons (.od (.t 62)) (.cons (.od (.t 67)) (.cons (.od (.t 68)) (.cons (.od (.t 69)) .nil)))))⟩⟩,
 ⟨.m, [2,3,4,5,6,7,8,9,10], ⟨(some 71), none, (.k (some 124) (.bsl 8 160) (.cons (.od (.t 70)) .nil))⟩⟩,
 ⟨.m, [0,1,2,3,4,5,6,7,8,9,10,11], ⟨(some 72), none, (.b (some 125) false (.app 8 96 160) (.od (.t 61)) (.od (.t 71)))⟩⟩,
 ⟨.p, [0,1,2,3,4,5,6,7,8,9,10,11,12], ⟨(some 73), none, (.u (some 126) (.fad 0) (.od (.t 7)))⟩⟩,
 ⟨.m, [0,1,2,3,4,5,6,7,8,9,10,11,12,13], ⟨none, none, (.b none false .st (.od (.t 73)) (.od (.t 72)))⟩⟩])
 (.seq (.seq (.reg [⟨(some 74), none, (.u (some 127) .mv (.od (.t 45)))⟩])
 (.cond (.t 74) (.reg [⟨(some 6), none, (.u (some 8) .mv (.b (some 132) false (.app 4 40 78) (.u (some 128) .mv (.od (.t 6))) (.k (some 131) (.bsl 4 78) (.cons (.k (some 130) (.build [(.int .i64 (.ofNat 0)),(.str []),(.int .i64 (.ofNat 0)),(.int .i64 (.ofNat 0))] [(0,1),(1,3)]) (.cons (.od (.c (.int .i64 (.ofNat 2)))) (.cons (.u (some 129) (.lda 3) (.od (.t 59))) .nil))) .nil))))⟩])
 (.skip)))
 (.seq (.reg [⟨(some 8), none, (.u (some 10) .mv (.od (.c (.bool false))))⟩])
 (.reg [⟨(some 9), none, (.u (some 11) .mv (.u (some 133) .mv (.od (.t 44))))⟩])))))))))))))))
 (.seq (.seq (.reg [⟨(some 75), none, (.b (some 136) false (.bin .gtr) (.u (some 135) .len (.u (some 134) .mv (.od (.t 5)))) (.od (.c (.int .i64 (.ofNat 0)))))⟩])
 (.cond (.t 75) (.reg [⟨(some 76), none, (.u (some 137) .mv (.od (.t 5)))⟩,
 ⟨(some 77), none, (.b (some 140) false (.bin .sub) (.u (some 139) .len (.u (some 138) .mv (.od (.t 5)))) (.od (.c (.int .i64 (.ofNat 1)))))⟩,
 ⟨(some 78), none, (.u (some 142) .lens (.u (some 141) .mv (.od (.t 1))))⟩,
 ⟨none, none, (.b none false .st (.u (some 144) (.fad 2) (.b (some 143) false (.iad 4) (.od (.t 76)) (.od (.t 77)))) (.od (.t 78)))⟩])
 (.skip)))
 (.seq (.reg [⟨(some 79), none, (.u (some 145) .mv (.od (.t 5)))⟩,
 ⟨(some 80), none, (.u (some 146) .mv (.od (.t 6)))⟩,
 ⟨(some 2), none, (.u (some 4) .mv (.od (.t 79)))⟩,
 ⟨(some 3), none, (.u (some 5) .mv (.od (.t 80)))⟩])
 (.ret))))))))))
def lf55 : LF := ⟨81, 2, lc55, [.t 2,.t 3], [0,1,4,5,6,7,8,9,10,11,23,29,53,56,60,61,12,13,64,65,66,67,68,69,70,71,72,73,74,75,76,77,78,79,80,81,82,90,91,93,97,98,99,14,15,16,100,101,102,103,104,105,106,107,108,109,110,111,112,17,113,114,115,116,117,118,119,120,121,122,123,124,125,126,127,136,137,140,142,145,146]⟩

-- oxbow/oxbowref17.All
def lc56 : LC := (.seq (.reg [⟨(some 1), none, (.u (some 2) .mv (.od (.c .nils)))⟩,
 ⟨(some 2), none, (.u (some 3) .mv (.od (.c .nils)))⟩])
 (.seq (.reg [⟨(some 3), none, (.u (some 4) .mv (.od (.c .nils)))⟩])
 (.seq (.reg [⟨(some 4), none, (.u (some 5) .mv (.od (.c .nils)))⟩])
 (.seq (.seq (.reg [⟨(some 5), none, (.u (some 6) .mv (.od (.c (.int .i64 (.ofNat 0)))))⟩])
 (.blk 0 (.loop (.seq (.seq (.reg [⟨(some 6), none, (.b (some 27) false (.bin .lss) (.u (some 24) .mv (.od (.t 5))) (.u (some 26) .len (.u (some 25) .mv (.od (.t 0)))))⟩])
 (.cond (.t 6) (.skip)
 (.exit 0)))
 (.seq (.blk 1 (.seq (.reg [⟨(some 7), none, (.u (some 33) (.lda 8) (.b (some 32) false (.iad 8) (.u (some 30) .mv (.od (.t 0))) (.u (some 31) .mv (.od (.t 5)))))⟩,
 ⟨(some 8), none, (.a (some 7) [(.int .i64 (.ofNat 0)),(.str []),(.bool false),(.str []),(.int .i64 (.ofNat 0)),(.int .i64 (.ofNat 0)),(.bool false),.nils] 160)⟩,
 ⟨none, none, (.b none false (.sta 8) (.od (.t 8)) (.od (.t 7)))⟩])
 (.seq (.reg [⟨(some 9), none, (.k (some 39) (.build [(.int .i64 (.ofNat 0)),(.str []),(.str []),(.int .i64 (.ofNat 0)),(.int .i64 (.ofNat 0)),(.int .i64 (.ofNat 0)),(.int .i64 (.ofNat 0))] [(1,1),(2,3),(5,1),(6,1)]) (.cons (.u (some 35) .ld (.u (some 34) (.fad 1) (.od (.t 8)))) (.cons (.u (some 37) (.lda 3) (.u (some 36) (.fad 3) (.od (.t 8)))) (.cons (.u (some 38) .mv (.od (.t 5))) (.cons (.od (.c (.int .i64 (.ofNat 1)))) .nil)))))⟩,
 ⟨(some 10), none, (.a (some 8) [(.int .i64 (.ofNat 0)),(.str []),(.str []),(.int .i64 (.ofNat 0)),(.int .i64 (.ofNat 0)),(.int .i64 (.ofNat 0)),(.int .i64 (.ofNat 0))] 94)⟩,
 ⟨none, none, (.b none false (.sta 7) (.od (.t 10)) (.od (.t 9)))⟩])
 (.seq (.seq (.reg [⟨(some 11), none, (.u (some 41) .ld (.u (some 40) (.fad 0) (.od (.t 8))))⟩])
 (.blk 2 (.seq (.reg [⟨(some 12), none, (.u (some 42) .mv (.b (some 43) false (.bin .eql) (.od (.t 11)) (.od (.c (.int .i64 (.ofNat 7))))))⟩])
 (.cond (.t 12) (.exit 1)
 (.seq (.reg [⟨(some 13), none, (.u (some 44) .mv (.b (some 45) false (.bin .eql) (.od (.t 11)) (.od (.c (.int .i64 (.ofNat 1))))))⟩])
 (.cond (.t 13) (.seq (.reg [⟨none, none, (.b none false .st (.u (some 46) (.fad 0) (.od (.t 10))) (.od (.c (.int .i64 (.ofNat 1)))))⟩])
 (.seq (.reg [⟨(some 14), none, (.k (some 49) (.call 91) (.cons (.u (some 48) .ld (.u (some 47) (.fad 1) (.od (.t 8)))) .nil))⟩])
 (.cond (.t 14) (.reg [⟨none, none, (.b none false .st (.u (some 50) (.fad 0) (.od (.t 10))) (.od (.c (.int .i64 (.ofNat 2)))))⟩])
 (.skip))))
 (.seq (.reg [⟨(some 15), none, (.u (some 51) .mv (.b (some 52) false (.bin .eql) (.od (.t 11)) (.od (.c (.int .i64 (.ofNat 2))))))⟩])
 (.cond (.t 15) (.seq (.reg [⟨(some 16), none, (.u (some 53) .mv (.k (some 56) (.call 92) (.cons (.u (some 55) .ld (.u (some 54) (.fad 1) (.od (.t 8)))) .nil)))⟩,
 ⟨(some 17), none, (.u (some 57) (.ext 0) (.od (.t 16)))⟩,
 ⟨(some 18), none, (.u (some 58) (.ext 1) (.od (.t 16)))⟩,
 ⟨none, none, (.b none true (.sta 2) (.a (some 9) [(.int .u64 (.ofNat 0)),(.bool false)] 163) (.od (.t 17)))⟩,
 ⟨(some 19), none, (.u (some 10) .mv (.od (.t 18)))⟩])
 (.seq (.reg [⟨(some 20), none, (.u (some 59) .mv (.od (.t 19)))⟩])
 (.cond (.t 20) (.reg [⟨none, none, (.b none false .st (.u (some 60) (.fad 0) (.od (.t 10))) (.od (.c (.int .i64 (.ofNat 3)))))⟩])
 (.seq (.reg [⟨(some 21), none, (.k (some 63) (.call 93) (.cons (.u (some 62) .ld (.u (some 61) (.fad 1) (.od (.t 8)))) .nil))⟩])
 (.cond (.t 21) (.reg [⟨none, none, (.b none false .st (.u (some 64) (.fad 0) (.od (.t 10))) (.od (.c (.int .i64 (.ofNat 4)))))⟩])
 (.skip))))))
 (.seq (.reg [⟨(some 22), none, (.u (some 65) .mv (.b (some 66) false (.bin .eql) (.od (.t 11)) (.od (.c (.int .i64 (.ofNat 3))))))⟩])
 (.cond (.t 22) (.seq (.reg [⟨(some 23), none, (.u (some 67) .mv (.k (some 70) (.call 94) (.cons (.u (some 69) .ld (.u (some 68) (.fad 1) (.od (.t 8)))) .nil)))⟩,
 ⟨(some 24), none, (.u (some 71) (.ext 0) (.od (.t 23)))⟩,
 ⟨(some 25), none, (.u (some 72) (.ext 1) (.od (.t 23)))⟩,
 ⟨none, none, (.b none true (.sta 2) (.a (some 11) [(.int .u64 (.ofNat 0)),(.bool false)] 163) (.od (.t 24)))⟩,
 ⟨(some 26), none, (.u (some 12) .mv (.od (.t 25)))⟩])
 (.seq (.reg [⟨(some 27), none, (.u (some 73) .mv (.od (.t 26)))⟩])
 (.cond (.t 27) (.reg [⟨none, none, (.b none false .st (.u (some 74) (.fad 0) (.od (.t 10))) (.od (.c (.int .i64 (.ofNat 5)))))⟩])
 (.skip))))
 (.seq (.reg [⟨(some 28), none, (.u (some 75) .mv (.b (some 76) false (.bin .eql) (.od (.t 11)) (.od (.c (.int .i64 (.ofNat 5))))))⟩])
 (.cond (.t 28) (.seq (.reg [⟨(some 29), none, (.u (some 77) .mv (.k (some 80) (.call 95) (.cons (.u (some 79) .ld (.u (some 78) (.fad 1) (.od (.t 8)))) .nil)))⟩,
 ⟨(some 30), none, (.u (some 81) (.ext 0) (.od (.t 29)))⟩,
 ⟨(some 31), none, (.u (some 82) (.ext 1) (.od (.t 29)))⟩,
 ⟨(some 32), none, (.u (some 13) .mv (.od (.t 30)))⟩,
 ⟨(some 33), none, (.u (some 14) .mv (.od (.t 31)))⟩])
 (.seq (.reg [⟨none, none, (.b none true .st (.u (some 84) (.fad 1) (.od (.t 10))) (.u (some 83) .mv (.od (.t 32))))⟩])
 (.seq (.reg [⟨(some 34), none, (.u (some 85) .mv (.od (.t 33)))⟩])
 (.cond (.t 34) (.reg [⟨none, none, (.b none false .st (.u (some 86) (.fad 0) (.od (.t 10))) (.od (.c (.int .i64 (.ofNat 7)))))⟩])
 (.skip)))))
 (.seq (.reg [⟨(some 35), none, (.u (some 87) .mv (.b (some 88) false (.bin .eql) (.od (.t 11)) (.od (.c (.int .i64 (.ofNat 4))))))⟩])
 (.cond (.t 35) (.seq (.reg [⟨(some 36), none, (.u (some 89) .mv (.k (some 92) (.call 96) (.cons (.u (some 91) .ld (.u (some 90) (.fad 1) (.od (.t 8)))) .nil)))⟩,
 ⟨(some 37), none, (.u (some 93) (.ext 0) (.od (.t 36)))⟩,
 ⟨(some 38), none, (.u (some 94) (.ext 1) (.od (.t 36)))⟩,
 ⟨(some 39), none, (.u (some 15) .mv (.od (.t 37)))⟩,
 ⟨(some 40), none, (.u (some 16) .mv (.od (.t 38)))⟩])
 (.seq (.seq (.reg [⟨(some 41), none, (.u (some 96) (.un .not) (.u (some 95) .mv (.od (.t 40))))⟩])
 (.cond (.t 41) (.exit 2)
 (.skip)))
 (.seq (.reg [⟨(some 42), none, (.u (some 17) .mv (.k (some 99) (.call 97) (.cons (.u (some 98) .ld (.u (some 97) (.fad 1) (.od (.t 8)))) .nil)))⟩])
 (.seq (.reg [⟨(some 43), none, (.u (some 18) .mv (.od (.c (.bool false))))⟩])
 (.seq (.reg [⟨(some 44), none, (.u (some 19) .mv (.u (some 100) .mv (.od (.t 5))))⟩])
 (.seq (.seq (.reg [⟨(some 45), none, (.u (some 20) .mv (.b (some 102) false (.bin .add) (.u (some 101) .mv (.od (.t 5))) (.od (.c (.int .i64 (.ofNat 1))))))⟩])
 (.blk 3 (.loop (.seq (.seq (.reg [⟨(some 46), none, (.b (some 106) false (.bin .lss) (.u (some 103) .mv (.od (.t 45))) (.u (some 105) .len (.u (some 104) .mv (.od (.t 0)))))⟩])
 (.cond (.t 46) (.skip)
 (.exit 3)))
 (.seq (.blk 4 (.seq (.seq (.reg [⟨(some 47), none, (.b (some 114) false (.bin .eql) (.u (some 113) .ld (.u (some 112) (.fad 0) (.b (some 111) false (.iad 8) (.u (some 109) .mv (.od (.t 0))) (.u (some 110) .mv (.od (.t 45)))))) (.od (.c (.int .i64 (.ofNat 7)))))⟩])
 (.cond (.t 47) (.exit 4)
 (.skip)))
 (.seq (.reg [⟨(some 48), none, (.u (some 115) .mv (.k (some 121) (.call 96) (.cons (.u (some 120) .ld (.u (some 119) (.fad 1) (.b (some 118) false (.iad 8) (.u (some 116) .mv (.od (.t 0))) (.u (some 117) .mv (.od (.t 45)))))) .nil)))⟩,
 ⟨(some 49), none, (.u (some 122) (.ext 0) (.od (.t 48)))⟩,
 ⟨(some 50), none, (.u (some 123) (.ext 1) (.od (.t 48)))⟩,
 ⟨(some 51), none, (.u (some 21) .mv (.od (.t 49)))⟩,
 ⟨(some 52), none, (.u (some 22) .mv (.od (.t 50)))⟩])
 (.seq (.seq (.reg [⟨(some 53), none, (.gd (some 133) false true (.u (some 130) .mv (.b (some 129) false (.bin .neq) (.u (some 128) .ld (.u (some 127) (.fad 0) (.b (some 126) false (.iad 8) (.u (some 124) .mv (.od (.t 0))) (.u (some 125) .mv (.od (.t 45)))))) (.od (.c (.int .i64 (.ofNat 4)))))) (.u (some 132) (.un .not) (.u (some 131) .mv (.od (.t 52)))))⟩])
 (.cond (.t 53) (.exit 3)
 (.skip)))
 (.seq (.reg [⟨(some 54), none, (.u (some 23) .mv (.k (some 139) (.call 97) (.cons (.u (some 138) .ld (.u (some 137) (.fad 1) (.b (some 136) false (.iad 8) (.u (some 134) .mv (.od (.t 0))) (.u (some 135) .mv (.od (.t 45)))))) .nil)))⟩])
 (.seq (.seq (.reg [⟨(some 55), none, (.gd (some 154) true false (.u (some 151) .mv (.gd (some 150) true false (.u (some 146) .mv (.gd (some 145) true false (.u (some 142) .mv (.b (some 141) false (.bin .neq) (.u (some 140) .mv (.od (.t 54))) (.od (.c (.str []))))) (.b (some 144) false (.bin .neq) (.u (some 143) .mv (.od (.t 42))) (.od (.c (.str [])))))) (.b (some 149) false (.bin .neq) (.u (some 147) .mv (.od (.t 54))) (.u (some 148) .mv (.od (.t 42)))))) (.u (some 153) (.un .not) (.u (some 152) .mv (.od (.t 43)))))⟩])
 (.cond (.t 55) (.seq (.reg [⟨(some 43), none, (.u (some 18) .mv (.od (.c (.bool true))))⟩])
 (.reg [⟨(some 4), none, (.u (some 5) .mv (.b (some 163) false (.app 4 40 78) (.u (some 155) .mv (.od (.t 4))) (.k (some 162) (.bsl 4 78) (.cons (.k (some 161) (.build [(.int .i64 (.ofNat 0)),(.str []),(.int .i64 (.ofNat 0)),(.int .i64 (.ofNat 0))] [(0,1),(1,3)]) (.cons (.od (.c (.int .i64 (.ofNat 19)))) (.cons (.u (some 160) (.lda 3) (.u (some 159) (.fad 3) (.b (some 158) false (.iad 8) (.u (some 156) .mv (.od (.t 0))) (.u (some 157) .mv (.od (.t 45)))))) .nil))) .nil))))⟩]))
 (.skip)))
 (.seq (.seq (.reg [⟨(some 56), none, (.b (some 165) false (.bin .eql) (.u (some 164) .mv (.od (.t 42))) (.od (.c (.str []))))⟩])
 (.cond (.t 56) (.reg [⟨(some 42), none, (.u (some 17) .mv (.u (some 166) .mv (.od (.t 54))))⟩])
 (.skip)))
 (.seq (.reg [⟨(some 39), none, (.u (some 15) .mv (.b (some 169) false (.bin .add) (.u (some 167) .mv (.od (.t 39))) (.u (some 168) .mv (.od (.t 51)))))⟩])
 (.seq (.reg [⟨none, none, (.b none true .st (.u (some 173) (.fad 6) (.od (.t 10))) (.b (some 172) false (.bin .add) (.u (some 171) .ld (.u (some 170) (.fad 6) (.od (.t 10)))) (.od (.c (.int .i64 (.ofNat 1))))))⟩])
 (.reg [⟨(some 44), none, (.u (some 19) .mv (.u (some 174) .mv (.od (.t 45))))⟩]))))))))))
 (.reg [⟨(some 45), none, (.u (some 20) .mv (.b (some 108) false (.bin .add) (.u (some 107) .mv (.od (.t 45))) (.od (.c (.int .i64 (.ofNat 1))))))⟩]))))))
 (.seq (.reg [⟨none, none, (.b none false .st (.u (some 175) (.fad 0) (.od (.t 10))) (.od (.c (.int .i64 (.ofNat 6)))))⟩])
 (.seq (.reg [⟨none, none, (.b none true .st (.u (some 180) (.fad 1) (.od (.t 10))) (.b (some 179) false (.bin .add) (.u (some 176) .mv (.od (.t 42))) (.k (some 178) (.call 98) (.cons (.u (some 177) .mv (.od (.t 39))) .nil))))⟩])
 (.reg [⟨(some 5), none, (.u (some 6) .mv (.u (some 181) .mv (.od (.t 44))))⟩])))))))))
 (.skip)))))))))))))))
 (.seq (.seq (.reg [⟨(some 57), none, (.b (some 184) false (.bin .eql) (.u (some 183) .ld (.u (some 182) (.fad 0) (.od (.t 10)))) (.od (.c (.int .i64 (.ofNat 0)))))⟩])
 (.cond (.t 57) (.seq (.reg [⟨(some 4), none, (.u (some 5) .mv (.b (some 190) false (.app 4 40 78) (.u (some 185) .mv (.od (.t 4))) (.k (some 189) (.bsl 4 78) (.cons (.k (some 188) (.build [(.int .i64 (.ofNat 0)),(.str []),(.int .i64 (.ofNat 0)),(.int .i64 (.ofNat 0))] [(0,1),(1,3)]) (.cons (.od (.c (.int .i64 (.ofNat 19)))) (.cons (.u (some 187) (.lda 3) (.u (some 186) (.fad 3) (.od (.t 8)))) .nil))) .nil))))⟩])
 (.exit 1))
 (.skip)))
 (.reg [⟨(some 3), none, (.u (some 4) .mv (.b (some 194) false (.app 7 72 94) (.u (some 191) .mv (.od (.t 3))) (.k (some 193) (.bsl 7 94) (.cons (.u (some 192) (.lda 7) (.od (.t 10))) .nil))))⟩]))))))
 (.reg [⟨(some 5), none, (.u (some 6) .mv (.b (some 29) false (.bin .add) (.u (some 28) .mv (.od (.t 5))) (.od (.c (.int .i64 (.ofNat 1))))))⟩]))))))
 (.seq (.reg [⟨(some 58), none, (.b (some 200) false (.app 7 72 94) (.u (some 195) .mv (.od (.t 3))) (.k (some 199) (.bsl 7 94) (.cons (.k (some 198) (.build [(.int .i64 (.ofNat 0)),(.str []),(.str []),(.int .i64 (.ofNat 0)),(.int .i64 (.ofNat 0)),(.int .i64 (.ofNat 0)),(.int .i64 (.ofNat 0))] [(0,1),(5,1)]) (.cons (.od (.c (.int .i64 (.ofNat 8)))) (.cons (.u (some 197) .len (.u (some 196) .mv (.od (.t 0)))) .nil))) .nil)))⟩,
 ⟨(some 59), none, (.u (some 201) .mv (.od (.t 4)))⟩,
 ⟨(some 1), none, (.u (some 2) .mv (.od (.t 58)))⟩,
 ⟨(some 2), none, (.u (some 3) .mv (.od (.t 59)))⟩])
 (.ret))))))
def lf56 : LF := ⟨60, 1, lc56, [.t 1,.t 2], [0,2,3,4,5,6,27,33,7,39,8,41,42,44,49,51,53,57,58,10,59,63,65,67,71,72,12,73,75,77,81,82,13,14,85,87,89,93,94,15,16,96,17,18,19,20,106,114,115,122,123,21,22,133,23,154,165,184,200,201]⟩

-- oxbow/express.Open
def lc57 : LC := (.seq (.reg [⟨(some 1), none, (.u (some 1) (.box 46) (.od (.t 0)))⟩,
 ⟨(some 2), none, (.u (some 2) .mv (.od (.c .nilp)))⟩])
 (.seq (.reg [⟨(some 2), none, (.u (some 2) .mv (.u (some 10) (.box 138) (.k (some 9) (.build [.nils,(.int .i64 (.ofNat 0)),.nilp,(.bool false)] [(0,1),(1,1),(2,1)]) (.cons (.u (some 4) .ld (.u (some 3) (.fad 0) (.od (.t 1)))) (.cons (.u (some 6) .ld (.u (some 5) (.fad 1) (.od (.t 1)))) (.cons (.u (some 8) .ld (.u (some 7) (.fad 2) (.od (.t 1)))) .nil))))))⟩])
 (.ret)))
def lf57 : LF := ⟨3, 1, lc57, [.t 2], [0,1,2]⟩

-- (*oxbow/express.Reader).Starts
def lc58 : LC := (.seq (.reg [⟨(some 1), none, (.u (some 2) .mv (.od (.c (.bool false))))⟩])
 (.seq (.reg [⟨(some 1), none, (.u (some 2) .mv (.k (some 6) (.call 99) (.cons (.u (some 3) .mv (.od (.t 0))) (.cons (.k (some 5) (.call 100) (.cons (.u (some 4) .mv (.od (.t 0))) .nil)) .nil))))⟩])
 (.ret)))
def lf58 : LF := ⟨2, 1, lc58, [.t 1], [0,2]⟩

-- (*oxbow/oxbowref17.Parser).starts
def lc59 : LC := (.seq (.reg [⟨(some 2), none, (.u (some 4) .mv (.od (.c (.bool false))))⟩])
 (.seq (.reg [⟨(some 3), none, (.k (some 8) (.call 101) (.cons (.u (some 6) .mv (.od (.t 0))) (.cons (.u (some 7) .mv (.od (.t 1))) .nil)))⟩,
 ⟨(some 4), none, (.a (some 5) [(.int .i64 (.ofNat 0)),(.str []),(.str []),(.int .i64 (.ofNat 0)),(.int .i64 (.ofNat 0)),(.int .i64 (.ofNat 0)),(.int .i64 (.ofNat 0))] 94)⟩,
 ⟨none, none, (.b none false (.sta 7) (.od (.t 4)) (.od (.t 3)))⟩])
 (.seq (.seq (.reg [⟨(some 5), none, (.b (some 11) false (.bin .neq) (.u (some 10) .ld (.u (some 9) (.fad 0) (.od (.t 4)))) (.od (.c (.int .i64 (.ofNat 2)))))⟩])
 (.cond (.t 5) (.seq (.reg [⟨(some 2), none, (.u (some 4) .mv (.k (some 14) (.call 102) (.cons (.u (some 12) .mv (.od (.t 0))) (.cons (.u (some 13) .mv (.od (.t 1))) .nil))))⟩])
 (.ret))
 (.skip)))
 (.seq (.drw [⟨.m, [], ⟨(some 6), none, (.k (some 15) (.call 104) .nil)⟩⟩,
 ⟨.p, [], ⟨(some 7), none, (.u (some 16) (.fad 1) (.od (.t 4)))⟩⟩,
 ⟨(.l 0 1), [1], ⟨(some 8), none, (.u (some 17) .ld (.od (.t 7)))⟩⟩,
 ⟨.m, [0,1,2], ⟨(some 9), none, (.k (some 18) (.call 103) (.cons (.od (.t 6)) (.cons (.od (.t 8)) .nil)))⟩⟩,
 ⟨.p, [0,1,2,3], ⟨(some 10), none, (.u (some 19) .mv (.od (.t 9)))⟩⟩,
 ⟨.m, [0,1,2,3,4], ⟨(some 11), some (10, false), (.k (some 20) (.call 105) .nil)⟩⟩,
 ⟨.p, [0,1,2,3,4], ⟨(some 12), some (10, false), (.u (some 21) (.fad 1) (.od (.t 4)))⟩⟩,
 ⟨(.l 2 3), [0,1,2,3,4,6], ⟨(some 13), some (10, false), (.u (some 22) .ld (.od (.t 12)))⟩⟩,
 ⟨.m, [0,1,2,3,4,5,6,7], ⟨(some 14), some (10, false), (.k (some 23) (.call 103) (.cons (.od (.t 11)) (.cons (.od (.t 13)) .nil)))⟩⟩,
 ⟨.p, [0,1,2,3,4,5,6,7,8], ⟨(some 15), none, (.k (some 24) .pick (.cons (.od (.t 10)) (.cons (.od (.c (.bool true))) (.cons (.od (.t 14)) .nil))))⟩⟩,
 ⟨.p, [0,1,2,3,4,5,6,7,8,9], ⟨(some 16), none, (.u (some 25) .mv (.od (.t 15)))⟩⟩,
 ⟨.m, [0,1,2,3,4,5,6,7,8,9,10], ⟨(some 17), some (16, false), (.k (some 26) (.call 106) .nil)⟩⟩,
 ⟨.p, [0,1,2,3,4,5,6,7,8,9,10], ⟨(some 18), some (16, false), (.u (some 27) (.fad 1) (.od (.t 4)))⟩⟩,
 ⟨(.l 4 5), [0,1,2,3,4,5,6,7,8,9,10,12], ⟨(some 19), some (16, false), (.u (some 28) .ld (.od (.t 18)))⟩⟩,
 ⟨.m, [0,1,2,3,4,5,6,7,8,9,10,11,12,13], ⟨(some 20), some (16, false), (.k (some 29) (.call 103) (.cons (.od (.t 17)) (.cons (.od (.t 19)) .nil)))⟩⟩,
 ⟨.p, [0,1,2,3,4,5,6,7,8,9,10,11,12,13,14], ⟨(some 21), none, (.k (some 30) .pick (.cons (.od (.t 16)) (.cons (.od (.c (.bool true))) (.cons (.od (.t 20)) .nil))))⟩⟩,
 ⟨.p, [0,1,2,3,4,5,6,7,8,9,10,11,12,13,14,15], ⟨(some 22), none, (.u (some 31) .mv (.od (.t 21)))⟩⟩,
 ⟨.m, [0,1,2,3,4,5,6,7,8,9,10,11,12,13,14,15,16], ⟨(some 23), some (22, false), (.k (some 32) (.call 107) .nil)⟩⟩,
 ⟨.p, [0,1,2,3,4,5,6,7,8,9,10,11,12,13,14,15,16], ⟨(some 24), some (22, false), (.u (some 33) (.fad 1) (.od (.t 4)))⟩⟩,
 ⟨(.l 6 7), [0,1,2,3,4,5,6,7,8,9,10,11,12,13,14,15,16,18], ⟨(some 25), some (22, false), (.u (some 34) .ld (.od (.t 24)))⟩⟩,
 ⟨.m, [0,1,2,3,4,5,6,7,8,9,10,11,12,13,14,15,16,17,18,19], ⟨(some 26), some (22, false), (.k (some 35) (.call 103) (.cons (.od (.t 23)) (.cons (.od (.t 25)) .nil)))⟩⟩,
 ⟨.p, [0,1,2,3,4,5,6,7,8,9,10,11,12,13,14,15,16,17,18,19,20], ⟨(some 27), none, (.k (some 36) .pick (.cons (.od (.t 22)) (.cons (.od (.c (.bool true))) (.cons (.od (.t 26)) .nil))))⟩⟩,
 ⟨.p, [0,1,2,3,4,5,6,7,8,9,10,11,12,13,14,15,16,17,18,19,20,21], ⟨(some 28), none, (.u (some 37) .mv (.od (.t 27)))⟩⟩,
 ⟨.m, [0,1,2,3,4,5,6,7,8,9,10,11,12,13,14,15,16,17,18,19,20,21,22], ⟨(some 29), some (28, false), (.k (some 38) (.bsl 1 9) (.cons (.od (.c (.str [115,116,114,117,99,116]))) (.cons (.od (.c (.str [117,110,105,111,110]))) (.cons (.od (.c (.str [101,110,117,109]))) (.cons (.od (.c (.str [95,65,116,111,109,105,99]))) (.cons (.od (.c (.str [95,65,108,105,103,110,97,115]))) .nil))))))⟩⟩,
 ⟨.p, [0,1,2,3,4,5,6,7,8,9,10,11,12,13,14,15,16,17,18,19,20,21,22], ⟨(some 30), some (28, false), (.u (some 39) (.fad 1) (.od (.t 4)))⟩⟩,
 ⟨(.l 8 9), [0,1,2,3,4,5,6,7,8,9,10,11,12,13,14,15,16,17,18,19,20,21,22,24], ⟨(some 31), some (28, false), (.u (some 40) .ld (.od (.t 30)))⟩⟩,
 ⟨.m, [0,1,2,3,4,5,6,7,8,9,10,11,12,13,14,15,16,17,18,19,20,21,22,23,24,25], ⟨(some 32), some (28, false), (.k (some 41) (.call 103) (.cons (.od (.t 29)) (.cons (.od (.t 31)) .nil)))⟩⟩,
 ⟨.p, [0,1,2,3,4,5,6,7,8,9,10,11,12,13,14,15,16,17,18,19,20,21,22,23,24,25,26], ⟨(some 33), none, (.k (some 42) .pick (.cons (.od (.t 28)) (.cons (.od (.c (.bool true))) (.cons (.od (.t 32)) .nil))))⟩⟩,
 ⟨.p, [0,1,2,3,4,5,6,7,8,9,10,11,12,13,14,15,16,17,18,19,20,21,22,23,24,25,26,27], ⟨(some 2), none, (.u (some 4) .mv (.od (.t 33)))⟩⟩])
 (.ret)))))
def lf59 : LF := ⟨34, 2, lc59, [.t 2], [0,1,4,8,5,11,15,16,17,18,19,20,21,22,23,24,25,26,27,28,29,30,31,32,33,34,35,36,37,38,39,40,41,42]⟩

-- (*oxbow/express.Reader).Close
def lc60 : LC := (.seq (.reg [⟨(some 3), none, (.u (some 4) (.box 46) (.od (.t 1)))⟩,
 ⟨(some 4), none, (.u (some 5) (.box 50) (.od (.t 2)))⟩,
 ⟨(some 5), none, (.a (some 6) [(.str []),(.str []),(.int .i64 (.ofNat 0)),(.int .i64 (.ofNat 0)),.nils] 50)⟩,
 ⟨(some 6), none, (.a (some 7) [.nils,(.int .i64 (.ofNat 0)),.nilp,(.int .i64 (.ofNat 0))] 46)⟩,
 ⟨(some 7), none, (.u (some 8) .mv (.od (.c (.bool false))))⟩])
 (.seq (.reg [⟨none, none, (.b none true .st (.u (some 13) (.fad 1) (.od (.t 3))) (.u (some 12) .ld (.u (some 11) (.fad 1) (.u (some 10) .nck (.u (some 9) .mv (.od (.t 0)))))))⟩])
 (.seq (.seq (.reg [⟨(some 8), none, (.u (some 17) .ld (.u (some 16) (.fad 3) (.u (some 15) .nck (.u (some 14) .mv (.od (.t 0))))))⟩])
 (.cond (.t 8) (.seq (.drw [⟨.p, [], ⟨(some 9), none, (.k (some 18) (.build [(.str []),(.str []),(.int .i64 (.ofNat 0)),(.int .i64 (.ofNat 0)),.nils] []) .nil)⟩⟩,
 ⟨(.l 0 1), [], ⟨(some 10), none, (.u (some 19) (.lda 4) (.od (.t 3)))⟩⟩,
 ⟨.m, [0], ⟨none, none, (.b none false (.sta 5) (.od (.t 5)) (.od (.t 9)))⟩⟩,
 ⟨.m, [0,1,2], ⟨none, none, (.b none false (.sta 4) (.od (.t 6)) (.od (.t 10)))⟩⟩,
 ⟨.p, [0,1,2,3], ⟨(some 7), none, (.u (some 8) .mv (.od (.c (.bool false))))⟩⟩])
 (.ret))
 (.skip)))
 (.seq (.reg [⟨none, none, (.b none true .st (.u (some 24) (.fad 2) (.od (.t 3))) (.u (some 23) .ld (.u (some 22) (.fad 2) (.u (some 21) .nck (.u (some 20) .mv (.od (.t 0)))))))⟩])
 (.seq (.drw [⟨(.l 0 0), [], ⟨(some 11), none, (.u (some 25) (.lda 5) (.od (.t 4)))⟩⟩,
 ⟨(.l 0 1), [], ⟨(some 12), none, (.u (some 26) (.lda 4) (.od (.t 3)))⟩⟩,
 ⟨.m, [0], ⟨none, none, (.b none false (.sta 5) (.od (.t 5)) (.od (.t 11)))⟩⟩,
 ⟨.m, [0,1,2], ⟨none, none, (.b none false (.sta 4) (.od (.t 6)) (.od (.t 12)))⟩⟩,
 ⟨.p, [0,1,2,3], ⟨(some 7), none, (.u (some 8) .mv (.od (.c (.bool true))))⟩⟩])
 (.ret))))))
def lf60 : LF := ⟨13, 3, lc60, [.ca 5 5,.ca 6 4,.t 7], [0,1,2,4,5,6,7,8,17,18,19,25,26]⟩

-- (*oxbow/express.Reader).Declarator
def lc61 : LC := (.seq (.reg [⟨(some 3), none, (.a (some 6) [(.str []),(.str []),(.int .i64 (.ofNat 0)),(.int .i64 (.ofNat 0)),.nils] 50)⟩])
 (.seq (.seq (.reg [⟨(some 4), none, (.gd (some 12) false true (.u (some 9) .mv (.b (some 8) false (.bin .lss) (.u (some 7) .mv (.od (.t 2))) (.od (.c (.int .i64 (.ofNat 0)))))) (.b (some 11) false (.bin .gtr) (.u (some 10) .mv (.od (.t 2))) (.od (.c (.int .i64 (.ofNat 2))))))⟩])
 (.cond (.t 4) (.reg [⟨none, none, (.k (some 14) (.call 108) (.cons (.u (some 13) .mv (.od (.t 0))) .nil))⟩])
 (.skip)))
 (.seq (.seq (.reg [⟨(some 5), none, (.k (some 17) (.call 109) (.cons (.u (some 15) .mv (.od (.t 0))) (.cons (.u (some 16) .mv (.od (.t 1))) .nil)))⟩])
 (.cond (.t 5) (.seq (.reg [⟨none, none, (.b none false (.sta 5) (.od (.t 3)) (.u (some 18) (.lda 5) (.od (.t 3))))⟩])
 (.ret))
 (.skip)))
 (.seq (.reg [⟨none, none, (.b none false (.sta 5) (.od (.t 3)) (.k (some 23) (.call 110) (.cons (.u (some 19) .mv (.od (.t 0))) (.cons (.b (some 21) false (.bin .add) (.u (some 20) .mv (.od (.t 1))) (.od (.c (.int .i64 (.ofNat 1))))) (.cons (.u (some 22) .mv (.od (.t 2))) .nil)))))⟩])
 (.ret)))))
def lf61 : LF := ⟨6, 3, lc61, [.ca 3 5], [0,1,2,6,12,17]⟩

-- oxbow/tree.write
def lc62 : LC := (.seq (.reg [⟨none, none, (.k (some 11) (.call 111) (.cons (.u (some 5) .mv (.od (.t 0))) (.cons (.b (some 10) false (.bin .add) (.od (.c (.str [40]))) (.u (some 9) .ld (.u (some 8) (.fad 0) (.u (some 7) .nck (.u (some 6) .mv (.od (.t 1))))))) .nil)))⟩])
 (.seq (.seq (.reg [⟨(some 2), none, (.b (some 16) false (.bin .neq) (.u (some 15) .ld (.u (some 14) (.fad 1) (.u (some 13) .nck (.u (some 12) .mv (.od (.t 1)))))) (.od (.c (.str []))))⟩])
 (.cond (.t 2) (.reg [⟨none, none, (.k (some 23) (.call 111) (.cons (.u (some 17) .mv (.od (.t 0))) (.cons (.b (some 22) false (.bin .add) (.od (.c (.str [32]))) (.u (some 21) .ld (.u (some 20) (.fad 1) (.u (some 19) .nck (.u (some 18) .mv (.od (.t 1))))))) .nil)))⟩])
 (.skip)))
 (.seq (.seq (.reg [⟨(some 3), none, (.u (some 28) .len (.u (some 27) .ld (.u (some 26) (.fad 4) (.u (some 25) .nck (.u (some 24) .mv (.od (.t 1)))))))⟩,
 ⟨(some 4), none, (.u (some 29) .mv (.od (.c (.int .i64 (.ofNat 0)))))⟩])
 (.blk 0 (.loop (.seq (.reg [⟨(some 5), none, (.b (some 30) false (.bin .lss) (.od (.t 4)) (.od (.t 3)))⟩])
 (.seq (.cond (.t 5) (.skip)
 (.exit 0))
 (.seq (.blk 1 (.seq (.reg [⟨(some 6), none, (.u (some 4) .mv (.u (some 31) .mv (.od (.t 4))))⟩])
 (.seq (.reg [⟨none, none, (.k (some 33) (.call 112) (.cons (.u (some 32) .mv (.od (.t 0))) (.cons (.od (.c (.int .u8 (.ofNat 32)))) .nil)))⟩])
 (.reg [⟨none, none, (.k (some 41) (.call 62) (.cons (.u (some 34) .mv (.od (.t 0))) (.cons (.b (some 40) false (.iad 5) (.u (some 38) .ld (.u (some 37) (.fad 4) (.u (some 36) .nck (.u (some 35) .mv (.od (.t 1)))))) (.u (some 39) .mv (.od (.t 6)))) .nil)))⟩]))))
 (.reg [⟨(some 4), none, (.u (some 29) .mv (.b (some 42) false (.bin .add) (.od (.t 4)) (.od (.c (.int .i64 (.ofNat 1))))))⟩])))))))
 (.reg [⟨none, none, (.k (some 44) (.call 112) (.cons (.u (some 43) .mv (.od (.t 0))) (.cons (.od (.c (.int .u8 (.ofNat 41)))) .nil)))⟩]))))
def lf62 : LF := ⟨7, 2, lc62, [], [0,1,16,28,29,30,4]⟩

-- (*strings.Builder).String
def lc63 : LC := (.seq (.reg [⟨(some 1), none, (.u (some 2) .mv (.od (.c (.str []))))⟩])
 (.seq (.drw [⟨.p, [], ⟨(some 2), none, (.u (some 3) .mv (.od (.t 0)))⟩⟩,
 ⟨.p, [0], ⟨(some 3), none, (.u (some 4) .nck (.od (.t 2)))⟩⟩,
 ⟨.p, [0,1], ⟨(some 4), none, (.u (some 5) (.fad 1) (.od (.t 3)))⟩⟩,
 ⟨(.l 0 0), [0,1,2], ⟨(some 5), none, (.u (some 6) .ld (.od (.t 4)))⟩⟩,
 ⟨(.l 0 0), [0,1,2,3], ⟨(some 6), none, (.u (some 7) .usd (.od (.t 5)))⟩⟩,
 ⟨.p, [], ⟨(some 7), none, (.u (some 8) .mv (.od (.t 0)))⟩⟩,
 ⟨.p, [5], ⟨(some 8), none, (.u (some 9) .nck (.od (.t 7)))⟩⟩,
 ⟨.p, [5,6], ⟨(some 9), none, (.u (some 10) (.fad 1) (.od (.t 8)))⟩⟩,
 ⟨(.l 0 0), [5,6,7], ⟨(some 10), none, (.u (some 11) .ld (.od (.t 9)))⟩⟩,
 ⟨.p, [5,6,7,8], ⟨(some 11), none, (.u (some 12) .len (.od (.t 10)))⟩⟩,
 ⟨.m, [0,1,2,3,4,5,6,7,8,9], ⟨(some 12), none, (.b (some 13) false (.ust 5) (.od (.t 6)) (.od (.t 11)))⟩⟩,
 ⟨.p, [0,1,2,3,4,5,6,7,8,9,10], ⟨(some 1), none, (.u (some 2) .mv (.od (.t 12)))⟩⟩])
 (.ret)))
def lf63 : LF := ⟨13, 1, lc63, [.t 1], [0,2,3,4,5,6,7,8,9,10,11,12,13]⟩

-- slices.IndexFunc[[]oxbow/tree.Node,oxbow/tree.Node]
def lc64 : LC := (.seq (.reg [⟨(some 2), none, (.u (some 4) .mv (.od (.c (.int .i64 (.ofNat 0)))))⟩])
 (.seq (.seq (.reg [⟨(some 3), none, (.u (some 7) .len (.u (some 6) .mv (.od (.t 0))))⟩,
 ⟨(some 4), none, (.u (some 8) .mv (.od (.c (.int .i64 (.ofNat 0)))))⟩])
 (.blk 0 (.loop (.seq (.reg [⟨(some 5), none, (.b (some 9) false (.bin .lss) (.od (.t 4)) (.od (.t 3)))⟩])
 (.seq (.cond (.t 5) (.skip)
 (.exit 0))
 (.seq (.blk 1 (.seq (.reg [⟨(some 6), none, (.u (some 5) .mv (.u (some 10) .mv (.od (.t 4))))⟩])
 (.seq (.reg [⟨(some 7), none, (.k (some 16) .callv (.cons (.u (some 11) .mv (.od (.t 1))) (.cons (.u (some 15) (.lda 5) (.b (some 14) false (.iad 5) (.u (some 12) .mv (.od (.t 0))) (.u (some 13) .mv (.od (.t 6))))) .nil)))⟩])
 (.cond (.t 7) (.seq (.reg [⟨(some 2), none, (.u (some 4) .mv (.u (some 17) .mv (.od (.t 6))))⟩])
 (.ret))
 (.skip)))))
 (.reg [⟨(some 4), none, (.u (some 8) .mv (.b (some 18) false (.bin .add) (.od (.t 4)) (.od (.c (.int .i64 (.ofNat 1))))))⟩])))))))
 (.seq (.reg [⟨(some 2), none, (.u (some 4) .mv (.od (.c (.int .i64 (.negSucc 0)))))⟩])
 (.ret))))
def lf64 : LF := ⟨8, 2, lc64, [.t 2], [0,1,4,7,8,9,5,16]⟩

-- oxbow/express.Name$1
def lc65 : LC := (.seq (.reg [⟨(some 1), none, (.u (some 1) (.box 50) (.od (.t 0)))⟩,
 ⟨(some 2), none, (.u (some 2) .mv (.od (.c (.bool false))))⟩])
 (.seq (.reg [⟨(some 2), none, (.u (some 2) .mv (.b (some 5) false (.bin .neq) (.u (some 4) .ld (.u (some 3) (.fad 0) (.od (.t 1)))) (.od (.c (.str [113,117,97,108,105,102,105,101,114])))))⟩])
 (.ret)))
def lf65 : LF := ⟨3, 1, lc65, [.t 2], [0,1,2]⟩

-- (*oxbow/scope.Env).some
def lc66 : LC := (.seq (.reg [⟨(some 1), none, (.u (some 2) .mv (.od (.c .nilp)))⟩])
 (.seq (.seq (.reg [⟨(some 2), none, (.b (some 4) false (.eqp false) (.u (some 3) .mv (.od (.t 0))) (.od (.c .nilp)))⟩])
 (.cond (.t 2) (.seq (.reg [⟨(some 1), none, (.u (some 2) .mv (.k (some 5) (.call 27) .nil))⟩])
 (.ret))
 (.skip)))
 (.seq (.reg [⟨(some 1), none, (.u (some 2) .mv (.u (some 6) .mv (.od (.t 0))))⟩])
 (.ret))))
def lf66 : LF := ⟨3, 1, lc66, [.t 1], [0,2,4]⟩

-- oxbow/declare.Open
def lc67 : LC := (.seq (.reg [⟨(some 1), none, (.u (some 1) (.box 46) (.od (.t 0)))⟩,
 ⟨(some 2), none, (.a (some 2) [.nilp] 124)⟩])
 (.seq (.reg [⟨none, none, (.b none false (.sta 1) (.od (.t 2)) (.k (some 5) (.build [.nilp] [(0,1)]) (.cons (.k (some 4) (.call 57) (.cons (.u (some 3) (.lda 4) (.od (.t 1))) .nil)) .nil)))⟩])
 (.ret)))
def lf67 : LF := ⟨3, 1, lc67, [.ca 2 1], [0,1,2]⟩

-- (oxbow/declare.Reader).Block
def lc68 : LC := (.seq (.reg [⟨(some 2), none, (.u (some 2) (.box 124) (.od (.t 0)))⟩,
 ⟨(some 3), none, (.a (some 4) [(.str []),(.str []),(.int .i64 (.ofNat 0)),(.int .i64 (.ofNat 0)),.nils] 50)⟩])
 (.seq (.seq (.reg [⟨(some 4), none, (.k (some 9) (.call 113) (.cons (.u (some 7) .ld (.u (some 6) (.fad 0) (.od (.t 2)))) (.cons (.u (some 8) .mv (.od (.t 1))) .nil)))⟩])
 (.cond (.t 4) (.seq (.reg [⟨none, none, (.b none false (.sta 5) (.od (.t 3)) (.u (some 10) (.lda 5) (.od (.t 3))))⟩])
 (.ret))
 (.skip)))
 (.seq (.reg [⟨(some 5), none, (.u (some 5) .mv (.u (some 15) .ld (.u (some 14) (.fad 2) (.u (some 13) .nck (.u (some 12) .ld (.u (some 11) (.fad 0) (.od (.t 2))))))))⟩])
 (.seq (.drw [⟨.p, [], ⟨(some 6), none, (.u (some 16) (.fad 0) (.od (.t 2)))⟩⟩,
 ⟨(.l 0 1), [0], ⟨(some 7), none, (.u (some 17) .ld (.od (.t 6)))⟩⟩,
 ⟨.p, [], ⟨(some 8), none, (.u (some 18) .mv (.od (.t 5)))⟩⟩,
 ⟨.m, [2], ⟨(some 9), none, (.k (some 19) (.call 114) (.cons (.od (.t 8)) .nil))⟩⟩,
 ⟨.p, [0,1,2,3], ⟨(some 10), none, (.u (some 20) .nck (.od (.t 7)))⟩⟩,
 ⟨.p, [0,1,2,3,4], ⟨(some 11), none, (.u (some 21) (.fad 2) (.od (.t 10)))⟩⟩,
 ⟨.m, [0,1,2,3,4,5], ⟨none, none, (.b none false .st (.od (.t 11)) (.od (.t 9)))⟩⟩])
 (.seq (.reg [⟨none, none, (.b none false (.sta 5) (.od (.t 3)) (.k (some 25) (.call 115) (.cons (.u (some 22) (.lda 1) (.od (.t 2))) (.cons (.b (some 24) false (.bin .add) (.u (some 23) .mv (.od (.t 1))) (.od (.c (.int .i64 (.ofNat 1))))) .nil))))⟩])
 (.seq (.reg [⟨(some 12), none, (.u (some 27) .ld (.u (some 26) (.fad 0) (.od (.t 2))))⟩,
 ⟨(some 13), none, (.u (some 28) .mv (.od (.t 5)))⟩,
 ⟨none, none, (.b none false .st (.u (some 30) (.fad 2) (.u (some 29) .nck (.od (.t 12)))) (.od (.t 13)))⟩])
 (.seq (.reg [⟨none, none, (.b none false (.sta 5) (.od (.t 3)) (.u (some 31) (.lda 5) (.od (.t 3))))⟩])
 (.ret))))))))
def lf68 : LF := ⟨14, 2, lc68, [.ca 3 5], [0,1,2,4,9,5,16,17,18,19,20,21,27,28]⟩

-- (*oxbow/scope.Env).find
def lc69 : LC := (.seq (.reg [⟨(some 2), none, (.u (some 4) .mv (.od (.c .nilp)))⟩])
 (.seq (.blk 0 (.loop (.seq (.seq (.reg [⟨(some 3), none, (.b (some 6) false (.eqp true) (.u (some 5) .mv (.od (.t 0))) (.od (.c .nilp)))⟩])
 (.cond (.t 3) (.skip)
 (.exit 0)))
 (.seq (.blk 1 (.seq (.reg [⟨(some 4), none, (.gd (some 20) true false (.u (some 17) .mv (.b (some 16) false (.bin .eql) (.u (some 14) .ld (.u (some 13) (.fad 2) (.u (some 12) .nck (.u (some 11) .mv (.od (.t 0)))))) (.u (some 15) .mv (.od (.t 1))))) (.b (some 19) false (.bin .neq) (.u (some 18) .mv (.od (.t 1))) (.od (.c (.str [])))))⟩])
 (.cond (.t 4) (.seq (.reg [⟨(some 2), none, (.u (some 4) .mv (.u (some 21) .mv (.od (.t 0))))⟩])
 (.ret))
 (.skip))))
 (.reg [⟨(some 0), none, (.u (some 0) .mv (.u (some 10) .ld (.u (some 9) (.fad 1) (.u (some 8) .nck (.u (some 7) .mv (.od (.t 0)))))))⟩])))))
 (.seq (.reg [⟨(some 2), none, (.u (some 4) .mv (.od (.c .nilp)))⟩])
 (.ret))))
def lf69 : LF := ⟨5, 2, lc69, [.t 2], [0,1,4,6,20]⟩

-- (oxbow/declare.Reader).Declaration
def lc70 : LC := (.seq (.reg [⟨(some 2), none, (.u (some 2) (.box 124) (.od (.t 0)))⟩,
 ⟨(some 3), none, (.a (some 4) [(.str []),(.str []),(.int .i64 (.ofNat 0)),(.int .i64 (.ofNat 0)),.nils] 50)⟩])
 (.seq (.seq (.reg [⟨(some 4), none, (.k (some 12) (.call 113) (.cons (.u (some 10) .ld (.u (some 9) (.fad 0) (.od (.t 2)))) (.cons (.u (some 11) .mv (.od (.t 1))) .nil)))⟩])
 (.cond (.t 4) (.seq (.reg [⟨none, none, (.b none false (.sta 5) (.od (.t 3)) (.u (some 13) (.lda 5) (.od (.t 3))))⟩])
 (.ret))
 (.skip)))
 (.seq (.seq (.reg [⟨(some 5), none, (.k (some 16) (.call 116) (.cons (.u (some 15) .ld (.u (some 14) (.fad 0) (.od (.t 2)))) (.cons (.od (.c (.str [95,83,116,97,116,105,99,95,97,115,115,101,114,116]))) .nil)))⟩])
 (.cond (.t 5) (.seq (.reg [⟨none, none, (.b none false (.sta 5) (.od (.t 3)) (.k (some 21) (.call 117) (.cons (.u (some 18) .ld (.u (some 17) (.fad 0) (.od (.t 2)))) (.cons (.b (some 20) false (.bin .add) (.u (some 19) .mv (.od (.t 1))) (.od (.c (.int .i64 (.ofNat 1))))) .nil))))⟩])
 (.ret))
 (.skip)))
 (.seq (.reg [⟨(some 6), none, (.u (some 5) .mv (.u (some 26) .ld (.u (some 25) (.fad 1) (.u (some 24) .nck (.u (some 23) .ld (.u (some 22) (.fad 0) (.od (.t 2))))))))⟩])
 (.seq (.reg [⟨(some 7), none, (.k (some 31) (.call 118) (.cons (.u (some 28) .ld (.u (some 27) (.fad 0) (.od (.t 2)))) (.cons (.b (some 30) false (.bin .add) (.u (some 29) .mv (.od (.t 1))) (.od (.c (.int .i64 (.ofNat 1))))) .nil)))⟩,
 ⟨(some 8), none, (.a (some 6) [(.str []),(.str []),(.int .i64 (.ofNat 0)),(.int .i64 (.ofNat 0)),.nils] 50)⟩,
 ⟨none, none, (.b none false (.sta 5) (.od (.t 8)) (.od (.t 7)))⟩])
 (.seq (.reg [⟨(some 9), none, (.u (some 7) .mv (.k (some 33) (.bsl 5 50) (.cons (.u (some 32) (.lda 5) (.od (.t 8))) .nil)))⟩])
 (.seq (.seq (.reg [⟨(some 10), none, (.gd (some 45) true false (.u (some 40) .mv (.u (some 39) (.un .not) (.u (some 38) .ld (.u (some 37) (.fad 3) (.u (some 36) .nck (.u (some 35) .ld (.u (some 34) (.fad 0) (.od (.t 2))))))))) (.u (some 44) (.un .not) (.k (some 43) (.call 119) (.cons (.u (some 42) .ld (.u (some 41) (.fad 0) (.od (.t 2)))) (.cons (.od (.c (.str [59]))) .nil)))))⟩])
 (.cond (.t 10) (.seq (.reg [⟨(some 11), none, (.k (some 50) (.call 61) (.cons (.u (some 47) .ld (.u (some 46) (.fad 0) (.od (.t 2)))) (.cons (.b (some 49) false (.bin .add) (.u (some 48) .mv (.od (.t 1))) (.od (.c (.int .i64 (.ofNat 1))))) (.cons (.od (.c (.int .i64 (.ofNat 0)))) .nil))))⟩,
 ⟨(some 12), none, (.a (some 8) [(.str []),(.str []),(.int .i64 (.ofNat 0)),(.int .i64 (.ofNat 0)),.nils] 50)⟩,
 ⟨none, none, (.b none false (.sta 5) (.od (.t 12)) (.od (.t 11)))⟩])
 (.seq (.reg [⟨none, none, (.k (some 54) (.call 120) (.cons (.u (some 51) (.lda 1) (.od (.t 2))) (.cons (.u (some 52) (.lda 5) (.od (.t 8))) (.cons (.u (some 53) (.lda 5) (.od (.t 12))) .nil))))⟩])
 (.reg [⟨(some 9), none, (.u (some 7) .mv (.k (some 60) (.call 121) (.cons (.u (some 55) (.lda 1) (.od (.t 2))) (.cons (.u (some 56) .mv (.od (.t 9))) (.cons (.u (some 57) (.lda 5) (.od (.t 12))) (.cons (.b (some 59) false (.bin .add) (.u (some 58) .mv (.od (.t 1))) (.od (.c (.int .i64 (.ofNat 1))))) .nil))))))⟩])))
 (.skip)))
 (.seq (.reg [⟨none, none, (.k (some 63) (.call 122) (.cons (.u (some 62) .ld (.u (some 61) (.fad 0) (.od (.t 2)))) (.cons (.od (.c (.str [59]))) .nil)))⟩])
 (.seq (.reg [⟨none, none, (.b none false (.sta 5) (.od (.t 3)) (.k (some 68) (.call 123) (.cons (.u (some 65) .ld (.u (some 64) (.fad 0) (.od (.t 2)))) (.cons (.od (.c (.str [100,101,99,108,97,114,101]))) (.cons (.od (.c (.str []))) (.cons (.u (some 66) .mv (.od (.t 6))) (.cons (.u (some 67) .mv (.od (.t 9))) .nil)))))))⟩])
 (.ret))))))))))
def lf70 : LF := ⟨13, 2, lc70, [.ca 3 5], [0,1,2,4,12,16,5,31,6,7,45,50,8]⟩

-- oxbow/declare.IsTypedef
def lc71 : LC := (.seq (.reg [⟨(some 1), none, (.u (some 1) (.box 50) (.od (.t 0)))⟩,
 ⟨(some 2), none, (.u (some 2) .mv (.od (.c (.bool false))))⟩])
 (.seq (.reg [⟨(some 2), none, (.u (some 2) .mv (.k (some 5) (.call 124) (.cons (.u (some 4) .ld (.u (some 3) (.fad 4) (.od (.t 1)))) (.cons (.od (.c (.fn 125 [] []))) .nil))))⟩])
 (.ret)))
def lf71 : LF := ⟨3, 1, lc71, [.t 2], [0,1,2]⟩

-- (oxbow/declare.Reader).Stmt
def lc72 : LC := (.seq (.reg [⟨(some 2), none, (.u (some 2) (.box 124) (.od (.t 0)))⟩,
 ⟨(some 3), none, (.a (some 4) [(.str []),(.str []),(.int .i64 (.ofNat 0)),(.int .i64 (.ofNat 0)),.nils] 50)⟩])
 (.seq (.seq (.reg [⟨(some 4), none, (.k (some 14) (.call 113) (.cons (.u (some 12) .ld (.u (some 11) (.fad 0) (.od (.t 2)))) (.cons (.u (some 13) .mv (.od (.t 1))) .nil)))⟩])
 (.cond (.t 4) (.seq (.reg [⟨none, none, (.b none false (.sta 5) (.od (.t 3)) (.u (some 15) (.lda 5) (.od (.t 3))))⟩])
 (.ret))
 (.skip)))
 (.seq (.reg [⟨(some 1), none, (.u (some 1) .mv (.b (some 17) false (.bin .add) (.u (some 16) .mv (.od (.t 1))) (.od (.c (.int .i64 (.ofNat 1))))))⟩])
 (.seq (.drw [⟨.p, [], ⟨(some 5), none, (.u (some 18) (.fad 0) (.od (.t 2)))⟩⟩,
 ⟨(.l 0 1), [0], ⟨(some 6), none, (.u (some 19) .ld (.od (.t 5)))⟩⟩,
 ⟨.p, [0,1], ⟨(some 7), none, (.u (some 20) .nck (.od (.t 6)))⟩⟩,
 ⟨.p, [0,1,2], ⟨(some 8), none, (.u (some 21) (.fad 1) (.od (.t 7)))⟩⟩,
 ⟨(.l 0 1), [0,1,2,3], ⟨(some 9), none, (.u (some 22) .ld (.od (.t 8)))⟩⟩,
 ⟨.p, [], ⟨(some 10), none, (.u (some 23) (.fad 0) (.od (.t 2)))⟩⟩,
 ⟨(.l 0 0), [5], ⟨(some 11), none, (.u (some 24) .ld (.od (.t 10)))⟩⟩,
 ⟨.m, [5,6], ⟨(some 12), none, (.k (some 25) (.call 100) (.cons (.od (.t 11)) .nil))⟩⟩,
 ⟨.a, [], ⟨(some 13), none, (.a (some 6) [(.int .i64 (.ofNat 0)),(.str []),(.str []),(.int .i64 (.ofNat 0)),(.int .i64 (.ofNat 0)),(.int .i64 (.ofNat 0)),(.int .i64 (.ofNat 0))] 95)⟩⟩,
 ⟨.p, [0,1,2,3,4,5,6,7,8], ⟨(some 14), none, (.u (some 5) .mv (.od (.t 9)))⟩⟩,
 ⟨.m, [0,1,2,3,4,5,6,7,8,9], ⟨none, none, (.b none false (.sta 7) (.od (.t 13)) (.od (.t 12)))⟩⟩])
 (.seq (.blk 0 (.seq (.reg [⟨(some 15), none, (.u (some 26) .mv (.k (some 29) (.call 119) (.cons (.u (some 28) .ld (.u (some 27) (.fad 0) (.od (.t 2)))) (.cons (.od (.c (.str [123]))) .nil))))⟩])
 (.cond (.t 15) (.seq (.reg [⟨none, none, (.b none false (.sta 5) (.od (.t 3)) (.k (some 32) (.call 68) (.cons (.u (some 30) (.lda 1) (.od (.t 2))) (.cons (.u (some 31) .mv (.od (.t 1))) .nil))))⟩])
 (.ret))
 (.seq (.reg [⟨(some 16), none, (.u (some 33) .mv (.gd (some 41) true false (.u (some 37) .mv (.b (some 36) false (.bin .eql) (.u (some 35) .ld (.u (some 34) (.fad 0) (.od (.t 13)))) (.od (.c (.int .i64 (.ofNat 1)))))) (.k (some 40) (.call 126) (.cons (.u (some 39) .ld (.u (some 38) (.fad 0) (.od (.t 2)))) (.cons (.od (.c (.str [58]))) .nil)))))⟩])
 (.cond (.t 16) (.seq (.reg [⟨(some 17), none, (.u (some 43) .ld (.u (some 42) (.fad 0) (.od (.t 2))))⟩,
 ⟨none, none, (.b none true .st (.u (some 49) (.fad 1) (.u (some 48) .nck (.od (.t 17)))) (.b (some 47) false (.bin .add) (.u (some 46) .ld (.u (some 45) (.fad 1) (.u (some 44) .nck (.od (.t 17))))) (.od (.c (.int .i64 (.ofNat 2))))))⟩])
 (.seq (.reg [⟨(some 18), none, (.k (some 52) (.call 72) (.cons (.u (some 50) (.lda 1) (.od (.t 2))) (.cons (.u (some 51) .mv (.od (.t 1))) .nil)))⟩,
 ⟨(some 19), none, (.a (some 7) [(.str []),(.str []),(.int .i64 (.ofNat 0)),(.int .i64 (.ofNat 0)),.nils] 50)⟩,
 ⟨none, none, (.b none false (.sta 5) (.od (.t 19)) (.od (.t 18)))⟩])
 (.seq (.reg [⟨none, none, (.b none false (.sta 5) (.od (.t 3)) (.k (some 60) (.call 123) (.cons (.u (some 54) .ld (.u (some 53) (.fad 0) (.od (.t 2)))) (.cons (.od (.c (.str [108,97,98,101,108]))) (.cons (.u (some 56) .ld (.u (some 55) (.fad 1) (.od (.t 13)))) (.cons (.u (some 57) .mv (.od (.t 14))) (.cons (.k (some 59) (.bsl 5 50) (.cons (.u (some 58) (.lda 5) (.od (.t 19))) .nil)) .nil)))))))⟩])
 (.ret))))
 (.seq (.reg [⟨(some 20), none, (.u (some 61) .mv (.k (some 64) (.call 127) (.cons (.u (some 63) .ld (.u (some 62) (.fad 0) (.od (.t 2)))) (.cons (.od (.c (.str [59]))) .nil))))⟩])
 (.cond (.t 20) (.seq (.reg [⟨none, none, (.b none false (.sta 5) (.od (.t 3)) (.k (some 68) (.call 123) (.cons (.u (some 66) .ld (.u (some 65) (.fad 0) (.od (.t 2)))) (.cons (.od (.c (.str [101,109,112,116,121]))) (.cons (.od (.c (.str []))) (.cons (.u (some 67) .mv (.od (.t 14))) (.cons (.od (.c .nils)) .nil)))))))⟩])
 (.ret))
 (.seq (.reg [⟨(some 21), none, (.u (some 69) .mv (.b (some 72) false (.bin .eql) (.u (some 71) .ld (.u (some 70) (.fad 0) (.od (.t 13)))) (.od (.c (.int .i64 (.ofNat 2))))))⟩])
 (.cond (.t 21) (.seq (.reg [⟨(some 22), none, (.u (some 73) .mv (.k (some 78) (.call 128) (.cons (.u (some 74) (.lda 1) (.od (.t 2))) (.cons (.u (some 75) .mv (.od (.t 1))) (.cons (.u (some 77) .ld (.u (some 76) (.fad 1) (.od (.t 13)))) .nil)))))⟩,
 ⟨(some 23), none, (.u (some 79) (.ext 0) (.od (.t 22)))⟩,
 ⟨(some 24), none, (.u (some 80) (.ext 1) (.od (.t 22)))⟩,
 ⟨(some 25), none, (.a (some 8) [(.str []),(.str []),(.int .i64 (.ofNat 0)),(.int .i64 (.ofNat 0)),.nils] 50)⟩,
 ⟨none, none, (.b none false (.sta 5) (.od (.t 25)) (.od (.t 23)))⟩,
 ⟨(some 26), none, (.u (some 9) .mv (.od (.t 24)))⟩])
 (.seq (.reg [⟨(some 27), none, (.u (some 81) .mv (.od (.t 26)))⟩])
 (.cond (.t 27) (.seq (.reg [⟨none, none, (.b none false (.sta 5) (.od (.t 3)) (.u (some 82) (.lda 5) (.od (.t 25))))⟩])
 (.ret))
 (.skip))))
 (.skip))))))))))
 (.seq (.reg [⟨(some 28), none, (.k (some 86) (.call 85) (.cons (.u (some 84) .ld (.u (some 83) (.fad 0) (.od (.t 2)))) (.cons (.u (some 85) .mv (.od (.t 1))) .nil)))⟩,
 ⟨(some 29), none, (.a (some 10) [(.str []),(.str []),(.int .i64 (.ofNat 0)),(.int .i64 (.ofNat 0)),.nils] 50)⟩,
 ⟨none, none, (.b none false (.sta 5) (.od (.t 29)) (.od (.t 28)))⟩])
 (.seq (.reg [⟨none, none, (.k (some 89) (.call 122) (.cons (.u (some 88) .ld (.u (some 87) (.fad 0) (.od (.t 2)))) (.cons (.od (.c (.str [59]))) .nil)))⟩])
 (.seq (.reg [⟨none, none, (.b none false (.sta 5) (.od (.t 3)) (.k (some 95) (.call 123) (.cons (.u (some 91) .ld (.u (some 90) (.fad 0) (.od (.t 2)))) (.cons (.od (.c (.str [101,120,112,114]))) (.cons (.od (.c (.str []))) (.cons (.u (some 92) .mv (.od (.t 14))) (.cons (.k (some 94) (.bsl 5 50) (.cons (.u (some 93) (.lda 5) (.od (.t 29))) .nil)) .nil)))))))⟩])
 (.ret)))))))))
def lf72 : LF := ⟨30, 2, lc72, [.ca 3 5], [0,1,2,4,14,18,19,20,21,22,23,24,25,6,5,26,33,43,52,7,61,69,73,79,80,8,9,81,86,10]⟩

-- slices.EqualFunc[[]oxbow/tree.Node,[]oxbow/tree.Node,oxbow/tree.Node,oxbow/tree.Node]
def lc73 : LC := (.seq (.reg [⟨(some 3), none, (.u (some 6) .mv (.od (.c (.bool false))))⟩])
 (.seq (.seq (.reg [⟨(some 4), none, (.b (some 14) false (.bin .neq) (.u (some 11) .len (.u (some 10) .mv (.od (.t 0)))) (.u (some 13) .len (.u (some 12) .mv (.od (.t 1)))))⟩])
 (.cond (.t 4) (.seq (.reg [⟨(some 3), none, (.u (some 6) .mv (.od (.c (.bool false))))⟩])
 (.ret))
 (.skip)))
 (.seq (.seq (.reg [⟨(some 5), none, (.u (some 15) .mv (.od (.t 0)))⟩,
 ⟨(some 6), none, (.u (some 16) .len (.od (.t 5)))⟩,
 ⟨(some 7), none, (.u (some 17) .mv (.od (.c (.int .i64 (.ofNat 0)))))⟩])
 (.blk 0 (.loop (.seq (.reg [⟨(some 8), none, (.b (some 18) false (.bin .lss) (.od (.t 7)) (.od (.t 6)))⟩])
 (.seq (.cond (.t 8) (.skip)
 (.exit 0))
 (.seq (.blk 1 (.seq (.reg [⟨(some 9), none, (.u (some 19) .mv (.od (.t 7)))⟩,
 ⟨(some 10), none, (.u (some 21) (.lda 5) (.b (some 20) false (.iad 5) (.od (.t 5)) (.od (.t 7))))⟩,
 ⟨(some 11), none, (.a (some 8) [(.str []),(.str []),(.int .i64 (.ofNat 0)),(.int .i64 (.ofNat 0)),.nils] 50)⟩,
 ⟨(some 12), none, (.u (some 7) .mv (.od (.t 9)))⟩,
 ⟨none, none, (.b none false (.sta 5) (.od (.t 11)) (.od (.t 10)))⟩])
 (.seq (.reg [⟨(some 13), none, (.u (some 25) (.lda 5) (.b (some 24) false (.iad 5) (.u (some 22) .mv (.od (.t 1))) (.u (some 23) .mv (.od (.t 12)))))⟩,
 ⟨(some 14), none, (.a (some 9) [(.str []),(.str []),(.int .i64 (.ofNat 0)),(.int .i64 (.ofNat 0)),.nils] 50)⟩,
 ⟨none, none, (.b none false (.sta 5) (.od (.t 14)) (.od (.t 13)))⟩])
 (.seq (.reg [⟨(some 15), none, (.u (some 30) (.un .not) (.k (some 29) .callv (.cons (.u (some 26) .mv (.od (.t 2))) (.cons (.u (some 27) (.lda 5) (.od (.t 11))) (.cons (.u (some 28) (.lda 5) (.od (.t 14))) .nil)))))⟩])
 (.cond (.t 15) (.seq (.reg [⟨(some 3), none, (.u (some 6) .mv (.od (.c (.bool false))))⟩])
 (.ret))
 (.skip))))))
 (.reg [⟨(some 7), none, (.u (some 17) .mv (.b (some 31) false (.bin .add) (.od (.t 7)) (.od (.c (.int .i64 (.ofNat 1))))))⟩])))))))
 (.seq (.reg [⟨(some 3), none, (.u (some 6) .mv (.od (.c (.bool true))))⟩])
 (.ret)))))
def lf73 : LF := ⟨16, 3, lc73, [.t 3], [0,1,2,6,14,15,16,17,18,19,21,8,7,25,9,30]⟩

end Go.Proofs.YtmoihglcdmmmlaaGreatDoor
