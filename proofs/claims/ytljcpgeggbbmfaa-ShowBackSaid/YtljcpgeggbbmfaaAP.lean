/-
  Memory of made instances: stores into it; two of them (layers 11, 13).
-/
import Derived.Test.YtljcpgeggbbmfaaRegN
import Derived.Deep.MidRow
import Derived.Test.YtljcpgeggbbmfaaSH
import Derived.Test.YtljcpgeggbbmfaaReg2
namespace Go.Proofs.Ytljcpgeggbbmfaa
set_option linter.unusedVariables false
set_option linter.unusedSimpArgs false
open Go
section
variable {P : Program} {ops : Array Oper} {Q : Exit → Act → World → Prop} {md : Region.Mode} {S : World → Prop} {need : Nat → Bool}
theorem wpAnyN_take_14 {o0 o1 o2 o3 o4 o5 o6 o7 o8 o9 o10 o11 o12 o13 o14 : Oper} {l : List Oper} {v : Value} {fuel : Nat} {listed : Array Bool} {a : Act} {w : World} (hs : Region.noSelect (o0 :: o1 :: o2 :: o3 :: o4 :: o5 :: o6 :: o7 :: o8 :: o9 :: o10 :: o11 :: o12 :: o13 :: o14 :: l).toArray = true) (hf : Region.free md (o0 :: o1 :: o2 :: o3 :: o4 :: o5 :: o6 :: o7 :: o8 :: o9 :: o10 :: o11 :: o12 :: o13 :: o14 :: l).toArray listed 14 = true) (hr : (Region.ready md (o0 :: o1 :: o2 :: o3 :: o4 :: o5 :: o6 :: o7 :: o8 :: o9 :: o10 :: o11 :: o12 :: o13 :: o14 :: l).toArray listed).contains 14 = true)
    (hn : ((List.range (o0 :: o1 :: o2 :: o3 :: o4 :: o5 :: o6 :: o7 :: o8 :: o9 :: o10 :: o11 :: o12 :: o13 :: o14 :: l).toArray.size).all fun j => need j || j == 14 || waitsFor md (o0 :: o1 :: o2 :: o3 :: o4 :: o5 :: o6 :: o7 :: o8 :: o9 :: o10 :: o11 :: o12 :: o13 :: o14 :: l).toArray 14 (o0 :: o1 :: o2 :: o3 :: o4 :: o5 :: o6 :: o7 :: o8 :: o9 :: o10 :: o11 :: o12 :: o13 :: o14 :: l).toArray.size j) = true) (hQ : ∀ c a w, Q (.panic c) (a.put o14.dst v) w → Q (.panic c) a w) (hy : YieldsIf P (o0 :: o1 :: o2 :: o3 :: o4 :: o5 :: o6 :: o7 :: o8 :: o9 :: o10 :: o11 :: o12 :: o13 :: o14 :: l).toArray S o14 v a) (hS : S w) (hb : ShutBack md (o0 :: o1 :: o2 :: o3 :: o4 :: o5 :: o6 :: o7 :: o8 :: o9 :: o10 :: o11 :: o12 :: o13 :: o14 :: l).toArray listed)
    (h : ShutBack md (o0 :: o1 :: o2 :: o3 :: o4 :: o5 :: o6 :: o7 :: o8 :: o9 :: o10 :: o11 :: o12 :: o13 :: o14 :: l).toArray (listed.setIfInBounds 14 true) → wpAnyN P md (o0 :: o1 :: o2 :: o3 :: o4 :: o5 :: o6 :: o7 :: o8 :: o9 :: o10 :: o11 :: o12 :: o13 :: o14 :: l).toArray Q S need fuel (listed.setIfInBounds 14 true) (a.put o14.dst v) w) : wpAnyN P md (o0 :: o1 :: o2 :: o3 :: o4 :: o5 :: o6 :: o7 :: o8 :: o9 :: o10 :: o11 :: o12 :: o13 :: o14 :: l).toArray Q S need (fuel + 1) listed a w :=
  wpAnyN_take (i := 14) (oi := o14) rfl hs hf hr hn hQ hy hS hb h
theorem wpAnyN_one_14 {o0 o1 o2 o3 o4 o5 o6 o7 o8 o9 o10 o11 o12 o13 o14 : Oper} {l : List Oper} {fuel : Nat} {listed : Array Bool} {a : Act} {w : World} (hr : Region.ready md (o0 :: o1 :: o2 :: o3 :: o4 :: o5 :: o6 :: o7 :: o8 :: o9 :: o10 :: o11 :: o12 :: o13 :: o14 :: l).toArray listed = [14]) (hb : ShutBack md (o0 :: o1 :: o2 :: o3 :: o4 :: o5 :: o6 :: o7 :: o8 :: o9 :: o10 :: o11 :: o12 :: o13 :: o14 :: l).toArray listed)
    (h : ∀ K' : Act → World → Prop, Shut (∀ a w, (need 14 = true → S w) → ((need 14 = true → S w) → ShutBack md (o0 :: o1 :: o2 :: o3 :: o4 :: o5 :: o6 :: o7 :: o8 :: o9 :: o10 :: o11 :: o12 :: o13 :: o14 :: l).toArray (listed.setIfInBounds 14 true) → wpAnyN P md (o0 :: o1 :: o2 :: o3 :: o4 :: o5 :: o6 :: o7 :: o8 :: o9 :: o10 :: o11 :: o12 :: o13 :: o14 :: l).toArray Q S need fuel (listed.setIfInBounds 14 true) a w) → K' a w) → if Region.wanted o14 (yielded (o0 :: o1 :: o2 :: o3 :: o4 :: o5 :: o6 :: o7 :: o8 :: o9 :: o10 :: o11 :: o12 :: o13 :: o14 :: l).toArray a.tmps) = true then Oper.wp P o14 a w K' Q else K' (a.put o14.dst undef) w) :
    wpAnyN P md (o0 :: o1 :: o2 :: o3 :: o4 :: o5 :: o6 :: o7 :: o8 :: o9 :: o10 :: o11 :: o12 :: o13 :: o14 :: l).toArray Q S need (fuel + 1) listed a w := wpAnyN_one (i := 14) (o := o14) hr rfl hb h
theorem wpAnyN_take_15 {o0 o1 o2 o3 o4 o5 o6 o7 o8 o9 o10 o11 o12 o13 o14 o15 : Oper} {l : List Oper} {v : Value} {fuel : Nat} {listed : Array Bool} {a : Act} {w : World} (hs : Region.noSelect (o0 :: o1 :: o2 :: o3 :: o4 :: o5 :: o6 :: o7 :: o8 :: o9 :: o10 :: o11 :: o12 :: o13 :: o14 :: o15 :: l).toArray = true) (hf : Region.free md (o0 :: o1 :: o2 :: o3 :: o4 :: o5 :: o6 :: o7 :: o8 :: o9 :: o10 :: o11 :: o12 :: o13 :: o14 :: o15 :: l).toArray listed 15 = true) (hr : (Region.ready md (o0 :: o1 :: o2 :: o3 :: o4 :: o5 :: o6 :: o7 :: o8 :: o9 :: o10 :: o11 :: o12 :: o13 :: o14 :: o15 :: l).toArray listed).contains 15 = true)
    (hn : ((List.range (o0 :: o1 :: o2 :: o3 :: o4 :: o5 :: o6 :: o7 :: o8 :: o9 :: o10 :: o11 :: o12 :: o13 :: o14 :: o15 :: l).toArray.size).all fun j => need j || j == 15 || waitsFor md (o0 :: o1 :: o2 :: o3 :: o4 :: o5 :: o6 :: o7 :: o8 :: o9 :: o10 :: o11 :: o12 :: o13 :: o14 :: o15 :: l).toArray 15 (o0 :: o1 :: o2 :: o3 :: o4 :: o5 :: o6 :: o7 :: o8 :: o9 :: o10 :: o11 :: o12 :: o13 :: o14 :: o15 :: l).toArray.size j) = true) (hQ : ∀ c a w, Q (.panic c) (a.put o15.dst v) w → Q (.panic c) a w) (hy : YieldsIf P (o0 :: o1 :: o2 :: o3 :: o4 :: o5 :: o6 :: o7 :: o8 :: o9 :: o10 :: o11 :: o12 :: o13 :: o14 :: o15 :: l).toArray S o15 v a) (hS : S w) (hb : ShutBack md (o0 :: o1 :: o2 :: o3 :: o4 :: o5 :: o6 :: o7 :: o8 :: o9 :: o10 :: o11 :: o12 :: o13 :: o14 :: o15 :: l).toArray listed)
    (h : ShutBack md (o0 :: o1 :: o2 :: o3 :: o4 :: o5 :: o6 :: o7 :: o8 :: o9 :: o10 :: o11 :: o12 :: o13 :: o14 :: o15 :: l).toArray (listed.setIfInBounds 15 true) → wpAnyN P md (o0 :: o1 :: o2 :: o3 :: o4 :: o5 :: o6 :: o7 :: o8 :: o9 :: o10 :: o11 :: o12 :: o13 :: o14 :: o15 :: l).toArray Q S need fuel (listed.setIfInBounds 15 true) (a.put o15.dst v) w) : wpAnyN P md (o0 :: o1 :: o2 :: o3 :: o4 :: o5 :: o6 :: o7 :: o8 :: o9 :: o10 :: o11 :: o12 :: o13 :: o14 :: o15 :: l).toArray Q S need (fuel + 1) listed a w :=
  wpAnyN_take (i := 15) (oi := o15) rfl hs hf hr hn hQ hy hS hb h
theorem wpAnyN_one_15 {o0 o1 o2 o3 o4 o5 o6 o7 o8 o9 o10 o11 o12 o13 o14 o15 : Oper} {l : List Oper} {fuel : Nat} {listed : Array Bool} {a : Act} {w : World} (hr : Region.ready md (o0 :: o1 :: o2 :: o3 :: o4 :: o5 :: o6 :: o7 :: o8 :: o9 :: o10 :: o11 :: o12 :: o13 :: o14 :: o15 :: l).toArray listed = [15]) (hb : ShutBack md (o0 :: o1 :: o2 :: o3 :: o4 :: o5 :: o6 :: o7 :: o8 :: o9 :: o10 :: o11 :: o12 :: o13 :: o14 :: o15 :: l).toArray listed)
    (h : ∀ K' : Act → World → Prop, Shut (∀ a w, (need 15 = true → S w) → ((need 15 = true → S w) → ShutBack md (o0 :: o1 :: o2 :: o3 :: o4 :: o5 :: o6 :: o7 :: o8 :: o9 :: o10 :: o11 :: o12 :: o13 :: o14 :: o15 :: l).toArray (listed.setIfInBounds 15 true) → wpAnyN P md (o0 :: o1 :: o2 :: o3 :: o4 :: o5 :: o6 :: o7 :: o8 :: o9 :: o10 :: o11 :: o12 :: o13 :: o14 :: o15 :: l).toArray Q S need fuel (listed.setIfInBounds 15 true) a w) → K' a w) → if Region.wanted o15 (yielded (o0 :: o1 :: o2 :: o3 :: o4 :: o5 :: o6 :: o7 :: o8 :: o9 :: o10 :: o11 :: o12 :: o13 :: o14 :: o15 :: l).toArray a.tmps) = true then Oper.wp P o15 a w K' Q else K' (a.put o15.dst undef) w) :
    wpAnyN P md (o0 :: o1 :: o2 :: o3 :: o4 :: o5 :: o6 :: o7 :: o8 :: o9 :: o10 :: o11 :: o12 :: o13 :: o14 :: o15 :: l).toArray Q S need (fuel + 1) listed a w := wpAnyN_one (i := 15) (o := o15) hr rfl hb h
theorem wpAnyN_take_16 {o0 o1 o2 o3 o4 o5 o6 o7 o8 o9 o10 o11 o12 o13 o14 o15 o16 : Oper} {l : List Oper} {v : Value} {fuel : Nat} {listed : Array Bool} {a : Act} {w : World} (hs : Region.noSelect (o0 :: o1 :: o2 :: o3 :: o4 :: o5 :: o6 :: o7 :: o8 :: o9 :: o10 :: o11 :: o12 :: o13 :: o14 :: o15 :: o16 :: l).toArray = true) (hf : Region.free md (o0 :: o1 :: o2 :: o3 :: o4 :: o5 :: o6 :: o7 :: o8 :: o9 :: o10 :: o11 :: o12 :: o13 :: o14 :: o15 :: o16 :: l).toArray listed 16 = true) (hr : (Region.ready md (o0 :: o1 :: o2 :: o3 :: o4 :: o5 :: o6 :: o7 :: o8 :: o9 :: o10 :: o11 :: o12 :: o13 :: o14 :: o15 :: o16 :: l).toArray listed).contains 16 = true)
    (hn : ((List.range (o0 :: o1 :: o2 :: o3 :: o4 :: o5 :: o6 :: o7 :: o8 :: o9 :: o10 :: o11 :: o12 :: o13 :: o14 :: o15 :: o16 :: l).toArray.size).all fun j => need j || j == 16 || waitsFor md (o0 :: o1 :: o2 :: o3 :: o4 :: o5 :: o6 :: o7 :: o8 :: o9 :: o10 :: o11 :: o12 :: o13 :: o14 :: o15 :: o16 :: l).toArray 16 (o0 :: o1 :: o2 :: o3 :: o4 :: o5 :: o6 :: o7 :: o8 :: o9 :: o10 :: o11 :: o12 :: o13 :: o14 :: o15 :: o16 :: l).toArray.size j) = true) (hQ : ∀ c a w, Q (.panic c) (a.put o16.dst v) w → Q (.panic c) a w) (hy : YieldsIf P (o0 :: o1 :: o2 :: o3 :: o4 :: o5 :: o6 :: o7 :: o8 :: o9 :: o10 :: o11 :: o12 :: o13 :: o14 :: o15 :: o16 :: l).toArray S o16 v a) (hS : S w) (hb : ShutBack md (o0 :: o1 :: o2 :: o3 :: o4 :: o5 :: o6 :: o7 :: o8 :: o9 :: o10 :: o11 :: o12 :: o13 :: o14 :: o15 :: o16 :: l).toArray listed)
    (h : ShutBack md (o0 :: o1 :: o2 :: o3 :: o4 :: o5 :: o6 :: o7 :: o8 :: o9 :: o10 :: o11 :: o12 :: o13 :: o14 :: o15 :: o16 :: l).toArray (listed.setIfInBounds 16 true) → wpAnyN P md (o0 :: o1 :: o2 :: o3 :: o4 :: o5 :: o6 :: o7 :: o8 :: o9 :: o10 :: o11 :: o12 :: o13 :: o14 :: o15 :: o16 :: l).toArray Q S need fuel (listed.setIfInBounds 16 true) (a.put o16.dst v) w) : wpAnyN P md (o0 :: o1 :: o2 :: o3 :: o4 :: o5 :: o6 :: o7 :: o8 :: o9 :: o10 :: o11 :: o12 :: o13 :: o14 :: o15 :: o16 :: l).toArray Q S need (fuel + 1) listed a w :=
  wpAnyN_take (i := 16) (oi := o16) rfl hs hf hr hn hQ hy hS hb h
theorem wpAnyN_one_16 {o0 o1 o2 o3 o4 o5 o6 o7 o8 o9 o10 o11 o12 o13 o14 o15 o16 : Oper} {l : List Oper} {fuel : Nat} {listed : Array Bool} {a : Act} {w : World} (hr : Region.ready md (o0 :: o1 :: o2 :: o3 :: o4 :: o5 :: o6 :: o7 :: o8 :: o9 :: o10 :: o11 :: o12 :: o13 :: o14 :: o15 :: o16 :: l).toArray listed = [16]) (hb : ShutBack md (o0 :: o1 :: o2 :: o3 :: o4 :: o5 :: o6 :: o7 :: o8 :: o9 :: o10 :: o11 :: o12 :: o13 :: o14 :: o15 :: o16 :: l).toArray listed)
    (h : ∀ K' : Act → World → Prop, Shut (∀ a w, (need 16 = true → S w) → ((need 16 = true → S w) → ShutBack md (o0 :: o1 :: o2 :: o3 :: o4 :: o5 :: o6 :: o7 :: o8 :: o9 :: o10 :: o11 :: o12 :: o13 :: o14 :: o15 :: o16 :: l).toArray (listed.setIfInBounds 16 true) → wpAnyN P md (o0 :: o1 :: o2 :: o3 :: o4 :: o5 :: o6 :: o7 :: o8 :: o9 :: o10 :: o11 :: o12 :: o13 :: o14 :: o15 :: o16 :: l).toArray Q S need fuel (listed.setIfInBounds 16 true) a w) → K' a w) → if Region.wanted o16 (yielded (o0 :: o1 :: o2 :: o3 :: o4 :: o5 :: o6 :: o7 :: o8 :: o9 :: o10 :: o11 :: o12 :: o13 :: o14 :: o15 :: o16 :: l).toArray a.tmps) = true then Oper.wp P o16 a w K' Q else K' (a.put o16.dst undef) w) :
    wpAnyN P md (o0 :: o1 :: o2 :: o3 :: o4 :: o5 :: o6 :: o7 :: o8 :: o9 :: o10 :: o11 :: o12 :: o13 :: o14 :: o15 :: o16 :: l).toArray Q S need (fuel + 1) listed a w := wpAnyN_one (i := 16) (o := o16) hr rfl hb h
theorem wpAnyN_take_17 {o0 o1 o2 o3 o4 o5 o6 o7 o8 o9 o10 o11 o12 o13 o14 o15 o16 o17 : Oper} {l : List Oper} {v : Value} {fuel : Nat} {listed : Array Bool} {a : Act} {w : World} (hs : Region.noSelect (o0 :: o1 :: o2 :: o3 :: o4 :: o5 :: o6 :: o7 :: o8 :: o9 :: o10 :: o11 :: o12 :: o13 :: o14 :: o15 :: o16 :: o17 :: l).toArray = true) (hf : Region.free md (o0 :: o1 :: o2 :: o3 :: o4 :: o5 :: o6 :: o7 :: o8 :: o9 :: o10 :: o11 :: o12 :: o13 :: o14 :: o15 :: o16 :: o17 :: l).toArray listed 17 = true) (hr : (Region.ready md (o0 :: o1 :: o2 :: o3 :: o4 :: o5 :: o6 :: o7 :: o8 :: o9 :: o10 :: o11 :: o12 :: o13 :: o14 :: o15 :: o16 :: o17 :: l).toArray listed).contains 17 = true)
    (hn : ((List.range (o0 :: o1 :: o2 :: o3 :: o4 :: o5 :: o6 :: o7 :: o8 :: o9 :: o10 :: o11 :: o12 :: o13 :: o14 :: o15 :: o16 :: o17 :: l).toArray.size).all fun j => need j || j == 17 || waitsFor md (o0 :: o1 :: o2 :: o3 :: o4 :: o5 :: o6 :: o7 :: o8 :: o9 :: o10 :: o11 :: o12 :: o13 :: o14 :: o15 :: o16 :: o17 :: l).toArray 17 (o0 :: o1 :: o2 :: o3 :: o4 :: o5 :: o6 :: o7 :: o8 :: o9 :: o10 :: o11 :: o12 :: o13 :: o14 :: o15 :: o16 :: o17 :: l).toArray.size j) = true) (hQ : ∀ c a w, Q (.panic c) (a.put o17.dst v) w → Q (.panic c) a w) (hy : YieldsIf P (o0 :: o1 :: o2 :: o3 :: o4 :: o5 :: o6 :: o7 :: o8 :: o9 :: o10 :: o11 :: o12 :: o13 :: o14 :: o15 :: o16 :: o17 :: l).toArray S o17 v a) (hS : S w) (hb : ShutBack md (o0 :: o1 :: o2 :: o3 :: o4 :: o5 :: o6 :: o7 :: o8 :: o9 :: o10 :: o11 :: o12 :: o13 :: o14 :: o15 :: o16 :: o17 :: l).toArray listed)
    (h : ShutBack md (o0 :: o1 :: o2 :: o3 :: o4 :: o5 :: o6 :: o7 :: o8 :: o9 :: o10 :: o11 :: o12 :: o13 :: o14 :: o15 :: o16 :: o17 :: l).toArray (listed.setIfInBounds 17 true) → wpAnyN P md (o0 :: o1 :: o2 :: o3 :: o4 :: o5 :: o6 :: o7 :: o8 :: o9 :: o10 :: o11 :: o12 :: o13 :: o14 :: o15 :: o16 :: o17 :: l).toArray Q S need fuel (listed.setIfInBounds 17 true) (a.put o17.dst v) w) : wpAnyN P md (o0 :: o1 :: o2 :: o3 :: o4 :: o5 :: o6 :: o7 :: o8 :: o9 :: o10 :: o11 :: o12 :: o13 :: o14 :: o15 :: o16 :: o17 :: l).toArray Q S need (fuel + 1) listed a w :=
  wpAnyN_take (i := 17) (oi := o17) rfl hs hf hr hn hQ hy hS hb h
theorem wpAnyN_one_17 {o0 o1 o2 o3 o4 o5 o6 o7 o8 o9 o10 o11 o12 o13 o14 o15 o16 o17 : Oper} {l : List Oper} {fuel : Nat} {listed : Array Bool} {a : Act} {w : World} (hr : Region.ready md (o0 :: o1 :: o2 :: o3 :: o4 :: o5 :: o6 :: o7 :: o8 :: o9 :: o10 :: o11 :: o12 :: o13 :: o14 :: o15 :: o16 :: o17 :: l).toArray listed = [17]) (hb : ShutBack md (o0 :: o1 :: o2 :: o3 :: o4 :: o5 :: o6 :: o7 :: o8 :: o9 :: o10 :: o11 :: o12 :: o13 :: o14 :: o15 :: o16 :: o17 :: l).toArray listed)
    (h : ∀ K' : Act → World → Prop, Shut (∀ a w, (need 17 = true → S w) → ((need 17 = true → S w) → ShutBack md (o0 :: o1 :: o2 :: o3 :: o4 :: o5 :: o6 :: o7 :: o8 :: o9 :: o10 :: o11 :: o12 :: o13 :: o14 :: o15 :: o16 :: o17 :: l).toArray (listed.setIfInBounds 17 true) → wpAnyN P md (o0 :: o1 :: o2 :: o3 :: o4 :: o5 :: o6 :: o7 :: o8 :: o9 :: o10 :: o11 :: o12 :: o13 :: o14 :: o15 :: o16 :: o17 :: l).toArray Q S need fuel (listed.setIfInBounds 17 true) a w) → K' a w) → if Region.wanted o17 (yielded (o0 :: o1 :: o2 :: o3 :: o4 :: o5 :: o6 :: o7 :: o8 :: o9 :: o10 :: o11 :: o12 :: o13 :: o14 :: o15 :: o16 :: o17 :: l).toArray a.tmps) = true then Oper.wp P o17 a w K' Q else K' (a.put o17.dst undef) w) :
    wpAnyN P md (o0 :: o1 :: o2 :: o3 :: o4 :: o5 :: o6 :: o7 :: o8 :: o9 :: o10 :: o11 :: o12 :: o13 :: o14 :: o15 :: o16 :: o17 :: l).toArray Q S need (fuel + 1) listed a w := wpAnyN_one (i := 17) (o := o17) hr rfl hb h
theorem wpAnyN_take_18 {o0 o1 o2 o3 o4 o5 o6 o7 o8 o9 o10 o11 o12 o13 o14 o15 o16 o17 o18 : Oper} {l : List Oper} {v : Value} {fuel : Nat} {listed : Array Bool} {a : Act} {w : World} (hs : Region.noSelect (o0 :: o1 :: o2 :: o3 :: o4 :: o5 :: o6 :: o7 :: o8 :: o9 :: o10 :: o11 :: o12 :: o13 :: o14 :: o15 :: o16 :: o17 :: o18 :: l).toArray = true) (hf : Region.free md (o0 :: o1 :: o2 :: o3 :: o4 :: o5 :: o6 :: o7 :: o8 :: o9 :: o10 :: o11 :: o12 :: o13 :: o14 :: o15 :: o16 :: o17 :: o18 :: l).toArray listed 18 = true) (hr : (Region.ready md (o0 :: o1 :: o2 :: o3 :: o4 :: o5 :: o6 :: o7 :: o8 :: o9 :: o10 :: o11 :: o12 :: o13 :: o14 :: o15 :: o16 :: o17 :: o18 :: l).toArray listed).contains 18 = true)
    (hn : ((List.range (o0 :: o1 :: o2 :: o3 :: o4 :: o5 :: o6 :: o7 :: o8 :: o9 :: o10 :: o11 :: o12 :: o13 :: o14 :: o15 :: o16 :: o17 :: o18 :: l).toArray.size).all fun j => need j || j == 18 || waitsFor md (o0 :: o1 :: o2 :: o3 :: o4 :: o5 :: o6 :: o7 :: o8 :: o9 :: o10 :: o11 :: o12 :: o13 :: o14 :: o15 :: o16 :: o17 :: o18 :: l).toArray 18 (o0 :: o1 :: o2 :: o3 :: o4 :: o5 :: o6 :: o7 :: o8 :: o9 :: o10 :: o11 :: o12 :: o13 :: o14 :: o15 :: o16 :: o17 :: o18 :: l).toArray.size j) = true) (hQ : ∀ c a w, Q (.panic c) (a.put o18.dst v) w → Q (.panic c) a w) (hy : YieldsIf P (o0 :: o1 :: o2 :: o3 :: o4 :: o5 :: o6 :: o7 :: o8 :: o9 :: o10 :: o11 :: o12 :: o13 :: o14 :: o15 :: o16 :: o17 :: o18 :: l).toArray S o18 v a) (hS : S w) (hb : ShutBack md (o0 :: o1 :: o2 :: o3 :: o4 :: o5 :: o6 :: o7 :: o8 :: o9 :: o10 :: o11 :: o12 :: o13 :: o14 :: o15 :: o16 :: o17 :: o18 :: l).toArray listed)
    (h : ShutBack md (o0 :: o1 :: o2 :: o3 :: o4 :: o5 :: o6 :: o7 :: o8 :: o9 :: o10 :: o11 :: o12 :: o13 :: o14 :: o15 :: o16 :: o17 :: o18 :: l).toArray (listed.setIfInBounds 18 true) → wpAnyN P md (o0 :: o1 :: o2 :: o3 :: o4 :: o5 :: o6 :: o7 :: o8 :: o9 :: o10 :: o11 :: o12 :: o13 :: o14 :: o15 :: o16 :: o17 :: o18 :: l).toArray Q S need fuel (listed.setIfInBounds 18 true) (a.put o18.dst v) w) : wpAnyN P md (o0 :: o1 :: o2 :: o3 :: o4 :: o5 :: o6 :: o7 :: o8 :: o9 :: o10 :: o11 :: o12 :: o13 :: o14 :: o15 :: o16 :: o17 :: o18 :: l).toArray Q S need (fuel + 1) listed a w :=
  wpAnyN_take (i := 18) (oi := o18) rfl hs hf hr hn hQ hy hS hb h
theorem wpAnyN_one_18 {o0 o1 o2 o3 o4 o5 o6 o7 o8 o9 o10 o11 o12 o13 o14 o15 o16 o17 o18 : Oper} {l : List Oper} {fuel : Nat} {listed : Array Bool} {a : Act} {w : World} (hr : Region.ready md (o0 :: o1 :: o2 :: o3 :: o4 :: o5 :: o6 :: o7 :: o8 :: o9 :: o10 :: o11 :: o12 :: o13 :: o14 :: o15 :: o16 :: o17 :: o18 :: l).toArray listed = [18]) (hb : ShutBack md (o0 :: o1 :: o2 :: o3 :: o4 :: o5 :: o6 :: o7 :: o8 :: o9 :: o10 :: o11 :: o12 :: o13 :: o14 :: o15 :: o16 :: o17 :: o18 :: l).toArray listed)
    (h : ∀ K' : Act → World → Prop, Shut (∀ a w, (need 18 = true → S w) → ((need 18 = true → S w) → ShutBack md (o0 :: o1 :: o2 :: o3 :: o4 :: o5 :: o6 :: o7 :: o8 :: o9 :: o10 :: o11 :: o12 :: o13 :: o14 :: o15 :: o16 :: o17 :: o18 :: l).toArray (listed.setIfInBounds 18 true) → wpAnyN P md (o0 :: o1 :: o2 :: o3 :: o4 :: o5 :: o6 :: o7 :: o8 :: o9 :: o10 :: o11 :: o12 :: o13 :: o14 :: o15 :: o16 :: o17 :: o18 :: l).toArray Q S need fuel (listed.setIfInBounds 18 true) a w) → K' a w) → if Region.wanted o18 (yielded (o0 :: o1 :: o2 :: o3 :: o4 :: o5 :: o6 :: o7 :: o8 :: o9 :: o10 :: o11 :: o12 :: o13 :: o14 :: o15 :: o16 :: o17 :: o18 :: l).toArray a.tmps) = true then Oper.wp P o18 a w K' Q else K' (a.put o18.dst undef) w) :
    wpAnyN P md (o0 :: o1 :: o2 :: o3 :: o4 :: o5 :: o6 :: o7 :: o8 :: o9 :: o10 :: o11 :: o12 :: o13 :: o14 :: o15 :: o16 :: o17 :: o18 :: l).toArray Q S need (fuel + 1) listed a w := wpAnyN_one (i := 18) (o := o18) hr rfl hb h
theorem wpAnyN_take_19 {o0 o1 o2 o3 o4 o5 o6 o7 o8 o9 o10 o11 o12 o13 o14 o15 o16 o17 o18 o19 : Oper} {l : List Oper} {v : Value} {fuel : Nat} {listed : Array Bool} {a : Act} {w : World} (hs : Region.noSelect (o0 :: o1 :: o2 :: o3 :: o4 :: o5 :: o6 :: o7 :: o8 :: o9 :: o10 :: o11 :: o12 :: o13 :: o14 :: o15 :: o16 :: o17 :: o18 :: o19 :: l).toArray = true) (hf : Region.free md (o0 :: o1 :: o2 :: o3 :: o4 :: o5 :: o6 :: o7 :: o8 :: o9 :: o10 :: o11 :: o12 :: o13 :: o14 :: o15 :: o16 :: o17 :: o18 :: o19 :: l).toArray listed 19 = true) (hr : (Region.ready md (o0 :: o1 :: o2 :: o3 :: o4 :: o5 :: o6 :: o7 :: o8 :: o9 :: o10 :: o11 :: o12 :: o13 :: o14 :: o15 :: o16 :: o17 :: o18 :: o19 :: l).toArray listed).contains 19 = true)
    (hn : ((List.range (o0 :: o1 :: o2 :: o3 :: o4 :: o5 :: o6 :: o7 :: o8 :: o9 :: o10 :: o11 :: o12 :: o13 :: o14 :: o15 :: o16 :: o17 :: o18 :: o19 :: l).toArray.size).all fun j => need j || j == 19 || waitsFor md (o0 :: o1 :: o2 :: o3 :: o4 :: o5 :: o6 :: o7 :: o8 :: o9 :: o10 :: o11 :: o12 :: o13 :: o14 :: o15 :: o16 :: o17 :: o18 :: o19 :: l).toArray 19 (o0 :: o1 :: o2 :: o3 :: o4 :: o5 :: o6 :: o7 :: o8 :: o9 :: o10 :: o11 :: o12 :: o13 :: o14 :: o15 :: o16 :: o17 :: o18 :: o19 :: l).toArray.size j) = true) (hQ : ∀ c a w, Q (.panic c) (a.put o19.dst v) w → Q (.panic c) a w) (hy : YieldsIf P (o0 :: o1 :: o2 :: o3 :: o4 :: o5 :: o6 :: o7 :: o8 :: o9 :: o10 :: o11 :: o12 :: o13 :: o14 :: o15 :: o16 :: o17 :: o18 :: o19 :: l).toArray S o19 v a) (hS : S w) (hb : ShutBack md (o0 :: o1 :: o2 :: o3 :: o4 :: o5 :: o6 :: o7 :: o8 :: o9 :: o10 :: o11 :: o12 :: o13 :: o14 :: o15 :: o16 :: o17 :: o18 :: o19 :: l).toArray listed)
    (h : ShutBack md (o0 :: o1 :: o2 :: o3 :: o4 :: o5 :: o6 :: o7 :: o8 :: o9 :: o10 :: o11 :: o12 :: o13 :: o14 :: o15 :: o16 :: o17 :: o18 :: o19 :: l).toArray (listed.setIfInBounds 19 true) → wpAnyN P md (o0 :: o1 :: o2 :: o3 :: o4 :: o5 :: o6 :: o7 :: o8 :: o9 :: o10 :: o11 :: o12 :: o13 :: o14 :: o15 :: o16 :: o17 :: o18 :: o19 :: l).toArray Q S need fuel (listed.setIfInBounds 19 true) (a.put o19.dst v) w) : wpAnyN P md (o0 :: o1 :: o2 :: o3 :: o4 :: o5 :: o6 :: o7 :: o8 :: o9 :: o10 :: o11 :: o12 :: o13 :: o14 :: o15 :: o16 :: o17 :: o18 :: o19 :: l).toArray Q S need (fuel + 1) listed a w :=
  wpAnyN_take (i := 19) (oi := o19) rfl hs hf hr hn hQ hy hS hb h
theorem wpAnyN_one_19 {o0 o1 o2 o3 o4 o5 o6 o7 o8 o9 o10 o11 o12 o13 o14 o15 o16 o17 o18 o19 : Oper} {l : List Oper} {fuel : Nat} {listed : Array Bool} {a : Act} {w : World} (hr : Region.ready md (o0 :: o1 :: o2 :: o3 :: o4 :: o5 :: o6 :: o7 :: o8 :: o9 :: o10 :: o11 :: o12 :: o13 :: o14 :: o15 :: o16 :: o17 :: o18 :: o19 :: l).toArray listed = [19]) (hb : ShutBack md (o0 :: o1 :: o2 :: o3 :: o4 :: o5 :: o6 :: o7 :: o8 :: o9 :: o10 :: o11 :: o12 :: o13 :: o14 :: o15 :: o16 :: o17 :: o18 :: o19 :: l).toArray listed)
    (h : ∀ K' : Act → World → Prop, Shut (∀ a w, (need 19 = true → S w) → ((need 19 = true → S w) → ShutBack md (o0 :: o1 :: o2 :: o3 :: o4 :: o5 :: o6 :: o7 :: o8 :: o9 :: o10 :: o11 :: o12 :: o13 :: o14 :: o15 :: o16 :: o17 :: o18 :: o19 :: l).toArray (listed.setIfInBounds 19 true) → wpAnyN P md (o0 :: o1 :: o2 :: o3 :: o4 :: o5 :: o6 :: o7 :: o8 :: o9 :: o10 :: o11 :: o12 :: o13 :: o14 :: o15 :: o16 :: o17 :: o18 :: o19 :: l).toArray Q S need fuel (listed.setIfInBounds 19 true) a w) → K' a w) → if Region.wanted o19 (yielded (o0 :: o1 :: o2 :: o3 :: o4 :: o5 :: o6 :: o7 :: o8 :: o9 :: o10 :: o11 :: o12 :: o13 :: o14 :: o15 :: o16 :: o17 :: o18 :: o19 :: l).toArray a.tmps) = true then Oper.wp P o19 a w K' Q else K' (a.put o19.dst undef) w) :
    wpAnyN P md (o0 :: o1 :: o2 :: o3 :: o4 :: o5 :: o6 :: o7 :: o8 :: o9 :: o10 :: o11 :: o12 :: o13 :: o14 :: o15 :: o16 :: o17 :: o18 :: o19 :: l).toArray Q S need (fuel + 1) listed a w := wpAnyN_one (i := 19) (o := o19) hr rfl hb h
theorem wpAnyN_take_20 {o0 o1 o2 o3 o4 o5 o6 o7 o8 o9 o10 o11 o12 o13 o14 o15 o16 o17 o18 o19 o20 : Oper} {l : List Oper} {v : Value} {fuel : Nat} {listed : Array Bool} {a : Act} {w : World} (hs : Region.noSelect (o0 :: o1 :: o2 :: o3 :: o4 :: o5 :: o6 :: o7 :: o8 :: o9 :: o10 :: o11 :: o12 :: o13 :: o14 :: o15 :: o16 :: o17 :: o18 :: o19 :: o20 :: l).toArray = true) (hf : Region.free md (o0 :: o1 :: o2 :: o3 :: o4 :: o5 :: o6 :: o7 :: o8 :: o9 :: o10 :: o11 :: o12 :: o13 :: o14 :: o15 :: o16 :: o17 :: o18 :: o19 :: o20 :: l).toArray listed 20 = true) (hr : (Region.ready md (o0 :: o1 :: o2 :: o3 :: o4 :: o5 :: o6 :: o7 :: o8 :: o9 :: o10 :: o11 :: o12 :: o13 :: o14 :: o15 :: o16 :: o17 :: o18 :: o19 :: o20 :: l).toArray listed).contains 20 = true)
    (hn : ((List.range (o0 :: o1 :: o2 :: o3 :: o4 :: o5 :: o6 :: o7 :: o8 :: o9 :: o10 :: o11 :: o12 :: o13 :: o14 :: o15 :: o16 :: o17 :: o18 :: o19 :: o20 :: l).toArray.size).all fun j => need j || j == 20 || waitsFor md (o0 :: o1 :: o2 :: o3 :: o4 :: o5 :: o6 :: o7 :: o8 :: o9 :: o10 :: o11 :: o12 :: o13 :: o14 :: o15 :: o16 :: o17 :: o18 :: o19 :: o20 :: l).toArray 20 (o0 :: o1 :: o2 :: o3 :: o4 :: o5 :: o6 :: o7 :: o8 :: o9 :: o10 :: o11 :: o12 :: o13 :: o14 :: o15 :: o16 :: o17 :: o18 :: o19 :: o20 :: l).toArray.size j) = true) (hQ : ∀ c a w, Q (.panic c) (a.put o20.dst v) w → Q (.panic c) a w) (hy : YieldsIf P (o0 :: o1 :: o2 :: o3 :: o4 :: o5 :: o6 :: o7 :: o8 :: o9 :: o10 :: o11 :: o12 :: o13 :: o14 :: o15 :: o16 :: o17 :: o18 :: o19 :: o20 :: l).toArray S o20 v a) (hS : S w) (hb : ShutBack md (o0 :: o1 :: o2 :: o3 :: o4 :: o5 :: o6 :: o7 :: o8 :: o9 :: o10 :: o11 :: o12 :: o13 :: o14 :: o15 :: o16 :: o17 :: o18 :: o19 :: o20 :: l).toArray listed)
    (h : ShutBack md (o0 :: o1 :: o2 :: o3 :: o4 :: o5 :: o6 :: o7 :: o8 :: o9 :: o10 :: o11 :: o12 :: o13 :: o14 :: o15 :: o16 :: o17 :: o18 :: o19 :: o20 :: l).toArray (listed.setIfInBounds 20 true) → wpAnyN P md (o0 :: o1 :: o2 :: o3 :: o4 :: o5 :: o6 :: o7 :: o8 :: o9 :: o10 :: o11 :: o12 :: o13 :: o14 :: o15 :: o16 :: o17 :: o18 :: o19 :: o20 :: l).toArray Q S need fuel (listed.setIfInBounds 20 true) (a.put o20.dst v) w) : wpAnyN P md (o0 :: o1 :: o2 :: o3 :: o4 :: o5 :: o6 :: o7 :: o8 :: o9 :: o10 :: o11 :: o12 :: o13 :: o14 :: o15 :: o16 :: o17 :: o18 :: o19 :: o20 :: l).toArray Q S need (fuel + 1) listed a w :=
  wpAnyN_take (i := 20) (oi := o20) rfl hs hf hr hn hQ hy hS hb h
theorem wpAnyN_one_20 {o0 o1 o2 o3 o4 o5 o6 o7 o8 o9 o10 o11 o12 o13 o14 o15 o16 o17 o18 o19 o20 : Oper} {l : List Oper} {fuel : Nat} {listed : Array Bool} {a : Act} {w : World} (hr : Region.ready md (o0 :: o1 :: o2 :: o3 :: o4 :: o5 :: o6 :: o7 :: o8 :: o9 :: o10 :: o11 :: o12 :: o13 :: o14 :: o15 :: o16 :: o17 :: o18 :: o19 :: o20 :: l).toArray listed = [20]) (hb : ShutBack md (o0 :: o1 :: o2 :: o3 :: o4 :: o5 :: o6 :: o7 :: o8 :: o9 :: o10 :: o11 :: o12 :: o13 :: o14 :: o15 :: o16 :: o17 :: o18 :: o19 :: o20 :: l).toArray listed)
    (h : ∀ K' : Act → World → Prop, Shut (∀ a w, (need 20 = true → S w) → ((need 20 = true → S w) → ShutBack md (o0 :: o1 :: o2 :: o3 :: o4 :: o5 :: o6 :: o7 :: o8 :: o9 :: o10 :: o11 :: o12 :: o13 :: o14 :: o15 :: o16 :: o17 :: o18 :: o19 :: o20 :: l).toArray (listed.setIfInBounds 20 true) → wpAnyN P md (o0 :: o1 :: o2 :: o3 :: o4 :: o5 :: o6 :: o7 :: o8 :: o9 :: o10 :: o11 :: o12 :: o13 :: o14 :: o15 :: o16 :: o17 :: o18 :: o19 :: o20 :: l).toArray Q S need fuel (listed.setIfInBounds 20 true) a w) → K' a w) → if Region.wanted o20 (yielded (o0 :: o1 :: o2 :: o3 :: o4 :: o5 :: o6 :: o7 :: o8 :: o9 :: o10 :: o11 :: o12 :: o13 :: o14 :: o15 :: o16 :: o17 :: o18 :: o19 :: o20 :: l).toArray a.tmps) = true then Oper.wp P o20 a w K' Q else K' (a.put o20.dst undef) w) :
    wpAnyN P md (o0 :: o1 :: o2 :: o3 :: o4 :: o5 :: o6 :: o7 :: o8 :: o9 :: o10 :: o11 :: o12 :: o13 :: o14 :: o15 :: o16 :: o17 :: o18 :: o19 :: o20 :: l).toArray Q S need (fuel + 1) listed a w := wpAnyN_one (i := 20) (o := o20) hr rfl hb h
theorem wpAnyN_take_21 {o0 o1 o2 o3 o4 o5 o6 o7 o8 o9 o10 o11 o12 o13 o14 o15 o16 o17 o18 o19 o20 o21 : Oper} {l : List Oper} {v : Value} {fuel : Nat} {listed : Array Bool} {a : Act} {w : World} (hs : Region.noSelect (o0 :: o1 :: o2 :: o3 :: o4 :: o5 :: o6 :: o7 :: o8 :: o9 :: o10 :: o11 :: o12 :: o13 :: o14 :: o15 :: o16 :: o17 :: o18 :: o19 :: o20 :: o21 :: l).toArray = true) (hf : Region.free md (o0 :: o1 :: o2 :: o3 :: o4 :: o5 :: o6 :: o7 :: o8 :: o9 :: o10 :: o11 :: o12 :: o13 :: o14 :: o15 :: o16 :: o17 :: o18 :: o19 :: o20 :: o21 :: l).toArray listed 21 = true) (hr : (Region.ready md (o0 :: o1 :: o2 :: o3 :: o4 :: o5 :: o6 :: o7 :: o8 :: o9 :: o10 :: o11 :: o12 :: o13 :: o14 :: o15 :: o16 :: o17 :: o18 :: o19 :: o20 :: o21 :: l).toArray listed).contains 21 = true)
    (hn : ((List.range (o0 :: o1 :: o2 :: o3 :: o4 :: o5 :: o6 :: o7 :: o8 :: o9 :: o10 :: o11 :: o12 :: o13 :: o14 :: o15 :: o16 :: o17 :: o18 :: o19 :: o20 :: o21 :: l).toArray.size).all fun j => need j || j == 21 || waitsFor md (o0 :: o1 :: o2 :: o3 :: o4 :: o5 :: o6 :: o7 :: o8 :: o9 :: o10 :: o11 :: o12 :: o13 :: o14 :: o15 :: o16 :: o17 :: o18 :: o19 :: o20 :: o21 :: l).toArray 21 (o0 :: o1 :: o2 :: o3 :: o4 :: o5 :: o6 :: o7 :: o8 :: o9 :: o10 :: o11 :: o12 :: o13 :: o14 :: o15 :: o16 :: o17 :: o18 :: o19 :: o20 :: o21 :: l).toArray.size j) = true) (hQ : ∀ c a w, Q (.panic c) (a.put o21.dst v) w → Q (.panic c) a w) (hy : YieldsIf P (o0 :: o1 :: o2 :: o3 :: o4 :: o5 :: o6 :: o7 :: o8 :: o9 :: o10 :: o11 :: o12 :: o13 :: o14 :: o15 :: o16 :: o17 :: o18 :: o19 :: o20 :: o21 :: l).toArray S o21 v a) (hS : S w) (hb : ShutBack md (o0 :: o1 :: o2 :: o3 :: o4 :: o5 :: o6 :: o7 :: o8 :: o9 :: o10 :: o11 :: o12 :: o13 :: o14 :: o15 :: o16 :: o17 :: o18 :: o19 :: o20 :: o21 :: l).toArray listed)
    (h : ShutBack md (o0 :: o1 :: o2 :: o3 :: o4 :: o5 :: o6 :: o7 :: o8 :: o9 :: o10 :: o11 :: o12 :: o13 :: o14 :: o15 :: o16 :: o17 :: o18 :: o19 :: o20 :: o21 :: l).toArray (listed.setIfInBounds 21 true) → wpAnyN P md (o0 :: o1 :: o2 :: o3 :: o4 :: o5 :: o6 :: o7 :: o8 :: o9 :: o10 :: o11 :: o12 :: o13 :: o14 :: o15 :: o16 :: o17 :: o18 :: o19 :: o20 :: o21 :: l).toArray Q S need fuel (listed.setIfInBounds 21 true) (a.put o21.dst v) w) : wpAnyN P md (o0 :: o1 :: o2 :: o3 :: o4 :: o5 :: o6 :: o7 :: o8 :: o9 :: o10 :: o11 :: o12 :: o13 :: o14 :: o15 :: o16 :: o17 :: o18 :: o19 :: o20 :: o21 :: l).toArray Q S need (fuel + 1) listed a w :=
  wpAnyN_take (i := 21) (oi := o21) rfl hs hf hr hn hQ hy hS hb h
theorem wpAnyN_one_21 {o0 o1 o2 o3 o4 o5 o6 o7 o8 o9 o10 o11 o12 o13 o14 o15 o16 o17 o18 o19 o20 o21 : Oper} {l : List Oper} {fuel : Nat} {listed : Array Bool} {a : Act} {w : World} (hr : Region.ready md (o0 :: o1 :: o2 :: o3 :: o4 :: o5 :: o6 :: o7 :: o8 :: o9 :: o10 :: o11 :: o12 :: o13 :: o14 :: o15 :: o16 :: o17 :: o18 :: o19 :: o20 :: o21 :: l).toArray listed = [21]) (hb : ShutBack md (o0 :: o1 :: o2 :: o3 :: o4 :: o5 :: o6 :: o7 :: o8 :: o9 :: o10 :: o11 :: o12 :: o13 :: o14 :: o15 :: o16 :: o17 :: o18 :: o19 :: o20 :: o21 :: l).toArray listed)
    (h : ∀ K' : Act → World → Prop, Shut (∀ a w, (need 21 = true → S w) → ((need 21 = true → S w) → ShutBack md (o0 :: o1 :: o2 :: o3 :: o4 :: o5 :: o6 :: o7 :: o8 :: o9 :: o10 :: o11 :: o12 :: o13 :: o14 :: o15 :: o16 :: o17 :: o18 :: o19 :: o20 :: o21 :: l).toArray (listed.setIfInBounds 21 true) → wpAnyN P md (o0 :: o1 :: o2 :: o3 :: o4 :: o5 :: o6 :: o7 :: o8 :: o9 :: o10 :: o11 :: o12 :: o13 :: o14 :: o15 :: o16 :: o17 :: o18 :: o19 :: o20 :: o21 :: l).toArray Q S need fuel (listed.setIfInBounds 21 true) a w) → K' a w) → if Region.wanted o21 (yielded (o0 :: o1 :: o2 :: o3 :: o4 :: o5 :: o6 :: o7 :: o8 :: o9 :: o10 :: o11 :: o12 :: o13 :: o14 :: o15 :: o16 :: o17 :: o18 :: o19 :: o20 :: o21 :: l).toArray a.tmps) = true then Oper.wp P o21 a w K' Q else K' (a.put o21.dst undef) w) :
    wpAnyN P md (o0 :: o1 :: o2 :: o3 :: o4 :: o5 :: o6 :: o7 :: o8 :: o9 :: o10 :: o11 :: o12 :: o13 :: o14 :: o15 :: o16 :: o17 :: o18 :: o19 :: o20 :: o21 :: l).toArray Q S need (fuel + 1) listed a w := wpAnyN_one (i := 21) (o := o21) hr rfl hb h
theorem wpAnyN_take_22 {o0 o1 o2 o3 o4 o5 o6 o7 o8 o9 o10 o11 o12 o13 o14 o15 o16 o17 o18 o19 o20 o21 o22 : Oper} {l : List Oper} {v : Value} {fuel : Nat} {listed : Array Bool} {a : Act} {w : World} (hs : Region.noSelect (o0 :: o1 :: o2 :: o3 :: o4 :: o5 :: o6 :: o7 :: o8 :: o9 :: o10 :: o11 :: o12 :: o13 :: o14 :: o15 :: o16 :: o17 :: o18 :: o19 :: o20 :: o21 :: o22 :: l).toArray = true) (hf : Region.free md (o0 :: o1 :: o2 :: o3 :: o4 :: o5 :: o6 :: o7 :: o8 :: o9 :: o10 :: o11 :: o12 :: o13 :: o14 :: o15 :: o16 :: o17 :: o18 :: o19 :: o20 :: o21 :: o22 :: l).toArray listed 22 = true) (hr : (Region.ready md (o0 :: o1 :: o2 :: o3 :: o4 :: o5 :: o6 :: o7 :: o8 :: o9 :: o10 :: o11 :: o12 :: o13 :: o14 :: o15 :: o16 :: o17 :: o18 :: o19 :: o20 :: o21 :: o22 :: l).toArray listed).contains 22 = true)
    (hn : ((List.range (o0 :: o1 :: o2 :: o3 :: o4 :: o5 :: o6 :: o7 :: o8 :: o9 :: o10 :: o11 :: o12 :: o13 :: o14 :: o15 :: o16 :: o17 :: o18 :: o19 :: o20 :: o21 :: o22 :: l).toArray.size).all fun j => need j || j == 22 || waitsFor md (o0 :: o1 :: o2 :: o3 :: o4 :: o5 :: o6 :: o7 :: o8 :: o9 :: o10 :: o11 :: o12 :: o13 :: o14 :: o15 :: o16 :: o17 :: o18 :: o19 :: o20 :: o21 :: o22 :: l).toArray 22 (o0 :: o1 :: o2 :: o3 :: o4 :: o5 :: o6 :: o7 :: o8 :: o9 :: o10 :: o11 :: o12 :: o13 :: o14 :: o15 :: o16 :: o17 :: o18 :: o19 :: o20 :: o21 :: o22 :: l).toArray.size j) = true) (hQ : ∀ c a w, Q (.panic c) (a.put o22.dst v) w → Q (.panic c) a w) (hy : YieldsIf P (o0 :: o1 :: o2 :: o3 :: o4 :: o5 :: o6 :: o7 :: o8 :: o9 :: o10 :: o11 :: o12 :: o13 :: o14 :: o15 :: o16 :: o17 :: o18 :: o19 :: o20 :: o21 :: o22 :: l).toArray S o22 v a) (hS : S w) (hb : ShutBack md (o0 :: o1 :: o2 :: o3 :: o4 :: o5 :: o6 :: o7 :: o8 :: o9 :: o10 :: o11 :: o12 :: o13 :: o14 :: o15 :: o16 :: o17 :: o18 :: o19 :: o20 :: o21 :: o22 :: l).toArray listed)
    (h : ShutBack md (o0 :: o1 :: o2 :: o3 :: o4 :: o5 :: o6 :: o7 :: o8 :: o9 :: o10 :: o11 :: o12 :: o13 :: o14 :: o15 :: o16 :: o17 :: o18 :: o19 :: o20 :: o21 :: o22 :: l).toArray (listed.setIfInBounds 22 true) → wpAnyN P md (o0 :: o1 :: o2 :: o3 :: o4 :: o5 :: o6 :: o7 :: o8 :: o9 :: o10 :: o11 :: o12 :: o13 :: o14 :: o15 :: o16 :: o17 :: o18 :: o19 :: o20 :: o21 :: o22 :: l).toArray Q S need fuel (listed.setIfInBounds 22 true) (a.put o22.dst v) w) : wpAnyN P md (o0 :: o1 :: o2 :: o3 :: o4 :: o5 :: o6 :: o7 :: o8 :: o9 :: o10 :: o11 :: o12 :: o13 :: o14 :: o15 :: o16 :: o17 :: o18 :: o19 :: o20 :: o21 :: o22 :: l).toArray Q S need (fuel + 1) listed a w :=
  wpAnyN_take (i := 22) (oi := o22) rfl hs hf hr hn hQ hy hS hb h
theorem wpAnyN_one_22 {o0 o1 o2 o3 o4 o5 o6 o7 o8 o9 o10 o11 o12 o13 o14 o15 o16 o17 o18 o19 o20 o21 o22 : Oper} {l : List Oper} {fuel : Nat} {listed : Array Bool} {a : Act} {w : World} (hr : Region.ready md (o0 :: o1 :: o2 :: o3 :: o4 :: o5 :: o6 :: o7 :: o8 :: o9 :: o10 :: o11 :: o12 :: o13 :: o14 :: o15 :: o16 :: o17 :: o18 :: o19 :: o20 :: o21 :: o22 :: l).toArray listed = [22]) (hb : ShutBack md (o0 :: o1 :: o2 :: o3 :: o4 :: o5 :: o6 :: o7 :: o8 :: o9 :: o10 :: o11 :: o12 :: o13 :: o14 :: o15 :: o16 :: o17 :: o18 :: o19 :: o20 :: o21 :: o22 :: l).toArray listed)
    (h : ∀ K' : Act → World → Prop, Shut (∀ a w, (need 22 = true → S w) → ((need 22 = true → S w) → ShutBack md (o0 :: o1 :: o2 :: o3 :: o4 :: o5 :: o6 :: o7 :: o8 :: o9 :: o10 :: o11 :: o12 :: o13 :: o14 :: o15 :: o16 :: o17 :: o18 :: o19 :: o20 :: o21 :: o22 :: l).toArray (listed.setIfInBounds 22 true) → wpAnyN P md (o0 :: o1 :: o2 :: o3 :: o4 :: o5 :: o6 :: o7 :: o8 :: o9 :: o10 :: o11 :: o12 :: o13 :: o14 :: o15 :: o16 :: o17 :: o18 :: o19 :: o20 :: o21 :: o22 :: l).toArray Q S need fuel (listed.setIfInBounds 22 true) a w) → K' a w) → if Region.wanted o22 (yielded (o0 :: o1 :: o2 :: o3 :: o4 :: o5 :: o6 :: o7 :: o8 :: o9 :: o10 :: o11 :: o12 :: o13 :: o14 :: o15 :: o16 :: o17 :: o18 :: o19 :: o20 :: o21 :: o22 :: l).toArray a.tmps) = true then Oper.wp P o22 a w K' Q else K' (a.put o22.dst undef) w) :
    wpAnyN P md (o0 :: o1 :: o2 :: o3 :: o4 :: o5 :: o6 :: o7 :: o8 :: o9 :: o10 :: o11 :: o12 :: o13 :: o14 :: o15 :: o16 :: o17 :: o18 :: o19 :: o20 :: o21 :: o22 :: l).toArray Q S need (fuel + 1) listed a w := wpAnyN_one (i := 22) (o := o22) hr rfl hb h
theorem wpAnyN_take_23 {o0 o1 o2 o3 o4 o5 o6 o7 o8 o9 o10 o11 o12 o13 o14 o15 o16 o17 o18 o19 o20 o21 o22 o23 : Oper} {l : List Oper} {v : Value} {fuel : Nat} {listed : Array Bool} {a : Act} {w : World} (hs : Region.noSelect (o0 :: o1 :: o2 :: o3 :: o4 :: o5 :: o6 :: o7 :: o8 :: o9 :: o10 :: o11 :: o12 :: o13 :: o14 :: o15 :: o16 :: o17 :: o18 :: o19 :: o20 :: o21 :: o22 :: o23 :: l).toArray = true) (hf : Region.free md (o0 :: o1 :: o2 :: o3 :: o4 :: o5 :: o6 :: o7 :: o8 :: o9 :: o10 :: o11 :: o12 :: o13 :: o14 :: o15 :: o16 :: o17 :: o18 :: o19 :: o20 :: o21 :: o22 :: o23 :: l).toArray listed 23 = true) (hr : (Region.ready md (o0 :: o1 :: o2 :: o3 :: o4 :: o5 :: o6 :: o7 :: o8 :: o9 :: o10 :: o11 :: o12 :: o13 :: o14 :: o15 :: o16 :: o17 :: o18 :: o19 :: o20 :: o21 :: o22 :: o23 :: l).toArray listed).contains 23 = true)
    (hn : ((List.range (o0 :: o1 :: o2 :: o3 :: o4 :: o5 :: o6 :: o7 :: o8 :: o9 :: o10 :: o11 :: o12 :: o13 :: o14 :: o15 :: o16 :: o17 :: o18 :: o19 :: o20 :: o21 :: o22 :: o23 :: l).toArray.size).all fun j => need j || j == 23 || waitsFor md (o0 :: o1 :: o2 :: o3 :: o4 :: o5 :: o6 :: o7 :: o8 :: o9 :: o10 :: o11 :: o12 :: o13 :: o14 :: o15 :: o16 :: o17 :: o18 :: o19 :: o20 :: o21 :: o22 :: o23 :: l).toArray 23 (o0 :: o1 :: o2 :: o3 :: o4 :: o5 :: o6 :: o7 :: o8 :: o9 :: o10 :: o11 :: o12 :: o13 :: o14 :: o15 :: o16 :: o17 :: o18 :: o19 :: o20 :: o21 :: o22 :: o23 :: l).toArray.size j) = true) (hQ : ∀ c a w, Q (.panic c) (a.put o23.dst v) w → Q (.panic c) a w) (hy : YieldsIf P (o0 :: o1 :: o2 :: o3 :: o4 :: o5 :: o6 :: o7 :: o8 :: o9 :: o10 :: o11 :: o12 :: o13 :: o14 :: o15 :: o16 :: o17 :: o18 :: o19 :: o20 :: o21 :: o22 :: o23 :: l).toArray S o23 v a) (hS : S w) (hb : ShutBack md (o0 :: o1 :: o2 :: o3 :: o4 :: o5 :: o6 :: o7 :: o8 :: o9 :: o10 :: o11 :: o12 :: o13 :: o14 :: o15 :: o16 :: o17 :: o18 :: o19 :: o20 :: o21 :: o22 :: o23 :: l).toArray listed)
    (h : ShutBack md (o0 :: o1 :: o2 :: o3 :: o4 :: o5 :: o6 :: o7 :: o8 :: o9 :: o10 :: o11 :: o12 :: o13 :: o14 :: o15 :: o16 :: o17 :: o18 :: o19 :: o20 :: o21 :: o22 :: o23 :: l).toArray (listed.setIfInBounds 23 true) → wpAnyN P md (o0 :: o1 :: o2 :: o3 :: o4 :: o5 :: o6 :: o7 :: o8 :: o9 :: o10 :: o11 :: o12 :: o13 :: o14 :: o15 :: o16 :: o17 :: o18 :: o19 :: o20 :: o21 :: o22 :: o23 :: l).toArray Q S need fuel (listed.setIfInBounds 23 true) (a.put o23.dst v) w) : wpAnyN P md (o0 :: o1 :: o2 :: o3 :: o4 :: o5 :: o6 :: o7 :: o8 :: o9 :: o10 :: o11 :: o12 :: o13 :: o14 :: o15 :: o16 :: o17 :: o18 :: o19 :: o20 :: o21 :: o22 :: o23 :: l).toArray Q S need (fuel + 1) listed a w :=
  wpAnyN_take (i := 23) (oi := o23) rfl hs hf hr hn hQ hy hS hb h
theorem wpAnyN_one_23 {o0 o1 o2 o3 o4 o5 o6 o7 o8 o9 o10 o11 o12 o13 o14 o15 o16 o17 o18 o19 o20 o21 o22 o23 : Oper} {l : List Oper} {fuel : Nat} {listed : Array Bool} {a : Act} {w : World} (hr : Region.ready md (o0 :: o1 :: o2 :: o3 :: o4 :: o5 :: o6 :: o7 :: o8 :: o9 :: o10 :: o11 :: o12 :: o13 :: o14 :: o15 :: o16 :: o17 :: o18 :: o19 :: o20 :: o21 :: o22 :: o23 :: l).toArray listed = [23]) (hb : ShutBack md (o0 :: o1 :: o2 :: o3 :: o4 :: o5 :: o6 :: o7 :: o8 :: o9 :: o10 :: o11 :: o12 :: o13 :: o14 :: o15 :: o16 :: o17 :: o18 :: o19 :: o20 :: o21 :: o22 :: o23 :: l).toArray listed)
    (h : ∀ K' : Act → World → Prop, Shut (∀ a w, (need 23 = true → S w) → ((need 23 = true → S w) → ShutBack md (o0 :: o1 :: o2 :: o3 :: o4 :: o5 :: o6 :: o7 :: o8 :: o9 :: o10 :: o11 :: o12 :: o13 :: o14 :: o15 :: o16 :: o17 :: o18 :: o19 :: o20 :: o21 :: o22 :: o23 :: l).toArray (listed.setIfInBounds 23 true) → wpAnyN P md (o0 :: o1 :: o2 :: o3 :: o4 :: o5 :: o6 :: o7 :: o8 :: o9 :: o10 :: o11 :: o12 :: o13 :: o14 :: o15 :: o16 :: o17 :: o18 :: o19 :: o20 :: o21 :: o22 :: o23 :: l).toArray Q S need fuel (listed.setIfInBounds 23 true) a w) → K' a w) → if Region.wanted o23 (yielded (o0 :: o1 :: o2 :: o3 :: o4 :: o5 :: o6 :: o7 :: o8 :: o9 :: o10 :: o11 :: o12 :: o13 :: o14 :: o15 :: o16 :: o17 :: o18 :: o19 :: o20 :: o21 :: o22 :: o23 :: l).toArray a.tmps) = true then Oper.wp P o23 a w K' Q else K' (a.put o23.dst undef) w) :
    wpAnyN P md (o0 :: o1 :: o2 :: o3 :: o4 :: o5 :: o6 :: o7 :: o8 :: o9 :: o10 :: o11 :: o12 :: o13 :: o14 :: o15 :: o16 :: o17 :: o18 :: o19 :: o20 :: o21 :: o22 :: o23 :: l).toArray Q S need (fuel + 1) listed a w := wpAnyN_one (i := 23) (o := o23) hr rfl hb h
theorem wpAnyN_take_24 {o0 o1 o2 o3 o4 o5 o6 o7 o8 o9 o10 o11 o12 o13 o14 o15 o16 o17 o18 o19 o20 o21 o22 o23 o24 : Oper} {l : List Oper} {v : Value} {fuel : Nat} {listed : Array Bool} {a : Act} {w : World} (hs : Region.noSelect (o0 :: o1 :: o2 :: o3 :: o4 :: o5 :: o6 :: o7 :: o8 :: o9 :: o10 :: o11 :: o12 :: o13 :: o14 :: o15 :: o16 :: o17 :: o18 :: o19 :: o20 :: o21 :: o22 :: o23 :: o24 :: l).toArray = true) (hf : Region.free md (o0 :: o1 :: o2 :: o3 :: o4 :: o5 :: o6 :: o7 :: o8 :: o9 :: o10 :: o11 :: o12 :: o13 :: o14 :: o15 :: o16 :: o17 :: o18 :: o19 :: o20 :: o21 :: o22 :: o23 :: o24 :: l).toArray listed 24 = true) (hr : (Region.ready md (o0 :: o1 :: o2 :: o3 :: o4 :: o5 :: o6 :: o7 :: o8 :: o9 :: o10 :: o11 :: o12 :: o13 :: o14 :: o15 :: o16 :: o17 :: o18 :: o19 :: o20 :: o21 :: o22 :: o23 :: o24 :: l).toArray listed).contains 24 = true)
    (hn : ((List.range (o0 :: o1 :: o2 :: o3 :: o4 :: o5 :: o6 :: o7 :: o8 :: o9 :: o10 :: o11 :: o12 :: o13 :: o14 :: o15 :: o16 :: o17 :: o18 :: o19 :: o20 :: o21 :: o22 :: o23 :: o24 :: l).toArray.size).all fun j => need j || j == 24 || waitsFor md (o0 :: o1 :: o2 :: o3 :: o4 :: o5 :: o6 :: o7 :: o8 :: o9 :: o10 :: o11 :: o12 :: o13 :: o14 :: o15 :: o16 :: o17 :: o18 :: o19 :: o20 :: o21 :: o22 :: o23 :: o24 :: l).toArray 24 (o0 :: o1 :: o2 :: o3 :: o4 :: o5 :: o6 :: o7 :: o8 :: o9 :: o10 :: o11 :: o12 :: o13 :: o14 :: o15 :: o16 :: o17 :: o18 :: o19 :: o20 :: o21 :: o22 :: o23 :: o24 :: l).toArray.size j) = true) (hQ : ∀ c a w, Q (.panic c) (a.put o24.dst v) w → Q (.panic c) a w) (hy : YieldsIf P (o0 :: o1 :: o2 :: o3 :: o4 :: o5 :: o6 :: o7 :: o8 :: o9 :: o10 :: o11 :: o12 :: o13 :: o14 :: o15 :: o16 :: o17 :: o18 :: o19 :: o20 :: o21 :: o22 :: o23 :: o24 :: l).toArray S o24 v a) (hS : S w) (hb : ShutBack md (o0 :: o1 :: o2 :: o3 :: o4 :: o5 :: o6 :: o7 :: o8 :: o9 :: o10 :: o11 :: o12 :: o13 :: o14 :: o15 :: o16 :: o17 :: o18 :: o19 :: o20 :: o21 :: o22 :: o23 :: o24 :: l).toArray listed)
    (h : ShutBack md (o0 :: o1 :: o2 :: o3 :: o4 :: o5 :: o6 :: o7 :: o8 :: o9 :: o10 :: o11 :: o12 :: o13 :: o14 :: o15 :: o16 :: o17 :: o18 :: o19 :: o20 :: o21 :: o22 :: o23 :: o24 :: l).toArray (listed.setIfInBounds 24 true) → wpAnyN P md (o0 :: o1 :: o2 :: o3 :: o4 :: o5 :: o6 :: o7 :: o8 :: o9 :: o10 :: o11 :: o12 :: o13 :: o14 :: o15 :: o16 :: o17 :: o18 :: o19 :: o20 :: o21 :: o22 :: o23 :: o24 :: l).toArray Q S need fuel (listed.setIfInBounds 24 true) (a.put o24.dst v) w) : wpAnyN P md (o0 :: o1 :: o2 :: o3 :: o4 :: o5 :: o6 :: o7 :: o8 :: o9 :: o10 :: o11 :: o12 :: o13 :: o14 :: o15 :: o16 :: o17 :: o18 :: o19 :: o20 :: o21 :: o22 :: o23 :: o24 :: l).toArray Q S need (fuel + 1) listed a w :=
  wpAnyN_take (i := 24) (oi := o24) rfl hs hf hr hn hQ hy hS hb h
theorem wpAnyN_one_24 {o0 o1 o2 o3 o4 o5 o6 o7 o8 o9 o10 o11 o12 o13 o14 o15 o16 o17 o18 o19 o20 o21 o22 o23 o24 : Oper} {l : List Oper} {fuel : Nat} {listed : Array Bool} {a : Act} {w : World} (hr : Region.ready md (o0 :: o1 :: o2 :: o3 :: o4 :: o5 :: o6 :: o7 :: o8 :: o9 :: o10 :: o11 :: o12 :: o13 :: o14 :: o15 :: o16 :: o17 :: o18 :: o19 :: o20 :: o21 :: o22 :: o23 :: o24 :: l).toArray listed = [24]) (hb : ShutBack md (o0 :: o1 :: o2 :: o3 :: o4 :: o5 :: o6 :: o7 :: o8 :: o9 :: o10 :: o11 :: o12 :: o13 :: o14 :: o15 :: o16 :: o17 :: o18 :: o19 :: o20 :: o21 :: o22 :: o23 :: o24 :: l).toArray listed)
    (h : ∀ K' : Act → World → Prop, Shut (∀ a w, (need 24 = true → S w) → ((need 24 = true → S w) → ShutBack md (o0 :: o1 :: o2 :: o3 :: o4 :: o5 :: o6 :: o7 :: o8 :: o9 :: o10 :: o11 :: o12 :: o13 :: o14 :: o15 :: o16 :: o17 :: o18 :: o19 :: o20 :: o21 :: o22 :: o23 :: o24 :: l).toArray (listed.setIfInBounds 24 true) → wpAnyN P md (o0 :: o1 :: o2 :: o3 :: o4 :: o5 :: o6 :: o7 :: o8 :: o9 :: o10 :: o11 :: o12 :: o13 :: o14 :: o15 :: o16 :: o17 :: o18 :: o19 :: o20 :: o21 :: o22 :: o23 :: o24 :: l).toArray Q S need fuel (listed.setIfInBounds 24 true) a w) → K' a w) → if Region.wanted o24 (yielded (o0 :: o1 :: o2 :: o3 :: o4 :: o5 :: o6 :: o7 :: o8 :: o9 :: o10 :: o11 :: o12 :: o13 :: o14 :: o15 :: o16 :: o17 :: o18 :: o19 :: o20 :: o21 :: o22 :: o23 :: o24 :: l).toArray a.tmps) = true then Oper.wp P o24 a w K' Q else K' (a.put o24.dst undef) w) :
    wpAnyN P md (o0 :: o1 :: o2 :: o3 :: o4 :: o5 :: o6 :: o7 :: o8 :: o9 :: o10 :: o11 :: o12 :: o13 :: o14 :: o15 :: o16 :: o17 :: o18 :: o19 :: o20 :: o21 :: o22 :: o23 :: o24 :: l).toArray Q S need (fuel + 1) listed a w := wpAnyN_one (i := 24) (o := o24) hr rfl hb h
theorem wpAnyN_take_25 {o0 o1 o2 o3 o4 o5 o6 o7 o8 o9 o10 o11 o12 o13 o14 o15 o16 o17 o18 o19 o20 o21 o22 o23 o24 o25 : Oper} {l : List Oper} {v : Value} {fuel : Nat} {listed : Array Bool} {a : Act} {w : World} (hs : Region.noSelect (o0 :: o1 :: o2 :: o3 :: o4 :: o5 :: o6 :: o7 :: o8 :: o9 :: o10 :: o11 :: o12 :: o13 :: o14 :: o15 :: o16 :: o17 :: o18 :: o19 :: o20 :: o21 :: o22 :: o23 :: o24 :: o25 :: l).toArray = true) (hf : Region.free md (o0 :: o1 :: o2 :: o3 :: o4 :: o5 :: o6 :: o7 :: o8 :: o9 :: o10 :: o11 :: o12 :: o13 :: o14 :: o15 :: o16 :: o17 :: o18 :: o19 :: o20 :: o21 :: o22 :: o23 :: o24 :: o25 :: l).toArray listed 25 = true) (hr : (Region.ready md (o0 :: o1 :: o2 :: o3 :: o4 :: o5 :: o6 :: o7 :: o8 :: o9 :: o10 :: o11 :: o12 :: o13 :: o14 :: o15 :: o16 :: o17 :: o18 :: o19 :: o20 :: o21 :: o22 :: o23 :: o24 :: o25 :: l).toArray listed).contains 25 = true)
    (hn : ((List.range (o0 :: o1 :: o2 :: o3 :: o4 :: o5 :: o6 :: o7 :: o8 :: o9 :: o10 :: o11 :: o12 :: o13 :: o14 :: o15 :: o16 :: o17 :: o18 :: o19 :: o20 :: o21 :: o22 :: o23 :: o24 :: o25 :: l).toArray.size).all fun j => need j || j == 25 || waitsFor md (o0 :: o1 :: o2 :: o3 :: o4 :: o5 :: o6 :: o7 :: o8 :: o9 :: o10 :: o11 :: o12 :: o13 :: o14 :: o15 :: o16 :: o17 :: o18 :: o19 :: o20 :: o21 :: o22 :: o23 :: o24 :: o25 :: l).toArray 25 (o0 :: o1 :: o2 :: o3 :: o4 :: o5 :: o6 :: o7 :: o8 :: o9 :: o10 :: o11 :: o12 :: o13 :: o14 :: o15 :: o16 :: o17 :: o18 :: o19 :: o20 :: o21 :: o22 :: o23 :: o24 :: o25 :: l).toArray.size j) = true) (hQ : ∀ c a w, Q (.panic c) (a.put o25.dst v) w → Q (.panic c) a w) (hy : YieldsIf P (o0 :: o1 :: o2 :: o3 :: o4 :: o5 :: o6 :: o7 :: o8 :: o9 :: o10 :: o11 :: o12 :: o13 :: o14 :: o15 :: o16 :: o17 :: o18 :: o19 :: o20 :: o21 :: o22 :: o23 :: o24 :: o25 :: l).toArray S o25 v a) (hS : S w) (hb : ShutBack md (o0 :: o1 :: o2 :: o3 :: o4 :: o5 :: o6 :: o7 :: o8 :: o9 :: o10 :: o11 :: o12 :: o13 :: o14 :: o15 :: o16 :: o17 :: o18 :: o19 :: o20 :: o21 :: o22 :: o23 :: o24 :: o25 :: l).toArray listed)
    (h : ShutBack md (o0 :: o1 :: o2 :: o3 :: o4 :: o5 :: o6 :: o7 :: o8 :: o9 :: o10 :: o11 :: o12 :: o13 :: o14 :: o15 :: o16 :: o17 :: o18 :: o19 :: o20 :: o21 :: o22 :: o23 :: o24 :: o25 :: l).toArray (listed.setIfInBounds 25 true) → wpAnyN P md (o0 :: o1 :: o2 :: o3 :: o4 :: o5 :: o6 :: o7 :: o8 :: o9 :: o10 :: o11 :: o12 :: o13 :: o14 :: o15 :: o16 :: o17 :: o18 :: o19 :: o20 :: o21 :: o22 :: o23 :: o24 :: o25 :: l).toArray Q S need fuel (listed.setIfInBounds 25 true) (a.put o25.dst v) w) : wpAnyN P md (o0 :: o1 :: o2 :: o3 :: o4 :: o5 :: o6 :: o7 :: o8 :: o9 :: o10 :: o11 :: o12 :: o13 :: o14 :: o15 :: o16 :: o17 :: o18 :: o19 :: o20 :: o21 :: o22 :: o23 :: o24 :: o25 :: l).toArray Q S need (fuel + 1) listed a w :=
  wpAnyN_take (i := 25) (oi := o25) rfl hs hf hr hn hQ hy hS hb h
theorem wpAnyN_one_25 {o0 o1 o2 o3 o4 o5 o6 o7 o8 o9 o10 o11 o12 o13 o14 o15 o16 o17 o18 o19 o20 o21 o22 o23 o24 o25 : Oper} {l : List Oper} {fuel : Nat} {listed : Array Bool} {a : Act} {w : World} (hr : Region.ready md (o0 :: o1 :: o2 :: o3 :: o4 :: o5 :: o6 :: o7 :: o8 :: o9 :: o10 :: o11 :: o12 :: o13 :: o14 :: o15 :: o16 :: o17 :: o18 :: o19 :: o20 :: o21 :: o22 :: o23 :: o24 :: o25 :: l).toArray listed = [25]) (hb : ShutBack md (o0 :: o1 :: o2 :: o3 :: o4 :: o5 :: o6 :: o7 :: o8 :: o9 :: o10 :: o11 :: o12 :: o13 :: o14 :: o15 :: o16 :: o17 :: o18 :: o19 :: o20 :: o21 :: o22 :: o23 :: o24 :: o25 :: l).toArray listed)
    (h : ∀ K' : Act → World → Prop, Shut (∀ a w, (need 25 = true → S w) → ((need 25 = true → S w) → ShutBack md (o0 :: o1 :: o2 :: o3 :: o4 :: o5 :: o6 :: o7 :: o8 :: o9 :: o10 :: o11 :: o12 :: o13 :: o14 :: o15 :: o16 :: o17 :: o18 :: o19 :: o20 :: o21 :: o22 :: o23 :: o24 :: o25 :: l).toArray (listed.setIfInBounds 25 true) → wpAnyN P md (o0 :: o1 :: o2 :: o3 :: o4 :: o5 :: o6 :: o7 :: o8 :: o9 :: o10 :: o11 :: o12 :: o13 :: o14 :: o15 :: o16 :: o17 :: o18 :: o19 :: o20 :: o21 :: o22 :: o23 :: o24 :: o25 :: l).toArray Q S need fuel (listed.setIfInBounds 25 true) a w) → K' a w) → if Region.wanted o25 (yielded (o0 :: o1 :: o2 :: o3 :: o4 :: o5 :: o6 :: o7 :: o8 :: o9 :: o10 :: o11 :: o12 :: o13 :: o14 :: o15 :: o16 :: o17 :: o18 :: o19 :: o20 :: o21 :: o22 :: o23 :: o24 :: o25 :: l).toArray a.tmps) = true then Oper.wp P o25 a w K' Q else K' (a.put o25.dst undef) w) :
    wpAnyN P md (o0 :: o1 :: o2 :: o3 :: o4 :: o5 :: o6 :: o7 :: o8 :: o9 :: o10 :: o11 :: o12 :: o13 :: o14 :: o15 :: o16 :: o17 :: o18 :: o19 :: o20 :: o21 :: o22 :: o23 :: o24 :: o25 :: l).toArray Q S need (fuel + 1) listed a w := wpAnyN_one (i := 25) (o := o25) hr rfl hb h
theorem wpAnyN_take_26 {o0 o1 o2 o3 o4 o5 o6 o7 o8 o9 o10 o11 o12 o13 o14 o15 o16 o17 o18 o19 o20 o21 o22 o23 o24 o25 o26 : Oper} {l : List Oper} {v : Value} {fuel : Nat} {listed : Array Bool} {a : Act} {w : World} (hs : Region.noSelect (o0 :: o1 :: o2 :: o3 :: o4 :: o5 :: o6 :: o7 :: o8 :: o9 :: o10 :: o11 :: o12 :: o13 :: o14 :: o15 :: o16 :: o17 :: o18 :: o19 :: o20 :: o21 :: o22 :: o23 :: o24 :: o25 :: o26 :: l).toArray = true) (hf : Region.free md (o0 :: o1 :: o2 :: o3 :: o4 :: o5 :: o6 :: o7 :: o8 :: o9 :: o10 :: o11 :: o12 :: o13 :: o14 :: o15 :: o16 :: o17 :: o18 :: o19 :: o20 :: o21 :: o22 :: o23 :: o24 :: o25 :: o26 :: l).toArray listed 26 = true) (hr : (Region.ready md (o0 :: o1 :: o2 :: o3 :: o4 :: o5 :: o6 :: o7 :: o8 :: o9 :: o10 :: o11 :: o12 :: o13 :: o14 :: o15 :: o16 :: o17 :: o18 :: o19 :: o20 :: o21 :: o22 :: o23 :: o24 :: o25 :: o26 :: l).toArray listed).contains 26 = true)
    (hn : ((List.range (o0 :: o1 :: o2 :: o3 :: o4 :: o5 :: o6 :: o7 :: o8 :: o9 :: o10 :: o11 :: o12 :: o13 :: o14 :: o15 :: o16 :: o17 :: o18 :: o19 :: o20 :: o21 :: o22 :: o23 :: o24 :: o25 :: o26 :: l).toArray.size).all fun j => need j || j == 26 || waitsFor md (o0 :: o1 :: o2 :: o3 :: o4 :: o5 :: o6 :: o7 :: o8 :: o9 :: o10 :: o11 :: o12 :: o13 :: o14 :: o15 :: o16 :: o17 :: o18 :: o19 :: o20 :: o21 :: o22 :: o23 :: o24 :: o25 :: o26 :: l).toArray 26 (o0 :: o1 :: o2 :: o3 :: o4 :: o5 :: o6 :: o7 :: o8 :: o9 :: o10 :: o11 :: o12 :: o13 :: o14 :: o15 :: o16 :: o17 :: o18 :: o19 :: o20 :: o21 :: o22 :: o23 :: o24 :: o25 :: o26 :: l).toArray.size j) = true) (hQ : ∀ c a w, Q (.panic c) (a.put o26.dst v) w → Q (.panic c) a w) (hy : YieldsIf P (o0 :: o1 :: o2 :: o3 :: o4 :: o5 :: o6 :: o7 :: o8 :: o9 :: o10 :: o11 :: o12 :: o13 :: o14 :: o15 :: o16 :: o17 :: o18 :: o19 :: o20 :: o21 :: o22 :: o23 :: o24 :: o25 :: o26 :: l).toArray S o26 v a) (hS : S w) (hb : ShutBack md (o0 :: o1 :: o2 :: o3 :: o4 :: o5 :: o6 :: o7 :: o8 :: o9 :: o10 :: o11 :: o12 :: o13 :: o14 :: o15 :: o16 :: o17 :: o18 :: o19 :: o20 :: o21 :: o22 :: o23 :: o24 :: o25 :: o26 :: l).toArray listed)
    (h : ShutBack md (o0 :: o1 :: o2 :: o3 :: o4 :: o5 :: o6 :: o7 :: o8 :: o9 :: o10 :: o11 :: o12 :: o13 :: o14 :: o15 :: o16 :: o17 :: o18 :: o19 :: o20 :: o21 :: o22 :: o23 :: o24 :: o25 :: o26 :: l).toArray (listed.setIfInBounds 26 true) → wpAnyN P md (o0 :: o1 :: o2 :: o3 :: o4 :: o5 :: o6 :: o7 :: o8 :: o9 :: o10 :: o11 :: o12 :: o13 :: o14 :: o15 :: o16 :: o17 :: o18 :: o19 :: o20 :: o21 :: o22 :: o23 :: o24 :: o25 :: o26 :: l).toArray Q S need fuel (listed.setIfInBounds 26 true) (a.put o26.dst v) w) : wpAnyN P md (o0 :: o1 :: o2 :: o3 :: o4 :: o5 :: o6 :: o7 :: o8 :: o9 :: o10 :: o11 :: o12 :: o13 :: o14 :: o15 :: o16 :: o17 :: o18 :: o19 :: o20 :: o21 :: o22 :: o23 :: o24 :: o25 :: o26 :: l).toArray Q S need (fuel + 1) listed a w :=
  wpAnyN_take (i := 26) (oi := o26) rfl hs hf hr hn hQ hy hS hb h
theorem wpAnyN_one_26 {o0 o1 o2 o3 o4 o5 o6 o7 o8 o9 o10 o11 o12 o13 o14 o15 o16 o17 o18 o19 o20 o21 o22 o23 o24 o25 o26 : Oper} {l : List Oper} {fuel : Nat} {listed : Array Bool} {a : Act} {w : World} (hr : Region.ready md (o0 :: o1 :: o2 :: o3 :: o4 :: o5 :: o6 :: o7 :: o8 :: o9 :: o10 :: o11 :: o12 :: o13 :: o14 :: o15 :: o16 :: o17 :: o18 :: o19 :: o20 :: o21 :: o22 :: o23 :: o24 :: o25 :: o26 :: l).toArray listed = [26]) (hb : ShutBack md (o0 :: o1 :: o2 :: o3 :: o4 :: o5 :: o6 :: o7 :: o8 :: o9 :: o10 :: o11 :: o12 :: o13 :: o14 :: o15 :: o16 :: o17 :: o18 :: o19 :: o20 :: o21 :: o22 :: o23 :: o24 :: o25 :: o26 :: l).toArray listed)
    (h : ∀ K' : Act → World → Prop, Shut (∀ a w, (need 26 = true → S w) → ((need 26 = true → S w) → ShutBack md (o0 :: o1 :: o2 :: o3 :: o4 :: o5 :: o6 :: o7 :: o8 :: o9 :: o10 :: o11 :: o12 :: o13 :: o14 :: o15 :: o16 :: o17 :: o18 :: o19 :: o20 :: o21 :: o22 :: o23 :: o24 :: o25 :: o26 :: l).toArray (listed.setIfInBounds 26 true) → wpAnyN P md (o0 :: o1 :: o2 :: o3 :: o4 :: o5 :: o6 :: o7 :: o8 :: o9 :: o10 :: o11 :: o12 :: o13 :: o14 :: o15 :: o16 :: o17 :: o18 :: o19 :: o20 :: o21 :: o22 :: o23 :: o24 :: o25 :: o26 :: l).toArray Q S need fuel (listed.setIfInBounds 26 true) a w) → K' a w) → if Region.wanted o26 (yielded (o0 :: o1 :: o2 :: o3 :: o4 :: o5 :: o6 :: o7 :: o8 :: o9 :: o10 :: o11 :: o12 :: o13 :: o14 :: o15 :: o16 :: o17 :: o18 :: o19 :: o20 :: o21 :: o22 :: o23 :: o24 :: o25 :: o26 :: l).toArray a.tmps) = true then Oper.wp P o26 a w K' Q else K' (a.put o26.dst undef) w) :
    wpAnyN P md (o0 :: o1 :: o2 :: o3 :: o4 :: o5 :: o6 :: o7 :: o8 :: o9 :: o10 :: o11 :: o12 :: o13 :: o14 :: o15 :: o16 :: o17 :: o18 :: o19 :: o20 :: o21 :: o22 :: o23 :: o24 :: o25 :: o26 :: l).toArray Q S need (fuel + 1) listed a w := wpAnyN_one (i := 26) (o := o26) hr rfl hb h
theorem wpAnyN_take_27 {o0 o1 o2 o3 o4 o5 o6 o7 o8 o9 o10 o11 o12 o13 o14 o15 o16 o17 o18 o19 o20 o21 o22 o23 o24 o25 o26 o27 : Oper} {l : List Oper} {v : Value} {fuel : Nat} {listed : Array Bool} {a : Act} {w : World} (hs : Region.noSelect (o0 :: o1 :: o2 :: o3 :: o4 :: o5 :: o6 :: o7 :: o8 :: o9 :: o10 :: o11 :: o12 :: o13 :: o14 :: o15 :: o16 :: o17 :: o18 :: o19 :: o20 :: o21 :: o22 :: o23 :: o24 :: o25 :: o26 :: o27 :: l).toArray = true) (hf : Region.free md (o0 :: o1 :: o2 :: o3 :: o4 :: o5 :: o6 :: o7 :: o8 :: o9 :: o10 :: o11 :: o12 :: o13 :: o14 :: o15 :: o16 :: o17 :: o18 :: o19 :: o20 :: o21 :: o22 :: o23 :: o24 :: o25 :: o26 :: o27 :: l).toArray listed 27 = true) (hr : (Region.ready md (o0 :: o1 :: o2 :: o3 :: o4 :: o5 :: o6 :: o7 :: o8 :: o9 :: o10 :: o11 :: o12 :: o13 :: o14 :: o15 :: o16 :: o17 :: o18 :: o19 :: o20 :: o21 :: o22 :: o23 :: o24 :: o25 :: o26 :: o27 :: l).toArray listed).contains 27 = true)
    (hn : ((List.range (o0 :: o1 :: o2 :: o3 :: o4 :: o5 :: o6 :: o7 :: o8 :: o9 :: o10 :: o11 :: o12 :: o13 :: o14 :: o15 :: o16 :: o17 :: o18 :: o19 :: o20 :: o21 :: o22 :: o23 :: o24 :: o25 :: o26 :: o27 :: l).toArray.size).all fun j => need j || j == 27 || waitsFor md (o0 :: o1 :: o2 :: o3 :: o4 :: o5 :: o6 :: o7 :: o8 :: o9 :: o10 :: o11 :: o12 :: o13 :: o14 :: o15 :: o16 :: o17 :: o18 :: o19 :: o20 :: o21 :: o22 :: o23 :: o24 :: o25 :: o26 :: o27 :: l).toArray 27 (o0 :: o1 :: o2 :: o3 :: o4 :: o5 :: o6 :: o7 :: o8 :: o9 :: o10 :: o11 :: o12 :: o13 :: o14 :: o15 :: o16 :: o17 :: o18 :: o19 :: o20 :: o21 :: o22 :: o23 :: o24 :: o25 :: o26 :: o27 :: l).toArray.size j) = true) (hQ : ∀ c a w, Q (.panic c) (a.put o27.dst v) w → Q (.panic c) a w) (hy : YieldsIf P (o0 :: o1 :: o2 :: o3 :: o4 :: o5 :: o6 :: o7 :: o8 :: o9 :: o10 :: o11 :: o12 :: o13 :: o14 :: o15 :: o16 :: o17 :: o18 :: o19 :: o20 :: o21 :: o22 :: o23 :: o24 :: o25 :: o26 :: o27 :: l).toArray S o27 v a) (hS : S w) (hb : ShutBack md (o0 :: o1 :: o2 :: o3 :: o4 :: o5 :: o6 :: o7 :: o8 :: o9 :: o10 :: o11 :: o12 :: o13 :: o14 :: o15 :: o16 :: o17 :: o18 :: o19 :: o20 :: o21 :: o22 :: o23 :: o24 :: o25 :: o26 :: o27 :: l).toArray listed)
    (h : ShutBack md (o0 :: o1 :: o2 :: o3 :: o4 :: o5 :: o6 :: o7 :: o8 :: o9 :: o10 :: o11 :: o12 :: o13 :: o14 :: o15 :: o16 :: o17 :: o18 :: o19 :: o20 :: o21 :: o22 :: o23 :: o24 :: o25 :: o26 :: o27 :: l).toArray (listed.setIfInBounds 27 true) → wpAnyN P md (o0 :: o1 :: o2 :: o3 :: o4 :: o5 :: o6 :: o7 :: o8 :: o9 :: o10 :: o11 :: o12 :: o13 :: o14 :: o15 :: o16 :: o17 :: o18 :: o19 :: o20 :: o21 :: o22 :: o23 :: o24 :: o25 :: o26 :: o27 :: l).toArray Q S need fuel (listed.setIfInBounds 27 true) (a.put o27.dst v) w) : wpAnyN P md (o0 :: o1 :: o2 :: o3 :: o4 :: o5 :: o6 :: o7 :: o8 :: o9 :: o10 :: o11 :: o12 :: o13 :: o14 :: o15 :: o16 :: o17 :: o18 :: o19 :: o20 :: o21 :: o22 :: o23 :: o24 :: o25 :: o26 :: o27 :: l).toArray Q S need (fuel + 1) listed a w :=
  wpAnyN_take (i := 27) (oi := o27) rfl hs hf hr hn hQ hy hS hb h
theorem wpAnyN_one_27 {o0 o1 o2 o3 o4 o5 o6 o7 o8 o9 o10 o11 o12 o13 o14 o15 o16 o17 o18 o19 o20 o21 o22 o23 o24 o25 o26 o27 : Oper} {l : List Oper} {fuel : Nat} {listed : Array Bool} {a : Act} {w : World} (hr : Region.ready md (o0 :: o1 :: o2 :: o3 :: o4 :: o5 :: o6 :: o7 :: o8 :: o9 :: o10 :: o11 :: o12 :: o13 :: o14 :: o15 :: o16 :: o17 :: o18 :: o19 :: o20 :: o21 :: o22 :: o23 :: o24 :: o25 :: o26 :: o27 :: l).toArray listed = [27]) (hb : ShutBack md (o0 :: o1 :: o2 :: o3 :: o4 :: o5 :: o6 :: o7 :: o8 :: o9 :: o10 :: o11 :: o12 :: o13 :: o14 :: o15 :: o16 :: o17 :: o18 :: o19 :: o20 :: o21 :: o22 :: o23 :: o24 :: o25 :: o26 :: o27 :: l).toArray listed)
    (h : ∀ K' : Act → World → Prop, Shut (∀ a w, (need 27 = true → S w) → ((need 27 = true → S w) → ShutBack md (o0 :: o1 :: o2 :: o3 :: o4 :: o5 :: o6 :: o7 :: o8 :: o9 :: o10 :: o11 :: o12 :: o13 :: o14 :: o15 :: o16 :: o17 :: o18 :: o19 :: o20 :: o21 :: o22 :: o23 :: o24 :: o25 :: o26 :: o27 :: l).toArray (listed.setIfInBounds 27 true) → wpAnyN P md (o0 :: o1 :: o2 :: o3 :: o4 :: o5 :: o6 :: o7 :: o8 :: o9 :: o10 :: o11 :: o12 :: o13 :: o14 :: o15 :: o16 :: o17 :: o18 :: o19 :: o20 :: o21 :: o22 :: o23 :: o24 :: o25 :: o26 :: o27 :: l).toArray Q S need fuel (listed.setIfInBounds 27 true) a w) → K' a w) → if Region.wanted o27 (yielded (o0 :: o1 :: o2 :: o3 :: o4 :: o5 :: o6 :: o7 :: o8 :: o9 :: o10 :: o11 :: o12 :: o13 :: o14 :: o15 :: o16 :: o17 :: o18 :: o19 :: o20 :: o21 :: o22 :: o23 :: o24 :: o25 :: o26 :: o27 :: l).toArray a.tmps) = true then Oper.wp P o27 a w K' Q else K' (a.put o27.dst undef) w) :
    wpAnyN P md (o0 :: o1 :: o2 :: o3 :: o4 :: o5 :: o6 :: o7 :: o8 :: o9 :: o10 :: o11 :: o12 :: o13 :: o14 :: o15 :: o16 :: o17 :: o18 :: o19 :: o20 :: o21 :: o22 :: o23 :: o24 :: o25 :: o26 :: o27 :: l).toArray Q S need (fuel + 1) listed a w := wpAnyN_one (i := 27) (o := o27) hr rfl hb h
theorem wpAnyN_take_28 {o0 o1 o2 o3 o4 o5 o6 o7 o8 o9 o10 o11 o12 o13 o14 o15 o16 o17 o18 o19 o20 o21 o22 o23 o24 o25 o26 o27 o28 : Oper} {l : List Oper} {v : Value} {fuel : Nat} {listed : Array Bool} {a : Act} {w : World} (hs : Region.noSelect (o0 :: o1 :: o2 :: o3 :: o4 :: o5 :: o6 :: o7 :: o8 :: o9 :: o10 :: o11 :: o12 :: o13 :: o14 :: o15 :: o16 :: o17 :: o18 :: o19 :: o20 :: o21 :: o22 :: o23 :: o24 :: o25 :: o26 :: o27 :: o28 :: l).toArray = true) (hf : Region.free md (o0 :: o1 :: o2 :: o3 :: o4 :: o5 :: o6 :: o7 :: o8 :: o9 :: o10 :: o11 :: o12 :: o13 :: o14 :: o15 :: o16 :: o17 :: o18 :: o19 :: o20 :: o21 :: o22 :: o23 :: o24 :: o25 :: o26 :: o27 :: o28 :: l).toArray listed 28 = true) (hr : (Region.ready md (o0 :: o1 :: o2 :: o3 :: o4 :: o5 :: o6 :: o7 :: o8 :: o9 :: o10 :: o11 :: o12 :: o13 :: o14 :: o15 :: o16 :: o17 :: o18 :: o19 :: o20 :: o21 :: o22 :: o23 :: o24 :: o25 :: o26 :: o27 :: o28 :: l).toArray listed).contains 28 = true)
    (hn : ((List.range (o0 :: o1 :: o2 :: o3 :: o4 :: o5 :: o6 :: o7 :: o8 :: o9 :: o10 :: o11 :: o12 :: o13 :: o14 :: o15 :: o16 :: o17 :: o18 :: o19 :: o20 :: o21 :: o22 :: o23 :: o24 :: o25 :: o26 :: o27 :: o28 :: l).toArray.size).all fun j => need j || j == 28 || waitsFor md (o0 :: o1 :: o2 :: o3 :: o4 :: o5 :: o6 :: o7 :: o8 :: o9 :: o10 :: o11 :: o12 :: o13 :: o14 :: o15 :: o16 :: o17 :: o18 :: o19 :: o20 :: o21 :: o22 :: o23 :: o24 :: o25 :: o26 :: o27 :: o28 :: l).toArray 28 (o0 :: o1 :: o2 :: o3 :: o4 :: o5 :: o6 :: o7 :: o8 :: o9 :: o10 :: o11 :: o12 :: o13 :: o14 :: o15 :: o16 :: o17 :: o18 :: o19 :: o20 :: o21 :: o22 :: o23 :: o24 :: o25 :: o26 :: o27 :: o28 :: l).toArray.size j) = true) (hQ : ∀ c a w, Q (.panic c) (a.put o28.dst v) w → Q (.panic c) a w) (hy : YieldsIf P (o0 :: o1 :: o2 :: o3 :: o4 :: o5 :: o6 :: o7 :: o8 :: o9 :: o10 :: o11 :: o12 :: o13 :: o14 :: o15 :: o16 :: o17 :: o18 :: o19 :: o20 :: o21 :: o22 :: o23 :: o24 :: o25 :: o26 :: o27 :: o28 :: l).toArray S o28 v a) (hS : S w) (hb : ShutBack md (o0 :: o1 :: o2 :: o3 :: o4 :: o5 :: o6 :: o7 :: o8 :: o9 :: o10 :: o11 :: o12 :: o13 :: o14 :: o15 :: o16 :: o17 :: o18 :: o19 :: o20 :: o21 :: o22 :: o23 :: o24 :: o25 :: o26 :: o27 :: o28 :: l).toArray listed)
    (h : ShutBack md (o0 :: o1 :: o2 :: o3 :: o4 :: o5 :: o6 :: o7 :: o8 :: o9 :: o10 :: o11 :: o12 :: o13 :: o14 :: o15 :: o16 :: o17 :: o18 :: o19 :: o20 :: o21 :: o22 :: o23 :: o24 :: o25 :: o26 :: o27 :: o28 :: l).toArray (listed.setIfInBounds 28 true) → wpAnyN P md (o0 :: o1 :: o2 :: o3 :: o4 :: o5 :: o6 :: o7 :: o8 :: o9 :: o10 :: o11 :: o12 :: o13 :: o14 :: o15 :: o16 :: o17 :: o18 :: o19 :: o20 :: o21 :: o22 :: o23 :: o24 :: o25 :: o26 :: o27 :: o28 :: l).toArray Q S need fuel (listed.setIfInBounds 28 true) (a.put o28.dst v) w) : wpAnyN P md (o0 :: o1 :: o2 :: o3 :: o4 :: o5 :: o6 :: o7 :: o8 :: o9 :: o10 :: o11 :: o12 :: o13 :: o14 :: o15 :: o16 :: o17 :: o18 :: o19 :: o20 :: o21 :: o22 :: o23 :: o24 :: o25 :: o26 :: o27 :: o28 :: l).toArray Q S need (fuel + 1) listed a w :=
  wpAnyN_take (i := 28) (oi := o28) rfl hs hf hr hn hQ hy hS hb h
theorem wpAnyN_one_28 {o0 o1 o2 o3 o4 o5 o6 o7 o8 o9 o10 o11 o12 o13 o14 o15 o16 o17 o18 o19 o20 o21 o22 o23 o24 o25 o26 o27 o28 : Oper} {l : List Oper} {fuel : Nat} {listed : Array Bool} {a : Act} {w : World} (hr : Region.ready md (o0 :: o1 :: o2 :: o3 :: o4 :: o5 :: o6 :: o7 :: o8 :: o9 :: o10 :: o11 :: o12 :: o13 :: o14 :: o15 :: o16 :: o17 :: o18 :: o19 :: o20 :: o21 :: o22 :: o23 :: o24 :: o25 :: o26 :: o27 :: o28 :: l).toArray listed = [28]) (hb : ShutBack md (o0 :: o1 :: o2 :: o3 :: o4 :: o5 :: o6 :: o7 :: o8 :: o9 :: o10 :: o11 :: o12 :: o13 :: o14 :: o15 :: o16 :: o17 :: o18 :: o19 :: o20 :: o21 :: o22 :: o23 :: o24 :: o25 :: o26 :: o27 :: o28 :: l).toArray listed)
    (h : ∀ K' : Act → World → Prop, Shut (∀ a w, (need 28 = true → S w) → ((need 28 = true → S w) → ShutBack md (o0 :: o1 :: o2 :: o3 :: o4 :: o5 :: o6 :: o7 :: o8 :: o9 :: o10 :: o11 :: o12 :: o13 :: o14 :: o15 :: o16 :: o17 :: o18 :: o19 :: o20 :: o21 :: o22 :: o23 :: o24 :: o25 :: o26 :: o27 :: o28 :: l).toArray (listed.setIfInBounds 28 true) → wpAnyN P md (o0 :: o1 :: o2 :: o3 :: o4 :: o5 :: o6 :: o7 :: o8 :: o9 :: o10 :: o11 :: o12 :: o13 :: o14 :: o15 :: o16 :: o17 :: o18 :: o19 :: o20 :: o21 :: o22 :: o23 :: o24 :: o25 :: o26 :: o27 :: o28 :: l).toArray Q S need fuel (listed.setIfInBounds 28 true) a w) → K' a w) → if Region.wanted o28 (yielded (o0 :: o1 :: o2 :: o3 :: o4 :: o5 :: o6 :: o7 :: o8 :: o9 :: o10 :: o11 :: o12 :: o13 :: o14 :: o15 :: o16 :: o17 :: o18 :: o19 :: o20 :: o21 :: o22 :: o23 :: o24 :: o25 :: o26 :: o27 :: o28 :: l).toArray a.tmps) = true then Oper.wp P o28 a w K' Q else K' (a.put o28.dst undef) w) :
    wpAnyN P md (o0 :: o1 :: o2 :: o3 :: o4 :: o5 :: o6 :: o7 :: o8 :: o9 :: o10 :: o11 :: o12 :: o13 :: o14 :: o15 :: o16 :: o17 :: o18 :: o19 :: o20 :: o21 :: o22 :: o23 :: o24 :: o25 :: o26 :: o27 :: o28 :: l).toArray Q S need (fuel + 1) listed a w := wpAnyN_one (i := 28) (o := o28) hr rfl hb h
theorem wpAnyN_take_29 {o0 o1 o2 o3 o4 o5 o6 o7 o8 o9 o10 o11 o12 o13 o14 o15 o16 o17 o18 o19 o20 o21 o22 o23 o24 o25 o26 o27 o28 o29 : Oper} {l : List Oper} {v : Value} {fuel : Nat} {listed : Array Bool} {a : Act} {w : World} (hs : Region.noSelect (o0 :: o1 :: o2 :: o3 :: o4 :: o5 :: o6 :: o7 :: o8 :: o9 :: o10 :: o11 :: o12 :: o13 :: o14 :: o15 :: o16 :: o17 :: o18 :: o19 :: o20 :: o21 :: o22 :: o23 :: o24 :: o25 :: o26 :: o27 :: o28 :: o29 :: l).toArray = true) (hf : Region.free md (o0 :: o1 :: o2 :: o3 :: o4 :: o5 :: o6 :: o7 :: o8 :: o9 :: o10 :: o11 :: o12 :: o13 :: o14 :: o15 :: o16 :: o17 :: o18 :: o19 :: o20 :: o21 :: o22 :: o23 :: o24 :: o25 :: o26 :: o27 :: o28 :: o29 :: l).toArray listed 29 = true) (hr : (Region.ready md (o0 :: o1 :: o2 :: o3 :: o4 :: o5 :: o6 :: o7 :: o8 :: o9 :: o10 :: o11 :: o12 :: o13 :: o14 :: o15 :: o16 :: o17 :: o18 :: o19 :: o20 :: o21 :: o22 :: o23 :: o24 :: o25 :: o26 :: o27 :: o28 :: o29 :: l).toArray listed).contains 29 = true)
    (hn : ((List.range (o0 :: o1 :: o2 :: o3 :: o4 :: o5 :: o6 :: o7 :: o8 :: o9 :: o10 :: o11 :: o12 :: o13 :: o14 :: o15 :: o16 :: o17 :: o18 :: o19 :: o20 :: o21 :: o22 :: o23 :: o24 :: o25 :: o26 :: o27 :: o28 :: o29 :: l).toArray.size).all fun j => need j || j == 29 || waitsFor md (o0 :: o1 :: o2 :: o3 :: o4 :: o5 :: o6 :: o7 :: o8 :: o9 :: o10 :: o11 :: o12 :: o13 :: o14 :: o15 :: o16 :: o17 :: o18 :: o19 :: o20 :: o21 :: o22 :: o23 :: o24 :: o25 :: o26 :: o27 :: o28 :: o29 :: l).toArray 29 (o0 :: o1 :: o2 :: o3 :: o4 :: o5 :: o6 :: o7 :: o8 :: o9 :: o10 :: o11 :: o12 :: o13 :: o14 :: o15 :: o16 :: o17 :: o18 :: o19 :: o20 :: o21 :: o22 :: o23 :: o24 :: o25 :: o26 :: o27 :: o28 :: o29 :: l).toArray.size j) = true) (hQ : ∀ c a w, Q (.panic c) (a.put o29.dst v) w → Q (.panic c) a w) (hy : YieldsIf P (o0 :: o1 :: o2 :: o3 :: o4 :: o5 :: o6 :: o7 :: o8 :: o9 :: o10 :: o11 :: o12 :: o13 :: o14 :: o15 :: o16 :: o17 :: o18 :: o19 :: o20 :: o21 :: o22 :: o23 :: o24 :: o25 :: o26 :: o27 :: o28 :: o29 :: l).toArray S o29 v a) (hS : S w) (hb : ShutBack md (o0 :: o1 :: o2 :: o3 :: o4 :: o5 :: o6 :: o7 :: o8 :: o9 :: o10 :: o11 :: o12 :: o13 :: o14 :: o15 :: o16 :: o17 :: o18 :: o19 :: o20 :: o21 :: o22 :: o23 :: o24 :: o25 :: o26 :: o27 :: o28 :: o29 :: l).toArray listed)
    (h : ShutBack md (o0 :: o1 :: o2 :: o3 :: o4 :: o5 :: o6 :: o7 :: o8 :: o9 :: o10 :: o11 :: o12 :: o13 :: o14 :: o15 :: o16 :: o17 :: o18 :: o19 :: o20 :: o21 :: o22 :: o23 :: o24 :: o25 :: o26 :: o27 :: o28 :: o29 :: l).toArray (listed.setIfInBounds 29 true) → wpAnyN P md (o0 :: o1 :: o2 :: o3 :: o4 :: o5 :: o6 :: o7 :: o8 :: o9 :: o10 :: o11 :: o12 :: o13 :: o14 :: o15 :: o16 :: o17 :: o18 :: o19 :: o20 :: o21 :: o22 :: o23 :: o24 :: o25 :: o26 :: o27 :: o28 :: o29 :: l).toArray Q S need fuel (listed.setIfInBounds 29 true) (a.put o29.dst v) w) : wpAnyN P md (o0 :: o1 :: o2 :: o3 :: o4 :: o5 :: o6 :: o7 :: o8 :: o9 :: o10 :: o11 :: o12 :: o13 :: o14 :: o15 :: o16 :: o17 :: o18 :: o19 :: o20 :: o21 :: o22 :: o23 :: o24 :: o25 :: o26 :: o27 :: o28 :: o29 :: l).toArray Q S need (fuel + 1) listed a w :=
  wpAnyN_take (i := 29) (oi := o29) rfl hs hf hr hn hQ hy hS hb h
theorem wpAnyN_one_29 {o0 o1 o2 o3 o4 o5 o6 o7 o8 o9 o10 o11 o12 o13 o14 o15 o16 o17 o18 o19 o20 o21 o22 o23 o24 o25 o26 o27 o28 o29 : Oper} {l : List Oper} {fuel : Nat} {listed : Array Bool} {a : Act} {w : World} (hr : Region.ready md (o0 :: o1 :: o2 :: o3 :: o4 :: o5 :: o6 :: o7 :: o8 :: o9 :: o10 :: o11 :: o12 :: o13 :: o14 :: o15 :: o16 :: o17 :: o18 :: o19 :: o20 :: o21 :: o22 :: o23 :: o24 :: o25 :: o26 :: o27 :: o28 :: o29 :: l).toArray listed = [29]) (hb : ShutBack md (o0 :: o1 :: o2 :: o3 :: o4 :: o5 :: o6 :: o7 :: o8 :: o9 :: o10 :: o11 :: o12 :: o13 :: o14 :: o15 :: o16 :: o17 :: o18 :: o19 :: o20 :: o21 :: o22 :: o23 :: o24 :: o25 :: o26 :: o27 :: o28 :: o29 :: l).toArray listed)
    (h : ∀ K' : Act → World → Prop, Shut (∀ a w, (need 29 = true → S w) → ((need 29 = true → S w) → ShutBack md (o0 :: o1 :: o2 :: o3 :: o4 :: o5 :: o6 :: o7 :: o8 :: o9 :: o10 :: o11 :: o12 :: o13 :: o14 :: o15 :: o16 :: o17 :: o18 :: o19 :: o20 :: o21 :: o22 :: o23 :: o24 :: o25 :: o26 :: o27 :: o28 :: o29 :: l).toArray (listed.setIfInBounds 29 true) → wpAnyN P md (o0 :: o1 :: o2 :: o3 :: o4 :: o5 :: o6 :: o7 :: o8 :: o9 :: o10 :: o11 :: o12 :: o13 :: o14 :: o15 :: o16 :: o17 :: o18 :: o19 :: o20 :: o21 :: o22 :: o23 :: o24 :: o25 :: o26 :: o27 :: o28 :: o29 :: l).toArray Q S need fuel (listed.setIfInBounds 29 true) a w) → K' a w) → if Region.wanted o29 (yielded (o0 :: o1 :: o2 :: o3 :: o4 :: o5 :: o6 :: o7 :: o8 :: o9 :: o10 :: o11 :: o12 :: o13 :: o14 :: o15 :: o16 :: o17 :: o18 :: o19 :: o20 :: o21 :: o22 :: o23 :: o24 :: o25 :: o26 :: o27 :: o28 :: o29 :: l).toArray a.tmps) = true then Oper.wp P o29 a w K' Q else K' (a.put o29.dst undef) w) :
    wpAnyN P md (o0 :: o1 :: o2 :: o3 :: o4 :: o5 :: o6 :: o7 :: o8 :: o9 :: o10 :: o11 :: o12 :: o13 :: o14 :: o15 :: o16 :: o17 :: o18 :: o19 :: o20 :: o21 :: o22 :: o23 :: o24 :: o25 :: o26 :: o27 :: o28 :: o29 :: l).toArray Q S need (fuel + 1) listed a w := wpAnyN_one (i := 29) (o := o29) hr rfl hb h
end
theorem range_cells {w : World} {g : Nat} {cs : List Value} (h : ∀ (j : Nat) (v : Value), cs[j]? = some v → w.cell? ⟨g, j, none⟩ = some v) : w.rangeAt g 0 cs := fun j v hv => by rw [Nat.zero_add]; exact h j v hv
end Go.Proofs.Ytljcpgeggbbmfaa
namespace Go.Proofs.Ytljcpgeggbbmfaa
set_option linter.unusedVariables false
set_option linter.unusedSimpArgs false
open Go.RowKit
theorem flat_set {α β : Type} (f : α → List β) (m : Nat) (hm : ∀ x, (f x).length = m) (x' : α) (j : Nat) (hj : j < m) (u : β) : ∀ (l : List α) (t : Nat) (ht : t < l.length), f x' = (f l[t]).set j u → (l.flatMap f).set (t * m + j) u = (l.set t x').flatMap f
  | [], t, ht, h => by simp at ht
  | x :: l, 0, ht, h => by
    rw [List.set_cons_zero, List.flatMap_cons, List.flatMap_cons, Nat.zero_mul, Nat.zero_add, List.set_append_left _ _ (by rw [hm]; exact hj), h]; rfl
  | x :: l, t + 1, ht, h => by
    rw [List.set_cons_succ, List.flatMap_cons, List.flatMap_cons, List.set_append_right _ _ (by rw [hm, Nat.succ_mul]; omega), hm, show (t + 1) * m + j - m = t * m + j by rw [Nat.succ_mul]; omega]
    rw [flat_set f m hm x' j hj u l t (by simpa using ht) (by simpa using h)]
theorem i64s_set (r : List Int) (k : Nat) (n : Int) : (i64s r).set k (.int .i64 n) = i64s (r.set k n) := by unfold i64s; rw [List.map_set]
/-- a store into a block of another type. -/
theorem ownT_kept {w : World} {B e s n : Nat} {v : Value} {xs : List Value} (h : w.ownsRow B e s v n xs) {p : Addr} {cur : Array Value} {T : TypeId} (hp : w.heap[p.block]? = some (.cells cur T (0, 0))) (hT : T ≠ e) (u : Value) : (w.setCell p u).ownsRow B e s v n xs := by
  refine h.kept (grown_set w p u) ?_
  rcases h.2 with ⟨rfl, _⟩ | ⟨g, cap, c2, rfl, _, hh, _⟩
  · exact .inl rfl
  · refine .inr (fun e => ?_)
    have e2 : g = p.block := by simpa [Value.ownBlock] using e
    subst e2
    rw [hp] at hh
    injection hh with hh
    injection hh with _ ht
    exact hT ht
theorem matT_kept {B : Nat} {w : World} {v : Value} {m : Nat} {ls : List (List Int)} {gs : List Nat} (h : MatOwn B w v m ls gs) {p : Addr} {cur : Array Value} {T : TypeId} (hp : w.heap[p.block]? = some (.cells cur T (0, 0))) (hT : T ≠ 2) (hT2 : T ≠ 53) (u : Value) : MatOwn B (w.setCell p u) v m ls gs :=
  ⟨h.len, h.inc, fun j g r hj hl => by
    obtain ⟨a, b, c⟩ := h.rows j g r hj hl
    refine ⟨a, b, (heap_setCell_other w p g u (fun e => ?_)).trans c⟩
    rw [e, hp] at c
    injection c with c
    injection c with _ ht
    exact hT ht, ownT_kept h.own hp hT2 u⟩
/-- a store into a row that the matrix does not own, but of the rows' type. -/
theorem mat_apart {B : Nat} {w : World} {v : Value} {m : Nat} {ls : List (List Int)} {gs : List Nat} (h : MatOwn B w v m ls gs) {p : Addr} {cur : Array Value} (hp : w.heap[p.block]? = some (.cells cur 2 (0, 0))) (hg : p.block ∉ gs) (u : Value) : MatOwn B (w.setCell p u) v m ls gs :=
  ⟨h.len, h.inc, fun j g r hj hl => by
    obtain ⟨a, b, c⟩ := h.rows j g r hj hl
    exact ⟨a, b, (heap_setCell_other w p g u (fun e => hg (by rw [← e]; exact List.mem_of_getElem? hj))).trans c⟩, ownT_kept h.own hp (by decide) u⟩
/-- a store into one of the matrix's own rows. -/
theorem mat_store {B : Nat} {w : World} {v : Value} {m : Nat} {ls : List (List Int)} {gs : List Nat} (h : MatOwn B w v m ls gs) {i g k : Nat} {r : List Int} (hg : gs[i]? = some g) (hr : ls[i]? = some r) (n : Int) : MatOwn B (w.setCell ⟨g, k, none⟩ (.int .i64 n)) v m (ls.set i (r.set k n)) gs := by
  obtain ⟨a, b, c⟩ := h.rows i g r hg hr
  refine ⟨by rw [List.length_set]; exact h.len, h.inc, fun j g' r' hj hl => ?_, ?_⟩
  · by_cases e : j = i
    · subst e
      rw [hg] at hj
      injection hj with hj
      subst hj
      rw [List.getElem?_set_self (List.getElem?_eq_some_iff.1 hr).1] at hl
      injection hl with hl
      subst hl
      refine ⟨a, by rw [List.length_set]; exact b, ?_⟩
      rw [heap_setCell_same w g k _ _ _ c, ← i64s_set]
      simp
    · rw [List.getElem?_set_ne (fun e' => e e'.symm)] at hl
      obtain ⟨a', b', c'⟩ := h.rows j g' r' hj hl
      refine ⟨a', b', (heap_setCell_other w ⟨g, k, none⟩ g' _ (fun e' => ?_)).trans c'⟩
      have hjl := (List.getElem?_eq_some_iff.1 hj)
      have hil := (List.getElem?_eq_some_iff.1 hg)
      obtain ⟨h1, h2⟩ := hjl
      obtain ⟨h3, h4⟩ := hil
      have e'' : gs[j] = gs[i] := by rw [h2, h4]; exact e'
      have hp := List.pairwise_iff_getElem.1 h.inc
      rcases Nat.lt_or_gt_of_ne e with hlt | hlt
      · have := hp j i h1 h3 hlt; omega
      · have := hp i j h3 h1 hlt; omega
  · rw [List.length_set]
    exact ownT_kept h.own (p := ⟨g, k, none⟩) c (by decide) _
theorem MadeOwn.below {B : Nat} {w w' : World} {X : InstD} {h : HdD} {g7 g8 : List Nat} (H : MadeOwn B w X h g7 g8) (hb : Below w.heap.size w w') : MadeOwn B w' X h g7 g8 :=
  ⟨own_below H.sats hb, own_below H.custs hb, H.cost.below hb, H.time.below hb, H.apart, H.tabs⟩
/-- what stands in the box of an instance that may have been spoilt. -/
structure Spoilt (w : World) (g : Nat) (X : InstD) (h : HdD) : Prop where
  blk : w.heap[g]? = some (.cells (instC X h) 29 (0, 0))
  is : InstIs w X h
  ls : X.sats.length ≤ 1000000
  lc : X.custs.length ≤ 1000000
theorem spoil_0 {w1 w : World} {g : Nat} {X : InstD} {h : HdD} (hg : w1.heap.size = g) (H : InstIs w1 X h) (hb : Below g w1 w) (hB : w.heap[g]? = some (.cells (instC X h) 29 (0, 0))) (ls : X.sats.length ≤ 1000000) (lc : X.custs.length ≤ 1000000) (n : Int) :
    Spoilt (w.setCell ⟨g, 0, none⟩ (.int .i64 n)) g { X with fin := n } h := by
  subst hg
  have hb2 : Below w1.heap.size w1 (w.setCell ⟨w1.heap.size, 0, none⟩ (.int .i64 n)) := hb.setCell (Nat.le_refl _) _
  exact ⟨heap_set w _ 0 _ _ _ hB, ⟨H.sats.below hb2, H.custs.below hb2, H.cost.below hb2, H.time.below hb2, H.ls, H.lc, H.lo, H.lt⟩, ls, lc⟩
theorem spoil_1 {w1 w : World} {g : Nat} {X : InstD} {h : HdD} (hg : w1.heap.size = g) (H : InstIs w1 X h) (hb : Below g w1 w) (hB : w.heap[g]? = some (.cells (instC X h) 29 (0, 0))) (ls : X.sats.length ≤ 1000000) (lc : X.custs.length ≤ 1000000) (n : Int) :
    Spoilt (w.setCell ⟨g, 1, none⟩ (.int .i64 n)) g { X with tm := n } h := by
  subst hg
  have hb2 : Below w1.heap.size w1 (w.setCell ⟨w1.heap.size, 1, none⟩ (.int .i64 n)) := hb.setCell (Nat.le_refl _) _
  exact ⟨heap_set w _ 1 _ _ _ hB, ⟨H.sats.below hb2, H.custs.below hb2, H.cost.below hb2, H.time.below hb2, H.ls, H.lc, H.lo, H.lt⟩, ls, lc⟩
theorem spoil_2 {w1 w : World} {g : Nat} {X : InstD} {h : HdD} (hg : w1.heap.size = g) (H : InstIs w1 X h) (hb : Below g w1 w) (hB : w.heap[g]? = some (.cells (instC X h) 29 (0, 0))) (ls : X.sats.length ≤ 1000000) (lc : X.custs.length ≤ 1000000) (n : Int) :
    Spoilt (w.setCell ⟨g, 2, none⟩ (.int .i64 n)) g { X with tr := n } h := by
  subst hg
  have hb2 : Below w1.heap.size w1 (w.setCell ⟨w1.heap.size, 2, none⟩ (.int .i64 n)) := hb.setCell (Nat.le_refl _) _
  exact ⟨heap_set w _ 2 _ _ _ hB, ⟨H.sats.below hb2, H.custs.below hb2, H.cost.below hb2, H.time.below hb2, H.ls, H.lc, H.lo, H.lt⟩, ls, lc⟩
theorem spoil_3 {w1 w : World} {g : Nat} {X : InstD} {h : HdD} (hg : w1.heap.size = g) (H : InstIs w1 X h) (hb : Below g w1 w) (hB : w.heap[g]? = some (.cells (instC X h) 29 (0, 0))) (ls : X.sats.length ≤ 1000000) (lc : X.custs.length ≤ 1000000) (n : Int) :
    Spoilt (w.setCell ⟨g, 3, none⟩ (.int .i64 n)) g { X with bm := n } h := by
  subst hg
  have hb2 : Below w1.heap.size w1 (w.setCell ⟨w1.heap.size, 3, none⟩ (.int .i64 n)) := hb.setCell (Nat.le_refl _) _
  exact ⟨heap_set w _ 3 _ _ _ hB, ⟨H.sats.below hb2, H.custs.below hb2, H.cost.below hb2, H.time.below hb2, H.ls, H.lc, H.lo, H.lt⟩, ls, lc⟩
theorem spoil_4 {w1 w : World} {g : Nat} {X : InstD} {h : HdD} (hg : w1.heap.size = g) (H : InstIs w1 X h) (hb : Below g w1 w) (hB : w.heap[g]? = some (.cells (instC X h) 29 (0, 0))) (ls : X.sats.length ≤ 1000000) (lc : X.custs.length ≤ 1000000) (n : Int) :
    Spoilt (w.setCell ⟨g, 4, none⟩ (.int .i64 n)) g { X with br := n } h := by
  subst hg
  have hb2 : Below w1.heap.size w1 (w.setCell ⟨w1.heap.size, 4, none⟩ (.int .i64 n)) := hb.setCell (Nat.le_refl _) _
  exact ⟨heap_set w _ 4 _ _ _ hB, ⟨H.sats.below hb2, H.custs.below hb2, H.cost.below hb2, H.time.below hb2, H.ls, H.lc, H.lo, H.lt⟩, ls, lc⟩
theorem spoil_5 {B : Nat} {w : World} {g : Nat} {X : InstD} {h : HdD} {g7 g8 : List Nat} (H : MadeOwn B w X h g7 g8) (hB : w.heap[g]? = some (.cells (instC X h) 29 (0, 0))) (ls : X.sats.length ≤ 1000) (lc : X.custs.length ≤ 1000) (lo : X.cost.length ≤ 3000) (lt : X.time.length ≤ 3000) (n : Int) (t : Nat) (ht : t < X.sats.length) :
    ∃ gs, h.sa = some ⟨gs, 0, none⟩ ∧ (∃ v, w.cell? ⟨gs, t * 2, none⟩ = some v) ∧ w.frozen? ⟨gs, t * 2, none⟩ = false ∧ Spoilt (w.setCell ⟨gs, t * 2, none⟩ (.int .i64 n)) g { X with sats := X.sats.set t { X.sats[t] with room := n } } h := by
  obtain ⟨sa, sc, ca, cc, oa, oc, ta, tc⟩ := h
  obtain ⟨gs, cap, hv⟩ := own_form H.sats (by omega)
  injection hv with hA hn hC
  dsimp only at hA hn hC
  have HS := H.sats
  dsimp only at HS
  rw [hA] at HS
  have hlen := HS.1
  have hat : t * 2 < X.sats.length * 2 := by omega
  obtain ⟨hst, hgr⟩ := HS.stored (t * 2) (.int .i64 n)
  have hcur : ∃ cur, w.heap[gs]? = some (.cells cur 62 (0, 0)) := by
    rcases HS.2 with ⟨h', _⟩ | ⟨g', cap', cur, h', _, hg', _⟩
    · simp at h'
    · injection h' with h' _ _
      injection h' with h'
      injection h' with h'
      subst h'
      exact ⟨cur, hg'⟩
  obtain ⟨cur, hcur⟩ := hcur
  refine ⟨gs, hA, ⟨(X.sats.flatMap satV)[t * 2]'(by rw [hlen]; exact hat), ?_⟩, HS.frozenAt _, ?_, ?_, ?_, ?_⟩
  · rw [HS.cellAt _ hat, List.getElem?_eq_getElem]
  · refine (heap_setCell_other w ⟨gs, t * 2, none⟩ g _ (fun e => ?_)).trans ?_
    · have e' : g = gs := e
      rw [e', hcur] at hB
      injection hB with hB
      injection hB with _ ht
      exact absurd ht (by decide)
    · rw [hB]
      unfold instC
      simp
  · have e1 : (X.sats.flatMap satV).set (t * 2) (.int .i64 n) = (X.sats.set t { X.sats[t] with room := n }).flatMap satV := flat_set satV 2 (fun _ => rfl) _ 0 (by decide) _ _ t ht rfl
    rw [e1] at hst
    have hl : (X.sats.set t { X.sats[t] with room := n }).length = X.sats.length := List.length_set
    have M2 : MadeOwn B (w.setCell ⟨gs, t * 2, none⟩ (.int .i64 n)) { X with sats := X.sats.set t { X.sats[t] with room := n } } ⟨sa, sc, ca, cc, oa, oc, ta, tc⟩ g7 g8 := by
      have hN : nodesN { X with sats := X.sats.set t { X.sats[t] with room := n } } = nodesN X := by unfold nodesN; simp
      refine ⟨by show World.ownsRow _ B _ 2 (.slice sa (X.sats.set _ _).length sc) (X.sats.set _ _).length _; rw [hl, hA]; exact hst, ownT_kept H.custs (p := ⟨gs, t * 2, none⟩) hcur (by decide) _, ?_, ?_, H.apart, H.tabs⟩
      · rw [hN]; exact matT_kept H.cost (p := ⟨gs, t * 2, none⟩) hcur (by decide) (by decide) _
      · rw [hN]; exact matT_kept H.time (p := ⟨gs, t * 2, none⟩) hcur (by decide) (by decide) _
    exact M2.is (by first | exact ls | (show (X.sats.set _ _).length ≤ 1000; rw [List.length_set]; exact ls)) (by first | exact lc | (show (X.custs.set _ _).length ≤ 1000; rw [List.length_set]; exact lc)) lo lt
  · first | (show X.sats.length ≤ 1000000; omega) | (show (X.sats.set _ _).length ≤ 1000000; rw [List.length_set]; omega)
  · first | (show X.custs.length ≤ 1000000; omega) | (show (X.custs.set _ _).length ≤ 1000000; rw [List.length_set]; omega)
theorem spoil_6 {B : Nat} {w : World} {g : Nat} {X : InstD} {h : HdD} {g7 g8 : List Nat} (H : MadeOwn B w X h g7 g8) (hB : w.heap[g]? = some (.cells (instC X h) 29 (0, 0))) (ls : X.sats.length ≤ 1000) (lc : X.custs.length ≤ 1000) (lo : X.cost.length ≤ 3000) (lt : X.time.length ≤ 3000) (n : Int) (t : Nat) (ht : t < X.sats.length) :
    ∃ gs, h.sa = some ⟨gs, 0, none⟩ ∧ (∃ v, w.cell? ⟨gs, t * 2 + 1, none⟩ = some v) ∧ w.frozen? ⟨gs, t * 2 + 1, none⟩ = false ∧ Spoilt (w.setCell ⟨gs, t * 2 + 1, none⟩ (.int .i64 n)) g { X with sats := X.sats.set t { X.sats[t] with hold := n } } h := by
  obtain ⟨sa, sc, ca, cc, oa, oc, ta, tc⟩ := h
  obtain ⟨gs, cap, hv⟩ := own_form H.sats (by omega)
  injection hv with hA hn hC
  dsimp only at hA hn hC
  have HS := H.sats
  dsimp only at HS
  rw [hA] at HS
  have hlen := HS.1
  have hat : t * 2 + 1 < X.sats.length * 2 := by omega
  obtain ⟨hst, hgr⟩ := HS.stored (t * 2 + 1) (.int .i64 n)
  have hcur : ∃ cur, w.heap[gs]? = some (.cells cur 62 (0, 0)) := by
    rcases HS.2 with ⟨h', _⟩ | ⟨g', cap', cur, h', _, hg', _⟩
    · simp at h'
    · injection h' with h' _ _
      injection h' with h'
      injection h' with h'
      subst h'
      exact ⟨cur, hg'⟩
  obtain ⟨cur, hcur⟩ := hcur
  refine ⟨gs, hA, ⟨(X.sats.flatMap satV)[t * 2 + 1]'(by rw [hlen]; exact hat), ?_⟩, HS.frozenAt _, ?_, ?_, ?_, ?_⟩
  · rw [HS.cellAt _ hat, List.getElem?_eq_getElem]
  · refine (heap_setCell_other w ⟨gs, t * 2 + 1, none⟩ g _ (fun e => ?_)).trans ?_
    · have e' : g = gs := e
      rw [e', hcur] at hB
      injection hB with hB
      injection hB with _ ht
      exact absurd ht (by decide)
    · rw [hB]
      unfold instC
      simp
  · have e1 : (X.sats.flatMap satV).set (t * 2 + 1) (.int .i64 n) = (X.sats.set t { X.sats[t] with hold := n }).flatMap satV := flat_set satV 2 (fun _ => rfl) _ 1 (by decide) _ _ t ht rfl
    rw [e1] at hst
    have hl : (X.sats.set t { X.sats[t] with hold := n }).length = X.sats.length := List.length_set
    have M2 : MadeOwn B (w.setCell ⟨gs, t * 2 + 1, none⟩ (.int .i64 n)) { X with sats := X.sats.set t { X.sats[t] with hold := n } } ⟨sa, sc, ca, cc, oa, oc, ta, tc⟩ g7 g8 := by
      have hN : nodesN { X with sats := X.sats.set t { X.sats[t] with hold := n } } = nodesN X := by unfold nodesN; simp
      refine ⟨by show World.ownsRow _ B _ 2 (.slice sa (X.sats.set _ _).length sc) (X.sats.set _ _).length _; rw [hl, hA]; exact hst, ownT_kept H.custs (p := ⟨gs, t * 2 + 1, none⟩) hcur (by decide) _, ?_, ?_, H.apart, H.tabs⟩
      · rw [hN]; exact matT_kept H.cost (p := ⟨gs, t * 2 + 1, none⟩) hcur (by decide) (by decide) _
      · rw [hN]; exact matT_kept H.time (p := ⟨gs, t * 2 + 1, none⟩) hcur (by decide) (by decide) _
    exact M2.is (by first | exact ls | (show (X.sats.set _ _).length ≤ 1000; rw [List.length_set]; exact ls)) (by first | exact lc | (show (X.custs.set _ _).length ≤ 1000; rw [List.length_set]; exact lc)) lo lt
  · first | (show X.sats.length ≤ 1000000; omega) | (show (X.sats.set _ _).length ≤ 1000000; rw [List.length_set]; omega)
  · first | (show X.custs.length ≤ 1000000; omega) | (show (X.custs.set _ _).length ≤ 1000000; rw [List.length_set]; omega)
theorem spoil_7 {B : Nat} {w : World} {g : Nat} {X : InstD} {h : HdD} {g7 g8 : List Nat} (H : MadeOwn B w X h g7 g8) (hB : w.heap[g]? = some (.cells (instC X h) 29 (0, 0))) (ls : X.sats.length ≤ 1000) (lc : X.custs.length ≤ 1000) (lo : X.cost.length ≤ 3000) (lt : X.time.length ≤ 3000) (n : Int) (t : Nat) (ht : t < X.custs.length) :
    ∃ gs, h.ca = some ⟨gs, 0, none⟩ ∧ (∃ v, w.cell? ⟨gs, t * 4, none⟩ = some v) ∧ w.frozen? ⟨gs, t * 4, none⟩ = false ∧ Spoilt (w.setCell ⟨gs, t * 4, none⟩ (.int .i64 n)) g { X with custs := X.custs.set t { X.custs[t] with load := n } } h := by
  obtain ⟨sa, sc, ca, cc, oa, oc, ta, tc⟩ := h
  obtain ⟨gs, cap, hv⟩ := own_form H.custs (by omega)
  injection hv with hA hn hC
  dsimp only at hA hn hC
  have HS := H.custs
  dsimp only at HS
  rw [hA] at HS
  have hlen := HS.1
  have hat : t * 4 < X.custs.length * 4 := by omega
  obtain ⟨hst, hgr⟩ := HS.stored (t * 4) (.int .i64 n)
  have hcur : ∃ cur, w.heap[gs]? = some (.cells cur 66 (0, 0)) := by
    rcases HS.2 with ⟨h', _⟩ | ⟨g', cap', cur, h', _, hg', _⟩
    · simp at h'
    · injection h' with h' _ _
      injection h' with h'
      injection h' with h'
      subst h'
      exact ⟨cur, hg'⟩
  obtain ⟨cur, hcur⟩ := hcur
  refine ⟨gs, hA, ⟨(X.custs.flatMap custV)[t * 4]'(by rw [hlen]; exact hat), ?_⟩, HS.frozenAt _, ?_, ?_, ?_, ?_⟩
  · rw [HS.cellAt _ hat, List.getElem?_eq_getElem]
  · refine (heap_setCell_other w ⟨gs, t * 4, none⟩ g _ (fun e => ?_)).trans ?_
    · have e' : g = gs := e
      rw [e', hcur] at hB
      injection hB with hB
      injection hB with _ ht
      exact absurd ht (by decide)
    · rw [hB]
      unfold instC
      simp
  · have e1 : (X.custs.flatMap custV).set (t * 4) (.int .i64 n) = (X.custs.set t { X.custs[t] with load := n }).flatMap custV := flat_set custV 4 (fun _ => rfl) _ 0 (by decide) _ _ t ht rfl
    rw [e1] at hst
    have hl : (X.custs.set t { X.custs[t] with load := n }).length = X.custs.length := List.length_set
    have M2 : MadeOwn B (w.setCell ⟨gs, t * 4, none⟩ (.int .i64 n)) { X with custs := X.custs.set t { X.custs[t] with load := n } } ⟨sa, sc, ca, cc, oa, oc, ta, tc⟩ g7 g8 := by
      have hN : nodesN { X with custs := X.custs.set t { X.custs[t] with load := n } } = nodesN X := by unfold nodesN; simp
      refine ⟨ownT_kept H.sats (p := ⟨gs, t * 4, none⟩) hcur (by decide) _, by show World.ownsRow _ B _ 4 (.slice ca (X.custs.set _ _).length cc) (X.custs.set _ _).length _; rw [hl, hA]; exact hst, ?_, ?_, H.apart, H.tabs⟩
      · rw [hN]; exact matT_kept H.cost (p := ⟨gs, t * 4, none⟩) hcur (by decide) (by decide) _
      · rw [hN]; exact matT_kept H.time (p := ⟨gs, t * 4, none⟩) hcur (by decide) (by decide) _
    exact M2.is (by first | exact ls | (show (X.sats.set _ _).length ≤ 1000; rw [List.length_set]; exact ls)) (by first | exact lc | (show (X.custs.set _ _).length ≤ 1000; rw [List.length_set]; exact lc)) lo lt
  · first | (show X.sats.length ≤ 1000000; omega) | (show (X.sats.set _ _).length ≤ 1000000; rw [List.length_set]; omega)
  · first | (show X.custs.length ≤ 1000000; omega) | (show (X.custs.set _ _).length ≤ 1000000; rw [List.length_set]; omega)
theorem spoil_8 {B : Nat} {w : World} {g : Nat} {X : InstD} {h : HdD} {g7 g8 : List Nat} (H : MadeOwn B w X h g7 g8) (hB : w.heap[g]? = some (.cells (instC X h) 29 (0, 0))) (ls : X.sats.length ≤ 1000) (lc : X.custs.length ≤ 1000) (lo : X.cost.length ≤ 3000) (lt : X.time.length ≤ 3000) (n : Int) (t : Nat) (ht : t < X.custs.length) :
    ∃ gs, h.ca = some ⟨gs, 0, none⟩ ∧ (∃ v, w.cell? ⟨gs, t * 4 + 1, none⟩ = some v) ∧ w.frozen? ⟨gs, t * 4 + 1, none⟩ = false ∧ Spoilt (w.setCell ⟨gs, t * 4 + 1, none⟩ (.int .i64 n)) g { X with custs := X.custs.set t { X.custs[t] with opn := n } } h := by
  obtain ⟨sa, sc, ca, cc, oa, oc, ta, tc⟩ := h
  obtain ⟨gs, cap, hv⟩ := own_form H.custs (by omega)
  injection hv with hA hn hC
  dsimp only at hA hn hC
  have HS := H.custs
  dsimp only at HS
  rw [hA] at HS
  have hlen := HS.1
  have hat : t * 4 + 1 < X.custs.length * 4 := by omega
  obtain ⟨hst, hgr⟩ := HS.stored (t * 4 + 1) (.int .i64 n)
  have hcur : ∃ cur, w.heap[gs]? = some (.cells cur 66 (0, 0)) := by
    rcases HS.2 with ⟨h', _⟩ | ⟨g', cap', cur, h', _, hg', _⟩
    · simp at h'
    · injection h' with h' _ _
      injection h' with h'
      injection h' with h'
      subst h'
      exact ⟨cur, hg'⟩
  obtain ⟨cur, hcur⟩ := hcur
  refine ⟨gs, hA, ⟨(X.custs.flatMap custV)[t * 4 + 1]'(by rw [hlen]; exact hat), ?_⟩, HS.frozenAt _, ?_, ?_, ?_, ?_⟩
  · rw [HS.cellAt _ hat, List.getElem?_eq_getElem]
  · refine (heap_setCell_other w ⟨gs, t * 4 + 1, none⟩ g _ (fun e => ?_)).trans ?_
    · have e' : g = gs := e
      rw [e', hcur] at hB
      injection hB with hB
      injection hB with _ ht
      exact absurd ht (by decide)
    · rw [hB]
      unfold instC
      simp
  · have e1 : (X.custs.flatMap custV).set (t * 4 + 1) (.int .i64 n) = (X.custs.set t { X.custs[t] with opn := n }).flatMap custV := flat_set custV 4 (fun _ => rfl) _ 1 (by decide) _ _ t ht rfl
    rw [e1] at hst
    have hl : (X.custs.set t { X.custs[t] with opn := n }).length = X.custs.length := List.length_set
    have M2 : MadeOwn B (w.setCell ⟨gs, t * 4 + 1, none⟩ (.int .i64 n)) { X with custs := X.custs.set t { X.custs[t] with opn := n } } ⟨sa, sc, ca, cc, oa, oc, ta, tc⟩ g7 g8 := by
      have hN : nodesN { X with custs := X.custs.set t { X.custs[t] with opn := n } } = nodesN X := by unfold nodesN; simp
      refine ⟨ownT_kept H.sats (p := ⟨gs, t * 4 + 1, none⟩) hcur (by decide) _, by show World.ownsRow _ B _ 4 (.slice ca (X.custs.set _ _).length cc) (X.custs.set _ _).length _; rw [hl, hA]; exact hst, ?_, ?_, H.apart, H.tabs⟩
      · rw [hN]; exact matT_kept H.cost (p := ⟨gs, t * 4 + 1, none⟩) hcur (by decide) (by decide) _
      · rw [hN]; exact matT_kept H.time (p := ⟨gs, t * 4 + 1, none⟩) hcur (by decide) (by decide) _
    exact M2.is (by first | exact ls | (show (X.sats.set _ _).length ≤ 1000; rw [List.length_set]; exact ls)) (by first | exact lc | (show (X.custs.set _ _).length ≤ 1000; rw [List.length_set]; exact lc)) lo lt
  · first | (show X.sats.length ≤ 1000000; omega) | (show (X.sats.set _ _).length ≤ 1000000; rw [List.length_set]; omega)
  · first | (show X.custs.length ≤ 1000000; omega) | (show (X.custs.set _ _).length ≤ 1000000; rw [List.length_set]; omega)
theorem spoil_9 {B : Nat} {w : World} {g : Nat} {X : InstD} {h : HdD} {g7 g8 : List Nat} (H : MadeOwn B w X h g7 g8) (hB : w.heap[g]? = some (.cells (instC X h) 29 (0, 0))) (ls : X.sats.length ≤ 1000) (lc : X.custs.length ≤ 1000) (lo : X.cost.length ≤ 3000) (lt : X.time.length ≤ 3000) (n : Int) (t : Nat) (ht : t < X.custs.length) :
    ∃ gs, h.ca = some ⟨gs, 0, none⟩ ∧ (∃ v, w.cell? ⟨gs, t * 4 + 2, none⟩ = some v) ∧ w.frozen? ⟨gs, t * 4 + 2, none⟩ = false ∧ Spoilt (w.setCell ⟨gs, t * 4 + 2, none⟩ (.int .i64 n)) g { X with custs := X.custs.set t { X.custs[t] with close := n } } h := by
  obtain ⟨sa, sc, ca, cc, oa, oc, ta, tc⟩ := h
  obtain ⟨gs, cap, hv⟩ := own_form H.custs (by omega)
  injection hv with hA hn hC
  dsimp only at hA hn hC
  have HS := H.custs
  dsimp only at HS
  rw [hA] at HS
  have hlen := HS.1
  have hat : t * 4 + 2 < X.custs.length * 4 := by omega
  obtain ⟨hst, hgr⟩ := HS.stored (t * 4 + 2) (.int .i64 n)
  have hcur : ∃ cur, w.heap[gs]? = some (.cells cur 66 (0, 0)) := by
    rcases HS.2 with ⟨h', _⟩ | ⟨g', cap', cur, h', _, hg', _⟩
    · simp at h'
    · injection h' with h' _ _
      injection h' with h'
      injection h' with h'
      subst h'
      exact ⟨cur, hg'⟩
  obtain ⟨cur, hcur⟩ := hcur
  refine ⟨gs, hA, ⟨(X.custs.flatMap custV)[t * 4 + 2]'(by rw [hlen]; exact hat), ?_⟩, HS.frozenAt _, ?_, ?_, ?_, ?_⟩
  · rw [HS.cellAt _ hat, List.getElem?_eq_getElem]
  · refine (heap_setCell_other w ⟨gs, t * 4 + 2, none⟩ g _ (fun e => ?_)).trans ?_
    · have e' : g = gs := e
      rw [e', hcur] at hB
      injection hB with hB
      injection hB with _ ht
      exact absurd ht (by decide)
    · rw [hB]
      unfold instC
      simp
  · have e1 : (X.custs.flatMap custV).set (t * 4 + 2) (.int .i64 n) = (X.custs.set t { X.custs[t] with close := n }).flatMap custV := flat_set custV 4 (fun _ => rfl) _ 2 (by decide) _ _ t ht rfl
    rw [e1] at hst
    have hl : (X.custs.set t { X.custs[t] with close := n }).length = X.custs.length := List.length_set
    have M2 : MadeOwn B (w.setCell ⟨gs, t * 4 + 2, none⟩ (.int .i64 n)) { X with custs := X.custs.set t { X.custs[t] with close := n } } ⟨sa, sc, ca, cc, oa, oc, ta, tc⟩ g7 g8 := by
      have hN : nodesN { X with custs := X.custs.set t { X.custs[t] with close := n } } = nodesN X := by unfold nodesN; simp
      refine ⟨ownT_kept H.sats (p := ⟨gs, t * 4 + 2, none⟩) hcur (by decide) _, by show World.ownsRow _ B _ 4 (.slice ca (X.custs.set _ _).length cc) (X.custs.set _ _).length _; rw [hl, hA]; exact hst, ?_, ?_, H.apart, H.tabs⟩
      · rw [hN]; exact matT_kept H.cost (p := ⟨gs, t * 4 + 2, none⟩) hcur (by decide) (by decide) _
      · rw [hN]; exact matT_kept H.time (p := ⟨gs, t * 4 + 2, none⟩) hcur (by decide) (by decide) _
    exact M2.is (by first | exact ls | (show (X.sats.set _ _).length ≤ 1000; rw [List.length_set]; exact ls)) (by first | exact lc | (show (X.custs.set _ _).length ≤ 1000; rw [List.length_set]; exact lc)) lo lt
  · first | (show X.sats.length ≤ 1000000; omega) | (show (X.sats.set _ _).length ≤ 1000000; rw [List.length_set]; omega)
  · first | (show X.custs.length ≤ 1000000; omega) | (show (X.custs.set _ _).length ≤ 1000000; rw [List.length_set]; omega)
theorem spoil_10 {B : Nat} {w : World} {g : Nat} {X : InstD} {h : HdD} {g7 g8 : List Nat} (H : MadeOwn B w X h g7 g8) (hB : w.heap[g]? = some (.cells (instC X h) 29 (0, 0))) (ls : X.sats.length ≤ 1000) (lc : X.custs.length ≤ 1000) (lo : X.cost.length ≤ 3000) (lt : X.time.length ≤ 3000) (n : Int) (t : Nat) (ht : t < X.custs.length) :
    ∃ gs, h.ca = some ⟨gs, 0, none⟩ ∧ (∃ v, w.cell? ⟨gs, t * 4 + 3, none⟩ = some v) ∧ w.frozen? ⟨gs, t * 4 + 3, none⟩ = false ∧ Spoilt (w.setCell ⟨gs, t * 4 + 3, none⟩ (.int .i64 n)) g { X with custs := X.custs.set t { X.custs[t] with stay := n } } h := by
  obtain ⟨sa, sc, ca, cc, oa, oc, ta, tc⟩ := h
  obtain ⟨gs, cap, hv⟩ := own_form H.custs (by omega)
  injection hv with hA hn hC
  dsimp only at hA hn hC
  have HS := H.custs
  dsimp only at HS
  rw [hA] at HS
  have hlen := HS.1
  have hat : t * 4 + 3 < X.custs.length * 4 := by omega
  obtain ⟨hst, hgr⟩ := HS.stored (t * 4 + 3) (.int .i64 n)
  have hcur : ∃ cur, w.heap[gs]? = some (.cells cur 66 (0, 0)) := by
    rcases HS.2 with ⟨h', _⟩ | ⟨g', cap', cur, h', _, hg', _⟩
    · simp at h'
    · injection h' with h' _ _
      injection h' with h'
      injection h' with h'
      subst h'
      exact ⟨cur, hg'⟩
  obtain ⟨cur, hcur⟩ := hcur
  refine ⟨gs, hA, ⟨(X.custs.flatMap custV)[t * 4 + 3]'(by rw [hlen]; exact hat), ?_⟩, HS.frozenAt _, ?_, ?_, ?_, ?_⟩
  · rw [HS.cellAt _ hat, List.getElem?_eq_getElem]
  · refine (heap_setCell_other w ⟨gs, t * 4 + 3, none⟩ g _ (fun e => ?_)).trans ?_
    · have e' : g = gs := e
      rw [e', hcur] at hB
      injection hB with hB
      injection hB with _ ht
      exact absurd ht (by decide)
    · rw [hB]
      unfold instC
      simp
  · have e1 : (X.custs.flatMap custV).set (t * 4 + 3) (.int .i64 n) = (X.custs.set t { X.custs[t] with stay := n }).flatMap custV := flat_set custV 4 (fun _ => rfl) _ 3 (by decide) _ _ t ht rfl
    rw [e1] at hst
    have hl : (X.custs.set t { X.custs[t] with stay := n }).length = X.custs.length := List.length_set
    have M2 : MadeOwn B (w.setCell ⟨gs, t * 4 + 3, none⟩ (.int .i64 n)) { X with custs := X.custs.set t { X.custs[t] with stay := n } } ⟨sa, sc, ca, cc, oa, oc, ta, tc⟩ g7 g8 := by
      have hN : nodesN { X with custs := X.custs.set t { X.custs[t] with stay := n } } = nodesN X := by unfold nodesN; simp
      refine ⟨ownT_kept H.sats (p := ⟨gs, t * 4 + 3, none⟩) hcur (by decide) _, by show World.ownsRow _ B _ 4 (.slice ca (X.custs.set _ _).length cc) (X.custs.set _ _).length _; rw [hl, hA]; exact hst, ?_, ?_, H.apart, H.tabs⟩
      · rw [hN]; exact matT_kept H.cost (p := ⟨gs, t * 4 + 3, none⟩) hcur (by decide) (by decide) _
      · rw [hN]; exact matT_kept H.time (p := ⟨gs, t * 4 + 3, none⟩) hcur (by decide) (by decide) _
    exact M2.is (by first | exact ls | (show (X.sats.set _ _).length ≤ 1000; rw [List.length_set]; exact ls)) (by first | exact lc | (show (X.custs.set _ _).length ≤ 1000; rw [List.length_set]; exact lc)) lo lt
  · first | (show X.sats.length ≤ 1000000; omega) | (show (X.sats.set _ _).length ≤ 1000000; rw [List.length_set]; omega)
  · first | (show X.custs.length ≤ 1000000; omega) | (show (X.custs.set _ _).length ≤ 1000000; rw [List.length_set]; omega)
end Go.Proofs.Ytljcpgeggbbmfaa
namespace Go.Proofs.Ytljcpgeggbbmfaa
set_option linter.unusedVariables false
set_option linter.unusedSimpArgs false
open Go.RowKit
theorem own_grownT {w w' : World} {B e s n : Nat} {v : Value} {xs : List Value} (h : w.ownsRow B e s v n xs) {row : Option Nat} (hg : w.grownBy w' row) (hT : ∀ k, row = some k → ∃ cur T, w.heap[k]? = some (.cells cur T (0, 0)) ∧ T ≠ e) : w'.ownsRow B e s v n xs := by
  refine h.kept hg ?_
  rcases h.2 with ⟨rfl, _⟩ | ⟨g, cap, c2, rfl, _, hh, _⟩
  · exact .inl rfl
  · refine .inr (fun e => ?_)
    obtain ⟨cur, T, h1, h2⟩ := hT g (by rw [← e]; rfl)
    rw [h1] at hh
    injection hh with hh
    injection hh with _ ht
    exact h2 ht
theorem mat_grownT {B : Nat} {w w' : World} {v : Value} {m : Nat} {ls : List (List Int)} {gs : List Nat} (h : MatOwn B w v m ls gs) {row : Option Nat} (hg : w.grownBy w' row) (hT : ∀ k, row = some k → ∃ cur T, w.heap[k]? = some (.cells cur T (0, 0)) ∧ T ≠ 2 ∧ T ≠ 53) : MatOwn B w' v m ls gs :=
  ⟨h.len, h.inc, fun j g r hj hl => by
    obtain ⟨a, b, c⟩ := h.rows j g r hj hl
    refine ⟨a, b, (hg.block g (heap_lt c) (fun e => ?_)).trans c⟩
    obtain ⟨cur, T, h1, h2, _⟩ := hT g e.symm
    rw [h1] at c
    injection c with c
    injection c with _ ht
    exact h2 ht, own_grownT h.own hg (fun k hk => by obtain ⟨cur, T, h1, _, h3⟩ := hT k hk; exact ⟨cur, T, h1, h3⟩)⟩
/-- the i-th row of a matrix that Make has made. -/
theorem MatOwn.at {B : Nat} {w : World} {A : Option Addr} {C m : Nat} {ls : List (List Int)} {gs : List Nat} (h : MatOwn B w (.slice A ls.length C) m ls gs) {i : Nat} (hi : i < ls.length) :
    ∃ gh gr, A = some ⟨gh, 0, none⟩ ∧ w.cell? ⟨gh, i, none⟩ = some (.slice (some ⟨gr, 0, none⟩) m m) ∧ gs[i]? = some gr ∧ ls[i].length = m ∧ w.heap[gr]? = some (.cells (i64s ls[i]).toArray 2 (0, 0)) ∧ B ≤ gr ∧
      w.ownsRow B 53 1 (.slice (some ⟨gh, 0, none⟩) ls.length C) ls.length (gs.map fun g => Value.slice (some ⟨g, 0, none⟩) m m) ∧ (∃ cur, w.heap[gh]? = some (.cells cur 53 (0, 0))) := by
  have hi2 : i < gs.length := by rw [h.len]; exact hi
  obtain ⟨a, b, c⟩ := h.rows i gs[i] ls[i] (List.getElem?_eq_getElem hi2) (List.getElem?_eq_getElem hi)
  have ho := h.own
  rcases h.own.2 with ⟨_, h0⟩ | ⟨gh, cap, cur, hv, _, hh, _⟩
  · omega
  · injection hv with hA hn hC
    subst hA
    refine ⟨gh, gs[i], rfl, ?_, List.getElem?_eq_getElem hi2, b, c, a, ho, cur, hh⟩
    have hc := ho.cells (g := gh) rfl i (.slice (some ⟨gs[i], 0, none⟩) m m) (by simp [hi2])
    rwa [add_off, Nat.zero_add] at hc
theorem box_kept {w : World} {g : Nat} {X : InstD} {h : HdD} (hB : w.heap[g]? = some (.cells (instC X h) 29 (0, 0))) {p : Addr} {cur : Array Value} {T : TypeId} (hp : w.heap[p.block]? = some (.cells cur T (0, 0))) (hT : T ≠ 29) (u : Value) :
    (w.setCell p u).heap[g]? = some (.cells (instC X h) 29 (0, 0)) := by
  refine (heap_setCell_other w p g u (fun e => ?_)).trans hB
  rw [e, hp] at hB
  injection hB with hB
  injection hB with _ ht
  exact hT ht
theorem i64s_cell (w : World) (gr k : Nat) (r : List Int) (h : w.heap[gr]? = some (.cells (i64s r).toArray 2 (0, 0))) (hk : k < r.length) : (∃ v, w.cell? ⟨gr, k, none⟩ = some v) ∧ w.frozen? ⟨gr, k, none⟩ = false :=
  ⟨⟨.int .i64 r[k], by rw [cell_of_row w gr k _ _ _ h]; simp [i64s, hk]⟩, frozen_of_row w gr k _ _ h⟩
theorem spoil_11 {B : Nat} {w : World} {g : Nat} {X : InstD} {h : HdD} {g7 g8 : List Nat} (H : MadeOwn B w X h g7 g8) (hB : w.heap[g]? = some (.cells (instC X h) 29 (0, 0))) (ls : X.sats.length ≤ 1000) (lc : X.custs.length ≤ 1000) (lo : X.cost.length ≤ 3000) (lt : X.time.length ≤ 3000) (n : Int) (i k : Nat) (hi : i < X.cost.length) (hk : k < nodesN X) :
    ∃ gh gr, h.oa = some ⟨gh, 0, none⟩ ∧ w.cell? ⟨gh, i, none⟩ = some (.slice (some ⟨gr, 0, none⟩) (nodesN X) (nodesN X)) ∧ (∃ v, w.cell? ⟨gr, k, none⟩ = some v) ∧ w.frozen? ⟨gr, k, none⟩ = false ∧ B ≤ gr ∧
      Spoilt (w.setCell ⟨gr, k, none⟩ (.int .i64 n)) g { X with cost := X.cost.set i (X.cost[i].set k n) } h := by
  obtain ⟨gh, gr, e1, e2, e3, e4, e5, e6, _, _⟩ := H.cost.at hi
  obtain ⟨c1, c2⟩ := i64s_cell w gr k _ e5 (by rw [e4]; exact hk)
  have hl : (X.cost.set i (X.cost[i].set k n)).length = X.cost.length := List.length_set
  refine ⟨gh, gr, e1, e2, c1, c2, e6, ?_, ?_, by show X.sats.length ≤ 1000000; omega, by show X.custs.length ≤ 1000000; omega⟩
  · rw [box_kept hB (p := ⟨gr, k, none⟩) e5 (by decide) _]
    unfold instC
    rw [hl]
  · have M2 : MadeOwn B (w.setCell ⟨gr, k, none⟩ (.int .i64 n)) { X with cost := X.cost.set i (X.cost[i].set k n) } h g7 g8 := by
      refine ⟨ownT_kept H.sats (p := ⟨gr, k, none⟩) e5 (by decide) _, ownT_kept H.custs (p := ⟨gr, k, none⟩) e5 (by decide) _, by show MatOwn B _ (.slice h.oa (X.cost.set _ _).length h.oc) (nodesN X) (X.cost.set _ _) g7; rw [hl]; exact mat_store H.cost e3 (List.getElem?_eq_getElem hi) n, mat_apart H.time (p := ⟨gr, k, none⟩) e5 (fun h8 => H.apart gr (List.mem_of_getElem? e3) h8) _, H.apart, ?_⟩
      show ∀ g, (Value.slice h.oa (X.cost.set i (X.cost[i].set k n)).length h.oc).ownBlock = some g → (Value.slice h.ta X.time.length h.tc).ownBlock ≠ some g
      rw [hl]; exact H.tabs
    exact M2.is ls lc (by first | exact lo | (show (X.cost.set _ _).length ≤ 3000; rw [List.length_set]; exact lo)) (by first | exact lt | (show (X.time.set _ _).length ≤ 3000; rw [List.length_set]; exact lt))
theorem spoil_12 {B : Nat} {w : World} {g : Nat} {X : InstD} {h : HdD} {g7 g8 : List Nat} (H : MadeOwn B w X h g7 g8) (hB : w.heap[g]? = some (.cells (instC X h) 29 (0, 0))) (ls : X.sats.length ≤ 1000) (lc : X.custs.length ≤ 1000) (lo : X.cost.length ≤ 3000) (lt : X.time.length ≤ 3000) (n : Int) (i k : Nat) (hi : i < X.time.length) (hk : k < nodesN X) :
    ∃ gh gr, h.ta = some ⟨gh, 0, none⟩ ∧ w.cell? ⟨gh, i, none⟩ = some (.slice (some ⟨gr, 0, none⟩) (nodesN X) (nodesN X)) ∧ (∃ v, w.cell? ⟨gr, k, none⟩ = some v) ∧ w.frozen? ⟨gr, k, none⟩ = false ∧ B ≤ gr ∧
      Spoilt (w.setCell ⟨gr, k, none⟩ (.int .i64 n)) g { X with time := X.time.set i (X.time[i].set k n) } h := by
  obtain ⟨gh, gr, e1, e2, e3, e4, e5, e6, _, _⟩ := H.time.at hi
  obtain ⟨c1, c2⟩ := i64s_cell w gr k _ e5 (by rw [e4]; exact hk)
  have hl : (X.time.set i (X.time[i].set k n)).length = X.time.length := List.length_set
  refine ⟨gh, gr, e1, e2, c1, c2, e6, ?_, ?_, by show X.sats.length ≤ 1000000; omega, by show X.custs.length ≤ 1000000; omega⟩
  · rw [box_kept hB (p := ⟨gr, k, none⟩) e5 (by decide) _]
    unfold instC
    rw [hl]
  · have M2 : MadeOwn B (w.setCell ⟨gr, k, none⟩ (.int .i64 n)) { X with time := X.time.set i (X.time[i].set k n) } h g7 g8 := by
      refine ⟨ownT_kept H.sats (p := ⟨gr, k, none⟩) e5 (by decide) _, ownT_kept H.custs (p := ⟨gr, k, none⟩) e5 (by decide) _, mat_apart H.cost (p := ⟨gr, k, none⟩) e5 (fun h7 => H.apart gr h7 (List.mem_of_getElem? e3)) _, by show MatOwn B _ (.slice h.ta (X.time.set _ _).length h.tc) (nodesN X) (X.time.set _ _) g8; rw [hl]; exact mat_store H.time e3 (List.getElem?_eq_getElem hi) n, H.apart, ?_⟩
      show ∀ g, (Value.slice h.oa X.cost.length h.oc).ownBlock = some g → (Value.slice h.ta (X.time.set i (X.time[i].set k n)).length h.tc).ownBlock ≠ some g
      rw [hl]; exact H.tabs
    exact M2.is ls lc (by first | exact lo | (show (X.cost.set _ _).length ≤ 3000; rw [List.length_set]; exact lo)) (by first | exact lt | (show (X.time.set _ _).length ≤ 3000; rw [List.length_set]; exact lt))
theorem spoil_14 {w1 w : World} {g : Nat} {X : InstD} {h : HdD} (hg : w1.heap.size = g) (H : InstIs w1 X h) (hb : Below g w1 w) (hB : w.heap[g]? = some (.cells (instC X h) 29 (0, 0))) (ls : X.sats.length ≤ 1000000) (lc : X.custs.length ≤ 1000000) (i : Nat) (hi : i < X.time.length) :
    Spoilt (w.setCell ⟨g, 8, none⟩ (.slice h.ta i h.tc)) g { X with time := X.time.take i } h := by
  subst hg
  have hb2 : Below w1.heap.size w1 (w.setCell ⟨w1.heap.size, 8, none⟩ (.slice h.ta i h.tc)) := hb.setCell (Nat.le_refl _) _
  have hl : (X.time.take i).length = i := by rw [List.length_take]; omega
  refine ⟨?_, ⟨H.sats.below hb2, H.custs.below hb2, H.cost.below hb2, ?_, H.ls, H.lc, H.lo, ?_⟩, ls, lc⟩
  · rw [heap_set w _ 8 _ _ _ hB]
    unfold instC
    rw [hl]; rfl
  · obtain ⟨hs, h1, h2, h3⟩ := H.time.below hb2
    refine ⟨hs.take i, by rw [List.length_take, List.length_take, h1], fun hne => ?_, fun j r hj => ?_⟩
    · obtain ⟨b, off, e, hc⟩ := h2 (fun e => by rw [e] at hne; simp at hne)
      exact ⟨b, off, e, fun q u hu => hc q u (by rw [List.getElem?_take] at hu; split at hu; exact hu; cases hu)⟩
    · have hj2 : j < i ∧ X.time[j]? = some r := by
        rw [List.getElem?_take] at hj
        split at hj
        · exact ⟨by assumption, hj⟩
        · cases hj
      obtain ⟨a, c, p1, p2, p3⟩ := h3 j r hj2.2
      exact ⟨a, c, by rw [List.getElem?_take, if_pos hj2.1]; exact p1, p2, p3⟩
  · show (X.time.take i).length ≤ 9223372036854775807
    have := H.lt; omega
theorem spoil_15 {B : Nat} {w w2 : World} {g : Nat} {X : InstD} {h : HdD} {g7 g8 : List Nat} (H : MadeOwn B w X h g7 g8) (hB : w.heap[g]? = some (.cells (instC X h) 29 (0, 0))) (ls : X.sats.length ≤ 1000) (ls1 : 0 < X.sats.length) (lc : X.custs.length ≤ 1000) (lo : X.cost.length ≤ 3000) (lt : X.time.length ≤ 3000) (n : Int)
    {A : Option Addr} {C : Nat} (o : Obj) (hown : w2.ownsRow B 62 2 (.slice A (X.sats.length + 1) C) (X.sats.length + 1) (X.sats.flatMap satV ++ [.int .i64 n, .int .i64 0])) (hg : (w.alloc o).grownBy w2 (Value.slice h.sa X.sats.length h.sc).ownBlock) :
    w2.cell? ⟨g, 5, none⟩ = some (.slice h.sa X.sats.length h.sc) ∧ w2.frozen? ⟨g, 5, none⟩ = false ∧ Spoilt (w2.setCell ⟨g, 5, none⟩ (.slice A (X.sats.length + 1) C)) g { X with sats := X.sats ++ [(⟨n, 0⟩ : SatD)] } { h with sa := A, sc := C } := by
  have hcur : ∀ k, (Value.slice h.sa X.sats.length h.sc).ownBlock = some k → ∃ cur, (w.alloc o).heap[k]? = some (.cells cur 62 (0, 0)) := fun k hk => by
    rcases H.sats.2 with ⟨_, h0⟩ | ⟨g', cap, cur, hv, _, hh, _⟩
    · omega
    · rw [hv] at hk
      obtain rfl : g' = k := by simpa [Value.ownBlock] using hk
      exact ⟨cur, (Below.heap_alloc w o _ (heap_lt hh)).trans hh⟩
  have hb0 : Below w.heap.size w (w.alloc o) := (Below.refl _ _).alloc (Nat.le_refl _) o
  have hB1 : (w.alloc o).heap[g]? = some (.cells (instC X h) 29 (0, 0)) := (hb0.block g (heap_lt hB)).trans hB
  have hB2 : w2.heap[g]? = some (.cells (instC X h) 29 (0, 0)) := (hg.block g (heap_lt hB1) (fun e => by
    obtain ⟨cur, hc⟩ := hcur g e.symm
    rw [hc] at hB1
    injection hB1 with hB1
    injection hB1 with _ ht
    exact absurd ht (by decide))).trans hB1
  have k2 := own_grownT (own_below H.custs hb0) hg (fun k hk => by obtain ⟨cur, hc⟩ := hcur k hk; exact ⟨cur, _, hc, by decide⟩)
  have k3 := mat_grownT (H.cost.below hb0) hg (fun k hk => by obtain ⟨cur, hc⟩ := hcur k hk; exact ⟨cur, _, hc, by decide, by decide⟩)
  have k4 := mat_grownT (H.time.below hb0) hg (fun k hk => by obtain ⟨cur, hc⟩ := hcur k hk; exact ⟨cur, _, hc, by decide, by decide⟩)
  have hl : (X.sats ++ [(⟨n, 0⟩ : SatD)]).length = X.sats.length + 1 := by simp
  refine ⟨cell_of_row w2 g 5 _ _ _ hB2, frozen_of_row w2 g 5 _ _ hB2, ?_, ?_, ?_, by show X.custs.length ≤ 1000000; omega⟩
  · rw [heap_set w2 g 5 _ _ _ hB2]
    unfold instC
    rw [hl]; rfl
  · have hN : nodesN X ≤ 3000 := by unfold nodesN; omega
    have i1 : Rd (w2.setCell ⟨g, 5, none⟩ (.slice A (X.sats.length + 1) C)) A ((X.sats ++ [(⟨n, 0⟩ : SatD)]).flatMap satV) := by
      have := own_rd' (ownT_kept hown (p := ⟨g, 5, none⟩) hB2 (by decide) (.slice A (X.sats.length + 1) C))
      rw [List.flatMap_append]
      exact this
    refine ⟨i1, own_rd' (ownT_kept k2 (p := ⟨g, 5, none⟩) hB2 (by decide) _), (matT_kept k3 (p := ⟨g, 5, none⟩) hB2 (by decide) (by decide) _).rows2 (by omega), (matT_kept k4 (p := ⟨g, 5, none⟩) hB2 (by decide) (by decide) _).rows2 (by omega), ?_, ?_, ?_, ?_⟩
    · show (X.sats ++ [(⟨n, 0⟩ : SatD)]).length ≤ _; omega
    · show X.custs.length ≤ _; omega
    · show X.cost.length ≤ _; omega
    · show X.time.length ≤ _; omega
  · show (X.sats ++ [(⟨n, 0⟩ : SatD)]).length ≤ 1000000; omega
theorem row_owns {w : World} {B gr m : Nat} {r : List Int} (h : w.heap[gr]? = some (.cells (i64s r).toArray 2 (0, 0))) (hB : B ≤ gr) (hl : r.length = m) (hm : m ≤ maxLen) : w.ownsRow B 2 1 (.slice (some ⟨gr, 0, none⟩) m m) m (i64s r) := by
  have e : (i64s r).length = m := by simp [i64s, hl]
  exact ⟨by rw [e, Nat.mul_one], .inr ⟨gr, m, _, rfl, hB, h, Nat.le_refl _, hm, by simp [e], by rw [Nat.mul_one, ← e]; simp⟩⟩
theorem if_true_of {c : Prop} [Decidable c] {A B : Prop} (h : c) (ha : A) : if c then A else B := by rw [if_pos h]; exact ha
theorem spoil_13 {B : Nat} {w w2 : World} {g : Nat} {X : InstD} {h : HdD} {g7 g8 : List Nat} (H : MadeOwn B w X h g7 g8) (hB : w.heap[g]? = some (.cells (instC X h) 29 (0, 0))) (ls : X.sats.length ≤ 1000) (lc : X.custs.length ≤ 1000) (lo : X.cost.length ≤ 3000) (lt : X.time.length ≤ 3000) (n : Int)
    (i : Nat) (hi : i < X.cost.length) {gh gr : Nat} (e1 : h.oa = some ⟨gh, 0, none⟩) (e3 : g7[i]? = some gr)
    {A : Option Addr} {C : Nat} (o : Obj) (hown : w2.ownsRow B 2 1 (.slice A (nodesN X + 1) C) (nodesN X + 1) (i64s X.cost[i] ++ [.int .i64 n])) (hg : (w.alloc o).grownBy w2 (some gr)) :
    (∃ v, w2.cell? ⟨gh, i, none⟩ = some v) ∧ w2.frozen? ⟨gh, i, none⟩ = false ∧ B ≤ gh ∧ B ≤ gr ∧ w2.heap[g]? = w.heap[g]? ∧ w2.heap[gh]? = w.heap[gh]? ∧ Spoilt (w2.setCell ⟨gh, i, none⟩ (.slice A (nodesN X + 1) C)) g { X with cost := X.cost.set i (X.cost[i] ++ [n]) } h := by
  obtain ⟨gh', gr', e1', e2, e3', e4, e5, e6, e7, cur7, e8⟩ := H.cost.at hi
  rw [e1] at e1'
  injection e1' with e1'
  injection e1' with e1'
  subst e1'
  rw [e3] at e3'
  injection e3' with e3'
  subst e3'
  have hb0 : Below w.heap.size w (w.alloc o) := (Below.refl _ _).alloc (Nat.le_refl _) o
  have hgr1 : (w.alloc o).heap[gr]? = some (.cells (i64s X.cost[i]).toArray 2 (0, 0)) := (hb0.block gr (heap_lt e5)).trans e5
  have hT : ∀ {e : TypeId}, 2 ≠ e → ∀ k, some gr = some k → ∃ cur T, (w.alloc o).heap[k]? = some (.cells cur T (0, 0)) ∧ T ≠ e := fun he k hk => by
    injection hk with hk
    subst hk
    exact ⟨_, _, hgr1, he⟩
  have hne : ∀ (k : Nat) (cur : Array Value) (T : TypeId), w.heap[k]? = some (.cells cur T (0, 0)) → T ≠ 2 → w2.heap[k]? = some (.cells cur T (0, 0)) := fun k cur T h1 h2 =>
    (hg.block k (Nat.lt_of_lt_of_le (heap_lt h1) (by simp)) (fun e => by
      injection e with e
      subst e
      rw [e5] at h1
      injection h1 with h1
      injection h1 with _ ht
      exact h2 ht.symm)).trans ((hb0.block k (heap_lt h1)).trans h1)
  have hB2 := hne g _ _ hB (by decide)
  have hgh2 := hne gh _ _ e8 (by decide)
  have k1 := own_grownT (own_below H.sats hb0) hg (hT (by decide))
  have k2 := own_grownT (own_below H.custs hb0) hg (hT (by decide))
  have k7 := own_grownT (own_below e7 hb0) hg (hT (by decide))
  have k4 : MatOwn B w2 (.slice h.ta X.time.length h.tc) (nodesN X) X.time g8 := (H.time.below hb0).grown hg (fun g' hg' e => H.apart gr (List.mem_of_getElem? e3) (by injection e with e; rw [e]; exact hg')) (by
    rcases (H.time.below hb0).own.2 with ⟨hv, _⟩ | ⟨g', cap', cur', hv, _, hh', _⟩
    · rw [hv]; exact .inl rfl
    · rw [hv]
      refine .inr (fun e => ?_)
      have e2' : g' = gr := by simpa [Value.ownBlock] using e
      rw [e2', hgr1] at hh'
      injection hh' with hh'
      injection hh' with _ ht
      exact absurd ht (by decide))
  have hil : i < g7.length := (List.getElem?_eq_some_iff.1 e3).1
  obtain ⟨st, _⟩ := k7.stored i (.slice A (nodesN X + 1) C)
  have hl : (X.cost.set i (X.cost[i] ++ [n])).length = X.cost.length := List.length_set
  refine ⟨?_, frozen_of_row w2 gh i _ _ hgh2, (own_lt e7 (g := gh) rfl).1, e6, hB2.trans hB.symm, hgh2.trans e8.symm, ?_, ?_, by show X.sats.length ≤ 1000000; omega, by show X.custs.length ≤ 1000000; omega⟩
  · have hc := k7.cells (g := gh) rfl i (.slice (some ⟨g7[i], 0, none⟩) (nodesN X) (nodesN X)) (by simp [hil])
    rw [add_off, Nat.zero_add] at hc
    exact ⟨_, hc⟩
  · rw [box_kept hB2 (p := ⟨gh, i, none⟩) hgh2 (by decide) _]
    unfold instC
    rw [hl]
  · have hN : nodesN X ≤ 3000 := by unfold nodesN; omega
    refine ⟨own_rd' (ownT_kept k1 (p := ⟨gh, i, none⟩) hgh2 (by decide) _), own_rd' (ownT_kept k2 (p := ⟨gh, i, none⟩) hgh2 (by decide) _), ?_, ?_, ?_, ?_, ?_, ?_⟩
    · show Rows2 _ h.oa (X.cost.set i (X.cost[i] ++ [n]))
      rw [e1]
      refine ⟨(g7.map fun g => Value.slice (some ⟨g, 0, none⟩) (nodesN X) (nodesN X)).set i (.slice A (nodesN X + 1) C), by simp [H.cost.len], own_rd' st, fun j r hj => ?_⟩
      by_cases hji : j = i
      · subst hji
        rw [List.getElem?_set_self hi] at hj
        injection hj with hj
        subst hj
        refine ⟨A, C, ?_, by simp; omega, ?_⟩
        · rw [List.getElem?_set_self (by simpa using hil)]
          simp [e4]
        · have := own_rd' (ownT_kept hown (p := ⟨gh, j, none⟩) hgh2 (by decide) (.slice A (nodesN X + 1) C))
          have e9 : i64s (X.cost[j] ++ [n]) = i64s X.cost[j] ++ [.int .i64 n] := by simp [i64s]
          rw [e9]; exact this
      · rw [List.getElem?_set_ne (fun e => hji e.symm)] at hj
        have hjl : j < g7.length := by rw [H.cost.len]; exact (List.getElem?_eq_some_iff.1 hj).1
        obtain ⟨a', b', c'⟩ := H.cost.rows j g7[j] r (List.getElem?_eq_getElem hjl) hj
        have hgne : g7[j] ≠ gr := by
          have e9 : g7[i] = gr := (List.getElem?_eq_some_iff.1 e3).2
          have hp := List.pairwise_iff_getElem.1 H.cost.inc
          rcases Nat.lt_or_gt_of_ne hji with hlt | hlt
          · have := hp j i hjl hil hlt; omega
          · have := hp i j hil hjl hlt; omega
        have c2 : w2.heap[g7[j]]? = some (.cells (i64s r).toArray 2 (0, 0)) := (hg.block _ (Nat.lt_of_lt_of_le (heap_lt c') (by simp)) (fun e => hgne (by injection e))).trans ((hb0.block _ (heap_lt c')).trans c')
        have c3 : (w2.setCell ⟨gh, i, none⟩ (.slice A (nodesN X + 1) C)).heap[g7[j]]? = some (.cells (i64s r).toArray 2 (0, 0)) := (heap_setCell_other w2 ⟨gh, i, none⟩ _ _ (fun e => by
          have e' : g7[j] = gh := e
          rw [e', hgh2] at c2
          injection c2 with c2
          injection c2 with _ ht
          exact absurd ht (by decide))).trans c2
        refine ⟨some ⟨g7[j], 0, none⟩, nodesN X, ?_, by omega, fun _ => ⟨g7[j], 0, rfl, fun q u hu => ?_⟩⟩
        · rw [List.getElem?_set_ne (fun e => hji e.symm)]
          simp [hjl, b']
        · rw [cell_of_row _ g7[j] (0 + q) _ _ _ c3, Nat.zero_add]
          simpa using hu
    · have k5 : MatOwn B (w2.setCell ⟨gh, i, none⟩ (.slice A (nodesN X + 1) C)) (.slice h.ta X.time.length h.tc) (nodesN X) X.time g8 := k4.grown (grown_set _ _ _) (fun g' hg' e => by
          injection e with e
          obtain ⟨q, hq, rfl⟩ := List.getElem_of_mem hg'
          have hq2 : q < X.time.length := by rw [← k4.len]; exact hq
          have := (k4.rows q _ _ (List.getElem?_eq_getElem hq) (List.getElem?_eq_getElem hq2)).2.2
          rw [← e, hgh2] at this
          injection this with this
          injection this with _ ht
          exact absurd ht (by decide)) (.inr (H.tabs gh (by rw [e1]; rfl)))
      exact k5.rows2 (by omega)
    · show X.sats.length ≤ _; omega
    · show X.custs.length ≤ _; omega
    · show (X.cost.set _ _).length ≤ _; rw [hl]; omega
    · show X.time.length ≤ _; omega
end Go.Proofs.Ytljcpgeggbbmfaa
namespace Go.Proofs.Ytljcpgeggbbmfaa
set_option linter.unusedVariables false
set_option linter.unusedSimpArgs false
open Go.RowKit
/-- all blocks of U stand as they stood, but for boxes of instances. -/
def Agree (U w : World) : Prop := ∀ (k : Nat) (cur : Array Value) (T : TypeId), U.heap[k]? = some (.cells cur T (0, 0)) → T ≠ 29 → w.heap[k]? = U.heap[k]?
theorem Agree.refl (U : World) : Agree U U := fun _ _ _ _ _ => rfl
theorem Agree.below {U w w' : World} (h : Agree U w) (hb : Below w.heap.size w w') : Agree U w' := fun k cur T hk hT => by
  have := (h k cur T hk hT).trans hk
  exact (hb.block k (heap_lt this)).trans (h k cur T hk hT)
theorem Agree.grown {U w w' : World} {g : Nat} (h : Agree U w) (hg : w.grownBy w' (some g)) (hb : ∀ cur T, U.heap[g]? = some (.cells cur T (0, 0)) → T = 29) : Agree U w' := fun k cur T hk hT => by
  have := (h k cur T hk hT).trans hk
  refine (hg.block k (heap_lt this) (fun e => ?_)).trans (h k cur T hk hT)
  obtain rfl := Option.some.inj e
  exact hT (hb cur T hk)
theorem own_agree {U w : World} {B e s n : Nat} {v : Value} {xs : List Value} (h : U.ownsRow B e s v n xs) (he : e ≠ 29) (ha : Agree U w) : w.ownsRow B e s v n xs := by
  refine ⟨h.1, ?_⟩
  rcases h.2 with h0 | ⟨g, cap, cur, a, c, d, e1⟩
  · exact .inl h0
  · exact .inr ⟨g, cap, cur, a, c, (ha g cur _ d he).trans d, e1⟩
theorem mat_agree {U w : World} {B m : Nat} {v : Value} {ls : List (List Int)} {gs : List Nat} (h : MatOwn B U v m ls gs) (ha : Agree U w) : MatOwn B w v m ls gs :=
  ⟨h.len, h.inc, fun j g r hj hl => by
    obtain ⟨a, b, c⟩ := h.rows j g r hj hl
    exact ⟨a, b, (ha g _ _ c (by decide)).trans c⟩, own_agree h.own (by decide) ha⟩
theorem MadeOwn.agree {U w : World} {B : Nat} {X : InstD} {h : HdD} {g7 g8 : List Nat} (H : MadeOwn B U X h g7 g8) (ha : Agree U w) : MadeOwn B w X h g7 g8 :=
  ⟨own_agree H.sats (by decide) ha, own_agree H.custs (by decide) ha, mat_agree H.cost ha, mat_agree H.time ha, H.apart, H.tabs⟩
theorem MadeOwn.box {w w' : World} {B g : Nat} {X : InstD} {h : HdD} {g7 g8 : List Nat} {cur : Array Value} (H : MadeOwn B w X h g7 g8) (hB : w.heap[g]? = some (.cells cur 29 (0, 0))) (hg : w.grownBy w' (some g)) : MadeOwn B w' X h g7 g8 :=
  H.agree ((Agree.refl w).grown hg (fun c T hc => by rw [hB] at hc; injection hc with hc; injection hc with _ ht; exact ht.symm))
/-- both boxes, and what lies behind them. -/
structure AB (w3 U : World) (X : InstD) (ha hb : HdD) (ga gb Ba : Nat) (a7 a8 b7 b8 : List Nat) (w : World) : Prop where
  ma : MadeOwn Ba U X ha a7 a8
  ag : Agree U w
  us : w3.heap.size ≤ U.heap.size
  uw : U.heap.size ≤ w.heap.size
  mb : MadeOwn U.heap.size w X hb b7 b8
  xa : w.heap[ga]? = some (.cells (instC X ha) 29 (0, 0))
  xb : w.heap[gb]? = some (.cells (instC X hb) 29 (0, 0))
  na : w3.heap.size ≤ ga
  nb : w3.heap.size ≤ gb
  ne : ga ≠ gb
  xg : ∀ cur T, U.heap[gb]? = some (.cells cur T (0, 0)) → T = 29
  bel : Below w3.heap.size w3 w
/-- the same while the boxes are still empty. -/
structure AB0 (w3 U : World) (X : InstD) (ha hb : HdD) (ga gb Ba : Nat) (a7 a8 b7 b8 : List Nat) (w : World) : Prop where
  ma : MadeOwn Ba U X ha a7 a8
  ag : Agree U w
  us : w3.heap.size ≤ U.heap.size
  uw : U.heap.size ≤ w.heap.size
  mb : MadeOwn U.heap.size w X hb b7 b8
  xa : w.heap[ga]? = some (.cells #[.int .i64 0, .int .i64 0, .int .i64 0, .int .i64 0, .int .i64 0, .slice none 0 0, .slice none 0 0, .slice none 0 0, .slice none 0 0] 29 (0, 0))
  xb : w.heap[gb]? = some (.cells #[.int .i64 0, .int .i64 0, .int .i64 0, .int .i64 0, .int .i64 0, .slice none 0 0, .slice none 0 0, .slice none 0 0, .slice none 0 0] 29 (0, 0))
  na : w3.heap.size ≤ ga
  nb : w3.heap.size ≤ gb
  ne : ga ≠ gb
  ya : ∀ cur T, U.heap[ga]? = some (.cells cur T (0, 0)) → T = 29
  xg : ∀ cur T, U.heap[gb]? = some (.cells cur T (0, 0)) → T = 29
  bel : Below w3.heap.size w3 w
theorem below_box {w3 w w' : World} {g : Nat} (h : Below w3.heap.size w3 w) (hg : w.grownBy w' (some g)) (hn : w3.heap.size ≤ g) : Below w3.heap.size w3 w' :=
  h.trans ⟨hg.os, hg.tape, hg.output, hg.size, fun k hk => hg.block k (Nat.lt_of_lt_of_le hk h.size) (fun e => by have := Option.some.inj e; omega)⟩
theorem one9 (X : InstD) (h : HdD) : (instC X h).all (·.oneCell') = true := by kernel_rfl
theorem size9 (X : InstD) (h : HdD) : ((Try.prog.info? 29).map (·.size)) = some (instC X h).size := by kernel_rfl
@[irreducible] def fillBox (w : World) (g : Nat) (cs : Array Value) : World := w.setCells g 0 cs.toList
theorem fill9 (w : World) (g : Nat) (X : InstD) (h : HdD) (hx : w.heap[g]? = some (.cells #[.int .i64 0, .int .i64 0, .int .i64 0, .int .i64 0, .int .i64 0, .slice none 0 0, .slice none 0 0, .slice none 0 0, .slice none 0 0] 29 (0, 0))) : (fillBox w g (instC X h)).heap[g]? = some (.cells (instC X h) 29 (0, 0)) ∧ w.grownBy (fillBox w g (instC X h)) (some g) := by
  unfold fillBox
  exact set9 w g 29 _ _ _ _ _ _ _ _ _ (.int .i64 X.fin) (.int .i64 X.tm) (.int .i64 X.tr) (.int .i64 X.bm) (.int .i64 X.br) (.slice h.sa X.sats.length h.sc) (.slice h.ca X.custs.length h.cc) (.slice h.oa X.cost.length h.oc) (.slice h.ta X.time.length h.tc) hx
theorem wp_fill {P : Program} {op : Oper} {a : Act} {w : World} {K : Act → World → Prop} {Q : Exit → Act → World → Prop} (ty : TypeId) (x y : Operand) (ho : op.op = .store ty x y) (g : Nat) (X : InstD) (h : HdD) (hx : a.eval x = .pointer (some ⟨g, 0, none⟩)) (hy : a.eval y = .agg (instC X h))
    (ht : w.heap[g]? = some (.cells #[.int .i64 0, .int .i64 0, .int .i64 0, .int .i64 0, .int .i64 0, .slice none 0 0, .slice none 0 0, .slice none 0 0, .slice none 0 0] 29 (0, 0))) (hi : (P.info? ty).map (·.size) = some (instC X h).size) (hK : K (a.put op.dst undef) (fillBox w g (instC X h))) : op.wp P a w K Q := by
  unfold fillBox at hK
  have hth : w.there g 0 9 := there9 ht
  exact wp_store_mid ty x y ho g 0 (instC X h) hx hy hth hi (one9 X h) hK
/-- both boxes are filled. -/
theorem AB0.fill {w3 U : World} {X : InstD} {ha hb : HdD} {ga gb Ba : Nat} {a7 a8 b7 b8 : List Nat} {w : World} (H : AB0 w3 U X ha hb ga gb Ba a7 a8 b7 b8 w) :
    (fillBox w ga (instC X ha)).heap[gb]? = some (.cells #[.int .i64 0, .int .i64 0, .int .i64 0, .int .i64 0, .int .i64 0, .slice none 0 0, .slice none 0 0, .slice none 0 0, .slice none 0 0] 29 (0, 0)) ∧ AB w3 U X ha hb ga gb Ba a7 a8 b7 b8 (fillBox (fillBox w ga (instC X ha)) gb (instC X hb)) := by
  obtain ⟨s1, s2⟩ := fill9 w ga X ha H.xa
  have x1 : (fillBox w ga (instC X ha)).heap[gb]? = some (.cells #[.int .i64 0, .int .i64 0, .int .i64 0, .int .i64 0, .int .i64 0, .slice none 0 0, .slice none 0 0, .slice none 0 0, .slice none 0 0] 29 (0, 0)) := (s2.block gb (heap_lt H.xb) (fun e => H.ne (Option.some.inj e).symm)).trans H.xb
  obtain ⟨t1, t2⟩ := fill9 (fillBox w ga (instC X ha)) gb X hb x1
  refine ⟨x1, H.ma, (H.ag.grown s2 H.ya).grown t2 H.xg, H.us, Nat.le_trans H.uw (Nat.le_trans s2.size t2.size), (H.mb.box H.xa s2).box x1 t2, (t2.block ga (heap_lt s1) (fun e => H.ne (Option.some.inj e))).trans s1, t1, H.na, H.nb, H.ne, H.xg, below_box (below_box H.bel s2 H.na) t2 H.nb⟩
end Go.Proofs.Ytljcpgeggbbmfaa
