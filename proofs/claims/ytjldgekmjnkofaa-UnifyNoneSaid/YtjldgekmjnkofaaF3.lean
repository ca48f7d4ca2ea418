/- PRINTED BY A PROGRAM of this repo (wip/gen4.lean): what the functions compute, in shapes. -/
import Derived.Test.YtjldgekmjnkofaaF2
import Derived.Test.YtjldgekmjnkofaaE29
set_option linter.unusedVariables false
set_option linter.unusedSimpArgs false
namespace Go.Eng
open Go Go.Proofs

set_option maxRecDepth 100000

/-! demotic/demoticlaw11.SetsMore -/

noncomputable def J3_0 (x6 : V) (x7 : V) (x8 : V) (c9 : List V) (c10 : List V) (σ : Sto) : R :=
  (fillC [(.bool false), (.bool false), .nsl] [(0, 1, (.bool true))]).bind fun c71 =>
  (part c9 0 (some 3)).bind fun x72 =>
  (callPure (D ft) 15 [x7, x8, (.agg c71), x72]).bind fun x73 =>
  chkB x73 (
  (gd x73 true (part c10 2 none)).bind fun x76 =>
  (gd x73 true (lenV .sl σ x76)).bind fun x77 =>
  (gd x73 true (binV .eql .other x77 (.int .i64 (0)))).bind fun x78 =>
  (gd x73 true (some x78)).bind fun x79 =>
  (gd x79 false (some x7)).bind fun x80 =>
  (gd x79 false (some x8)).bind fun x81 =>
  (gd x79 false ((fillC [(.bool false), (.bool false), .nsl] [(1, 1, (.bool true))]).map (.agg))).bind fun x82 =>
  (gd x79 false (part c9 0 (some 3))).bind fun x83 =>
  (gd x79 false (callPure (D ft) 15 [x80, x81, x82, x83])).bind fun x84 =>
  (gd x73 true (pickS x79 (some (.bool true)) (some x84))).bind fun x85 =>
  (pickS x73 (some x85) (some (.bool false))).bind fun x86 =>
  (gd x86 true (callPure (D ft) 16 [])).bind fun x88 =>
  (pickS x86 (some x88) (some (.bool false))).bind fun x89 =>
  some (.ret x89, σ))

theorem D3_eq (x0 x1 x2 : V) (σ : Sto) : D ft 3 [x0, x1, x2] σ = (
  (boxC x2).bind fun c5 =>
  (callPure (D ft) 9 [x0]).bind fun x13 =>
  (notV x13).bind fun x14 =>
  (gd x14 false (some x1)).bind fun x16 =>
  (gd x14 false (lenV .sl σ x16)).bind fun x17 =>
  (gd x14 false (binV .gtr .other x17 (.int .i64 (20)))).bind fun x18 =>
  (pickS x14 (some (.bool true)) (some x18)).bind fun x19 =>
  chkB x19 (
  chkB x19 (
  (gd x19 false (part c5 2 none)).bind fun x23 =>
  (gd x19 false (lenV .sl σ x23)).bind fun x24 =>
  (gd x19 false (binV .gtr .other x24 (.int .i64 (20)))).bind fun x25 =>
  (pickS x19 (some (.bool true)) (some x25)).bind fun x26 =>
  chkB x26 (
  (gd x26 false (part c5 3 (some 3))).bind fun x29 =>
  (gd x26 false (callPure (D ft) 10 [x29])).bind fun x30 =>
  (gd x26 false (binV .gtr .other x30 (.int .i64 (60)))).bind fun x31 =>
  (pickS x26 (some (.bool true)) (some x31)).bind fun x32 =>
  condV x32 (
  some (.ret (.bool true), σ)) (
  (callPure (D ft) 11 [x0]).bind fun x34 =>
  (callPure (D ft) 12 [x1]).bind fun x36 =>
  (part c5 3 (some 3)).bind fun x38 =>
  (callPure (D ft) 13 [x38]).bind fun x39 =>
  (stC [(.int .i64 (0)), (.str []), .nsl] 0 3 x39).bind fun c9 =>
  (part c5 0 (some 3)).bind fun x41 =>
  (callPure (D ft) 14 [x41]).bind fun x42 =>
  (stC [(.bool false), (.bool false), .nsl] 0 3 x42).bind fun c10 =>
  (part c10 0 (some 3)).bind fun x45 =>
  (part c9 0 (some 3)).bind fun x46 =>
  (callPure (D ft) 15 [x34, x36, x45, x46]).bind fun x47 =>
  (notV x47).bind fun x48 =>
  condV x48 (
  (callPure (D ft) 16 []).bind fun x49 =>
  some (.ret x49, σ)) (
  (part c10 2 none).bind fun x51 =>
  (lenV .sl σ x51).bind fun x52 =>
  (binV .gtr .other x52 (.int .i64 (0))).bind fun x53 =>
  condV x53 (
  (fillD 2 (List.replicate 0 (.agg [(.bool false), (.str [])])) []).bind fun c54 =>
  (part c10 2 none).bind fun x56 =>
  bind2 (appendV 2 24 false σ (.sl .full c54) x56) fun x57 σ_1 =>
  (fillC [(.bool false), (.str [])] [(1, 1, (.str [98, 111, 111, 108]))]).bind fun c58 =>
  (fillC [(.bool false), (.str [])] [(0, 1, (.bool true)), (1, 1, (.str [105, 110, 116]))]).bind fun c59 =>
  (fillD 2 (List.replicate 2 (.agg [(.bool false), (.str [])])) [(0, (.agg c58)), (1, (.agg c59))]).bind fun c60 =>
  bind2 (appendV 2 24 false σ_1 x57 (.sl .full c60)) fun x61 σ_2 =>
  (fillC [(.bool false), (.bool false), .nsl] [(2, 1, x61)]).bind fun c62 =>
  (stC [(.bool false), (.bool false), .nsl] 0 3 (.agg c62)).bind fun c11 =>
  (part c11 0 (some 3)).bind fun x65 =>
  (part c9 0 (some 3)).bind fun x66 =>
  (callPure (D ft) 15 [x34, x36, x65, x66]).bind fun x67 =>
  (notV x67).bind fun x68 =>
  condV x68 (
  some (.ret (.bool false), σ_2)) (
  J3_0 (.bool false) x34 x36 c9 c10 σ_2)) (
  J3_0 (.bool false) x34 x36 c9 c10 σ))))))) := (D_eq cf3 rfl rfl σ).trans (by kernel_rfl)

/-! demotic/demoticlaw11.SetsTilde -/

theorem D4_eq (x0 x1 x2 : V) (σ : Sto) : D ft 4 [x0, x1, x2] σ = (
  (boxC x1).bind fun c4 =>
  (callPure (D ft) 9 [x0]).bind fun x12 =>
  (notV x12).bind fun x13 =>
  (gd x13 false (part c4 0 (some 3))).bind fun x15 =>
  (gd x13 false (callPure (D ft) 10 [x15])).bind fun x16 =>
  (gd x13 false (binV .gtr .other x16 (.int .i64 (60)))).bind fun x17 =>
  (pickS x13 (some (.bool true)) (some x17)).bind fun x18 =>
  (gd x18 false (some x2)).bind fun x20 =>
  (gd x18 false (lenV .str σ x20)).bind fun x21 =>
  (gd x18 false (binV .gtr .other x21 (.int .i64 (20)))).bind fun x22 =>
  (pickS x18 (some (.bool true)) (some x22)).bind fun x23 =>
  condV x23 (
  some (.ret (.bool true), σ)) (
  (callPure (D ft) 11 [x0]).bind fun x25 =>
  (part c4 0 (some 3)).bind fun x26 =>
  (callPure (D ft) 13 [x26]).bind fun x27 =>
  (stC [(.int .i64 (0)), (.str []), .nsl] 0 3 x27).bind fun c8 =>
  (fillC [(.bool false), (.str [])] [(1, 1, x2)]).bind fun c30 =>
  (fillD 2 (List.replicate 1 (.agg [(.bool false), (.str [])])) [(0, (.agg c30))]).bind fun c31 =>
  (fillC [(.bool false), (.bool false), .nsl] [(2, 1, (.sl .full c31))]).bind fun c32 =>
  (part c8 0 (some 3)).bind fun x33 =>
  (callPure (D ft) 15 [x25, .nsl, (.agg c32), x33]).bind fun x34 =>
  (fillC [(.bool false), (.str [])] [(0, 1, (.bool true)), (1, 1, x2)]).bind fun c37 =>
  (fillD 2 (List.replicate 1 (.agg [(.bool false), (.str [])])) [(0, (.agg c37))]).bind fun c38 =>
  (fillC [(.bool false), (.bool false), .nsl] [(2, 1, (.sl .full c38))]).bind fun c39 =>
  (part c8 0 (some 3)).bind fun x40 =>
  (callPure (D ft) 15 [x25, .nsl, (.agg c39), x40]).bind fun x41 =>
  (gd x34 true (some x41)).bind fun x44 =>
  (gd x34 true (notV x44)).bind fun x45 =>
  (gd x34 true (some x45)).bind fun x46 =>
  chkB x46 (
  (gd x46 false (part c4 0 none)).bind fun x48 =>
  (gd x46 false (binV .eql .other x48 (.int .i64 (3)))).bind fun x49 =>
  (gd x46 false (some x49)).bind fun x50 =>
  (gd x50 true (some x0)).bind fun x51 =>
  chkB x50 (
  (gd x50 true (part c4 1 none)).bind fun x53 =>
  (gd x50 true (callPure (D ft) 17 [x51, x53])).bind fun x54 =>
  (gd x50 true (notV x54)).bind fun x55 =>
  (gd x46 false (pickS x50 (some x55) (some (.bool false)))).bind fun x56 =>
  (gd x34 true (pickS x46 (some (.bool true)) (some x56))).bind fun x57 =>
  (pickS x34 (some x57) (some (.bool false))).bind fun x58 =>
  condV x58 (
  some (.ret (.bool false), σ)) (
  (notV x41).bind fun x60 =>
  chkB x60 (
  (gd x60 false (part c4 0 none)).bind fun x63 =>
  (gd x60 false (binV .neq .other x63 (.int .i64 (5)))).bind fun x64 =>
  (gd x60 false (some x64)).bind fun x65 =>
  chkB x65 (
  (gd x65 true (part c4 0 none)).bind fun x67 =>
  (gd x65 true (binV .neq .other x67 (.int .i64 (6)))).bind fun x68 =>
  (gd x60 false (pickS x65 (some x68) (some (.bool false)))).bind fun x69 =>
  (gd x60 false (some x69)).bind fun x70 =>
  chkB x70 (
  (gd x70 true (part c4 0 none)).bind fun x72 =>
  (gd x70 true (binV .neq .other x72 (.int .i64 (2)))).bind fun x73 =>
  (gd x60 false (pickS x70 (some x73) (some (.bool false)))).bind fun x74 =>
  (pickS x60 (some (.bool true)) (some x74)).bind fun x75 =>
  (gd x75 true (callPure (D ft) 16 [])).bind fun x77 =>
  (pickS x75 (some x77) (some (.bool false))).bind fun x78 =>
  some (.ret x78, σ))))))))) := (D_eq cf4 rfl rfl σ).trans (by kernel_rfl)

/-! demotic/demoticlaw11.SetsNames -/

noncomputable def L5_0 (x1 : V) (c2 : List V) (c5 : List V) (x6 : V) (x7 : V) (σ : Sto) : R := lpS ft [p1, p2, p5, p6, p7] (cf5.body.at [true, true, true, true, true, false, true, false, false]) (((((Tr.leaf.set p7 x7).set p6 x6).set p5 (.agg c5)).set p2 (.agg c2)).set p1 x1) σ (kAt ft cf5.body [true, true, true, true, true, false, true, false] (finO cf5))

noncomputable def L5_1 (x1 : V) (c2 : List V) (c5 : List V) (x6 : V) (x7 : V) (x8 : V) (x9 : V) (σ : Sto) : R := lpS ft [p1, p2, p5, p6, p7, p8, p9] (cf5.body.at [true, true, true, true, true, false, true, false, false, true, false, false, true, false, true, false, false]) (((((((Tr.leaf.set p9 x9).set p8 x8).set p7 x7).set p6 x6).set p5 (.agg c5)).set p2 (.agg c2)).set p1 x1) σ (kAt ft cf5.body [true, true, true, true, true, false, true, false, false, true, false, false, true, false, true, false] (finO cf5))

theorem L5_1_eq (x1 : V) (c2 : List V) (c5 : List V) (x6 : V) (x7 : V) (x8 : V) (x9 : V) (σ : Sto) : L5_1 x1 c2 c5 x6 x7 x8 x9 σ = (
  (part c2 6 none).bind fun x37 =>
  (lenV .sl σ x37).bind fun x38 =>
  (binV .lss .other x9 x38).bind fun x39 =>
  condV x39 (
  chkB x8 (
  (gd x8 false (part c2 6 none)).bind fun x45 =>
  (gd x8 false (some x9)).bind fun x46 =>
  (gd x8 false (indexAddrV 1 x45 x46)).bind fun x47 =>
  (gd x8 false (ldV σ none x47)).bind fun x48 =>
  (gd x8 false (some x7)).bind fun x49 =>
  (gd x8 false (indexArrV 1 3 x6 x49)).bind fun x50 =>
  (gd x8 false (ldV σ none x50)).bind fun x51 =>
  (gd x8 false (binV .eql .str x48 x51)).bind fun x52 =>
  (pickS x8 (some (.bool true)) (some x52)).bind fun x53 =>
  (binV .add .other x9 (.int .i64 (1))).bind fun x41 =>
  L5_1 x1 c2 c5 x6 x7 x53 x41 σ)) (
  (part c5 2 none).bind fun x55 =>
  (lenV .sl σ x55).bind fun x56 =>
  (binV .gtr .other x56 (.int .i64 (0))).bind fun x57 =>
  chkB x57 (
  (gd x57 true (part c5 0 none)).bind fun x60 =>
  (gd x57 true (notV x60)).bind fun x61 =>
  (pickS x57 (some x61) (some (.bool false))).bind fun x62 =>
  chkB x62 (
  (gd x62 true (part c5 1 none)).bind fun x65 =>
  (gd x62 true (notV x65)).bind fun x66 =>
  (pickS x62 (some x66) (some (.bool false))).bind fun x67 =>
  (gd x67 true (part c5 0 (some 3))).bind fun x69 =>
  (gd x67 true (some x7)).bind fun x70 =>
  (gd x67 true (indexArrV 1 3 x6 x70)).bind fun x71 =>
  (gd x67 true (ldV σ none x71)).bind fun x72 =>
  (gd x67 true ((fillC [(.int .i64 (0)), (.str []), .nsl] [(0, 1, (.int .i64 (1))), (1, 1, x72)]).map (.agg))).bind fun x73 =>
  (gd x67 true (callPure (D ft) 15 [.nsl, .nsl, x69, x73])).bind fun x74 =>
  (pickS x67 (some x74) (some (.bool false))).bind fun x75 =>
  (gd x75 true (some x8)).bind fun x77 =>
  (gd x75 true (notV x77)).bind fun x78 =>
  (pickS x75 (some x78) (some (.bool false))).bind fun x79 =>
  condV x79 (
  some (.ret (.bool false), σ)) (
  (binV .add .other x7 (.int .i64 (1))).bind fun x34 =>
  L5_0 x1 c2 c5 x6 x34 σ))))) := (lpS_eq _ _ _ _ _).trans (by kernel_rfl)

theorem L5_0_eq (x1 : V) (c2 : List V) (c5 : List V) (x6 : V) (x7 : V) (σ : Sto) : L5_0 x1 c2 c5 x6 x7 σ = (
  (binV .lss .other x7 (.int .i64 (3))).bind fun x32 =>
  condV x32 (
  L5_1 x1 c2 c5 x6 x7 (.bool false) (.int .i64 (0)) σ) (
  (part c5 0 (some 3)).bind fun x80 =>
  (fillD 1 (List.replicate 0 (.str [])) []).bind fun c81 =>
  (part c2 6 none).bind fun x83 =>
  (fillD 1 (List.replicate 1 (.str [])) [(0, x1)]).bind fun c86 =>
  bind2 (appendV 1 16 false σ (.sl .full c81) x83) fun x84 σ_1 =>
  bind2 (appendV 1 16 false σ_1 x84 (.sl .full c86)) fun x87 σ_2 =>
  (callPure (D ft) 18 [x80, x87]).bind fun x88 =>
  (gd x88 true (callPure (D ft) 16 [])).bind fun x90 =>
  (pickS x88 (some x90) (some (.bool false))).bind fun x91 =>
  some (.ret x91, σ_2))) := (lpS_eq _ _ _ _ _).trans (by kernel_rfl)

theorem D5_eq (x0 x1 : V) (σ : Sto) : D ft 5 [x0, x1] σ = (
  (boxC x0).bind fun c2 =>
  (part c2 2 none).bind fun x12 =>
  (lenV .sl σ x12).bind fun x13 =>
  (binV .gtr .other x13 (.int .i64 (20))).bind fun x14 =>
  chkB x14 (
  (gd x14 false (part c2 6 none)).bind fun x17 =>
  (gd x14 false (lenV .sl σ x17)).bind fun x18 =>
  (gd x14 false (binV .gtr .other x18 (.int .i64 (20)))).bind fun x19 =>
  (pickS x14 (some (.bool true)) (some x19)).bind fun x20 =>
  condV x20 (
  some (.ret (.bool true), σ)) (
  (part c2 0 (some 3)).bind fun x22 =>
  (callPure (D ft) 14 [x22]).bind fun x23 =>
  (stC [(.bool false), (.bool false), .nsl] 0 3 x23).bind fun c5 =>
  (part c5 0 (some 3)).bind fun x24 =>
  (part c2 6 none).bind fun x26 =>
  (callPure (D ft) 18 [x24, x26]).bind fun x27 =>
  (notV x27).bind fun x28 =>
  condV x28 (
  (callPure (D ft) 16 []).bind fun x29 =>
  some (.ret x29, σ)) (
  (fillC [(.str []), (.str []), (.str [])] [(0, 1, (.str [105, 110, 116])), (1, 1, (.str [115, 116, 114, 105, 110, 103])), (2, 1, (.str [98, 111, 111, 108]))]).bind fun c30 =>
  alS (.cells [(.str []), (.str []), (.str [])]) σ fun b σ_1 =>
  (stV σ_1 3 (.ptr b 0) (.agg c30)).bind fun σ_2 =>
  L5_0 x1 c2 c5 (.ptr b 0) (.int .i64 (0)) σ_2)))) := (D_eq cf5 rfl rfl σ).trans (by kernel_rfl)

/-! demotic/demoticlaw11.SetsOf -/

theorem D6_eq (x0 x1 x2 : V) (σ : Sto) : D ft 6 [x0, x1, x2] σ = (
  (boxC x0).bind fun c3 =>
  (part c3 0 (some 4)).bind fun x15 =>
  (callPure (D ft) 19 [x15, (.int .i64 (1000))]).bind fun x16 =>
  (binV .gtr .other x16 (.int .i64 (200))).bind fun x17 =>
  (gd x17 false (some x1)).bind fun x19 =>
  (gd x17 false (lenV .sl σ x19)).bind fun x20 =>
  (gd x17 false (binV .gtr .other x20 (.int .i64 (20)))).bind fun x21 =>
  (pickS x17 (some (.bool true)) (some x21)).bind fun x22 =>
  condV x22 (
  some (.ret (.bool true), σ)) (
  (part c3 0 (some 4)).bind fun x24 =>
  (callPure (D ft) 12 [x1]).bind fun x26 =>
  (callPure (D ft) 20 [x24, x26]).bind fun x27 =>
  (extractV 0 x27).bind fun x28 =>
  (extractV 1 x27).bind fun x29 =>
  (stC [(.bool false), (.bool false), .nsl] 0 3 x28).bind fun c7 =>
  (part c3 0 (some 4)).bind fun x31 =>
  (callPure (D ft) 21 [x31, x1]).bind fun x33 =>
  (extractV 0 x33).bind fun x34 =>
  (extractV 1 x33).bind fun x35 =>
  (stC [(.bool false), (.bool false), .nsl] 0 3 x34).bind fun c9 =>
  (callPure (D ft) 12 [x1]).bind fun x38 =>
  (callPure (D ft) 22 [x38, x2]).bind fun x40 =>
  (extractV 0 x40).bind fun x41 =>
  (extractV 1 x40).bind fun x42 =>
  (stC [(.bool false), (.bool false), .nsl] 0 3 x41).bind fun c11 =>
  (callPure (D ft) 23 [x1, x2]).bind fun x46 =>
  (extractV 0 x46).bind fun x47 =>
  (extractV 1 x46).bind fun x48 =>
  (stC [(.bool false), (.bool false), .nsl] 0 3 x47).bind fun c13 =>
  (part c7 0 (some 3)).bind fun x49 =>
  (part c9 0 (some 3)).bind fun x50 =>
  (callPure (D ft) 24 [x49, x50]).bind fun x51 =>
  (gd x51 true (some x29)).bind fun x53 =>
  (gd x51 true (some x35)).bind fun x54 =>
  (gd x51 true (binV .eql .bool x53 x54)).bind fun x55 =>
  (pickS x51 (some x55) (some (.bool false))).bind fun x56 =>
  (gd x56 true (part c11 0 (some 3))).bind fun x58 =>
  (gd x56 true (part c13 0 (some 3))).bind fun x59 =>
  (gd x56 true (callPure (D ft) 24 [x58, x59])).bind fun x60 =>
  (pickS x56 (some x60) (some (.bool false))).bind fun x61 =>
  (gd x61 true (some x42)).bind fun x63 =>
  (gd x61 true (some x48)).bind fun x64 =>
  (gd x61 true (binV .eql .bool x63 x64)).bind fun x65 =>
  (pickS x61 (some x65) (some (.bool false))).bind fun x66 =>
  (gd x66 true (callPure (D ft) 16 [])).bind fun x68 =>
  (pickS x66 (some x68) (some (.bool false))).bind fun x69 =>
  some (.ret x69, σ))) := (D_eq cf6 rfl rfl σ).trans (by kernel_rfl)

/-! demotic/demoticlaw12.UnifyMore -/

noncomputable def L7_0 (x8 : V) (x10 : V) (x14 : V) (σ : Sto) : R := lpS ft [p8, p10, p14] (cf7.body.at [true, true, true, true, true, true, true, true, true, false, true, false, false]) (((Tr.leaf.set p14 x14).set p10 x10).set p8 x8) σ (kAt ft cf7.body [true, true, true, true, true, true, true, true, true, false, true, false] (finO cf7))

theorem L7_0_eq (x8 : V) (x10 : V) (x14 : V) (σ : Sto) : L7_0 x8 x10 x14 σ = (
  (lenV .sl σ x8).bind fun x118 =>
  (binV .lss .other x14 x118).bind fun x119 =>
  condV x119 (
  (indexAddrV 3 x8 x14).bind fun x124 =>
  (ldV σ (some 3) x124).bind fun x125 =>
  (indexAddrV 3 x10 x14).bind fun x128 =>
  (ldV σ (some 3) x128).bind fun x129 =>
  (callPure (D ft) 31 [x125, x129]).bind fun x130 =>
  (notV x130).bind fun x131 =>
  condV x131 (
  some (.ret (.bool false), σ)) (
  (binV .add .other x14 (.int .i64 (1))).bind fun x121 =>
  L7_0 x8 x10 x121 σ)) (
  (callPure (D ft) 30 []).bind fun x132 =>
  some (.ret x132, σ))) := (lpS_eq _ _ _ _ _).trans (by kernel_rfl)

theorem D7_eq (x0 x1 : V) (σ : Sto) : D ft 7 [x0, x1] σ = (
  (boxC x1).bind fun c3 =>
  (callPure (D ft) 25 [x0]).bind fun x16 =>
  (notV x16).bind fun x17 =>
  chkB x17 (
  (gd x17 false (part c3 0 none)).bind fun x20 =>
  (gd x17 false (lenV .sl σ x20)).bind fun x21 =>
  (gd x17 false (binV .gtr .other x21 (.int .i64 (10)))).bind fun x22 =>
  (pickS x17 (some (.bool true)) (some x22)).bind fun x23 =>
  chkB x23 (
  (gd x23 false (part c3 1 none)).bind fun x26 =>
  (gd x23 false (callPure (D ft) 26 [x26])).bind fun x27 =>
  (gd x23 false (notV x27)).bind fun x28 =>
  (pickS x23 (some (.bool true)) (some x28)).bind fun x29 =>
  chkB x29 (
  (gd x29 false (part c3 2 none)).bind fun x32 =>
  (gd x29 false (callPure (D ft) 26 [x32])).bind fun x33 =>
  (gd x29 false (notV x33)).bind fun x34 =>
  (pickS x29 (some (.bool true)) (some x34)).bind fun x35 =>
  condV x35 (
  some (.ret (.bool true), σ)) (
  (callPure (D ft) 27 [x0]).bind fun x37 =>
  (fillC [(.int .i64 (0)), (.str []), .nsl] [(0, 1, (.int .i64 (1))), (1, 1, (.str [105, 110, 116]))]).bind fun c38 =>
  (fillC [(.int .i64 (0)), (.str []), .nsl] [(0, 1, (.int .i64 (1))), (1, 1, (.str [115, 116, 114, 105, 110, 103]))]).bind fun c39 =>
  (stC [(.int .i64 (0)), (.str []), .nsl] 0 3 (.agg c38)).bind fun c6 =>
  (stC [(.int .i64 (0)), (.str []), .nsl] 0 3 (.agg c39)).bind fun c7 =>
  (part c3 0 none).bind fun x43 =>
  (part c3 1 none).bind fun x45 =>
  (part c3 2 none).bind fun x48 =>
  bindR (D ft 29 [x45] σ) fun x46 σ_1 =>
  bindR (D ft 29 [x48] σ_1) fun x49 σ_2 =>
  (callPure (D ft) 28 [x37, x43, x46, x49]).bind fun x50 =>
  (extractV 0 x50).bind fun x51 =>
  (extractV 1 x50).bind fun x52 =>
  (part c3 1 none).bind fun x54 =>
  (lenV .sl σ_2 x54).bind fun x55 =>
  (part c3 2 none).bind fun x57 =>
  (lenV .sl σ_2 x57).bind fun x58 =>
  (binV .neq .other x55 x58).bind fun x59 =>
  condV x59 (
  (notV x52).bind fun x61 =>
  (gd x61 true (callPure (D ft) 30 [])).bind fun x63 =>
  (pickS x61 (some x63) (some (.bool false))).bind fun x64 =>
  some (.ret x64, σ_2)) (
  (part c3 0 none).bind fun x68 =>
  (part c3 1 none).bind fun x70 =>
  (part c6 0 (some 3)).bind fun x72 =>
  (fillD 3 (List.replicate 1 (.agg [(.int .i64 (0)), (.str []), .nsl])) [(0, x72)]).bind fun c73 =>
  (part c3 2 none).bind fun x76 =>
  (part c6 0 (some 3)).bind fun x78 =>
  (fillD 3 (List.replicate 1 (.agg [(.int .i64 (0)), (.str []), .nsl])) [(0, x78)]).bind fun c79 =>
  bindR (D ft 29 [x70] σ_2) fun x71 σ_3 =>
  bind2 (appendV 3 48 false σ_3 x71 (.sl .full c73)) fun x74 σ_4 =>
  bindR (D ft 29 [x76] σ_4) fun x77 σ_5 =>
  bind2 (appendV 3 48 false σ_5 x77 (.sl .full c79)) fun x80 σ_6 =>
  (callPure (D ft) 28 [x37, x68, x74, x80]).bind fun x81 =>
  (extractV 0 x81).bind fun x82 =>
  (extractV 1 x81).bind fun x83 =>
  (part c3 0 none).bind fun x87 =>
  (part c3 1 none).bind fun x89 =>
  (part c6 0 (some 3)).bind fun x91 =>
  (fillD 3 (List.replicate 1 (.agg [(.int .i64 (0)), (.str []), .nsl])) [(0, x91)]).bind fun c92 =>
  (part c3 2 none).bind fun x95 =>
  (part c7 0 (some 3)).bind fun x97 =>
  (fillD 3 (List.replicate 1 (.agg [(.int .i64 (0)), (.str []), .nsl])) [(0, x97)]).bind fun c98 =>
  bindR (D ft 29 [x89] σ_6) fun x90 σ_7 =>
  bind2 (appendV 3 48 false σ_7 x90 (.sl .full c92)) fun x93 σ_8 =>
  bindR (D ft 29 [x95] σ_8) fun x96 σ_9 =>
  bind2 (appendV 3 48 false σ_9 x96 (.sl .full c98)) fun x99 σ_10 =>
  (callPure (D ft) 28 [x37, x87, x93, x99]).bind fun x100 =>
  (extractV 0 x100).bind fun x101 =>
  (extractV 1 x100).bind fun x102 =>
  (binV .neq .bool x52 x83).bind fun x105 =>
  (gd x105 false (some x102)).bind fun x107 =>
  (pickS x105 (some (.bool true)) (some x107)).bind fun x108 =>
  (gd x108 false (some x51)).bind fun x110 =>
  (gd x108 false (lenV .sl σ_10 x110)).bind fun x111 =>
  (gd x108 false (some x82)).bind fun x112 =>
  (gd x108 false (lenV .sl σ_10 x112)).bind fun x113 =>
  (gd x108 false (binV .neq .other x111 x113)).bind fun x114 =>
  (pickS x108 (some (.bool true)) (some x114)).bind fun x115 =>
  condV x115 (
  some (.ret (.bool false), σ_10)) (
  L7_0 x51 x82 (.int .i64 (0)) σ_10))))))) := (D_eq cf7 rfl rfl σ).trans (by kernel_rfl)

/-! demotic/demoticlaw12.UnifyNone -/

theorem D8_eq (x0 x1 : V) (σ : Sto) : D ft 8 [x0, x1] σ = (
  (lenV .sl σ x0).bind fun x13 =>
  (binV .gtr .other x13 (.int .i64 (10))).bind fun x14 =>
  condV x14 (
  some (.ret (.bool true), σ)) (
  (callPure (D ft) 28 [.nsl, x0, .nsl, .nsl]).bind fun x17 =>
  (extractV 0 x17).bind fun x18 =>
  (extractV 1 x17).bind fun x19 =>
  (lenV .sl σ x18).bind fun x21 =>
  (binV .neq .other x21 (.int .i64 (0))).bind fun x22 =>
  (gd x22 true (some x19)).bind fun x24 =>
  (gd x22 true (notV x24)).bind fun x25 =>
  (pickS x22 (some x25) (some (.bool false))).bind fun x26 =>
  (gd x26 false (some x19)).bind fun x28 =>
  (gd x26 false (some x0)).bind fun x29 =>
  (gd x26 false (lenV .sl σ x29)).bind fun x30 =>
  (gd x26 false (binV .eql .other x30 (.int .i64 (0)))).bind fun x31 =>
  (gd x26 false (binV .neq .bool x28 x31)).bind fun x32 =>
  (pickS x26 (some (.bool true)) (some x32)).bind fun x33 =>
  condV x33 (
  some (.ret (.bool false), σ)) (
  (fillC [(.int .i64 (0)), (.str []), .nsl] [(0, 1, (.int .i64 (1))), (1, 1, (.str [105, 110, 116]))]).bind fun c34 =>
  (stC [(.int .i64 (0)), (.str []), .nsl] 0 3 (.agg c34)).bind fun c7 =>
  (fillD 1 (List.replicate 1 (.str [])) [(0, x1)]).bind fun c37 =>
  (fillC [(.int .i64 (0)), (.str []), .nsl] [(0, 1, (.int .i64 (4))), (1, 1, x1)]).bind fun c39 =>
  (fillD 3 (List.replicate 1 (.agg [(.int .i64 (0)), (.str []), .nsl])) [(0, (.agg c39))]).bind fun c40 =>
  (part c7 0 (some 3)).bind fun x41 =>
  (fillD 3 (List.replicate 1 (.agg [(.int .i64 (0)), (.str []), .nsl])) [(0, x41)]).bind fun c42 =>
  (callPure (D ft) 28 [.nsl, (.sl .full c37), (.sl .full c40), (.sl .full c42)]).bind fun x43 =>
  (extractV 0 x43).bind fun x44 =>
  (extractV 1 x43).bind fun x45 =>
  (binV .add .str x1 (.str [120])).bind fun x49 =>
  (fillD 1 (List.replicate 2 (.str [])) [(0, x1), (1, x49)]).bind fun c50 =>
  (fillC [(.int .i64 (0)), (.str []), .nsl] [(0, 1, (.int .i64 (4))), (1, 1, x1)]).bind fun c52 =>
  (fillD 3 (List.replicate 1 (.agg [(.int .i64 (0)), (.str []), .nsl])) [(0, (.agg c52))]).bind fun c53 =>
  (part c7 0 (some 3)).bind fun x54 =>
  (fillD 3 (List.replicate 1 (.agg [(.int .i64 (0)), (.str []), .nsl])) [(0, x54)]).bind fun c55 =>
  (callPure (D ft) 28 [.nsl, (.sl .full c50), (.sl .full c53), (.sl .full c55)]).bind fun x56 =>
  (extractV 0 x56).bind fun x57 =>
  (extractV 1 x56).bind fun x58 =>
  (gd x45 true (some x44)).bind fun x61 =>
  (gd x45 true (lenV .sl σ x61)).bind fun x62 =>
  (gd x45 true (binV .eql .other x62 (.int .i64 (1)))).bind fun x63 =>
  (pickS x45 (some x63) (some (.bool false))).bind fun x64 =>
  (gd x64 true (some x44)).bind fun x66 =>
  (gd x64 true (indexAddrV 3 x66 (.int .i64 (0)))).bind fun x67 =>
  (gd x64 true (ldV σ (some 3) x67)).bind fun x68 =>
  (gd x64 true (part c7 0 (some 3))).bind fun x69 =>
  (gd x64 true (callPure (D ft) 32 [x68, x69])).bind fun x70 =>
  (pickS x64 (some x70) (some (.bool false))).bind fun x71 =>
  (gd x71 true (some x58)).bind fun x73 =>
  (gd x71 true (notV x73)).bind fun x74 =>
  (pickS x71 (some x74) (some (.bool false))).bind fun x75 =>
  (gd x75 true (callPure (D ft) 30 [])).bind fun x77 =>
  (pickS x75 (some x77) (some (.bool false))).bind fun x78 =>
  some (.ret x78, σ)))) := (D_eq cf8 rfl rfl σ).trans (by kernel_rfl)

/-! demotic/demoticlaw11.light -/

noncomputable def L9_0 (x0 : V) (x3 : V) (σ : Sto) : R := lpS ft [p0, p3] (cf9.body.at [true, true, false, true, false, false]) ((Tr.leaf.set p3 x3).set p0 x0) σ (kAt ft cf9.body [true, true, false, true, false] (finO cf9))

theorem L9_0_eq (x0 : V) (x3 : V) (σ : Sto) : L9_0 x0 x3 σ = (
  (lenV .sl σ x0).bind fun x9 =>
  (binV .lss .other x3 x9).bind fun x10 =>
  condV x10 (
  (indexAddrV 6 x0 x3).bind fun x15 =>
  (fieldAddrV 2 x15).bind fun x16 =>
  (ldV σ (some 3) x16).bind fun x17 =>
  (callPure (D ft) 10 [x17]).bind fun x18 =>
  (binV .gtr .other x18 (.int .i64 (20))).bind fun x19 =>
  (gd x19 false (some x0)).bind fun x21 =>
  (gd x19 false (some x3)).bind fun x22 =>
  (gd x19 false (indexAddrV 6 x21 x22)).bind fun x23 =>
  (gd x19 false (fieldAddrV 1 x23)).bind fun x24 =>
  (gd x19 false (ldV σ none x24)).bind fun x25 =>
  (gd x19 false (lenV .sl σ x25)).bind fun x26 =>
  (gd x19 false (binV .gtr .other x26 (.int .i64 (10)))).bind fun x27 =>
  (pickS x19 (some (.bool true)) (some x27)).bind fun x28 =>
  condV x28 (
  some (.ret (.bool false), σ)) (
  (binV .add .other x3 (.int .i64 (1))).bind fun x12 =>
  L9_0 x0 x12 σ)) (
  some (.ret (.bool true), σ))) := (lpS_eq _ _ _ _ _).trans (by kernel_rfl)

theorem D9_eq (x0 : V) (σ : Sto) : D ft 9 [x0] σ = (
  (lenV .sl σ x0).bind fun x5 =>
  (binV .gtr .other x5 (.int .i64 (20))).bind fun x6 =>
  condV x6 (
  some (.ret (.bool false), σ)) (
  L9_0 x0 (.int .i64 (0)) σ)) := (D_eq cf9 rfl rfl σ).trans (by kernel_rfl)

/-! demotic/demoticref10.Size -/

noncomputable def L10_0 (c1 : List V) (x3 : V) (x4 : V) (σ : Sto) : R := lpS ft [p1, p3, p4] (cf10.body.at [true, true, false, true, false, false]) (((Tr.leaf.set p4 x4).set p3 x3).set p1 (.agg c1)) σ (kAt ft cf10.body [true, true, false, true, false] (finO cf10))

theorem L10_0_eq (c1 : List V) (x3 : V) (x4 : V) (σ : Sto) : L10_0 c1 x3 x4 σ = (
  (part c1 2 none).bind fun x7 =>
  (lenV .sl σ x7).bind fun x8 =>
  (binV .lss .other x4 x8).bind fun x9 =>
  condV x9 (
  (part c1 2 none).bind fun x14 =>
  (indexAddrV 3 x14 x4).bind fun x16 =>
  (ldV σ (some 3) x16).bind fun x17 =>
  (callPure (D ft) 10 [x17]).bind fun x18 =>
  (binV .add .other x3 x18).bind fun x19 =>
  (binV .add .other x4 (.int .i64 (1))).bind fun x11 =>
  L10_0 c1 x19 x11 σ) (
  some (.ret x3, σ))) := (lpS_eq _ _ _ _ _).trans (by kernel_rfl)

theorem D10_eq (x0 : V) (σ : Sto) : D ft 10 [x0] σ = (
  (boxC x0).bind fun c1 =>
  L10_0 c1 (.int .i64 (1)) (.int .i64 (0)) σ) := (D_eq cf10 rfl rfl σ).trans (by kernel_rfl)

/-! demotic/demoticlaw11.defs -/

noncomputable def L11_0 (x0 : V) (x3 : V) (x4 : V) (σ : Sto) : R := lpS ft [p0, p3, p4] (cf11.body.at [true, true, false, true, false, false]) (((Tr.leaf.set p4 x4).set p3 x3).set p0 x0) σ (kAt ft cf11.body [true, true, false, true, false] (finO cf11))

theorem L11_0_eq (x0 : V) (x3 : V) (x4 : V) (σ : Sto) : L11_0 x0 x3 x4 σ = (
  (lenV .sl σ x0).bind fun x7 =>
  (binV .lss .other x4 x7).bind fun x8 =>
  condV x8 (
  (indexAddrV 6 x0 x4).bind fun x14 =>
  (fieldAddrV 0 x14).bind fun x15 =>
  (ldV σ none x15).bind fun x16 =>
  (noteV 1 σ x15 []).bind fun pd =>
  (fillD 1 (List.replicate 0 (.str [])) []).bind fun c17 =>
  (indexAddrV 6 x0 x4).bind fun x20 =>
  (fieldAddrV 1 x20).bind fun x21 =>
  (ldV σ none x21).bind fun x22 =>
  (indexAddrV 6 x0 x4).bind fun x26 =>
  (fieldAddrV 2 x26).bind fun x27 =>
  (ldV σ (some 3) x27).bind fun x28 =>
  (noteV 1 σ x27 pd).bind fun pd_1 =>
  (indexAddrV 6 x0 x4).bind fun x32 =>
  (fieldAddrV 5 x32).bind fun x33 =>
  (ldV σ none x33).bind fun x34 =>
  (noteV 1 σ x33 pd_1).bind fun pd_2 =>
  bind2 (appendV 1 16 false σ (.sl .full c17) x22) fun x23 σ_1 =>
  passK pd_2 σ_1 fun pd_3 =>
  (callPure (D ft) 13 [x28]).bind fun x29 =>
  (fillC [(.str []), .nsl, (.int .i64 (0)), (.str []), .nsl, (.bool false)] [(0, 1, x16), (1, 1, x23), (2, 3, x29), (5, 1, x34)]).bind fun c35 =>
  (fillD 6 (List.replicate 1 (.agg [(.str []), .nsl, (.int .i64 (0)), (.str []), .nsl, (.bool false)])) [(0, (.agg c35))]).bind fun c36 =>
  bind2 (appendV 6 96 false σ_1 x3 (.sl .full c36)) fun x37 σ_2 =>
  passK pd_3 σ_2 fun pd_4 =>
  (binV .add .other x4 (.int .i64 (1))).bind fun x10 =>
  L11_0 x0 x37 x10 σ_2) (
  some (.ret x3, σ))) := (lpS_eq _ _ _ _ _).trans (by kernel_rfl)

theorem D11_eq (x0 : V) (σ : Sto) : D ft 11 [x0] σ = (
  L11_0 x0 .nsl (.int .i64 (0)) σ) := (D_eq cf11 rfl rfl σ).trans (by kernel_rfl)

/-! demotic/demoticlaw11.bounds -/

noncomputable def L12_0 (x0 : V) (x3 : V) (x4 : V) (σ : Sto) : R := lpS ft [p0, p3, p4] (cf12.body.at [true, true, false, true, false, false]) (((Tr.leaf.set p4 x4).set p3 x3).set p0 x0) σ (kAt ft cf12.body [true, true, false, true, false] (finO cf12))

theorem L12_0_eq (x0 : V) (x3 : V) (x4 : V) (σ : Sto) : L12_0 x0 x3 x4 σ = (
  (lenV .sl σ x0).bind fun x7 =>
  (binV .lss .other x4 x7).bind fun x8 =>
  condV x8 (
  (indexAddrV 4 x0 x4).bind fun x14 =>
  (fieldAddrV 0 x14).bind fun x15 =>
  (ldV σ none x15).bind fun x16 =>
  (indexAddrV 4 x0 x4).bind fun x19 =>
  (fieldAddrV 1 x19).bind fun x20 =>
  (ldV σ (some 3) x20).bind fun x21 =>
  (callPure (D ft) 14 [x21]).bind fun x22 =>
  (fillC [(.str []), (.bool false), (.bool false), .nsl] [(0, 1, x16), (1, 3, x22)]).bind fun c23 =>
  (fillD 4 (List.replicate 1 (.agg [(.str []), (.bool false), (.bool false), .nsl])) [(0, (.agg c23))]).bind fun c24 =>
  bind2 (appendV 4 48 false σ x3 (.sl .full c24)) fun x25 σ_1 =>
  (binV .add .other x4 (.int .i64 (1))).bind fun x10 =>
  L12_0 x0 x25 x10 σ_1) (
  some (.ret x3, σ))) := (lpS_eq _ _ _ _ _).trans (by kernel_rfl)

theorem D12_eq (x0 : V) (σ : Sto) : D ft 12 [x0] σ = (
  L12_0 x0 .nsl (.int .i64 (0)) σ) := (D_eq cf12 rfl rfl σ).trans (by kernel_rfl)

/-! demotic/demoticlaw11.typ -/

noncomputable def L13_0 (c1 : List V) (c2 : List V) (c3 : List V) (x4 : V) (σ : Sto) : R := lpS ft [p1, p2, p3, p4] (cf13.body.at [true, true, false, true, false, false]) ((((Tr.leaf.set p4 x4).set p3 (.agg c3)).set p2 (.agg c2)).set p1 (.agg c1)) σ (kAt ft cf13.body [true, true, false, true, false] (finO cf13))

theorem L13_0_eq (c1 : List V) (c2 : List V) (c3 : List V) (x4 : V) (σ : Sto) : L13_0 c1 c2 c3 x4 σ = (
  (part c1 2 none).bind fun x12 =>
  (lenV .sl σ x12).bind fun x13 =>
  (binV .lss .other x4 x13).bind fun x14 =>
  condV x14 (
  (part c3 2 none).bind fun x18 =>
  (part c1 2 none).bind fun x20 =>
  (indexAddrV 3 x20 x4).bind fun x22 =>
  (ldV σ (some 3) x22).bind fun x23 =>
  (callPure (D ft) 13 [x23]).bind fun x24 =>
  (fillD 3 (List.replicate 1 (.agg [(.int .i64 (0)), (.str []), .nsl])) [(0, x24)]).bind fun c25 =>
  bind2 (appendV 3 48 false σ x18 (.sl .full c25)) fun x26 σ_1 =>
  (stC c3 2 1 x26).bind fun c3_1 =>
  (binV .add .other x4 (.int .i64 (1))).bind fun x16 =>
  L13_0 c1 c2 c3_1 x16 σ_1) (
  (part c3 0 (some 3)).bind fun x28 =>
  (stC c2 0 3 x28).bind fun c2_1 =>
  (part c2_1 0 (some 3)).bind fun r2 =>
  some (.ret r2, σ))) := (lpS_eq _ _ _ _ _).trans (by kernel_rfl)

theorem D13_eq (x0 : V) (σ : Sto) : D ft 13 [x0] σ = (
  (boxC x0).bind fun c1 =>
  (part c1 0 none).bind fun x6 =>
  (part c1 1 none).bind fun x8 =>
  (fillC [(.int .i64 (0)), (.str []), .nsl] [(0, 1, x6), (1, 1, x8)]).bind fun c9 =>
  (stC [(.int .i64 (0)), (.str []), .nsl] 0 3 (.agg c9)).bind fun c3 =>
  L13_0 c1 [(.int .i64 (0)), (.str []), .nsl] c3 (.int .i64 (0)) σ) := (D_eq cf13 rfl rfl σ).trans (by kernel_rfl)

/-! demotic/demoticlaw11.of -/

noncomputable def L14_0 (c1 : List V) (c2 : List V) (c3 : List V) (x4 : V) (σ : Sto) : R := lpS ft [p1, p2, p3, p4] (cf14.body.at [true, true, false, true, false, false]) ((((Tr.leaf.set p4 x4).set p3 (.agg c3)).set p2 (.agg c2)).set p1 (.agg c1)) σ (kAt ft cf14.body [true, true, false, true, false] (finO cf14))

theorem L14_0_eq (c1 : List V) (c2 : List V) (c3 : List V) (x4 : V) (σ : Sto) : L14_0 c1 c2 c3 x4 σ = (
  (part c1 2 none).bind fun x12 =>
  (lenV .sl σ x12).bind fun x13 =>
  (binV .lss .other x4 x13).bind fun x14 =>
  condV x14 (
  (part c3 2 none).bind fun x18 =>
  (part c1 2 none).bind fun x20 =>
  (indexAddrV 2 x20 x4).bind fun x22 =>
  (fieldAddrV 0 x22).bind fun x23 =>
  (ldV σ none x23).bind fun x24 =>
  (part c1 2 none).bind fun x26 =>
  (indexAddrV 2 x26 x4).bind fun x28 =>
  (fieldAddrV 1 x28).bind fun x29 =>
  (ldV σ none x29).bind fun x30 =>
  (fillC [(.bool false), (.str [])] [(0, 1, x24), (1, 1, x30)]).bind fun c31 =>
  (fillD 2 (List.replicate 1 (.agg [(.bool false), (.str [])])) [(0, (.agg c31))]).bind fun c32 =>
  bind2 (appendV 2 24 false σ x18 (.sl .full c32)) fun x33 σ_1 =>
  (stC c3 2 1 x33).bind fun c3_1 =>
  (binV .add .other x4 (.int .i64 (1))).bind fun x16 =>
  L14_0 c1 c2 c3_1 x16 σ_1) (
  (part c3 0 (some 3)).bind fun x35 =>
  (stC c2 0 3 x35).bind fun c2_1 =>
  (part c2_1 0 (some 3)).bind fun r2 =>
  some (.ret r2, σ))) := (lpS_eq _ _ _ _ _).trans (by kernel_rfl)

theorem D14_eq (x0 : V) (σ : Sto) : D ft 14 [x0] σ = (
  (boxC x0).bind fun c1 =>
  (part c1 0 none).bind fun x6 =>
  (part c1 1 none).bind fun x8 =>
  (fillC [(.bool false), (.bool false), .nsl] [(0, 1, x6), (1, 1, x8)]).bind fun c9 =>
  (stC [(.bool false), (.bool false), .nsl] 0 3 (.agg c9)).bind fun c3 =>
  L14_0 c1 [(.bool false), (.bool false), .nsl] c3 (.int .i64 (0)) σ) := (D_eq cf14 rfl rfl σ).trans (by kernel_rfl)

/-! demotic/sets.Lets -/

theorem D15_eq (x0 x1 x2 x3 : V) (σ : Sto) : D ft 15 [x0, x1, x2, x3] σ = (
  (boxN 3 x2).bind fun c6 =>
  alS (.cells c6) σ fun b σ_1 =>
  (boxC x3).bind fun c7 =>
  (part c7 0 (some 3)).bind fun x14 =>
  (callPure (D ft) 33 [x0, x14]).bind fun x15 =>
  (stC c7 0 3 x15).bind fun c7_1 =>
  (part c7_1 1 none).bind fun x19 =>
  (callPure (D ft) 22 [x1, x19]).bind fun x20 =>
  (extractV 0 x20).bind fun x21 =>
  (extractV 1 x20).bind fun x22 =>
  (stC [(.bool false), (.bool false), .nsl] 0 3 x21).bind fun c9 =>
  (part c7_1 0 none).bind fun x24 =>
  (binV .eql .other x24 (.int .i64 (4))).bind fun x25 =>
  (ldV σ_1 (some 3) (.ptr b 0)).bind fun x27 =>
  (callPure (D ft) 34 [x27]).bind fun x28 =>
  (notV x28).bind fun x29 =>
  chkB x29 (
  (gd x29 false (part c7_1 0 none)).bind fun x32 =>
  (gd x29 false (binV .eql .other x32 (.int .i64 (0)))).bind fun x33 =>
  (pickS x29 (some (.bool true)) (some x33)).bind fun x34 =>
  (gd x34 false (some x25)).bind fun x36 =>
  (gd x34 false (some x36)).bind fun x37 =>
  (gd x37 true (some x22)).bind fun x38 =>
  (gd x37 true (notV x38)).bind fun x39 =>
  (gd x37 true (some x39)).bind fun x40 =>
  (gd x40 false (part c9 0 (some 3))).bind fun x41 =>
  (gd x40 false (callPure (D ft) 34 [x41])).bind fun x42 =>
  (gd x40 false (notV x42)).bind fun x43 =>
  (gd x37 true (pickS x40 (some (.bool true)) (some x43))).bind fun x44 =>
  (gd x34 false (pickS x37 (some x44) (some (.bool false)))).bind fun x45 =>
  (pickS x34 (some (.bool true)) (some x45)).bind fun x46 =>
  condV x46 (
  some (.ret (.bool false), σ_1)) (
  (fieldAddrV 0 (.ptr b 0)).bind fun x48 =>
  (ldV σ_1 none x48).bind fun x49 =>
  condV x49 (
  some (.ret (.bool true), σ_1)) (
  (fieldAddrV 1 (.ptr b 0)).bind fun x51 =>
  (ldV σ_1 none x51).bind fun x52 =>
  condV x52 (
  (part c7_1 0 (some 3)).bind fun x54 =>
  (callPure (D ft) 35 [x0, x54]).bind fun x55 =>
  (gd x55 false (some x25)).bind fun x57 =>
  (gd x55 false (some x57)).bind fun x58 =>
  chkB x58 (
  (gd x58 true (part c9 0 none)).bind fun x60 =>
  (gd x58 true (notV x60)).bind fun x61 =>
  (gd x55 false (pickS x58 (some x61) (some (.bool false)))).bind fun x62 =>
  (pickS x55 (some (.bool true)) (some x62)).bind fun x63 =>
  some (.ret x63, σ_1))) (
  condV x25 (
  (part c9 2 none).bind fun x67 =>
  (lenV .sl σ_1 x67).bind fun x68 =>
  (binV .gtr .other x68 (.int .i64 (0))).bind fun x69 =>
  chkB x69 (
  (gd x69 true (part c9 2 none)).bind fun x72 =>
  (gd x69 true (some (.func 37 [(.ptr b 0)]))).bind fun x73 =>
  bindR (gdR x69 true σ_1 (D ft 36 [x72, x73] σ_1)) fun x74 σ_2 =>
  (gd x69 true (notV x74)).bind fun x75 =>
  (pickS x69 (some x75) (some (.bool false))).bind fun x76 =>
  some (.ret x76, σ_2))) (
  (part c7_1 0 (some 3)).bind fun x78 =>
  (callPure (D ft) 39 [x0, x78]).bind fun x79 =>
  (stC [(.int .i64 (0)), (.str []), .nsl] 0 3 x79).bind fun c12 =>
  (part c12 0 none).bind fun x81 =>
  (binV .eql .other x81 (.int .i64 (1))).bind fun x82 =>
  (gd x82 true (ldV σ_1 (some 3) (.ptr b 0))).bind fun x84 =>
  chkB x82 (
  (gd x82 true (part c7_1 0 none)).bind fun x86 =>
  (gd x82 true (binV .neq .other x86 (.int .i64 (1)))).bind fun x87 =>
  chkB x82 (
  (gd x82 true (part c12 1 none)).bind fun x89 =>
  (gd x82 true ((fillC [(.bool false), (.str [])] [(0, 1, x87), (1, 1, x89)]).map (.agg))).bind fun x90 =>
  (gd x82 true (callPure (D ft) 38 [x84, x90])).bind fun x91 =>
  (pickS x82 (some x91) (some (.bool false))).bind fun x92 =>
  some (.ret x92, σ_1))))))))) := (D_eq cf15 rfl rfl σ).trans (by kernel_rfl)

/-! demotic/demoticlaw11.awake -/

theorem D16_eq (σ : Sto) : D ft 16 [] σ = (
  (fillC [(.int .i64 (0)), (.str []), .nsl] [(0, 1, (.int .i64 (1))), (1, 1, (.str [105, 110, 116]))]).bind fun c3 =>
  (fillC [(.str []), .nsl, (.int .i64 (0)), (.str []), .nsl, (.bool false)] [(0, 1, (.str [78])), (2, 3, (.agg c3))]).bind fun c4 =>
  (fillC [(.int .i64 (0)), (.str []), .nsl] [(0, 1, (.int .i64 (1))), (1, 1, (.str [115, 116, 114, 105, 110, 103]))]).bind fun c5 =>
  (fillC [(.str []), .nsl, (.int .i64 (0)), (.str []), .nsl, (.bool false)] [(0, 1, (.str [83])), (2, 3, (.agg c5))]).bind fun c6 =>
  (fillD 6 (List.replicate 2 (.agg [(.str []), .nsl, (.int .i64 (0)), (.str []), .nsl, (.bool false)])) [(0, (.agg c4)), (1, (.agg c6))]).bind fun c7 =>
  (fillC [(.bool false), (.str [])] [(0, 1, (.bool true)), (1, 1, (.str [105, 110, 116]))]).bind fun c8 =>
  (fillC [(.bool false), (.str [])] [(1, 1, (.str [115, 116, 114, 105, 110, 103]))]).bind fun c9 =>
  (fillD 2 (List.replicate 2 (.agg [(.bool false), (.str [])])) [(0, (.agg c8)), (1, (.agg c9))]).bind fun c10 =>
  (fillC [(.bool false), (.bool false), .nsl] [(2, 1, (.sl .full c10))]).bind fun c11 =>
  (stC [(.bool false), (.bool false), .nsl] 0 3 (.agg c11)).bind fun c2 =>
  (part c2 0 (some 3)).bind fun x13 =>
  (fillC [(.int .i64 (0)), (.str []), .nsl] [(0, 1, (.int .i64 (1))), (1, 1, (.str [115, 116, 114, 105, 110, 103]))]).bind fun c14 =>
  (callPure (D ft) 15 [(.sl .full c7), .nsl, x13, (.agg c14)]).bind fun x15 =>
  (gd x15 true (some (.sl .full c7))).bind fun x17 =>
  (gd x15 true (part c2 0 (some 3))).bind fun x18 =>
  (gd x15 true ((fillC [(.int .i64 (0)), (.str []), .nsl] [(0, 1, (.int .i64 (3))), (1, 1, (.str [78]))]).map (.agg))).bind fun x19 =>
  (gd x15 true (callPure (D ft) 15 [x17, .nsl, x18, x19])).bind fun x20 =>
  (pickS x15 (some x20) (some (.bool false))).bind fun x21 =>
  (gd x21 true (some (.sl .full c7))).bind fun x23 =>
  (gd x21 true (part c2 0 (some 3))).bind fun x24 =>
  (gd x21 true ((fillC [(.int .i64 (0)), (.str []), .nsl] [(0, 1, (.int .i64 (3))), (1, 1, (.str [83]))]).map (.agg))).bind fun x25 =>
  (gd x21 true (callPure (D ft) 15 [x23, .nsl, x24, x25])).bind fun x26 =>
  (gd x21 true (notV x26)).bind fun x27 =>
  (pickS x21 (some x27) (some (.bool false))).bind fun x28 =>
  some (.ret x28, σ)) := (D_eq cf16 rfl rfl σ).trans (by kernel_rfl)

/-! demotic/demoticlaw11.alias -/

noncomputable def L17_0 (x0 : V) (x1 : V) (x5 : V) (σ : Sto) : R := lpS ft [p0, p1, p5] (cf17.body.at [true, false, true, false, false]) (((Tr.leaf.set p5 x5).set p1 x1).set p0 x0) σ (kAt ft cf17.body [true, false, true, false] (finO cf17))

theorem L17_0_eq (x0 : V) (x1 : V) (x5 : V) (σ : Sto) : L17_0 x0 x1 x5 σ = (
  (lenV .sl σ x0).bind fun x8 =>
  (binV .lss .other x5 x8).bind fun x9 =>
  condV x9 (
  (indexAddrV 6 x0 x5).bind fun x14 =>
  (fieldAddrV 0 x14).bind fun x15 =>
  (ldV σ none x15).bind fun x16 =>
  (binV .eql .str x16 x1).bind fun x18 =>
  condV x18 (
  (indexAddrV 6 x0 x5).bind fun x21 =>
  (fieldAddrV 5 x21).bind fun x22 =>
  (ldV σ none x22).bind fun x23 =>
  some (.ret x23, σ)) (
  (binV .add .other x5 (.int .i64 (1))).bind fun x11 =>
  L17_0 x0 x1 x11 σ)) (
  some (.ret (.bool false), σ))) := (lpS_eq _ _ _ _ _).trans (by kernel_rfl)

theorem D17_eq (x0 x1 : V) (σ : Sto) : D ft 17 [x0, x1] σ = (
  L17_0 x0 x1 (.int .i64 (0)) σ) := (D_eq cf17 rfl rfl σ).trans (by kernel_rfl)

/-! demotic/sets.Each -/

theorem D18_eq (x0 x1 : V) (σ : Sto) : D ft 18 [x0, x1] σ = (
  (boxC x0).bind fun c2 =>
  (boxN 1 x1).bind fun c3 =>
  alS (.cells c3) σ fun b σ_1 =>
  (part c2 2 none).bind fun x6 =>
  (lenV .sl σ_1 x6).bind fun x7 =>
  (binV .gtr .other x7 (.int .i64 (0))).bind fun x8 =>
  chkB x8 (
  (gd x8 true (part c2 2 none)).bind fun x11 =>
  (gd x8 true (some (.func 40 [(.ptr b 0)]))).bind fun x12 =>
  bindR (gdR x8 true σ_1 (D ft 36 [x11, x12] σ_1)) fun x13 σ_2 =>
  (gd x8 true (notV x13)).bind fun x14 =>
  (pickS x8 (some x14) (some (.bool false))).bind fun x15 =>
  some (.ret x15, σ_2))) := (D_eq cf18 rfl rfl σ).trans (by kernel_rfl)

/-! demotic/demoticref06.Size -/

noncomputable def L19_0 (x1 : V) (c2 : List V) (x5 : V) (x6 : V) (σ : Sto) : R := lpS ft [p1, p2, p5, p6] (cf19.body.at [true, true, true, false, true, false, false]) ((((Tr.leaf.set p6 x6).set p5 x5).set p2 (.agg c2)).set p1 x1) σ (kAt ft cf19.body [true, true, true, false, true, false] (finO cf19))

theorem L19_0_eq (x1 : V) (c2 : List V) (x5 : V) (x6 : V) (σ : Sto) : L19_0 x1 c2 x5 x6 σ = (
  (part c2 2 none).bind fun x11 =>
  (lenV .sl σ x11).bind fun x12 =>
  (binV .lss .other x6 x12).bind fun x13 =>
  condV x13 (
  (part c2 2 none).bind fun x18 =>
  (indexAddrV 4 x18 x6).bind fun x20 =>
  (ldV σ (some 4) x20).bind fun x21 =>
  (binV .sub .other x1 (.int .i64 (1))).bind fun x23 =>
  (callPure (D ft) 19 [x21, x23]).bind fun x24 =>
  (binV .add .other x5 x24).bind fun x25 =>
  (binV .add .other x6 (.int .i64 (1))).bind fun x15 =>
  L19_0 x1 c2 x25 x15 σ) (
  some (.ret x5, σ))) := (lpS_eq _ _ _ _ _).trans (by kernel_rfl)

theorem D19_eq (x0 x1 : V) (σ : Sto) : D ft 19 [x0, x1] σ = (
  (boxC x0).bind fun c2 =>
  (binV .eql .other x1 (.int .i64 (0))).bind fun x8 =>
  condV x8 (
  some (.ret (.int .i64 (0)), σ)) (
  L19_0 x1 c2 (.int .i64 (1)) (.int .i64 (0)) σ)) := (D_eq cf19 rfl rfl σ).trans (by kernel_rfl)

/-! demotic/sets.Of -/

theorem D20_eq (x0 x1 : V) (σ : Sto) : D ft 20 [x0, x1] σ = (
  (boxC x0).bind fun c2 =>
  (part c2 0 none).bind fun x11 =>
  (binV .eql .other x11 (.int .i64 (14))).bind fun x12 =>
  condV x12 (
  (part c2 0 (some 4)).bind fun x13 =>
  (callPure (D ft) 42 [x13]).bind fun x14 =>
  (extractV 0 x14).bind fun x15 =>
  (extractV 1 x14).bind fun x16 =>
  (stC [(.bool false), (.bool false), .nsl] 0 3 x15).bind fun c4 =>
  (part c4 0 (some 3)).bind fun r4 =>
  some (.ret (.tup [r4, x16]), σ)) (
  (part c2 0 none).bind fun x19 =>
  (binV .neq .other x19 (.int .i64 (10))).bind fun x20 =>
  chkB x20 (
  (gd x20 false (part c2 2 none)).bind fun x23 =>
  (gd x20 false (lenV .sl σ x23)).bind fun x24 =>
  (gd x20 false (binV .gtr .other x24 (.int .i64 (0)))).bind fun x25 =>
  (pickS x20 (some (.bool true)) (some x25)).bind fun x26 =>
  condV x26 (
  (fillC [(.bool false), (.bool false), .nsl] []).bind fun c27 =>
  (stC [(.bool false), (.bool false), .nsl] 0 3 (.agg c27)).bind fun c4 =>
  (part c4 0 (some 3)).bind fun r4 =>
  some (.ret (.tup [r4, (.bool false)]), σ)) (
  (part c2 1 none).bind fun x31 =>
  (callPure (D ft) 22 [x1, x31]).bind fun x32 =>
  (extractV 0 x32).bind fun x33 =>
  (extractV 1 x32).bind fun x34 =>
  (stC [(.bool false), (.bool false), .nsl] 0 3 x33).bind fun c6 =>
  condV x34 (
  (part c6 0 (some 3)).bind fun x36 =>
  (stC [(.bool false), (.bool false), .nsl] 0 3 x36).bind fun c4 =>
  (part c4 0 (some 3)).bind fun r4 =>
  some (.ret (.tup [r4, (.bool true)]), σ)) (
  (part c2 1 none).bind fun x38 =>
  (binV .eql .str x38 (.str [97, 110, 121])).bind fun x39 =>
  (part c2 1 none).bind fun x41 =>
  (binV .eql .str x41 (.str [99, 111, 109, 112, 97, 114, 97, 98, 108, 101])).bind fun x42 =>
  (fillC [(.bool false), (.bool false), .nsl] [(0, 1, x39), (1, 1, x42)]).bind fun c43 =>
  (stC [(.bool false), (.bool false), .nsl] 0 3 (.agg c43)).bind fun c8 =>
  (part c8 0 (some 3)).bind fun x44 =>
  (part c8 0 none).bind fun x46 =>
  chkB x46 (
  (gd x46 false (part c8 1 none)).bind fun x49 =>
  (pickS x46 (some (.bool true)) (some x49)).bind fun x50 =>
  (stC [(.bool false), (.bool false), .nsl] 0 3 x44).bind fun c4 =>
  (part c4 0 (some 3)).bind fun r4 =>
  some (.ret (.tup [r4, x50]), σ))))))) := (D_eq cf20 rfl rfl σ).trans (by kernel_rfl)

/-! demotic/demoticref11.Of -/

noncomputable def L21_0 (c2 : List V) (c4 : List V) (c6 : List V) (x7 : V) (σ : Sto) : R := lpS ft [p2, p4, p6, p7] (cf21.body.at [true, true, false, true, false, false, true, false, false]) ((((Tr.leaf.set p7 x7).set p6 (.agg c6)).set p4 (.agg c4)).set p2 (.agg c2)) σ (kAt ft cf21.body [true, true, false, true, false, false, true, false] (finO cf21))

theorem L21_0_eq (c2 : List V) (c4 : List V) (c6 : List V) (x7 : V) (σ : Sto) : L21_0 c2 c4 c6 x7 σ = (
  (part c2 2 none).bind fun x16 =>
  (lenV .sl σ x16).bind fun x17 =>
  (binV .lss .other x7 x17).bind fun x18 =>
  condV x18 (
  (part c2 2 none).bind fun x22 =>
  (indexAddrV 4 x22 x7).bind fun x24 =>
  (ldV σ (some 4) x24).bind fun x25 =>
  (stC [(.int .i64 (0)), (.str []), .nsl, (.int .i64 (0))] 0 4 x25).bind fun c8 =>
  (part c8 0 none).bind fun x27 =>
  (binV .neq .other x27 (.int .i64 (15))).bind fun x28 =>
  chkB x28 (
  (gd x28 false (part c8 2 none)).bind fun x31 =>
  (gd x28 false (lenV .sl σ x31)).bind fun x32 =>
  (gd x28 false (binV .neq .other x32 (.int .i64 (1)))).bind fun x33 =>
  (pickS x28 (some (.bool true)) (some x33)).bind fun x34 =>
  chkB x34 (
  (gd x34 false (part c8 2 none)).bind fun x37 =>
  (gd x34 false (indexAddrV 4 x37 (.int .i64 (0)))).bind fun x38 =>
  (gd x34 false (fieldAddrV 0 x38)).bind fun x39 =>
  (gd x34 false (ldV σ none x39)).bind fun x40 =>
  (gd x34 false (binV .neq .other x40 (.int .i64 (10)))).bind fun x41 =>
  (pickS x34 (some (.bool true)) (some x41)).bind fun x42 =>
  chkB x42 (
  (gd x42 false (part c8 2 none)).bind fun x45 =>
  (gd x42 false (indexAddrV 4 x45 (.int .i64 (0)))).bind fun x46 =>
  (gd x42 false (fieldAddrV 2 x46)).bind fun x47 =>
  (gd x42 false (ldV σ none x47)).bind fun x48 =>
  (gd x42 false (lenV .sl σ x48)).bind fun x49 =>
  (gd x42 false (binV .gtr .other x49 (.int .i64 (0)))).bind fun x50 =>
  (pickS x42 (some (.bool true)) (some x50)).bind fun x51 =>
  chkB x51 (
  (gd x51 false (part c8 2 none)).bind fun x54 =>
  (gd x51 false (indexAddrV 4 x54 (.int .i64 (0)))).bind fun x55 =>
  (gd x51 false (fieldAddrV 1 x55)).bind fun x56 =>
  (gd x51 false (ldV σ none x56)).bind fun x57 =>
  (gd x51 false (callPure (D ft) 43 [x57])).bind fun x58 =>
  (gd x51 false (notV x58)).bind fun x59 =>
  (pickS x51 (some (.bool true)) (some x59)).bind fun x60 =>
  condV x60 (
  (fillC [(.bool false), (.bool false), .nsl] []).bind fun c61 =>
  (stC c4 0 3 (.agg c61)).bind fun c4_1 =>
  (part c4_1 0 (some 3)).bind fun r4 =>
  some (.ret (.tup [r4, (.bool false)]), σ)) (
  (part c6 2 none).bind fun x63 =>
  (part c8 1 none).bind fun x65 =>
  (binV .eql .str x65 (.str [126])).bind fun x66 =>
  (part c8 2 none).bind fun x68 =>
  (indexAddrV 4 x68 (.int .i64 (0))).bind fun x69 =>
  (fieldAddrV 1 x69).bind fun x70 =>
  (ldV σ none x70).bind fun x71 =>
  (fillC [(.bool false), (.str [])] [(0, 1, x66), (1, 1, x71)]).bind fun c72 =>
  (fillD 2 (List.replicate 1 (.agg [(.bool false), (.str [])])) [(0, (.agg c72))]).bind fun c73 =>
  bind2 (appendV 2 24 false σ x63 (.sl .full c73)) fun x74 σ_1 =>
  (stC c6 2 1 x74).bind fun c6_1 =>
  (binV .add .other x7 (.int .i64 (1))).bind fun x20 =>
  L21_0 c2 c4 c6_1 x20 σ_1)))))) (
  (part c6 0 (some 3)).bind fun x76 =>
  (part c6 2 none).bind fun x78 =>
  (lenV .sl σ x78).bind fun x79 =>
  (binV .gtr .other x79 (.int .i64 (0))).bind fun x80 =>
  (stC c4 0 3 x76).bind fun c4_1 =>
  (part c4_1 0 (some 3)).bind fun r4 =>
  some (.ret (.tup [r4, x80]), σ))) := (lpS_eq _ _ _ _ _).trans (by kernel_rfl)

theorem D21_eq (x0 x1 : V) (σ : Sto) : D ft 21 [x0, x1] σ = (
  (boxC x0).bind fun c2 =>
  (part c2 0 none).bind fun x12 =>
  (binV .eql .other x12 (.int .i64 (14))).bind fun x13 =>
  condV x13 (
  L21_0 c2 [(.bool false), (.bool false), .nsl] [(.bool false), (.bool false), .nsl] (.int .i64 (0)) σ) (
  (part c2 0 none).bind fun x82 =>
  (binV .neq .other x82 (.int .i64 (10))).bind fun x83 =>
  chkB x83 (
  (gd x83 false (part c2 2 none)).bind fun x86 =>
  (gd x83 false (lenV .sl σ x86)).bind fun x87 =>
  (gd x83 false (binV .gtr .other x87 (.int .i64 (0)))).bind fun x88 =>
  (pickS x83 (some (.bool true)) (some x88)).bind fun x89 =>
  condV x89 (
  (fillC [(.bool false), (.bool false), .nsl] []).bind fun c90 =>
  (stC [(.bool false), (.bool false), .nsl] 0 3 (.agg c90)).bind fun c4 =>
  (part c4 0 (some 3)).bind fun r4 =>
  some (.ret (.tup [r4, (.bool false)]), σ)) (
  (part c2 1 none).bind fun x94 =>
  (callPure (D ft) 23 [x1, x94]).bind fun x95 =>
  (extractV 0 x95).bind fun x96 =>
  (extractV 1 x95).bind fun x97 =>
  (stC [(.bool false), (.bool false), .nsl] 0 3 x96).bind fun c9 =>
  condV x97 (
  (part c9 0 (some 3)).bind fun x99 =>
  (stC [(.bool false), (.bool false), .nsl] 0 3 x99).bind fun c4 =>
  (part c4 0 (some 3)).bind fun r4 =>
  some (.ret (.tup [r4, (.bool true)]), σ)) (
  (part c2 1 none).bind fun x101 =>
  (binV .eql .str x101 (.str [97, 110, 121])).bind fun x103 =>
  condV x103 (
  (fillC [(.bool false), (.bool false), .nsl] [(0, 1, (.bool true))]).bind fun c104 =>
  (stC [(.bool false), (.bool false), .nsl] 0 3 (.agg c104)).bind fun c4 =>
  (part c4 0 (some 3)).bind fun r4 =>
  some (.ret (.tup [r4, (.bool true)]), σ)) (
  (binV .eql .str x101 (.str [99, 111, 109, 112, 97, 114, 97, 98, 108, 101])).bind fun x106 =>
  condV x106 (
  (fillC [(.bool false), (.bool false), .nsl] [(1, 1, (.bool true))]).bind fun c107 =>
  (stC [(.bool false), (.bool false), .nsl] 0 3 (.agg c107)).bind fun c4 =>
  (part c4 0 (some 3)).bind fun r4 =>
  some (.ret (.tup [r4, (.bool true)]), σ)) (
  (fillC [(.bool false), (.bool false), .nsl] []).bind fun c108 =>
  (stC [(.bool false), (.bool false), .nsl] 0 3 (.agg c108)).bind fun c4 =>
  (part c4 0 (some 3)).bind fun r4 =>
  some (.ret (.tup [r4, (.bool false)]), σ)))))))) := (D_eq cf21 rfl rfl σ).trans (by kernel_rfl)

/-! demotic/sets.Find -/

theorem D22_eq (x0 x1 : V) (σ : Sto) : D ft 22 [x0, x1] σ = (
  (boxN 1 x1).bind fun c3 =>
  alS (.cells c3) σ fun b σ_1 =>
  bindR (D ft 44 [x0, (.func 45 [(.ptr b 0)])] σ_1) fun x9 σ_2 =>
  (binV .lss .other x9 (.int .i64 (0))).bind fun x11 =>
  condV x11 (
  (fillC [(.bool false), (.bool false), .nsl] []).bind fun c12 =>
  (stC [(.bool false), (.bool false), .nsl] 0 3 (.agg c12)).bind fun c4 =>
  (part c4 0 (some 3)).bind fun r4 =>
  some (.ret (.tup [r4, (.bool false)]), σ_2)) (
  (indexAddrV 4 x0 x9).bind fun x15 =>
  (fieldAddrV 1 x15).bind fun x16 =>
  (fieldAddrV 0 x16).bind fun x17 =>
  (ldV σ_2 none x17).bind fun x18 =>
  (noteV 1 σ_2 x17 []).bind fun pd =>
  (indexAddrV 4 x0 x9).bind fun x21 =>
  (fieldAddrV 1 x21).bind fun x22 =>
  (fieldAddrV 1 x22).bind fun x23 =>
  (ldV σ_2 none x23).bind fun x24 =>
  (noteV 1 σ_2 x23 pd).bind fun pd_1 =>
  (indexAddrV 4 x0 x9).bind fun x27 =>
  (fieldAddrV 1 x27).bind fun x28 =>
  (fieldAddrV 2 x28).bind fun x29 =>
  (ldV σ_2 none x29).bind fun x30 =>
  bindR (D ft 46 [x30] σ_2) fun x31 σ_3 =>
  passK pd_1 σ_3 fun pd_2 =>
  (fillC [(.bool false), (.bool false), .nsl] [(0, 1, x18), (1, 1, x24), (2, 1, x31)]).bind fun c32 =>
  (stC [(.bool false), (.bool false), .nsl] 0 3 (.agg c32)).bind fun c4 =>
  (part c4 0 (some 3)).bind fun r4 =>
  some (.ret (.tup [r4, (.bool true)]), σ_3))) := (D_eq cf22 rfl rfl σ).trans (by kernel_rfl)

/-! demotic/demoticref11.Find -/

noncomputable def L23_0 (x0 : V) (x1 : V) (c4 : List V) (x6 : V) (σ : Sto) : R := lpS ft [p0, p1, p4, p6] (cf23.body.at [true, false, true, false, false]) ((((Tr.leaf.set p6 x6).set p4 (.agg c4)).set p1 x1).set p0 x0) σ (kAt ft cf23.body [true, false, true, false] (finO cf23))

theorem L23_0_eq (x0 : V) (x1 : V) (c4 : List V) (x6 : V) (σ : Sto) : L23_0 x0 x1 c4 x6 σ = (
  (lenV .sl σ x0).bind fun x9 =>
  (binV .lss .other x6 x9).bind fun x10 =>
  condV x10 (
  (indexAddrV 4 x0 x6).bind fun x15 =>
  (fieldAddrV 0 x15).bind fun x16 =>
  (ldV σ none x16).bind fun x17 =>
  (binV .eql .str x17 x1).bind fun x19 =>
  condV x19 (
  (indexAddrV 4 x0 x6).bind fun x22 =>
  (fieldAddrV 1 x22).bind fun x23 =>
  (ldV σ (some 3) x23).bind fun x24 =>
  (stC c4 0 3 x24).bind fun c4_1 =>
  (part c4_1 0 (some 3)).bind fun r4 =>
  some (.ret (.tup [r4, (.bool true)]), σ)) (
  (binV .add .other x6 (.int .i64 (1))).bind fun x12 =>
  L23_0 x0 x1 c4 x12 σ)) (
  (fillC [(.bool false), (.bool false), .nsl] []).bind fun c25 =>
  (stC c4 0 3 (.agg c25)).bind fun c4_1 =>
  (part c4_1 0 (some 3)).bind fun r4 =>
  some (.ret (.tup [r4, (.bool false)]), σ))) := (lpS_eq _ _ _ _ _).trans (by kernel_rfl)

theorem D23_eq (x0 x1 : V) (σ : Sto) : D ft 23 [x0, x1] σ = (
  L23_0 x0 x1 [(.bool false), (.bool false), .nsl] (.int .i64 (0)) σ) := (D_eq cf23 rfl rfl σ).trans (by kernel_rfl)

/-! demotic/demoticlaw11.told -/

noncomputable def L24_0 (c2 : List V) (c3 : List V) (x5 : V) (σ : Sto) : R := lpS ft [p2, p3, p5] (cf24.body.at [true, true, false, true, false, false]) (((Tr.leaf.set p5 x5).set p3 (.agg c3)).set p2 (.agg c2)) σ (kAt ft cf24.body [true, true, false, true, false] (finO cf24))

theorem L24_0_eq (c2 : List V) (c3 : List V) (x5 : V) (σ : Sto) : L24_0 c2 c3 x5 σ = (
  (part c2 2 none).bind fun x29 =>
  (lenV .sl σ x29).bind fun x30 =>
  (binV .lss .other x5 x30).bind fun x31 =>
  condV x31 (
  (part c2 2 none).bind fun x35 =>
  (indexAddrV 2 x35 x5).bind fun x37 =>
  (fieldAddrV 0 x37).bind fun x38 =>
  (ldV σ none x38).bind fun x39 =>
  (part c3 2 none).bind fun x41 =>
  (indexAddrV 2 x41 x5).bind fun x43 =>
  (fieldAddrV 0 x43).bind fun x44 =>
  (ldV σ none x44).bind fun x45 =>
  (binV .neq .bool x39 x45).bind fun x46 =>
  chkB x46 (
  (gd x46 false (part c2 2 none)).bind fun x49 =>
  (gd x46 false (some x5)).bind fun x50 =>
  (gd x46 false (indexAddrV 2 x49 x50)).bind fun x51 =>
  (gd x46 false (fieldAddrV 1 x51)).bind fun x52 =>
  (gd x46 false (ldV σ none x52)).bind fun x53 =>
  chkB x46 (
  (gd x46 false (part c3 2 none)).bind fun x55 =>
  (gd x46 false (some x5)).bind fun x56 =>
  (gd x46 false (indexAddrV 2 x55 x56)).bind fun x57 =>
  (gd x46 false (fieldAddrV 1 x57)).bind fun x58 =>
  (gd x46 false (ldV σ none x58)).bind fun x59 =>
  (gd x46 false (binV .neq .str x53 x59)).bind fun x60 =>
  (pickS x46 (some (.bool true)) (some x60)).bind fun x61 =>
  condV x61 (
  some (.ret (.bool false), σ)) (
  (binV .add .other x5 (.int .i64 (1))).bind fun x33 =>
  L24_0 c2 c3 x33 σ)))) (
  some (.ret (.bool true), σ))) := (lpS_eq _ _ _ _ _).trans (by kernel_rfl)

theorem D24_eq (x0 x1 : V) (σ : Sto) : D ft 24 [x0, x1] σ = (
  (boxC x0).bind fun c2 =>
  (boxC x1).bind fun c3 =>
  (part c2 0 none).bind fun x7 =>
  (part c3 0 none).bind fun x9 =>
  (binV .neq .bool x7 x9).bind fun x10 =>
  chkB x10 (
  (gd x10 false (part c2 1 none)).bind fun x13 =>
  chkB x10 (
  (gd x10 false (part c3 1 none)).bind fun x15 =>
  (gd x10 false (binV .neq .bool x13 x15)).bind fun x16 =>
  (pickS x10 (some (.bool true)) (some x16)).bind fun x17 =>
  chkB x17 (
  (gd x17 false (part c2 2 none)).bind fun x20 =>
  (gd x17 false (lenV .sl σ x20)).bind fun x21 =>
  chkB x17 (
  (gd x17 false (part c3 2 none)).bind fun x23 =>
  (gd x17 false (lenV .sl σ x23)).bind fun x24 =>
  (gd x17 false (binV .neq .other x21 x24)).bind fun x25 =>
  (pickS x17 (some (.bool true)) (some x25)).bind fun x26 =>
  condV x26 (
  some (.ret (.bool false), σ)) (
  L24_0 c2 c3 (.int .i64 (0)) σ)))))) := (D_eq cf24 rfl rfl σ).trans (by kernel_rfl)

/-! demotic/demoticlaw12.light -/

noncomputable def L25_0 (x0 : V) (x3 : V) (σ : Sto) : R := lpS ft [p0, p3] (cf25.body.at [true, true, false, true, false, false]) ((Tr.leaf.set p3 x3).set p0 x0) σ (kAt ft cf25.body [true, true, false, true, false] (finO cf25))

theorem L25_0_eq (x0 : V) (x3 : V) (σ : Sto) : L25_0 x0 x3 σ = (
  (lenV .sl σ x0).bind fun x9 =>
  (binV .lss .other x3 x9).bind fun x10 =>
  condV x10 (
  (indexAddrV 6 x0 x3).bind fun x15 =>
  (fieldAddrV 2 x15).bind fun x16 =>
  (ldV σ (some 3) x16).bind fun x17 =>
  (callPure (D ft) 10 [x17]).bind fun x18 =>
  (binV .gtr .other x18 (.int .i64 (20))).bind fun x19 =>
  (gd x19 false (some x0)).bind fun x21 =>
  (gd x19 false (some x3)).bind fun x22 =>
  (gd x19 false (indexAddrV 6 x21 x22)).bind fun x23 =>
  (gd x19 false (fieldAddrV 1 x23)).bind fun x24 =>
  (gd x19 false (ldV σ none x24)).bind fun x25 =>
  (gd x19 false (lenV .sl σ x25)).bind fun x26 =>
  (gd x19 false (binV .gtr .other x26 (.int .i64 (10)))).bind fun x27 =>
  (pickS x19 (some (.bool true)) (some x27)).bind fun x28 =>
  condV x28 (
  some (.ret (.bool false), σ)) (
  (binV .add .other x3 (.int .i64 (1))).bind fun x12 =>
  L25_0 x0 x12 σ)) (
  some (.ret (.bool true), σ))) := (lpS_eq _ _ _ _ _).trans (by kernel_rfl)

theorem D25_eq (x0 : V) (σ : Sto) : D ft 25 [x0] σ = (
  (lenV .sl σ x0).bind fun x5 =>
  (binV .gtr .other x5 (.int .i64 (20))).bind fun x6 =>
  condV x6 (
  some (.ret (.bool false), σ)) (
  L25_0 x0 (.int .i64 (0)) σ)) := (D_eq cf25 rfl rfl σ).trans (by kernel_rfl)

/-! demotic/demoticlaw12.few -/

noncomputable def L26_0 (x0 : V) (x3 : V) (σ : Sto) : R := lpS ft [p0, p3] (cf26.body.at [true, true, false, true, false, false]) ((Tr.leaf.set p3 x3).set p0 x0) σ (kAt ft cf26.body [true, true, false, true, false] (finO cf26))

theorem L26_0_eq (x0 : V) (x3 : V) (σ : Sto) : L26_0 x0 x3 σ = (
  (lenV .sl σ x0).bind fun x9 =>
  (binV .lss .other x3 x9).bind fun x10 =>
  condV x10 (
  (indexAddrV 3 x0 x3).bind fun x15 =>
  (ldV σ (some 3) x15).bind fun x16 =>
  (callPure (D ft) 10 [x16]).bind fun x17 =>
  (binV .gtr .other x17 (.int .i64 (40))).bind fun x18 =>
  condV x18 (
  some (.ret (.bool false), σ)) (
  (binV .add .other x3 (.int .i64 (1))).bind fun x12 =>
  L26_0 x0 x12 σ)) (
  some (.ret (.bool true), σ))) := (lpS_eq _ _ _ _ _).trans (by kernel_rfl)

theorem D26_eq (x0 : V) (σ : Sto) : D ft 26 [x0] σ = (
  (lenV .sl σ x0).bind fun x5 =>
  (binV .gtr .other x5 (.int .i64 (10))).bind fun x6 =>
  condV x6 (
  some (.ret (.bool false), σ)) (
  L26_0 x0 (.int .i64 (0)) σ)) := (D_eq cf26 rfl rfl σ).trans (by kernel_rfl)

/-! demotic/demoticlaw12.defs -/

noncomputable def L27_0 (x0 : V) (x3 : V) (x4 : V) (σ : Sto) : R := lpS ft [p0, p3, p4] (cf27.body.at [true, true, false, true, false, false]) (((Tr.leaf.set p4 x4).set p3 x3).set p0 x0) σ (kAt ft cf27.body [true, true, false, true, false] (finO cf27))

theorem L27_0_eq (x0 : V) (x3 : V) (x4 : V) (σ : Sto) : L27_0 x0 x3 x4 σ = (
  (lenV .sl σ x0).bind fun x7 =>
  (binV .lss .other x4 x7).bind fun x8 =>
  condV x8 (
  (indexAddrV 6 x0 x4).bind fun x14 =>
  (fieldAddrV 0 x14).bind fun x15 =>
  (ldV σ none x15).bind fun x16 =>
  (noteV 1 σ x15 []).bind fun pd =>
  (fillD 1 (List.replicate 0 (.str [])) []).bind fun c17 =>
  (indexAddrV 6 x0 x4).bind fun x20 =>
  (fieldAddrV 1 x20).bind fun x21 =>
  (ldV σ none x21).bind fun x22 =>
  (indexAddrV 6 x0 x4).bind fun x26 =>
  (fieldAddrV 2 x26).bind fun x27 =>
  (ldV σ (some 3) x27).bind fun x28 =>
  (noteV 1 σ x27 pd).bind fun pd_1 =>
  (indexAddrV 6 x0 x4).bind fun x32 =>
  (fieldAddrV 5 x32).bind fun x33 =>
  (ldV σ none x33).bind fun x34 =>
  (noteV 1 σ x33 pd_1).bind fun pd_2 =>
  bind2 (appendV 1 16 false σ (.sl .full c17) x22) fun x23 σ_1 =>
  passK pd_2 σ_1 fun pd_3 =>
  (callPure (D ft) 47 [x28]).bind fun x29 =>
  (fillC [(.str []), .nsl, (.int .i64 (0)), (.str []), .nsl, (.bool false)] [(0, 1, x16), (1, 1, x23), (2, 3, x29), (5, 1, x34)]).bind fun c35 =>
  (fillD 6 (List.replicate 1 (.agg [(.str []), .nsl, (.int .i64 (0)), (.str []), .nsl, (.bool false)])) [(0, (.agg c35))]).bind fun c36 =>
  bind2 (appendV 6 96 false σ_1 x3 (.sl .full c36)) fun x37 σ_2 =>
  passK pd_3 σ_2 fun pd_4 =>
  (binV .add .other x4 (.int .i64 (1))).bind fun x10 =>
  L27_0 x0 x37 x10 σ_2) (
  some (.ret x3, σ))) := (lpS_eq _ _ _ _ _).trans (by kernel_rfl)

theorem D27_eq (x0 : V) (σ : Sto) : D ft 27 [x0] σ = (
  L27_0 x0 .nsl (.int .i64 (0)) σ) := (D_eq cf27 rfl rfl σ).trans (by kernel_rfl)

/-! demotic/unify.Find -/

noncomputable def L28_0 (x2 : V) (x3 : V) (x10 : V) (x35 : V) (x36 : V) (x37 : V) (σ : Sto) : R := lpS ft [p2, p3, p10, p35, p36, p37] (cf28.body.at [true, true, true, false, true, false, false]) ((((((Tr.leaf.set p37 x37).set p36 x36).set p35 x35).set p10 x10).set p3 x3).set p2 x2) σ (kAt ft cf28.body [true, true, true, false, true, false] (finO cf28))

noncomputable def J28_0 (x2 : V) (x3 : V) (x10 : V) (x35 : V) (x36 : V) (x37 : V) (σ : Sto) : R :=
  (binV .add .other x37 (.int .i64 (1))).bind fun x65 =>
  L28_0 x2 x3 x10 x35 x36 x65 σ

noncomputable def J28_1 (x2 : V) (x3 : V) (x10 : V) (x35 : V) (x36 : V) (x37 : V) (σ : Sto) : R :=
  J28_0 x2 x3 x10 x35 x36 x37 σ

theorem L28_0_eq (x2 : V) (x3 : V) (x10 : V) (x35 : V) (x36 : V) (x37 : V) (σ : Sto) : L28_0 x2 x3 x10 x35 x36 x37 σ = (
  (binV .lss .other x37 x36).bind fun x38 =>
  condV x38 (
  (indexAddrV 3 x35 x37).bind fun x40 =>
  (ldV σ (some 3) x40).bind fun x41 =>
  (stC [(.int .i64 (0)), (.str []), .nsl] 0 3 x41).bind fun c13 =>
  (part c13 0 none).bind fun x43 =>
  (binV .eql .other x43 (.int .i64 (2))).bind fun x44 =>
  condV x44 (
  J28_1 x2 x3 x10 x35 x36 x37 σ) (
  (indexAddrV 3 x2 x37).bind fun x49 =>
  (ldV σ (some 3) x49).bind fun x50 =>
  (part c13 0 (some 3)).bind fun x51 =>
  bindR (D ft 49 [x10, x50, x51] σ) fun x52 σ_1 =>
  (extractV 0 x52).bind fun x53 =>
  (extractV 1 x52).bind fun x54 =>
  (extractV 2 x52).bind fun x55 =>
  (stC [(.int .i64 (0)), (.str []), .nsl] 0 3 x53).bind fun c14 =>
  (stC [(.int .i64 (0)), (.str []), .nsl] 0 3 x54).bind fun c15 =>
  (notV x55).bind fun x57 =>
  (gd x57 false (some x10)).bind fun x59 =>
  (gd x57 false (part c14 0 (some 3))).bind fun x60 =>
  (gd x57 false (part c15 0 (some 3))).bind fun x61 =>
  bindR (gdR x57 false σ_1 (D ft 50 [x59, x60, x61, (.int .i64 (100))] σ_1)) fun x62 σ_2 =>
  (gd x57 false (notV x62)).bind fun x63 =>
  (pickS x57 (some (.bool true)) (some x63)).bind fun x64 =>
  condV x64 (
  some (.ret (.tup [.nsl, (.bool false)]), σ_2)) (
  J28_1 x2 x3 x10 x35 x36 x37 σ_2))) (
  bindR (D ft 51 [x10, x2, x3] σ) fun x69 σ_1 =>
  (notV x69).bind fun x70 =>
  (gd x70 false (some x10)).bind fun x72 =>
  (gd x70 false (nilCheckV x72)).bind fun x73 =>
  (gd x70 false (fieldAddrV 2 x73)).bind fun x74 =>
  (gd x70 false (ldV σ_1 none x74)).bind fun x75 =>
  bindR (gdR x70 false σ_1 (D ft 52 [x75, (.func 53 [])] σ_1)) fun x76 σ_2 =>
  (pickS x70 (some (.bool true)) (some x76)).bind fun x77 =>
  condV x77 (
  some (.ret (.tup [.nsl, (.bool false)]), σ_2)) (
  (nilCheckV x10).bind fun x79 =>
  (fieldAddrV 2 x79).bind fun x80 =>
  (ldV σ_2 none x80).bind fun x81 =>
  some (.ret (.tup [x81, (.bool true)]), σ_2)))) := (lpS_eq _ _ _ _ _).trans (by kernel_rfl)

theorem D28_eq (x0 x1 x2 x3 : V) (σ : Sto) : D ft 28 [x0, x1, x2, x3] σ = (
  (lenV .sl σ x1).bind fun x21 =>
  ((mkSlV 3 48 (.agg [(.int .i64 (0)), (.str []), .nsl]) false σ x21).map (·.1)).bind fun x22 =>
  bindR (D ft 48 [x0, x1, x22] σ) fun x23 σ_1 =>
  (extractV 0 x23).bind fun x24 =>
  (extractV 1 x23).bind fun x25 =>
  (notV x25).bind fun x27 =>
  (gd x27 false (some x2)).bind fun x29 =>
  (gd x27 false (lenV .sl σ_1 x29)).bind fun x30 =>
  (gd x27 false (some x3)).bind fun x31 =>
  (gd x27 false (lenV .sl σ_1 x31)).bind fun x32 =>
  (gd x27 false (binV .neq .other x30 x32)).bind fun x33 =>
  (pickS x27 (some (.bool true)) (some x33)).bind fun x34 =>
  condV x34 (
  some (.ret (.tup [.nsl, (.bool false)]), σ_1)) (
  (lenV .sl σ_1 x3).bind fun x36 =>
  L28_0 x2 x3 x24 x3 x36 (.int .i64 (0)) σ_1)) := (D_eq cf28 rfl rfl σ).trans (by kernel_rfl)

/-! demotic/demoticlaw12.types -/

noncomputable def L29_0 (x0 : V) (x3 : V) (x4 : V) (σ : Sto) : R := lpS ft [p0, p3, p4] (cf29.body.at [true, true, false, true, false, false]) (((Tr.leaf.set p4 x4).set p3 x3).set p0 x0) σ (kAt ft cf29.body [true, true, false, true, false] (finO cf29))

theorem L29_0_eq (x0 : V) (x3 : V) (x4 : V) (σ : Sto) : L29_0 x0 x3 x4 σ = (
  (lenV .sl σ x0).bind fun x7 =>
  (binV .lss .other x4 x7).bind fun x8 =>
  condV x8 (
  (indexAddrV 3 x0 x4).bind fun x14 =>
  (ldV σ (some 3) x14).bind fun x15 =>
  (callPure (D ft) 47 [x15]).bind fun x16 =>
  (fillD 3 (List.replicate 1 (.agg [(.int .i64 (0)), (.str []), .nsl])) [(0, x16)]).bind fun c17 =>
  bind2 (appendV 3 48 false σ x3 (.sl .full c17)) fun x18 σ_1 =>
  (binV .add .other x4 (.int .i64 (1))).bind fun x10 =>
  L29_0 x0 x18 x10 σ_1) (
  some (.ret x3, σ))) := (lpS_eq _ _ _ _ _).trans (by kernel_rfl)

theorem D29_eq (x0 : V) (σ : Sto) : D ft 29 [x0] σ = (
  L29_0 x0 .nsl (.int .i64 (0)) σ) := (D_eq cf29 rfl rfl σ).trans (by kernel_rfl)

/-! demotic/demoticlaw12.awake -/

theorem D30_eq (σ : Sto) : D ft 30 [] σ = (
  (fillC [(.int .i64 (0)), (.str []), .nsl] [(0, 1, (.int .i64 (4))), (1, 1, (.str [80]))]).bind fun c7 =>
  (fillC [(.int .i64 (0)), (.str []), .nsl] [(0, 1, (.int .i64 (4))), (1, 1, (.str [81]))]).bind fun c8 =>
  (stC [(.int .i64 (0)), (.str []), .nsl] 0 3 (.agg c7)).bind fun c1 =>
  (stC [(.int .i64 (0)), (.str []), .nsl] 0 3 (.agg c8)).bind fun c2 =>
  (fillC [(.int .i64 (0)), (.str []), .nsl] [(0, 1, (.int .i64 (1))), (1, 1, (.str [105, 110, 116]))]).bind fun c9 =>
  (stC [(.int .i64 (0)), (.str []), .nsl] 0 3 (.agg c9)).bind fun c3 =>
  (part c3 0 (some 3)).bind fun x10 =>
  (fillD 3 (List.replicate 1 (.agg [(.int .i64 (0)), (.str []), .nsl])) [(0, x10)]).bind fun c11 =>
  (fillC [(.int .i64 (0)), (.str []), .nsl] [(0, 1, (.int .i64 (5))), (2, 1, (.sl .full c11))]).bind fun c12 =>
  (stC [(.int .i64 (0)), (.str []), .nsl] 0 3 (.agg c12)).bind fun c4 =>
  (fillD 1 (List.replicate 2 (.str [])) [(0, (.str [80])), (1, (.str [81]))]).bind fun c14 =>
  (part c1 0 (some 3)).bind fun x15 =>
  (part c2 0 (some 3)).bind fun x16 =>
  (fillD 3 (List.replicate 2 (.agg [(.int .i64 (0)), (.str []), .nsl])) [(0, x15), (1, x16)]).bind fun c17 =>
  (fillC [(.int .i64 (0)), (.str []), .nsl] [(0, 1, (.int .i64 (6))), (2, 1, (.sl .full c17))]).bind fun c18 =>
  (fillD 3 (List.replicate 1 (.agg [(.int .i64 (0)), (.str []), .nsl])) [(0, (.agg c18))]).bind fun c19 =>
  (part c3 0 (some 3)).bind fun x20 =>
  (part c4 0 (some 3)).bind fun x21 =>
  (fillD 3 (List.replicate 2 (.agg [(.int .i64 (0)), (.str []), .nsl])) [(0, x20), (1, x21)]).bind fun c22 =>
  (fillC [(.int .i64 (0)), (.str []), .nsl] [(0, 1, (.int .i64 (6))), (2, 1, (.sl .full c22))]).bind fun c23 =>
  (fillD 3 (List.replicate 1 (.agg [(.int .i64 (0)), (.str []), .nsl])) [(0, (.agg c23))]).bind fun c24 =>
  (callPure (D ft) 28 [.nsl, (.sl .full c14), (.sl .full c19), (.sl .full c24)]).bind fun x25 =>
  (extractV 0 x25).bind fun x26 =>
  (extractV 1 x25).bind fun x27 =>
  (gd x27 true (some x26)).bind fun x30 =>
  (gd x27 true (lenV .sl σ x30)).bind fun x31 =>
  (gd x27 true (binV .eql .other x31 (.int .i64 (2)))).bind fun x32 =>
  (pickS x27 (some x32) (some (.bool false))).bind fun x33 =>
  (gd x33 true (some x26)).bind fun x35 =>
  (gd x33 true (indexAddrV 3 x35 (.int .i64 (0)))).bind fun x36 =>
  (gd x33 true (ldV σ (some 3) x36)).bind fun x37 =>
  (gd x33 true (part c3 0 (some 3))).bind fun x38 =>
  (gd x33 true (callPure (D ft) 32 [x37, x38])).bind fun x39 =>
  (pickS x33 (some x39) (some (.bool false))).bind fun x40 =>
  (gd x40 true (some x26)).bind fun x42 =>
  (gd x40 true (indexAddrV 3 x42 (.int .i64 (1)))).bind fun x43 =>
  (gd x40 true (ldV σ (some 3) x43)).bind fun x44 =>
  (gd x40 true (part c4 0 (some 3))).bind fun x45 =>
  (gd x40 true (callPure (D ft) 32 [x44, x45])).bind fun x46 =>
  (pickS x40 (some x46) (some (.bool false))).bind fun x47 =>
  some (.ret x47, σ)) := (D_eq cf30 rfl rfl σ).trans (by kernel_rfl)

/-! demotic/demoticlaw12.alike -/

noncomputable def L31_0 (c2 : List V) (c3 : List V) (x5 : V) (σ : Sto) : R := lpS ft [p2, p3, p5] (cf31.body.at [true, true, false, true, false, false]) (((Tr.leaf.set p5 x5).set p3 (.agg c3)).set p2 (.agg c2)) σ (kAt ft cf31.body [true, true, false, true, false] (finO cf31))

theorem L31_0_eq (c2 : List V) (c3 : List V) (x5 : V) (σ : Sto) : L31_0 c2 c3 x5 σ = (
  (part c2 2 none).bind fun x29 =>
  (lenV .sl σ x29).bind fun x30 =>
  (binV .lss .other x5 x30).bind fun x31 =>
  condV x31 (
  (part c2 2 none).bind fun x35 =>
  (indexAddrV 3 x35 x5).bind fun x37 =>
  (ldV σ (some 3) x37).bind fun x38 =>
  (part c3 2 none).bind fun x40 =>
  (indexAddrV 3 x40 x5).bind fun x42 =>
  (ldV σ (some 3) x42).bind fun x43 =>
  (callPure (D ft) 31 [x38, x43]).bind fun x44 =>
  (notV x44).bind fun x45 =>
  condV x45 (
  some (.ret (.bool false), σ)) (
  (binV .add .other x5 (.int .i64 (1))).bind fun x33 =>
  L31_0 c2 c3 x33 σ)) (
  some (.ret (.bool true), σ))) := (lpS_eq _ _ _ _ _).trans (by kernel_rfl)

theorem D31_eq (x0 x1 : V) (σ : Sto) : D ft 31 [x0, x1] σ = (
  (boxC x0).bind fun c2 =>
  (boxC x1).bind fun c3 =>
  (part c2 0 none).bind fun x7 =>
  (part c3 0 none).bind fun x9 =>
  (binV .neq .other x7 x9).bind fun x10 =>
  chkB x10 (
  (gd x10 false (part c2 1 none)).bind fun x13 =>
  chkB x10 (
  (gd x10 false (part c3 1 none)).bind fun x15 =>
  (gd x10 false (binV .neq .str x13 x15)).bind fun x16 =>
  (pickS x10 (some (.bool true)) (some x16)).bind fun x17 =>
  chkB x17 (
  (gd x17 false (part c2 2 none)).bind fun x20 =>
  (gd x17 false (lenV .sl σ x20)).bind fun x21 =>
  chkB x17 (
  (gd x17 false (part c3 2 none)).bind fun x23 =>
  (gd x17 false (lenV .sl σ x23)).bind fun x24 =>
  (gd x17 false (binV .neq .other x21 x24)).bind fun x25 =>
  (pickS x17 (some (.bool true)) (some x25)).bind fun x26 =>
  condV x26 (
  some (.ret (.bool false), σ)) (
  L31_0 c2 c3 (.int .i64 (0)) σ)))))) := (D_eq cf31 rfl rfl σ).trans (by kernel_rfl)

/-! demotic/kinds.Same -/

theorem D32_eq (x0 x1 : V) (σ : Sto) : D ft 32 [x0, x1] σ = (
  (boxC x0).bind fun c2 =>
  (boxC x1).bind fun c3 =>
  (part c2 0 (some 3)).bind fun x5 =>
  (part c3 0 (some 3)).bind fun x6 =>
  (callPure (D ft) 54 [x5, x6, (.int .i64 (100))]).bind fun x7 =>
  some (.ret x7, σ)) := (D_eq cf32 rfl rfl σ).trans (by kernel_rfl)

/-! demotic/kinds.Full -/

theorem D33_eq (x0 x1 : V) (σ : Sto) : D ft 33 [x0, x1] σ = (
  (boxC x1).bind fun c3 =>
  (fillC [.nsl, (.int .i64 (0))] [(0, 1, x0), (1, 1, (.int .i64 (20000)))]).bind fun c8 =>
  (boxN 2 (.agg c8)).bind fun c9 =>
  alS (.cells c9) σ fun b σ_1 =>
  (part c3 0 (some 3)).bind fun x11 =>
  bindR (D ft 55 [(.ptr b 0), x11, (.int .i64 (100))] σ_1) fun x12 σ_2 =>
  (stC [(.int .i64 (0)), (.str []), .nsl] 0 3 x12).bind fun c6 =>
  (nilCheckV (.ptr b 0)).bind fun x14 =>
  (fieldAddrV 1 x14).bind fun x15 =>
  (ldV σ_2 none x15).bind fun x16 =>
  (binV .gtr .other x16 (.int .i64 (0))).bind fun x17 =>
  condV x17 (
  (part c6 0 (some 3)).bind fun x18 =>
  (stC [(.int .i64 (0)), (.str []), .nsl] 0 3 x18).bind fun c4 =>
  (part c4 0 (some 3)).bind fun r4 =>
  some (.ret r4, σ_2)) (
  (fillC [(.int .i64 (0)), (.str []), .nsl] []).bind fun c19 =>
  (stC [(.int .i64 (0)), (.str []), .nsl] 0 3 (.agg c19)).bind fun c4 =>
  (part c4 0 (some 3)).bind fun r4 =>
  some (.ret r4, σ_2))) := (D_eq cf33 rfl rfl σ).trans (by kernel_rfl)

/-! demotic/sets.Right -/

noncomputable def L34_0 (c1 : List V) (x3 : V) (c14 : List V) (x15 : V) (σ : Sto) : R := lpS ft [p1, p3, p14, p15] (cf34.body.at [true, true, false, true, false, false]) ((((Tr.leaf.set p15 x15).set p14 (.agg c14)).set p3 x3).set p1 (.agg c1)) σ (kAt ft cf34.body [true, true, false, true, false] (finO cf34))

noncomputable def J34_0 (c1 : List V) (x3 : V) (c14 : List V) (x15 : V) (σ : Sto) : R :=
  (binV .add .other x15 (.int .i64 (1))).bind fun x21 =>
  L34_0 c1 x3 c14 x21 σ

noncomputable def J34_1 (c1 : List V) (x3 : V) (c14 : List V) (x15 : V) (σ : Sto) : R :=
  J34_0 c1 x3 c14 x15 σ

theorem L34_0_eq (c1 : List V) (x3 : V) (c14 : List V) (x15 : V) (σ : Sto) : L34_0 c1 x3 c14 x15 σ = (
  (binV .lss .other x15 (.int .i64 (3))).bind fun x16 =>
  condV x16 (
  (indexV 1 3 none (.agg c14) x15).bind fun x17 =>
  condV x17 (
  (binV .add .other x3 (.int .i64 (1))).bind fun x20 =>
  J34_1 c1 x20 c14 x15 σ) (
  J34_1 c1 x3 c14 x15 σ)) (
  (binV .eql .other x3 (.int .i64 (1))).bind fun x23 =>
  chkB x23 (
  (gd x23 true (part c1 2 none)).bind fun x26 =>
  bindR (gdR x23 true σ (D ft 36 [x26, (.func 56 [])] σ)) fun x27 σ_1 =>
  (gd x23 true (notV x27)).bind fun x28 =>
  (pickS x23 (some x28) (some (.bool false))).bind fun x29 =>
  some (.ret x29, σ_1)))) := (lpS_eq _ _ _ _ _).trans (by kernel_rfl)

theorem D34_eq (x0 : V) (σ : Sto) : D ft 34 [x0] σ = (
  (boxC x0).bind fun c1 =>
  (part c1 0 none).bind fun x7 =>
  (part c1 1 none).bind fun x9 =>
  (part c1 2 none).bind fun x11 =>
  (lenV .sl σ x11).bind fun x12 =>
  (binV .gtr .other x12 (.int .i64 (0))).bind fun x13 =>
  (fillC [(.bool false), (.bool false), (.bool false)] [(0, 1, x7), (1, 1, x9), (2, 1, x13)]).bind fun c14 =>
  L34_0 c1 (.int .i64 (0)) c14 (.int .i64 (0)) σ) := (D_eq cf34 rfl rfl σ).trans (by kernel_rfl)

/-! demotic/kinds.Comparable -/

theorem D35_eq (x0 x1 : V) (σ : Sto) : D ft 35 [x0, x1] σ = (
  (boxC x1).bind fun c3 =>
  (part c3 0 (some 3)).bind fun x6 =>
  (callPure (D ft) 39 [x0, x6]).bind fun x7 =>
  (fieldV 0 none x7).bind fun x8 =>
  (binV .eql .other x8 (.int .i64 (1))).bind fun x9 =>
  some (.ret x9, σ)) := (D_eq cf35 rfl rfl σ).trans (by kernel_rfl)

/-! slices.ContainsFunc[[]demotic/sets.Term,demotic/sets.Term] -/

theorem D36_eq (x0 x1 : V) (σ : Sto) : D ft 36 [x0, x1] σ = (
  bindR (D ft 58 [x0, x1] σ) fun x7 σ_1 =>
  (binV .geq .other x7 (.int .i64 (0))).bind fun x8 =>
  some (.ret x8, σ_1)) := (D_eq cf36 rfl rfl σ).trans (by kernel_rfl)

/-! demotic/sets.Lets$1 -/

theorem D37_eq (x0 x1 : V) (σ : Sto) : D ft 37 [x0, x1] σ = (
  (boxC x0).bind fun c2 =>
  (ldV σ (some 3) x1).bind fun x4 =>
  (part c2 0 (some 2)).bind fun x5 =>
  (callPure (D ft) 38 [x4, x5]).bind fun x6 =>
  (notV x6).bind fun x7 =>
  some (.ret x7, σ)) := (D_eq cf37 rfl rfl σ).trans (by kernel_rfl)

/-! demotic/sets.within -/

theorem D38_eq (x0 x1 : V) (σ : Sto) : D ft 38 [x0, x1] σ = (
  (boxC x0).bind fun c2 =>
  (boxN 2 x1).bind fun c3 =>
  alS (.cells c3) σ fun b σ_1 =>
  (part c2 2 none).bind fun x6 =>
  bindR (D ft 36 [x6, (.func 59 [(.ptr b 0)])] σ_1) fun x8 σ_2 =>
  some (.ret x8, σ_2)) := (D_eq cf38 rfl rfl σ).trans (by kernel_rfl)

/-! demotic/kinds.Behind -/

noncomputable def L39_0 (x0 : V) (c3 : List V) (c4 : List V) (x6 : V) (σ : Sto) : R := lpS ft [p0, p3, p4, p6] (cf39.body.at [true, false, true, false, false]) ((((Tr.leaf.set p6 x6).set p4 (.agg c4)).set p3 (.agg c3)).set p0 x0) σ (kAt ft cf39.body [true, false, true, false] (finO cf39))

theorem L39_0_eq (x0 : V) (c3 : List V) (c4 : List V) (x6 : V) (σ : Sto) : L39_0 x0 c3 c4 x6 σ = (
  (binV .lss .other x6 (.int .i64 (100))).bind fun x7 =>
  condV x7 (
  (part c3 0 none).bind fun x9 =>
  (binV .neq .other x9 (.int .i64 (3))).bind fun x10 =>
  condV x10 (
  (part c3 0 (some 3)).bind fun x11 =>
  (stC c4 0 3 x11).bind fun c4_1 =>
  (part c4_1 0 (some 3)).bind fun r4 =>
  some (.ret r4, σ)) (
  (part c3 0 (some 3)).bind fun x13 =>
  bindR (D ft 60 [x0, x13] σ) fun x14 σ_1 =>
  (binV .eql .ptr x14 .nptr).bind fun x16 =>
  (gd x16 false (part c3 0 (some 3))).bind fun x18 =>
  (gd x16 false (callPure (D ft) 61 [x18])).bind fun x19 =>
  (gd x16 false (binV .gtr .other x19 (.int .i64 (1000)))).bind fun x20 =>
  (pickS x16 (some (.bool true)) (some x20)).bind fun x21 =>
  condV x21 (
  (fillC [(.int .i64 (0)), (.str []), .nsl] []).bind fun c22 =>
  (stC c4 0 3 (.agg c22)).bind fun c4_1 =>
  (part c4_1 0 (some 3)).bind fun r4 =>
  some (.ret r4, σ_1)) (
  (nilCheckV x14).bind fun x24 =>
  (fieldAddrV 2 x24).bind fun x25 =>
  (ldV σ_1 (some 3) x25).bind fun x26 =>
  (nilCheckV x14).bind fun x28 =>
  (fieldAddrV 1 x28).bind fun x29 =>
  (ldV σ_1 none x29).bind fun x30 =>
  (part c3 2 none).bind fun x32 =>
  (callPure (D ft) 62 [x26, x30, x32]).bind fun x33 =>
  (stC c3 0 3 x33).bind fun c3_1 =>
  (binV .add .other x6 (.int .i64 (1))).bind fun x34 =>
  L39_0 x0 c3_1 c4 x34 σ_1))) (
  (fillC [(.int .i64 (0)), (.str []), .nsl] []).bind fun c35 =>
  (stC c4 0 3 (.agg c35)).bind fun c4_1 =>
  (part c4_1 0 (some 3)).bind fun r4 =>
  some (.ret r4, σ))) := (lpS_eq _ _ _ _ _).trans (by kernel_rfl)

theorem D39_eq (x0 x1 : V) (σ : Sto) : D ft 39 [x0, x1] σ = (
  (boxC x1).bind fun c3 =>
  L39_0 x0 c3 [(.int .i64 (0)), (.str []), .nsl] (.int .i64 (0)) σ) := (D_eq cf39 rfl rfl σ).trans (by kernel_rfl)

/-! demotic/sets.Each$1 -/

theorem D40_eq (x0 x1 : V) (σ : Sto) : D ft 40 [x0, x1] σ = (
  (boxC x0).bind fun c2 =>
  (ldV σ none x1).bind fun x4 =>
  (part c2 1 none).bind fun x6 =>
  bindR (D ft 41 [x4, x6] σ) fun x7 σ_1 =>
  (notV x7).bind fun x8 =>
  some (.ret x8, σ_1)) := (D_eq cf40 rfl rfl σ).trans (by kernel_rfl)

/-! slices.Contains[[]string,string] -/

theorem D41_eq (x0 x1 : V) (σ : Sto) : D ft 41 [x0, x1] σ = (
  bindR (D ft 63 [x0, x1] σ) fun x7 σ_1 =>
  (binV .geq .other x7 (.int .i64 (0))).bind fun x8 =>
  some (.ret x8, σ_1)) := (D_eq cf41 rfl rfl σ).trans (by kernel_rfl)

/-! demotic/sets.union -/

noncomputable def L42_0 (c2 : List V) (c4 : List V) (x8 : V) (x9 : V) (x10 : V) (σ : Sto) : R := lpS ft [p2, p4, p8, p9, p10] (cf42.body.at [true, true, false, true, false, false]) (((((Tr.leaf.set p10 x10).set p9 x9).set p8 x8).set p4 (.agg c4)).set p2 (.agg c2)) σ (kAt ft cf42.body [true, true, false, true, false] (finO cf42))

theorem L42_0_eq (c2 : List V) (c4 : List V) (x8 : V) (x9 : V) (x10 : V) (σ : Sto) : L42_0 c2 c4 x8 x9 x10 σ = (
  (binV .lss .other x10 x9).bind fun x11 =>
  condV x11 (
  (indexAddrV 4 x8 x10).bind fun x12 =>
  (ldV σ (some 4) x12).bind fun x13 =>
  (stC [(.int .i64 (0)), (.str []), .nsl, (.int .i64 (0))] 0 4 x13).bind fun c6 =>
  (part c6 0 none).bind fun x15 =>
  (binV .neq .other x15 (.int .i64 (15))).bind fun x16 =>
  chkB x16 (
  (gd x16 false (part c6 2 none)).bind fun x19 =>
  (gd x16 false (lenV .sl σ x19)).bind fun x20 =>
  (gd x16 false (binV .neq .other x20 (.int .i64 (1)))).bind fun x21 =>
  (pickS x16 (some (.bool true)) (some x21)).bind fun x22 =>
  chkB x22 (
  (gd x22 false (part c6 2 none)).bind fun x25 =>
  (gd x22 false (indexAddrV 4 x25 (.int .i64 (0)))).bind fun x26 =>
  (gd x22 false (fieldAddrV 0 x26)).bind fun x27 =>
  (gd x22 false (ldV σ none x27)).bind fun x28 =>
  (gd x22 false (binV .neq .other x28 (.int .i64 (10)))).bind fun x29 =>
  (pickS x22 (some (.bool true)) (some x29)).bind fun x30 =>
  chkB x30 (
  (gd x30 false (part c6 2 none)).bind fun x33 =>
  (gd x30 false (indexAddrV 4 x33 (.int .i64 (0)))).bind fun x34 =>
  (gd x30 false (fieldAddrV 2 x34)).bind fun x35 =>
  (gd x30 false (ldV σ none x35)).bind fun x36 =>
  (gd x30 false (lenV .sl σ x36)).bind fun x37 =>
  (gd x30 false (binV .gtr .other x37 (.int .i64 (0)))).bind fun x38 =>
  (pickS x30 (some (.bool true)) (some x38)).bind fun x39 =>
  chkB x39 (
  (gd x39 false (part c6 2 none)).bind fun x43 =>
  (gd x39 false (indexAddrV 4 x43 (.int .i64 (0)))).bind fun x44 =>
  (gd x39 false (fieldAddrV 1 x44)).bind fun x45 =>
  (gd x39 false (ldV σ none x45)).bind fun x46 =>
  (noteG 1 σ x39 false x45 []).bind fun pd =>
  bindR (gdR x39 false σ (D ft 57 [] σ)) fun x41 σ_1 =>
  passG x39 false pd σ_1 fun pd_1 =>
  (gd x39 false (lookupV .str σ_1 (.bool false) x41 x46 false)).bind fun x47 =>
  passG x39 false pd_1 σ_1 fun pd_2 =>
  (gd x39 false (notV x47)).bind fun x48 =>
  (pickS x39 (some (.bool true)) (some x48)).bind fun x49 =>
  condV x49 (
  (fillC [(.bool false), (.bool false), .nsl] []).bind fun c50 =>
  (stC c2 0 3 (.agg c50)).bind fun c2_1 =>
  (part c2_1 0 (some 3)).bind fun r2 =>
  some (.ret (.tup [r2, (.bool false)]), σ_1)) (
  (part c4 2 none).bind fun x52 =>
  (part c6 1 none).bind fun x54 =>
  (binV .eql .str x54 (.str [126])).bind fun x55 =>
  (part c6 2 none).bind fun x57 =>
  (indexAddrV 4 x57 (.int .i64 (0))).bind fun x58 =>
  (fieldAddrV 1 x58).bind fun x59 =>
  (ldV σ_1 none x59).bind fun x60 =>
  (fillC [(.bool false), (.str [])] [(0, 1, x55), (1, 1, x60)]).bind fun c61 =>
  (fillD 2 (List.replicate 1 (.agg [(.bool false), (.str [])])) [(0, (.agg c61))]).bind fun c62 =>
  bind2 (appendV 2 24 false σ_1 x52 (.sl .full c62)) fun x63 σ_2 =>
  (stC c4 2 1 x63).bind fun c4_1 =>
  (binV .add .other x10 (.int .i64 (1))).bind fun x65 =>
  L42_0 c2 c4_1 x8 x9 x65 σ_2)))))) (
  (part c4 0 (some 3)).bind fun x66 =>
  (part c4 2 none).bind fun x68 =>
  (lenV .sl σ x68).bind fun x69 =>
  (binV .gtr .other x69 (.int .i64 (0))).bind fun x70 =>
  (stC c2 0 3 x66).bind fun c2_1 =>
  (part c2_1 0 (some 3)).bind fun r2 =>
  some (.ret (.tup [r2, x70]), σ))) := (lpS_eq _ _ _ _ _).trans (by kernel_rfl)

theorem D42_eq (x0 : V) (σ : Sto) : D ft 42 [x0] σ = (
  (boxC x0).bind fun c1 =>
  (part c1 2 none).bind fun x8 =>
  (lenV .sl σ x8).bind fun x9 =>
  L42_0 [(.bool false), (.bool false), .nsl] [(.bool false), (.bool false), .nsl] x8 x9 (.int .i64 (0)) σ) := (D_eq cf42 rfl rfl σ).trans (by kernel_rfl)

/-! demotic/demoticref11.basic -/

theorem D43_eq (x0 : V) (σ : Sto) : D ft 43 [x0] σ = (
  (binV .eql .str x0 (.str [105, 110, 116])).bind fun x4 =>
  (gd x4 false (some x0)).bind fun x6 =>
  (gd x4 false (binV .eql .str x6 (.str [115, 116, 114, 105, 110, 103]))).bind fun x7 =>
  (pickS x4 (some (.bool true)) (some x7)).bind fun x8 =>
  (gd x8 false (some x0)).bind fun x10 =>
  (gd x8 false (binV .eql .str x10 (.str [98, 111, 111, 108]))).bind fun x11 =>
  (pickS x8 (some (.bool true)) (some x11)).bind fun x12 =>
  some (.ret x12, σ)) := (D_eq cf43 rfl rfl σ).trans (by kernel_rfl)

/-! slices.IndexFunc[[]demotic/sets.Bound,demotic/sets.Bound] -/

noncomputable def L44_0 (x0 : V) (x1 : V) (x7 : V) (x8 : V) (σ : Sto) : R := lpS ft [p0, p1, p7, p8] (cf44.body.at [true, false, true, false, false]) ((((Tr.leaf.set p8 x8).set p7 x7).set p1 x1).set p0 x0) σ (kAt ft cf44.body [true, false, true, false] (finO cf44))

theorem L44_0_eq (x0 : V) (x1 : V) (x7 : V) (x8 : V) (σ : Sto) : L44_0 x0 x1 x7 x8 σ = (
  (binV .lss .other x8 x7).bind fun x9 =>
  condV x9 (
  (indexAddrV 4 x0 x8).bind fun x14 =>
  (ldV σ (some 4) x14).bind fun x15 =>
  bindR (appV (D ft) x1 [x15] σ) fun x16 σ_1 =>
  condV x16 (
  some (.ret x8, σ_1)) (
  (binV .add .other x8 (.int .i64 (1))).bind fun x18 =>
  L44_0 x0 x1 x7 x18 σ_1)) (
  some (.ret (.int .i64 (-1)), σ))) := (lpS_eq _ _ _ _ _).trans (by kernel_rfl)

theorem D44_eq (x0 x1 : V) (σ : Sto) : D ft 44 [x0, x1] σ = (
  (lenV .sl σ x0).bind fun x7 =>
  L44_0 x0 x1 x7 (.int .i64 (0)) σ) := (D_eq cf44 rfl rfl σ).trans (by kernel_rfl)

/-! demotic/sets.Find$1 -/

theorem D45_eq (x0 x1 : V) (σ : Sto) : D ft 45 [x0, x1] σ = (
  (boxC x0).bind fun c2 =>
  (part c2 0 none).bind fun x5 =>
  (ldV σ none x1).bind fun x6 =>
  (binV .eql .str x5 x6).bind fun x7 =>
  some (.ret x7, σ)) := (D_eq cf45 rfl rfl σ).trans (by kernel_rfl)

/-! slices.Clone[[]demotic/sets.Term,demotic/sets.Term] -/

theorem D46_eq (x0 : V) (σ : Sto) : D ft 46 [x0] σ = (
  (binV .eql .sl x0 .nsl).bind fun x4 =>
  condV x4 (
  some (.ret .nsl, σ)) (
  (fillD 2 (List.replicate 0 (.agg [(.bool false), (.str [])])) []).bind fun c5 =>
  bind2 (appendV 2 24 false σ (.sl .full c5) x0) fun x7 σ_1 =>
  some (.ret x7, σ_1))) := (D_eq cf46 rfl rfl σ).trans (by kernel_rfl)

/-! demotic/demoticlaw12.typ -/

noncomputable def L47_0 (c1 : List V) (c2 : List V) (c3 : List V) (x4 : V) (σ : Sto) : R := lpS ft [p1, p2, p3, p4] (cf47.body.at [true, true, false, true, false, false]) ((((Tr.leaf.set p4 x4).set p3 (.agg c3)).set p2 (.agg c2)).set p1 (.agg c1)) σ (kAt ft cf47.body [true, true, false, true, false] (finO cf47))

theorem L47_0_eq (c1 : List V) (c2 : List V) (c3 : List V) (x4 : V) (σ : Sto) : L47_0 c1 c2 c3 x4 σ = (
  (part c1 2 none).bind fun x12 =>
  (lenV .sl σ x12).bind fun x13 =>
  (binV .lss .other x4 x13).bind fun x14 =>
  condV x14 (
  (part c3 2 none).bind fun x18 =>
  (part c1 2 none).bind fun x20 =>
  (indexAddrV 3 x20 x4).bind fun x22 =>
  (ldV σ (some 3) x22).bind fun x23 =>
  (callPure (D ft) 47 [x23]).bind fun x24 =>
  (fillD 3 (List.replicate 1 (.agg [(.int .i64 (0)), (.str []), .nsl])) [(0, x24)]).bind fun c25 =>
  bind2 (appendV 3 48 false σ x18 (.sl .full c25)) fun x26 σ_1 =>
  (stC c3 2 1 x26).bind fun c3_1 =>
  (binV .add .other x4 (.int .i64 (1))).bind fun x16 =>
  L47_0 c1 c2 c3_1 x16 σ_1) (
  (part c3 0 (some 3)).bind fun x28 =>
  (stC c2 0 3 x28).bind fun c2_1 =>
  (part c2_1 0 (some 3)).bind fun r2 =>
  some (.ret r2, σ))) := (lpS_eq _ _ _ _ _).trans (by kernel_rfl)

theorem D47_eq (x0 : V) (σ : Sto) : D ft 47 [x0] σ = (
  (boxC x0).bind fun c1 =>
  (part c1 0 none).bind fun x6 =>
  (part c1 1 none).bind fun x8 =>
  (fillC [(.int .i64 (0)), (.str []), .nsl] [(0, 1, x6), (1, 1, x8)]).bind fun c9 =>
  (stC [(.int .i64 (0)), (.str []), .nsl] 0 3 (.agg c9)).bind fun c3 =>
  L47_0 c1 [(.int .i64 (0)), (.str []), .nsl] c3 (.int .i64 (0)) σ) := (D_eq cf47 rfl rfl σ).trans (by kernel_rfl)

/-! demotic/unify.begin -/

noncomputable def L48_0 (x0 : V) (x8 : V) (x24 : V) (x25 : V) (x26 : V) (σ : Sto) : R := lpS ft [p0, p8, p24, p25, p26] (cf48.body.at [true, true, true, false, true, false, false]) (((((Tr.leaf.set p26 x26).set p25 x25).set p24 x24).set p8 x8).set p0 x0) σ (kAt ft cf48.body [true, true, true, false, true, false] (finO cf48))

theorem L48_0_eq (x0 : V) (x8 : V) (x24 : V) (x25 : V) (x26 : V) (σ : Sto) : L48_0 x0 x8 x24 x25 x26 σ = (
  (binV .lss .other x26 x25).bind fun x27 =>
  condV x27 (
  (indexAddrV 3 x24 x26).bind fun x28 =>
  (ldV σ (some 3) x28).bind fun x29 =>
  (stC [(.int .i64 (0)), (.str []), .nsl] 0 3 x29).bind fun c10 =>
  (nilCheckV x8).bind fun x31 =>
  (fieldAddrV 2 x31).bind fun x32 =>
  (ldV σ none x32).bind fun x33 =>
  (part c10 0 (some 3)).bind fun x35 =>
  (callPure (D ft) 33 [x0, x35]).bind fun x36 =>
  (lenV .sl σ x33).bind fun x37 =>
  (fillD 3 (List.replicate 1 (.agg [(.int .i64 (0)), (.str []), .nsl])) [(0, (.agg [(.int .i64 (0)), (.str []), .nsl]))]).bind fun c38 =>
  bind2 (appendV 3 48 true σ x33 (.sl .full c38)) fun x39 σ_1 =>
  (indexAddrV 3 x39 x37).bind fun x40 =>
  (nilCheckV x8).bind fun x41 =>
  (fieldAddrV 2 x41).bind fun x42 =>
  (stV σ_1 3 x40 x36).bind fun σ_2 =>
  (lateV 1 σ_2 x40).bind fun pd =>
  (stV σ_2 1 x42 x39).bind fun σ_3 =>
  passK pd σ_3 fun pd_1 =>
  (binV .add .other x26 (.int .i64 (1))).bind fun x43 =>
  L48_0 x0 x8 x24 x25 x43 σ_3) (
  some (.ret (.tup [x8, (.bool true)]), σ))) := (lpS_eq _ _ _ _ _).trans (by kernel_rfl)

theorem D48_eq (x0 x1 x2 : V) (σ : Sto) : D ft 48 [x0, x1, x2] σ = (
  (lenV .sl σ x2).bind fun x12 =>
  (lenV .sl σ x1).bind fun x14 =>
  (binV .neq .other x12 x14).bind fun x15 =>
  (gd x15 false (some x1)).bind fun x17 =>
  (gd x15 false (callPure (D ft) 64 [x17])).bind fun x18 =>
  (pickS x15 (some (.bool true)) (some x18)).bind fun x19 =>
  condV x19 (
  some (.ret (.tup [.nptr, (.bool false)]), σ)) (
  (fillC [.nsl, .nsl, .nsl] [(0, 1, x0), (1, 1, x1), (2, 1, .nsl)]).bind fun c22 =>
  (boxN 3 (.agg c22)).bind fun c23 =>
  alS (.cells c23) σ fun b σ_1 =>
  (lenV .sl σ_1 x2).bind fun x25 =>
  L48_0 x0 (.ptr b 0) x2 x25 (.int .i64 (0)) σ_1)) := (D_eq cf48 rfl rfl σ).trans (by kernel_rfl)

/-! (*demotic/unify.state).full -/

theorem D49_eq (x0 x1 x2 : V) (σ : Sto) : D ft 49 [x0, x1, x2] σ = (
  (boxC x1).bind fun c4 =>
  (boxC x2).bind fun c5 =>
  (nilCheckV x0).bind fun x10 =>
  (fieldAddrV 0 x10).bind fun x11 =>
  (ldV σ none x11).bind fun x12 =>
  (part c4 0 (some 3)).bind fun x13 =>
  (callPure (D ft) 33 [x12, x13]).bind fun x14 =>
  (nilCheckV x0).bind fun x16 =>
  (fieldAddrV 0 x16).bind fun x17 =>
  (ldV σ none x17).bind fun x18 =>
  (part c5 0 (some 3)).bind fun x19 =>
  (callPure (D ft) 33 [x18, x19]).bind fun x20 =>
  (stC c4 0 3 x14).bind fun c4_1 =>
  (stC c5 0 3 x20).bind fun c5_1 =>
  (part c4_1 0 (some 3)).bind fun x21 =>
  (part c5_1 0 (some 3)).bind fun x22 =>
  (part c4_1 0 none).bind fun x24 =>
  (binV .neq .other x24 (.int .i64 (0))).bind fun x25 =>
  chkB x25 (
  (gd x25 true (part c5_1 0 none)).bind fun x28 =>
  (gd x25 true (binV .neq .other x28 (.int .i64 (0)))).bind fun x29 =>
  (pickS x25 (some x29) (some (.bool false))).bind fun x30 =>
  (stC [(.int .i64 (0)), (.str []), .nsl] 0 3 x21).bind fun c6 =>
  (stC [(.int .i64 (0)), (.str []), .nsl] 0 3 x22).bind fun c7 =>
  (part c6 0 (some 3)).bind fun r6 =>
  (part c7 0 (some 3)).bind fun r7 =>
  some (.ret (.tup [r6, r7, x30]), σ))) := (D_eq cf49 rfl rfl σ).trans (by kernel_rfl)

/-! (*demotic/unify.state).fits -/

noncomputable def J50_0 (x0 : V) (x3 : V) (c5 : List V) (c6 : List V) (x8 : V) (σ : Sto) : R :=
  (part c6 0 none).bind fun x73 =>
  (part c5 0 none).bind fun x75 =>
  (binV .eql .other x73 x75).bind fun x76 =>
  (gd x76 true (some x0)).bind fun x78 =>
  (gd x76 true (part c5 0 (some 3))).bind fun x79 =>
  (gd x76 true (part c6 0 (some 3))).bind fun x80 =>
  (gd x76 true (some x3)).bind fun x81 =>
  bindR (gdR x76 true σ (D ft 66 [x78, x79, x80, x81] σ)) fun x82 σ_1 =>
  (pickS x76 (some x82) (some (.bool false))).bind fun x83 =>
  some (.ret x83, σ_1)

theorem D50_eq (x0 x1 x2 x3 : V) (σ : Sto) : D ft 50 [x0, x1, x2, x3] σ = (
  (boxC x1).bind fun c5 =>
  (boxC x2).bind fun c6 =>
  (part c5 0 (some 3)).bind fun x11 =>
  bindR (D ft 65 [x0, x11] σ) fun x12 σ_1 =>
  (binV .eql .other x3 (.int .i64 (0))).bind fun x15 =>
  condV x15 (
  some (.ret (.bool false), σ_1)) (
  (binV .geq .other x12 (.int .i64 (0))).bind fun x18 =>
  (gd x18 true (some x0)).bind fun x20 =>
  (gd x18 true (nilCheckV x20)).bind fun x21 =>
  (gd x18 true (fieldAddrV 2 x21)).bind fun x22 =>
  (gd x18 true (ldV σ_1 none x22)).bind fun x23 =>
  (gd x18 true (some x12)).bind fun x24 =>
  (gd x18 true (indexAddrV 3 x23 x24)).bind fun x25 =>
  (gd x18 true (fieldAddrV 0 x25)).bind fun x26 =>
  (gd x18 true (ldV σ_1 none x26)).bind fun x27 =>
  (gd x18 true (binV .eql .other x27 (.int .i64 (0)))).bind fun x28 =>
  (pickS x18 (some x28) (some (.bool false))).bind fun x29 =>
  condV x29 (
  (nilCheckV x0).bind fun x31 =>
  (fieldAddrV 2 x31).bind fun x32 =>
  (ldV σ_1 none x32).bind fun x33 =>
  (part c6 0 (some 3)).bind fun x35 =>
  (indexAddrV 3 x33 x12).bind fun x36 =>
  (stV σ_1 3 x36 x35).bind fun σ_2 =>
  some (.ret (.bool true), σ_2)) (
  (binV .geq .other x12 (.int .i64 (0))).bind fun x39 =>
  condV x39 (
  (nilCheckV x0).bind fun x41 =>
  (fieldAddrV 2 x41).bind fun x42 =>
  (ldV σ_1 none x42).bind fun x43 =>
  (indexAddrV 3 x43 x12).bind fun x45 =>
  (ldV σ_1 (some 3) x45).bind fun x46 =>
  (part c6 0 (some 3)).bind fun x47 =>
  (callPure (D ft) 32 [x46, x47]).bind fun x48 =>
  some (.ret x48, σ_1)) (
  (part c5 0 none).bind fun x51 =>
  (binV .eql .other x51 (.int .i64 (5))).bind fun x52 =>
  chkB x52 (
  (gd x52 false (part c5 0 none)).bind fun x55 =>
  (gd x52 false (binV .eql .other x55 (.int .i64 (6)))).bind fun x56 =>
  (pickS x52 (some (.bool true)) (some x56)).bind fun x57 =>
  condV x57 (
  (part c6 0 none).bind fun x59 =>
  (binV .eql .other x59 (.int .i64 (3))).bind fun x60 =>
  condV x60 (
  (nilCheckV x0).bind fun x62 =>
  (fieldAddrV 0 x62).bind fun x63 =>
  (ldV σ_1 none x63).bind fun x64 =>
  (nilCheckV x0).bind fun x66 =>
  (fieldAddrV 0 x66).bind fun x67 =>
  (ldV σ_1 none x67).bind fun x68 =>
  (part c6 0 (some 3)).bind fun x69 =>
  (callPure (D ft) 39 [x68, x69]).bind fun x70 =>
  (callPure (D ft) 33 [x64, x70]).bind fun x71 =>
  (stC c6 0 3 x71).bind fun c6_1 =>
  J50_0 x0 x3 c5 c6_1 (.bool false) σ_1) (
  J50_0 x0 x3 c5 c6 (.bool false) σ_1)) (
  (part c5 0 none).bind fun x86 =>
  (binV .eql .other x86 (.int .i64 (3))).bind fun x87 =>
  condV x87 (
  (part c6 0 none).bind fun x89 =>
  (binV .eql .other x89 (.int .i64 (3))).bind fun x90 =>
  chkB x90 (
  (gd x90 true (part c6 1 none)).bind fun x93 =>
  chkB x90 (
  (gd x90 true (part c5 1 none)).bind fun x95 =>
  (gd x90 true (binV .eql .str x93 x95)).bind fun x96 =>
  (pickS x90 (some x96) (some (.bool false))).bind fun x97 =>
  (gd x97 true (some x0)).bind fun x99 =>
  (gd x97 true (part c5 0 (some 3))).bind fun x100 =>
  (gd x97 true (part c6 0 (some 3))).bind fun x101 =>
  (gd x97 true (some x3)).bind fun x102 =>
  bindR (gdR x97 true σ_1 (D ft 66 [x99, x100, x101, x102] σ_1)) fun x103 σ_2 =>
  (pickS x97 (some x103) (some (.bool false))).bind fun x104 =>
  some (.ret x104, σ_2)))) (
  (part c5 0 (some 3)).bind fun x105 =>
  (part c6 0 (some 3)).bind fun x106 =>
  (callPure (D ft) 32 [x105, x106]).bind fun x107 =>
  some (.ret x107, σ_1)))))))) := (D_eq cf50 rfl rfl σ).trans (by kernel_rfl)

/-! (*demotic/unify.state).untyped -/

noncomputable def L51_0 (x0 : V) (x1 : V) (x7 : V) (x13 : V) (x14 : V) (x15 : V) (σ : Sto) : R := lpS ft [p0, p1, p7, p13, p14, p15] (cf51.body.at [true, true, false, true, false, false]) ((((((Tr.leaf.set p15 x15).set p14 x14).set p13 x13).set p7 x7).set p1 x1).set p0 x0) σ (kAt ft cf51.body [true, true, false, true, false] (finO cf51))

noncomputable def J51_0 (x0 : V) (x1 : V) (x7 : V) (x13 : V) (x14 : V) (x15 : V) (σ : Sto) : R :=
  (binV .add .other x15 (.int .i64 (1))).bind fun x71 =>
  L51_0 x0 x1 x7 x13 x14 x71 σ

noncomputable def J51_1 (x0 : V) (x1 : V) (x7 : V) (x13 : V) (x14 : V) (x15 : V) (σ : Sto) : R :=
  J51_0 x0 x1 x7 x13 x14 x15 σ

noncomputable def J51_2 (x0 : V) (x1 : V) (x7 : V) (x13 : V) (x14 : V) (x15 : V) (σ : Sto) : R :=
  J51_1 x0 x1 x7 x13 x14 x15 σ

theorem L51_0_eq (x0 : V) (x1 : V) (x7 : V) (x13 : V) (x14 : V) (x15 : V) (σ : Sto) : L51_0 x0 x1 x7 x13 x14 x15 σ = (
  (binV .lss .other x15 x14).bind fun x16 =>
  condV x16 (
  (indexAddrV 3 x13 x15).bind fun x18 =>
  (ldV σ (some 3) x18).bind fun x19 =>
  (stC [(.int .i64 (0)), (.str []), .nsl] 0 3 x19).bind fun c9 =>
  (indexAddrV 3 x1 x15).bind fun x23 =>
  (ldV σ (some 3) x23).bind fun x24 =>
  bindR (D ft 65 [x0, x24] σ) fun x25 σ_1 =>
  (part c9 0 none).bind fun x27 =>
  (binV .neq .other x27 (.int .i64 (2))).bind fun x28 =>
  (gd x28 false (some x25)).bind fun x30 =>
  (gd x28 false (binV .lss .other x30 (.int .i64 (0)))).bind fun x31 =>
  (pickS x28 (some (.bool true)) (some x31)).bind fun x32 =>
  condV x32 (
  J51_1 x0 x1 x7 x13 x14 x15 σ_1) (
  (part c9 1 none).bind fun x34 =>
  (fillC [(.int .i64 (0)), (.str []), .nsl] [(0, 1, (.int .i64 (1))), (1, 1, x34)]).bind fun c35 =>
  (stC [(.int .i64 (0)), (.str []), .nsl] 0 3 (.agg c35)).bind fun c11 =>
  (nilCheckV x0).bind fun x38 =>
  (fieldAddrV 2 x38).bind fun x39 =>
  (ldV σ_1 none x39).bind fun x40 =>
  (indexAddrV 3 x40 x25).bind fun x42 =>
  (fieldAddrV 0 x42).bind fun x43 =>
  (ldV σ_1 none x43).bind fun x44 =>
  (binV .eql .other x44 (.int .i64 (0))).bind fun x45 =>
  condV x45 (
  (nilCheckV x0).bind fun x47 =>
  (fieldAddrV 2 x47).bind fun x48 =>
  (ldV σ_1 none x48).bind fun x49 =>
  (part c11 0 (some 3)).bind fun x53 =>
  (indexAddrV 3 x49 x25).bind fun x54 =>
  (stV σ_1 3 x54 x53).bind fun σ_2 =>
  (mapUpdV .other σ_2 x7 x25 (.bool true)).bind fun σ_3 =>
  J51_2 x0 x1 x7 x13 x14 x15 σ_3) (
  (lookupV .other σ_1 (.bool false) x7 x25 false).bind fun x58 =>
  (gd x58 true (some x0)).bind fun x60 =>
  (gd x58 true (nilCheckV x60)).bind fun x61 =>
  (gd x58 true (fieldAddrV 2 x61)).bind fun x62 =>
  (gd x58 true (ldV σ_1 none x62)).bind fun x63 =>
  (gd x58 true (some x25)).bind fun x64 =>
  (gd x58 true (indexAddrV 3 x63 x64)).bind fun x65 =>
  (gd x58 true (ldV σ_1 (some 3) x65)).bind fun x66 =>
  (gd x58 true (part c11 0 (some 3))).bind fun x67 =>
  (gd x58 true (callPure (D ft) 32 [x66, x67])).bind fun x68 =>
  (gd x58 true (notV x68)).bind fun x69 =>
  (pickS x58 (some x69) (some (.bool false))).bind fun x70 =>
  condV x70 (
  some (.ret (.bool false), σ_1)) (
  J51_2 x0 x1 x7 x13 x14 x15 σ_1)))) (
  some (.ret (.bool true), σ))) := (lpS_eq _ _ _ _ _).trans (by kernel_rfl)

theorem D51_eq (x0 x1 x2 : V) (σ : Sto) : D ft 51 [x0, x1, x2] σ = (
  alS (.map [] 0) σ fun b σ_1 =>
  (lenV .sl σ_1 x2).bind fun x14 =>
  L51_0 x0 x1 (.map b) x2 x14 (.int .i64 (0)) σ_1) := (D_eq cf51 rfl rfl σ).trans (by kernel_rfl)

/-! slices.ContainsFunc[[]demotic/kinds.Type,demotic/kinds.Type] -/

theorem D52_eq (x0 x1 : V) (σ : Sto) : D ft 52 [x0, x1] σ = (
  bindR (D ft 67 [x0, x1] σ) fun x7 σ_1 =>
  (binV .geq .other x7 (.int .i64 (0))).bind fun x8 =>
  some (.ret x8, σ_1)) := (D_eq cf52 rfl rfl σ).trans (by kernel_rfl)

/-! demotic/unify.Find$1 -/

theorem D53_eq (x0 : V) (σ : Sto) : D ft 53 [x0] σ = (
  (boxC x0).bind fun c1 =>
  (part c1 0 none).bind fun x4 =>
  (binV .eql .other x4 (.int .i64 (0))).bind fun x5 =>
  some (.ret x5, σ)) := (D_eq cf53 rfl rfl σ).trans (by kernel_rfl)

/-! demotic/kinds.same -/

theorem D54_eq (x0 x1 x2 : V) (σ : Sto) : D ft 54 [x0, x1, x2] σ = (
  (boxC x0).bind fun c3 =>
  (boxC x1).bind fun c4 =>
  (boxN 1 x2).bind fun c5 =>
  alS (.cells c5) σ fun b σ_1 =>
  (ldV σ_1 none (.ptr b 0)).bind fun x7 =>
  (binV .gtr .other x7 (.int .i64 (0))).bind fun x8 =>
  chkB x8 (
  (gd x8 true (part c3 0 none)).bind fun x11 =>
  chkB x8 (
  (gd x8 true (part c4 0 none)).bind fun x13 =>
  (gd x8 true (binV .eql .other x11 x13)).bind fun x14 =>
  (pickS x8 (some x14) (some (.bool false))).bind fun x15 =>
  chkB x15 (
  (gd x15 true (part c3 1 none)).bind fun x18 =>
  chkB x15 (
  (gd x15 true (part c4 1 none)).bind fun x20 =>
  (gd x15 true (binV .eql .str x18 x20)).bind fun x21 =>
  (pickS x15 (some x21) (some (.bool false))).bind fun x22 =>
  chkB x22 (
  (gd x22 true (part c3 2 none)).bind fun x25 =>
  chkB x22 (
  (gd x22 true (part c4 2 none)).bind fun x27 =>
  (gd x22 true (some (.func 69 [(.ptr b 0)]))).bind fun x28 =>
  bindR (gdR x22 true σ_1 (D ft 68 [x25, x27, x28] σ_1)) fun x29 σ_2 =>
  (pickS x22 (some x29) (some (.bool false))).bind fun x30 =>
  some (.ret x30, σ_2)))))))) := (D_eq cf54 rfl rfl σ).trans (by kernel_rfl)

/-! (*demotic/kinds.writer).full -/

theorem D55_eq (x0 x1 x2 : V) (σ : Sto) : D ft 55 [x0, x1, x2] σ = (
  (boxN 1 x0).bind fun c3 =>
  alS (.cells c3) σ fun b σ_1 =>
  (boxN 3 x1).bind fun c4 =>
  alS (.cells c4) σ_1 fun b_1 σ_2 =>
  (boxN 1 x2).bind fun c5 =>
  alS (.cells c5) σ_2 fun b_2 σ_3 =>
  (ldV σ_3 none (.ptr b 0)).bind fun x9 =>
  (nilCheckV x9).bind fun x10 =>
  (fieldAddrV 1 x10).bind fun x11 =>
  (ldV σ_3 none x11).bind fun x12 =>
  (binV .sub .other x12 (.int .i64 (1))).bind fun x13 =>
  (nilCheckV x9).bind fun x14 =>
  (fieldAddrV 1 x14).bind fun x15 =>
  (stV σ_3 1 x15 x13).bind fun σ_4 =>
  (ldV σ_4 none (.ptr b 0)).bind fun x16 =>
  (nilCheckV x16).bind fun x17 =>
  (fieldAddrV 1 x17).bind fun x18 =>
  (ldV σ_4 none x18).bind fun x19 =>
  (binV .lss .other x19 (.int .i64 (0))).bind fun x20 =>
  condV x20 (
  (fillC [(.int .i64 (0)), (.str []), .nsl] []).bind fun c21 =>
  (stC [(.int .i64 (0)), (.str []), .nsl] 0 3 (.agg c21)).bind fun c6 =>
  (part c6 0 (some 3)).bind fun r6 =>
  some (.ret r6, σ_4)) (
  (fieldAddrV 0 (.ptr b_1 0)).bind fun x22 =>
  (ldV σ_4 none x22).bind fun x23 =>
  (noteV 1 σ_4 x22 []).bind fun pd =>
  (fieldAddrV 1 (.ptr b_1 0)).bind fun x24 =>
  (ldV σ_4 none x24).bind fun x25 =>
  (noteV 1 σ_4 x24 pd).bind fun pd_1 =>
  (fieldAddrV 2 (.ptr b_1 0)).bind fun x26 =>
  (ldV σ_4 none x26).bind fun x27 =>
  bindR (D ft 70 [x27, (.func 71 [(.ptr b 0), (.ptr b_2 0)])] σ_4) fun x29 σ_5 =>
  passK pd_1 σ_5 fun pd_2 =>
  (fillC [(.int .i64 (0)), (.str []), .nsl] [(0, 1, x23), (1, 1, x25), (2, 1, x29)]).bind fun c30 =>
  (stC [(.int .i64 (0)), (.str []), .nsl] 0 3 (.agg c30)).bind fun c7 =>
  (fieldAddrV 0 (.ptr b_1 0)).bind fun x31 =>
  (ldV σ_5 none x31).bind fun x32 =>
  (binV .neq .other x32 (.int .i64 (3))).bind fun x33 =>
  condV x33 (
  (part c7 0 (some 3)).bind fun x34 =>
  (stC [(.int .i64 (0)), (.str []), .nsl] 0 3 x34).bind fun c6 =>
  (part c6 0 (some 3)).bind fun r6 =>
  some (.ret r6, σ_5)) (
  (ldV σ_5 none (.ptr b 0)).bind fun x35 =>
  (nilCheckV x35).bind fun x36 =>
  (fieldAddrV 0 x36).bind fun x37 =>
  (ldV σ_5 none x37).bind fun x38 =>
  bindR (D ft 72 [x38, (.func 73 [(.ptr b_1 0)])] σ_5) fun x40 σ_6 =>
  (binV .lss .other x40 (.int .i64 (0))).bind fun x43 =>
  (gd x43 false (ldV σ_6 none (.ptr b 0))).bind fun x45 =>
  (gd x43 false (nilCheckV x45)).bind fun x46 =>
  (gd x43 false (fieldAddrV 0 x46)).bind fun x47 =>
  (gd x43 false (ldV σ_6 none x47)).bind fun x48 =>
  (gd x43 false (some x40)).bind fun x49 =>
  (gd x43 false (indexAddrV 6 x48 x49)).bind fun x50 =>
  (gd x43 false (fieldAddrV 5 x50)).bind fun x51 =>
  (gd x43 false (ldV σ_6 none x51)).bind fun x52 =>
  (gd x43 false (notV x52)).bind fun x53 =>
  (pickS x43 (some (.bool true)) (some x53)).bind fun x54 =>
  condV x54 (
  (part c7 0 (some 3)).bind fun x55 =>
  (stC [(.int .i64 (0)), (.str []), .nsl] 0 3 x55).bind fun c6 =>
  (part c6 0 (some 3)).bind fun r6 =>
  some (.ret r6, σ_6)) (
  (ldV σ_6 none (.ptr b_2 0)).bind fun x57 =>
  (binV .eql .other x57 (.int .i64 (0))).bind fun x58 =>
  (gd x58 false (ldV σ_6 none (.ptr b 0))).bind fun x60 =>
  (gd x58 false (nilCheckV x60)).bind fun x61 =>
  (gd x58 false (fieldAddrV 0 x61)).bind fun x62 =>
  (gd x58 false (ldV σ_6 none x62)).bind fun x63 =>
  (gd x58 false (some x40)).bind fun x64 =>
  (gd x58 false (indexAddrV 6 x63 x64)).bind fun x65 =>
  (gd x58 false (fieldAddrV 1 x65)).bind fun x66 =>
  (gd x58 false (ldV σ_6 none x66)).bind fun x67 =>
  (gd x58 false (lenV .sl σ_6 x67)).bind fun x68 =>
  chkB x58 (
  (gd x58 false (part c7 2 none)).bind fun x70 =>
  (gd x58 false (lenV .sl σ_6 x70)).bind fun x71 =>
  (gd x58 false (binV .neq .other x68 x71)).bind fun x72 =>
  (pickS x58 (some (.bool true)) (some x72)).bind fun x73 =>
  condV x73 (
  (ldV σ_6 none (.ptr b 0)).bind fun x74 =>
  (nilCheckV x74).bind fun x75 =>
  (fieldAddrV 1 x75).bind fun x76 =>
  (stV σ_6 1 x76 (.int .i64 (0))).bind fun σ_7 =>
  (fillC [(.int .i64 (0)), (.str []), .nsl] []).bind fun c77 =>
  (stC [(.int .i64 (0)), (.str []), .nsl] 0 3 (.agg c77)).bind fun c6 =>
  (part c6 0 (some 3)).bind fun r6 =>
  some (.ret r6, σ_7)) (
  (ldV σ_6 none (.ptr b 0)).bind fun x78 =>
  (ldV σ_6 none (.ptr b 0)).bind fun x79 =>
  (nilCheckV x79).bind fun x80 =>
  (fieldAddrV 0 x80).bind fun x81 =>
  (ldV σ_6 none x81).bind fun x82 =>
  (indexAddrV 6 x82 x40).bind fun x84 =>
  (fieldAddrV 2 x84).bind fun x85 =>
  (ldV σ_6 (some 3) x85).bind fun x86 =>
  (ldV σ_6 none (.ptr b 0)).bind fun x87 =>
  (nilCheckV x87).bind fun x88 =>
  (fieldAddrV 0 x88).bind fun x89 =>
  (ldV σ_6 none x89).bind fun x90 =>
  (indexAddrV 6 x90 x40).bind fun x92 =>
  (fieldAddrV 1 x92).bind fun x93 =>
  (ldV σ_6 none x93).bind fun x94 =>
  (part c7 2 none).bind fun x96 =>
  (callPure (D ft) 62 [x86, x94, x96]).bind fun x97 =>
  (ldV σ_6 none (.ptr b_2 0)).bind fun x98 =>
  (binV .sub .other x98 (.int .i64 (1))).bind fun x99 =>
  bindR (D ft 55 [x78, x97, x99] σ_6) fun x100 σ_7 =>
  (stC [(.int .i64 (0)), (.str []), .nsl] 0 3 x100).bind fun c6 =>
  (part c6 0 (some 3)).bind fun r6 =>
  some (.ret r6, σ_7))))))) := (D_eq cf55 rfl rfl σ).trans (by kernel_rfl)

/-! demotic/sets.Right$1 -/

theorem D56_eq (x0 : V) (σ : Sto) : D ft 56 [x0] σ = (
  (boxC x0).bind fun c1 =>
  (part c1 1 none).bind fun x5 =>
  bindR (D ft 57 [] σ) fun x3 σ_1 =>
  (lookupV .str σ_1 (.bool false) x3 x5 false).bind fun x6 =>
  (notV x6).bind fun x7 =>
  some (.ret x7, σ_1)) := (D_eq cf56 rfl rfl σ).trans (by kernel_rfl)

/-! demotic/sets.basics -/

theorem D57_eq (σ : Sto) : D ft 57 [] σ = (
  alS (.map [] 0) σ fun b σ_1 =>
  (mapUpdV .str σ_1 (.map b) (.str [105, 110, 116]) (.bool true)).bind fun σ_2 =>
  (mapUpdV .str σ_2 (.map b) (.str [115, 116, 114, 105, 110, 103]) (.bool true)).bind fun σ_3 =>
  (mapUpdV .str σ_3 (.map b) (.str [98, 111, 111, 108]) (.bool true)).bind fun σ_4 =>
  some (.ret (.map b), σ_4)) := (D_eq cf57 rfl rfl σ).trans (by kernel_rfl)

/-! slices.IndexFunc[[]demotic/sets.Term,demotic/sets.Term] -/

noncomputable def L58_0 (x0 : V) (x1 : V) (x7 : V) (x8 : V) (σ : Sto) : R := lpS ft [p0, p1, p7, p8] (cf58.body.at [true, false, true, false, false]) ((((Tr.leaf.set p8 x8).set p7 x7).set p1 x1).set p0 x0) σ (kAt ft cf58.body [true, false, true, false] (finO cf58))

theorem L58_0_eq (x0 : V) (x1 : V) (x7 : V) (x8 : V) (σ : Sto) : L58_0 x0 x1 x7 x8 σ = (
  (binV .lss .other x8 x7).bind fun x9 =>
  condV x9 (
  (indexAddrV 2 x0 x8).bind fun x14 =>
  (ldV σ (some 2) x14).bind fun x15 =>
  bindR (appV (D ft) x1 [x15] σ) fun x16 σ_1 =>
  condV x16 (
  some (.ret x8, σ_1)) (
  (binV .add .other x8 (.int .i64 (1))).bind fun x18 =>
  L58_0 x0 x1 x7 x18 σ_1)) (
  some (.ret (.int .i64 (-1)), σ))) := (lpS_eq _ _ _ _ _).trans (by kernel_rfl)

theorem D58_eq (x0 x1 : V) (σ : Sto) : D ft 58 [x0, x1] σ = (
  (lenV .sl σ x0).bind fun x7 =>
  L58_0 x0 x1 x7 (.int .i64 (0)) σ) := (D_eq cf58 rfl rfl σ).trans (by kernel_rfl)

/-! demotic/sets.within$1 -/

theorem D59_eq (x0 x1 : V) (σ : Sto) : D ft 59 [x0, x1] σ = (
  (boxC x0).bind fun c2 =>
  (part c2 1 none).bind fun x5 =>
  (fieldAddrV 1 x1).bind fun x6 =>
  (ldV σ none x6).bind fun x7 =>
  (binV .eql .str x5 x7).bind fun x8 =>
  chkB x8 (
  (gd x8 true (part c2 0 none)).bind fun x11 =>
  (gd x8 true (some x11)).bind fun x12 =>
  (gd x12 false (fieldAddrV 0 x1)).bind fun x13 =>
  (gd x12 false (ldV σ none x13)).bind fun x14 =>
  (gd x12 false (notV x14)).bind fun x15 =>
  (gd x8 true (pickS x12 (some (.bool true)) (some x15))).bind fun x16 =>
  (pickS x8 (some x16) (some (.bool false))).bind fun x17 =>
  some (.ret x17, σ))) := (D_eq cf59 rfl rfl σ).trans (by kernel_rfl)

/-! demotic/kinds.find -/

theorem D60_eq (x0 x1 : V) (σ : Sto) : D ft 60 [x0, x1] σ = (
  (boxN 3 x1).bind fun c3 =>
  alS (.cells c3) σ fun b σ_1 =>
  bindR (D ft 72 [x0, (.func 74 [(.ptr b 0)])] σ_1) fun x8 σ_2 =>
  (binV .lss .other x8 (.int .i64 (0))).bind fun x10 =>
  (gd x10 false (some x0)).bind fun x12 =>
  (gd x10 false (some x8)).bind fun x13 =>
  (gd x10 false (indexAddrV 6 x12 x13)).bind fun x14 =>
  (gd x10 false (fieldAddrV 1 x14)).bind fun x15 =>
  (gd x10 false (ldV σ_2 none x15)).bind fun x16 =>
  (gd x10 false (lenV .sl σ_2 x16)).bind fun x17 =>
  (gd x10 false (fieldAddrV 2 (.ptr b 0))).bind fun x18 =>
  (gd x10 false (ldV σ_2 none x18)).bind fun x19 =>
  (gd x10 false (lenV .sl σ_2 x19)).bind fun x20 =>
  (gd x10 false (binV .neq .other x17 x20)).bind fun x21 =>
  (pickS x10 (some (.bool true)) (some x21)).bind fun x22 =>
  condV x22 (
  some (.ret .nptr, σ_2)) (
  (indexAddrV 6 x0 x8).bind fun x25 =>
  some (.ret x25, σ_2))) := (D_eq cf60 rfl rfl σ).trans (by kernel_rfl)

/-! demotic/kinds.size -/

noncomputable def L61_0 (x3 : V) (x7 : V) (x8 : V) (x9 : V) (σ : Sto) : R := lpS ft [p3, p7, p8, p9] (cf61.body.at [true, true, false, true, false, false]) ((((Tr.leaf.set p9 x9).set p8 x8).set p7 x7).set p3 x3) σ (kAt ft cf61.body [true, true, false, true, false] (finO cf61))

noncomputable def J61_0 (x3 : V) (x7 : V) (x8 : V) (x9 : V) (σ : Sto) : R :=
  (binV .add .other x9 (.int .i64 (1))).bind fun x19 =>
  L61_0 x3 x7 x8 x19 σ

noncomputable def J61_1 (x3 : V) (x7 : V) (x8 : V) (x9 : V) (σ : Sto) : R :=
  J61_0 x3 x7 x8 x9 σ

theorem L61_0_eq (x3 : V) (x7 : V) (x8 : V) (x9 : V) (σ : Sto) : L61_0 x3 x7 x8 x9 σ = (
  (binV .lss .other x9 x8).bind fun x10 =>
  condV x10 (
  (indexAddrV 3 x7 x9).bind fun x11 =>
  (ldV σ (some 3) x11).bind fun x12 =>
  (stC [(.int .i64 (0)), (.str []), .nsl] 0 3 x12).bind fun c5 =>
  (binV .leq .other x3 (.int .i64 (1000))).bind fun x14 =>
  condV x14 (
  (part c5 0 (some 3)).bind fun x16 =>
  (callPure (D ft) 61 [x16]).bind fun x17 =>
  (binV .add .other x3 x17).bind fun x18 =>
  J61_1 x18 x7 x8 x9 σ) (
  J61_1 x3 x7 x8 x9 σ)) (
  some (.ret x3, σ))) := (lpS_eq _ _ _ _ _).trans (by kernel_rfl)

theorem D61_eq (x0 : V) (σ : Sto) : D ft 61 [x0] σ = (
  (boxC x0).bind fun c1 =>
  (part c1 2 none).bind fun x7 =>
  (lenV .sl σ x7).bind fun x8 =>
  L61_0 (.int .i64 (1)) x7 x8 (.int .i64 (0)) σ) := (D_eq cf61 rfl rfl σ).trans (by kernel_rfl)

/-! demotic/kinds.With -/

theorem D62_eq (x0 x1 x2 : V) (σ : Sto) : D ft 62 [x0, x1, x2] σ = (
  (boxC x0).bind fun c3 =>
  (boxN 1 x1).bind fun c4 =>
  alS (.cells c4) σ fun b σ_1 =>
  (boxN 1 x2).bind fun c5 =>
  alS (.cells c5) σ_1 fun b_1 σ_2 =>
  (ldV σ_2 none (.ptr b 0)).bind fun x8 =>
  (part c3 1 none).bind fun x10 =>
  bindR (D ft 63 [x8, x10] σ_2) fun x11 σ_3 =>
  (part c3 0 none).bind fun x13 =>
  (binV .eql .other x13 (.int .i64 (4))).bind fun x14 =>
  (gd x14 true (some x11)).bind fun x16 =>
  (gd x14 true (binV .geq .other x16 (.int .i64 (0)))).bind fun x17 =>
  (pickS x14 (some x17) (some (.bool false))).bind fun x18 =>
  (gd x18 true (some x11)).bind fun x20 =>
  (gd x18 true (ldV σ_3 none (.ptr b_1 0))).bind fun x21 =>
  (gd x18 true (lenV .sl σ_3 x21)).bind fun x22 =>
  (gd x18 true (binV .lss .other x20 x22)).bind fun x23 =>
  (pickS x18 (some x23) (some (.bool false))).bind fun x24 =>
  condV x24 (
  (ldV σ_3 none (.ptr b_1 0)).bind fun x25 =>
  (indexAddrV 3 x25 x11).bind fun x27 =>
  (ldV σ_3 (some 3) x27).bind fun x28 =>
  (stC [(.int .i64 (0)), (.str []), .nsl] 0 3 x28).bind fun c6 =>
  (part c6 0 (some 3)).bind fun r6 =>
  some (.ret r6, σ_3)) (
  (part c3 0 none).bind fun x30 =>
  (part c3 1 none).bind fun x32 =>
  (part c3 2 none).bind fun x34 =>
  bindR (D ft 70 [x34, (.func 75 [(.ptr b 0), (.ptr b_1 0)])] σ_3) fun x36 σ_4 =>
  (fillC [(.int .i64 (0)), (.str []), .nsl] [(0, 1, x30), (1, 1, x32), (2, 1, x36)]).bind fun c37 =>
  (stC [(.int .i64 (0)), (.str []), .nsl] 0 3 (.agg c37)).bind fun c6 =>
  (part c6 0 (some 3)).bind fun r6 =>
  some (.ret r6, σ_4))) := (D_eq cf62 rfl rfl σ).trans (by kernel_rfl)

/-! slices.Index[[]string,string] -/

noncomputable def L63_0 (x0 : V) (x1 : V) (x7 : V) (x8 : V) (σ : Sto) : R := lpS ft [p0, p1, p7, p8] (cf63.body.at [true, false, true, false, false]) ((((Tr.leaf.set p8 x8).set p7 x7).set p1 x1).set p0 x0) σ (kAt ft cf63.body [true, false, true, false] (finO cf63))

theorem L63_0_eq (x0 : V) (x1 : V) (x7 : V) (x8 : V) (σ : Sto) : L63_0 x0 x1 x7 x8 σ = (
  (binV .lss .other x8 x7).bind fun x9 =>
  condV x9 (
  (indexAddrV 1 x0 x8).bind fun x14 =>
  (ldV σ none x14).bind fun x15 =>
  (binV .eql .str x1 x15).bind fun x16 =>
  condV x16 (
  some (.ret x8, σ)) (
  (binV .add .other x8 (.int .i64 (1))).bind fun x18 =>
  L63_0 x0 x1 x7 x18 σ)) (
  some (.ret (.int .i64 (-1)), σ))) := (lpS_eq _ _ _ _ _).trans (by kernel_rfl)

theorem D63_eq (x0 x1 : V) (σ : Sto) : D ft 63 [x0, x1] σ = (
  (lenV .sl σ x0).bind fun x7 =>
  L63_0 x0 x1 x7 (.int .i64 (0)) σ) := (D_eq cf63 rfl rfl σ).trans (by kernel_rfl)

/-! demotic/unify.twice -/

theorem D64_eq (x0 : V) (σ : Sto) : D ft 64 [x0] σ = (
  (boxN 1 x0).bind fun c1 =>
  alS (.cells c1) σ fun b σ_1 =>
  (ldV σ_1 none (.ptr b 0)).bind fun x3 =>
  bindR (D ft 76 [x3, (.func 77 [(.ptr b 0)])] σ_1) fun x5 σ_2 =>
  some (.ret x5, σ_2)) := (D_eq cf64 rfl rfl σ).trans (by kernel_rfl)

/-! (*demotic/unify.state).own -/

theorem D65_eq (x0 x1 : V) (σ : Sto) : D ft 65 [x0, x1] σ = (
  (boxC x1).bind fun c3 =>
  (part c3 0 none).bind fun x6 =>
  (binV .neq .other x6 (.int .i64 (4))).bind fun x7 =>
  condV x7 (
  some (.ret (.int .i64 (-1)), σ)) (
  (nilCheckV x0).bind fun x9 =>
  (fieldAddrV 1 x9).bind fun x10 =>
  (ldV σ none x10).bind fun x11 =>
  (part c3 1 none).bind fun x13 =>
  bindR (D ft 63 [x11, x13] σ) fun x14 σ_1 =>
  some (.ret x14, σ_1))) := (D_eq cf65 rfl rfl σ).trans (by kernel_rfl)

/-! (*demotic/unify.state).parts -/

noncomputable def L66_0 (x0 : V) (x3 : V) (c6 : List V) (x9 : V) (x20 : V) (x21 : V) (x22 : V) (σ : Sto) : R := lpS ft [p0, p3, p6, p9, p20, p21, p22] (cf66.body.at [true, true, true, true, false, true, false, false]) (((((((Tr.leaf.set p22 x22).set p21 x21).set p20 x20).set p9 x9).set p6 (.agg c6)).set p3 x3).set p0 x0) σ (kAt ft cf66.body [true, true, true, true, false, true, false] (finO cf66))

noncomputable def J66_0 (x9 : V) (σ : Sto) : R :=
  some (.ret x9, σ)

noncomputable def J66_1 (x9 : V) (σ : Sto) : R :=
  J66_0 x9 σ

theorem L66_0_eq (x0 : V) (x3 : V) (c6 : List V) (x9 : V) (x20 : V) (x21 : V) (x22 : V) (σ : Sto) : L66_0 x0 x3 c6 x9 x20 x21 x22 σ = (
  (binV .lss .other x22 x21).bind fun x23 =>
  condV x23 (
  (indexAddrV 3 x20 x22).bind fun x25 =>
  (ldV σ (some 3) x25).bind fun x26 =>
  (stC [(.int .i64 (0)), (.str []), .nsl] 0 3 x26).bind fun c11 =>
  (part c11 0 (some 3)).bind fun x28 =>
  (part c6 2 none).bind fun x30 =>
  (indexAddrV 3 x30 x22).bind fun x32 =>
  (ldV σ (some 3) x32).bind fun x33 =>
  (binV .sub .other x3 (.int .i64 (1))).bind fun x35 =>
  bindR (D ft 50 [x0, x28, x33, x35] σ) fun x36 σ_1 =>
  condV x36 (
  (binV .add .other x22 (.int .i64 (1))).bind fun x37 =>
  L66_0 x0 x3 c6 x9 x20 x21 x37 σ_1) (
  J66_1 (.bool false) σ_1)) (
  J66_1 x9 σ)) := (lpS_eq _ _ _ _ _).trans (by kernel_rfl)

theorem D66_eq (x0 x1 x2 x3 : V) (σ : Sto) : D ft 66 [x0, x1, x2, x3] σ = (
  (boxC x1).bind fun c5 =>
  (boxC x2).bind fun c6 =>
  (part c5 2 none).bind fun x13 =>
  (lenV .sl σ x13).bind fun x14 =>
  (part c6 2 none).bind fun x16 =>
  (lenV .sl σ x16).bind fun x17 =>
  (binV .neq .other x14 x17).bind fun x18 =>
  condV x18 (
  some (.ret (.bool false), σ)) (
  (part c5 2 none).bind fun x20 =>
  (lenV .sl σ x20).bind fun x21 =>
  L66_0 x0 x3 c6 (.bool true) x20 x21 (.int .i64 (0)) σ)) := (D_eq cf66 rfl rfl σ).trans (by kernel_rfl)

/-! slices.IndexFunc[[]demotic/kinds.Type,demotic/kinds.Type] -/

noncomputable def L67_0 (x0 : V) (x1 : V) (x7 : V) (x8 : V) (σ : Sto) : R := lpS ft [p0, p1, p7, p8] (cf67.body.at [true, false, true, false, false]) ((((Tr.leaf.set p8 x8).set p7 x7).set p1 x1).set p0 x0) σ (kAt ft cf67.body [true, false, true, false] (finO cf67))

theorem L67_0_eq (x0 : V) (x1 : V) (x7 : V) (x8 : V) (σ : Sto) : L67_0 x0 x1 x7 x8 σ = (
  (binV .lss .other x8 x7).bind fun x9 =>
  condV x9 (
  (indexAddrV 3 x0 x8).bind fun x14 =>
  (ldV σ (some 3) x14).bind fun x15 =>
  bindR (appV (D ft) x1 [x15] σ) fun x16 σ_1 =>
  condV x16 (
  some (.ret x8, σ_1)) (
  (binV .add .other x8 (.int .i64 (1))).bind fun x18 =>
  L67_0 x0 x1 x7 x18 σ_1)) (
  some (.ret (.int .i64 (-1)), σ))) := (lpS_eq _ _ _ _ _).trans (by kernel_rfl)

theorem D67_eq (x0 x1 : V) (σ : Sto) : D ft 67 [x0, x1] σ = (
  (lenV .sl σ x0).bind fun x7 =>
  L67_0 x0 x1 x7 (.int .i64 (0)) σ) := (D_eq cf67 rfl rfl σ).trans (by kernel_rfl)

/-! slices.EqualFunc[[]demotic/kinds.Type,[]demotic/kinds.Type,demotic/kinds.Type,demotic/kinds.Type] -/

noncomputable def L68_0 (x1 : V) (x2 : V) (x15 : V) (x16 : V) (x17 : V) (σ : Sto) : R := lpS ft [p1, p2, p15, p16, p17] (cf68.body.at [true, true, false, true, false, false]) (((((Tr.leaf.set p17 x17).set p16 x16).set p15 x15).set p2 x2).set p1 x1) σ (kAt ft cf68.body [true, true, false, true, false] (finO cf68))

theorem L68_0_eq (x1 : V) (x2 : V) (x15 : V) (x16 : V) (x17 : V) (σ : Sto) : L68_0 x1 x2 x15 x16 x17 σ = (
  (binV .lss .other x17 x16).bind fun x18 =>
  condV x18 (
  (indexAddrV 3 x15 x17).bind fun x20 =>
  (ldV σ (some 3) x20).bind fun x21 =>
  (stC [(.int .i64 (0)), (.str []), .nsl] 0 3 x21).bind fun c8 =>
  (indexAddrV 3 x1 x17).bind fun x24 =>
  (ldV σ (some 3) x24).bind fun x25 =>
  (stC [(.int .i64 (0)), (.str []), .nsl] 0 3 x25).bind fun c9 =>
  (part c8 0 (some 3)).bind fun x27 =>
  (part c9 0 (some 3)).bind fun x28 =>
  bindR (appV (D ft) x2 [x27, x28] σ) fun x29 σ_1 =>
  (notV x29).bind fun x30 =>
  condV x30 (
  some (.ret (.bool false), σ_1)) (
  (binV .add .other x17 (.int .i64 (1))).bind fun x31 =>
  L68_0 x1 x2 x15 x16 x31 σ_1)) (
  some (.ret (.bool true), σ))) := (lpS_eq _ _ _ _ _).trans (by kernel_rfl)

theorem D68_eq (x0 x1 x2 : V) (σ : Sto) : D ft 68 [x0, x1, x2] σ = (
  (lenV .sl σ x0).bind fun x11 =>
  (lenV .sl σ x1).bind fun x13 =>
  (binV .neq .other x11 x13).bind fun x14 =>
  condV x14 (
  some (.ret (.bool false), σ)) (
  (lenV .sl σ x0).bind fun x16 =>
  L68_0 x1 x2 x0 x16 (.int .i64 (0)) σ)) := (D_eq cf68 rfl rfl σ).trans (by kernel_rfl)

/-! demotic/kinds.same$1 -/

theorem D69_eq (x0 x1 x2 : V) (σ : Sto) : D ft 69 [x0, x1, x2] σ = (
  (boxC x0).bind fun c3 =>
  (boxC x1).bind fun c4 =>
  (part c3 0 (some 3)).bind fun x6 =>
  (part c4 0 (some 3)).bind fun x7 =>
  (ldV σ none x2).bind fun x8 =>
  (binV .sub .other x8 (.int .i64 (1))).bind fun x9 =>
  (callPure (D ft) 54 [x6, x7, x9]).bind fun x10 =>
  some (.ret x10, σ)) := (D_eq cf69 rfl rfl σ).trans (by kernel_rfl)

/-! demotic/kinds.turned[demotic/kinds.Type,demotic/kinds.Type] -/

noncomputable def L70_0 (x1 : V) (x5 : V) (x8 : V) (x9 : V) (x10 : V) (σ : Sto) : R := lpS ft [p1, p5, p8, p9, p10] (cf70.body.at [true, true, false, true, false, false]) (((((Tr.leaf.set p10 x10).set p9 x9).set p8 x8).set p5 x5).set p1 x1) σ (kAt ft cf70.body [true, true, false, true, false] (finO cf70))

theorem L70_0_eq (x1 : V) (x5 : V) (x8 : V) (x9 : V) (x10 : V) (σ : Sto) : L70_0 x1 x5 x8 x9 x10 σ = (
  (binV .lss .other x10 x9).bind fun x11 =>
  condV x11 (
  (indexAddrV 3 x8 x10).bind fun x12 =>
  (ldV σ (some 3) x12).bind fun x13 =>
  (stC [(.int .i64 (0)), (.str []), .nsl] 0 3 x13).bind fun c7 =>
  (part c7 0 (some 3)).bind fun x16 =>
  bindR (appV (D ft) x1 [x16] σ) fun x17 σ_1 =>
  (fillD 3 (List.replicate 1 (.agg [(.int .i64 (0)), (.str []), .nsl])) [(0, x17)]).bind fun c18 =>
  bind2 (appendV 3 48 false σ_1 x5 (.sl .full c18)) fun x19 σ_2 =>
  (binV .add .other x10 (.int .i64 (1))).bind fun x20 =>
  L70_0 x1 x19 x8 x9 x20 σ_2) (
  some (.ret x5, σ))) := (lpS_eq _ _ _ _ _).trans (by kernel_rfl)

theorem D70_eq (x0 x1 : V) (σ : Sto) : D ft 70 [x0, x1] σ = (
  (lenV .sl σ x0).bind fun x9 =>
  L70_0 x1 .nsl x0 x9 (.int .i64 (0)) σ) := (D_eq cf70 rfl rfl σ).trans (by kernel_rfl)

/-! (*demotic/kinds.writer).full$1 -/

theorem D71_eq (x0 x1 x2 : V) (σ : Sto) : D ft 71 [x0, x1, x2] σ = (
  (boxC x0).bind fun c3 =>
  (ldV σ none x1).bind fun x5 =>
  (part c3 0 (some 3)).bind fun x6 =>
  (ldV σ none x2).bind fun x7 =>
  bindR (D ft 55 [x5, x6, x7] σ) fun x8 σ_1 =>
  (stC [(.int .i64 (0)), (.str []), .nsl] 0 3 x8).bind fun c4 =>
  (part c4 0 (some 3)).bind fun r4 =>
  some (.ret r4, σ_1)) := (D_eq cf71 rfl rfl σ).trans (by kernel_rfl)

/-! slices.IndexFunc[[]demotic/kinds.Def,demotic/kinds.Def] -/

noncomputable def L72_0 (x0 : V) (x1 : V) (x7 : V) (x8 : V) (σ : Sto) : R := lpS ft [p0, p1, p7, p8] (cf72.body.at [true, false, true, false, false]) ((((Tr.leaf.set p8 x8).set p7 x7).set p1 x1).set p0 x0) σ (kAt ft cf72.body [true, false, true, false] (finO cf72))

theorem L72_0_eq (x0 : V) (x1 : V) (x7 : V) (x8 : V) (σ : Sto) : L72_0 x0 x1 x7 x8 σ = (
  (binV .lss .other x8 x7).bind fun x9 =>
  condV x9 (
  (indexAddrV 6 x0 x8).bind fun x14 =>
  (ldV σ (some 6) x14).bind fun x15 =>
  bindR (appV (D ft) x1 [x15] σ) fun x16 σ_1 =>
  condV x16 (
  some (.ret x8, σ_1)) (
  (binV .add .other x8 (.int .i64 (1))).bind fun x18 =>
  L72_0 x0 x1 x7 x18 σ_1)) (
  some (.ret (.int .i64 (-1)), σ))) := (lpS_eq _ _ _ _ _).trans (by kernel_rfl)

theorem D72_eq (x0 x1 : V) (σ : Sto) : D ft 72 [x0, x1] σ = (
  (lenV .sl σ x0).bind fun x7 =>
  L72_0 x0 x1 x7 (.int .i64 (0)) σ) := (D_eq cf72 rfl rfl σ).trans (by kernel_rfl)

/-! (*demotic/kinds.writer).full$2 -/

theorem D73_eq (x0 x1 : V) (σ : Sto) : D ft 73 [x0, x1] σ = (
  (boxC x0).bind fun c2 =>
  (part c2 0 none).bind fun x5 =>
  (fieldAddrV 1 x1).bind fun x6 =>
  (ldV σ none x6).bind fun x7 =>
  (binV .eql .str x5 x7).bind fun x8 =>
  some (.ret x8, σ)) := (D_eq cf73 rfl rfl σ).trans (by kernel_rfl)

/-! demotic/kinds.find$1 -/

theorem D74_eq (x0 x1 : V) (σ : Sto) : D ft 74 [x0, x1] σ = (
  (boxC x0).bind fun c2 =>
  (part c2 0 none).bind fun x5 =>
  (fieldAddrV 1 x1).bind fun x6 =>
  (ldV σ none x6).bind fun x7 =>
  (binV .eql .str x5 x7).bind fun x8 =>
  some (.ret x8, σ)) := (D_eq cf74 rfl rfl σ).trans (by kernel_rfl)

/-! demotic/kinds.With$1 -/

theorem D75_eq (x0 x1 x2 : V) (σ : Sto) : D ft 75 [x0, x1, x2] σ = (
  (boxC x0).bind fun c3 =>
  (part c3 0 (some 3)).bind fun x5 =>
  (ldV σ none x1).bind fun x6 =>
  (ldV σ none x2).bind fun x7 =>
  (callPure (D ft) 62 [x5, x6, x7]).bind fun x8 =>
  (stC [(.int .i64 (0)), (.str []), .nsl] 0 3 x8).bind fun c4 =>
  (part c4 0 (some 3)).bind fun r4 =>
  some (.ret r4, σ)) := (D_eq cf75 rfl rfl σ).trans (by kernel_rfl)

/-! slices.ContainsFunc[[]string,string] -/

theorem D76_eq (x0 x1 : V) (σ : Sto) : D ft 76 [x0, x1] σ = (
  bindR (D ft 79 [x0, x1] σ) fun x7 σ_1 =>
  (binV .geq .other x7 (.int .i64 (0))).bind fun x8 =>
  some (.ret x8, σ_1)) := (D_eq cf76 rfl rfl σ).trans (by kernel_rfl)

/-! demotic/unify.twice$1 -/

theorem D77_eq (x0 x1 : V) (σ : Sto) : D ft 77 [x0, x1] σ = (
  (ldV σ none x1).bind fun x4 =>
  (ldV σ none x1).bind fun x7 =>
  (noteV 2 σ x1 []).bind fun pd =>
  (lenV .sl σ x7).bind fun x8 =>
  (binV .sub .other x8 (.int .i64 (1))).bind fun x9 =>
  (ldV σ none x1).bind fun x10 =>
  (noteV 1 σ x1 pd).bind fun pd_1 =>
  bindR (D ft 63 [x4, x0] σ) fun x6 σ_1 =>
  passK pd_1 σ_1 fun pd_2 =>
  (callPure (D ft) 78 [x10]).bind fun x11 =>
  bindR (D ft 63 [x11, x0] σ_1) fun x13 σ_2 =>
  passK pd_2 σ_2 fun pd_3 =>
  (binV .sub .other x9 x13).bind fun x14 =>
  (binV .neq .other x6 x14).bind fun x15 =>
  some (.ret x15, σ_2)) := (D_eq cf77 rfl rfl σ).trans (by kernel_rfl)

/-! demotic/unify.reversed -/

theorem D78_eq (x0 : V) (σ : Sto) : D ft 78 [x0] σ = (
  bindR (D ft 80 [x0] σ) fun x5 σ_1 =>
  bindR (D ft 81 [x5] σ_1) fun x7 σ_2 =>
  some (.ret x5, σ_2)) := (D_eq cf78 rfl rfl σ).trans (by kernel_rfl)

/-! slices.IndexFunc[[]string,string] -/

noncomputable def L79_0 (x0 : V) (x1 : V) (x7 : V) (x8 : V) (σ : Sto) : R := lpS ft [p0, p1, p7, p8] (cf79.body.at [true, false, true, false, false]) ((((Tr.leaf.set p8 x8).set p7 x7).set p1 x1).set p0 x0) σ (kAt ft cf79.body [true, false, true, false] (finO cf79))

theorem L79_0_eq (x0 : V) (x1 : V) (x7 : V) (x8 : V) (σ : Sto) : L79_0 x0 x1 x7 x8 σ = (
  (binV .lss .other x8 x7).bind fun x9 =>
  condV x9 (
  (indexAddrV 1 x0 x8).bind fun x14 =>
  (ldV σ none x14).bind fun x15 =>
  bindR (appV (D ft) x1 [x15] σ) fun x16 σ_1 =>
  condV x16 (
  some (.ret x8, σ_1)) (
  (binV .add .other x8 (.int .i64 (1))).bind fun x18 =>
  L79_0 x0 x1 x7 x18 σ_1)) (
  some (.ret (.int .i64 (-1)), σ))) := (lpS_eq _ _ _ _ _).trans (by kernel_rfl)

theorem D79_eq (x0 x1 : V) (σ : Sto) : D ft 79 [x0, x1] σ = (
  (lenV .sl σ x0).bind fun x7 =>
  L79_0 x0 x1 x7 (.int .i64 (0)) σ) := (D_eq cf79 rfl rfl σ).trans (by kernel_rfl)

/-! slices.Clone[[]string,string] -/

theorem D80_eq (x0 : V) (σ : Sto) : D ft 80 [x0] σ = (
  (binV .eql .sl x0 .nsl).bind fun x4 =>
  condV x4 (
  some (.ret .nsl, σ)) (
  (fillD 1 (List.replicate 0 (.str [])) []).bind fun c5 =>
  bind2 (appendV 1 16 true σ (.sl .full c5) x0) fun x7 σ_1 =>
  some (.ret x7, σ_1))) := (D_eq cf80 rfl rfl σ).trans (by kernel_rfl)

/-! slices.Reverse[[]string,string] -/

noncomputable def L81_0 (x0 : V) (x2 : V) (x3 : V) (σ : Sto) : R := lpS ft [p0, p2, p3] (cf81.body.at [true, false, false]) (((Tr.leaf.set p3 x3).set p2 x2).set p0 x0) σ (kAt ft cf81.body [true, false] (finO cf81))

theorem L81_0_eq (x0 : V) (x2 : V) (x3 : V) (σ : Sto) : L81_0 x0 x2 x3 σ = (
  (binV .lss .other x2 x3).bind fun x9 =>
  condV x9 (
  (indexAddrV 1 x0 x3).bind fun x20 =>
  (ldV σ none x20).bind fun x21 =>
  (indexAddrV 1 x0 x2).bind fun x24 =>
  (ldV σ none x24).bind fun x25 =>
  (indexAddrV 1 x0 x2).bind fun x26 =>
  (stV σ 1 x26 x21).bind fun σ_1 =>
  (indexAddrV 1 x0 x3).bind fun x27 =>
  (stV σ_1 1 x27 x25).bind fun σ_2 =>
  (binV .add .other x2 (.int .i64 (1))).bind fun x11 =>
  (binV .sub .other x3 (.int .i64 (1))).bind fun x13 =>
  L81_0 x0 x11 x13 σ_2) (
  some (.ret (.tup []), σ))) := (lpS_eq _ _ _ _ _).trans (by kernel_rfl)

theorem D81_eq (x0 : V) (σ : Sto) : D ft 81 [x0] σ = (
  (lenV .sl σ x0).bind fun x5 =>
  (binV .sub .other x5 (.int .i64 (1))).bind fun x6 =>
  L81_0 x0 (.int .i64 (0)) x6 σ) := (D_eq cf81 rfl rfl σ).trans (by kernel_rfl)

end Go.Eng
