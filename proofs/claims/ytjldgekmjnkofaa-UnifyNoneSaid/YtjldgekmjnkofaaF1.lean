/- PRINTED BY A PROGRAM of this repo (wip/gen4.lean): the compiled functions that the laws reach. -/
import Derived.Test.YtjldgekmjnkofaaE24
import Derived.Test.YtjldgekmjnkofaaProg
set_option linter.unusedVariables false
set_option linter.unusedSimpArgs false
namespace Go.Eng
open Go Go.Proofs

def pu : List Nat := [9, 10, 11, 12, 13, 14, 15, 16, 17, 18, 19, 20, 21, 22, 23, 24, 33, 34, 35, 38, 39, 42, 43, 62, 61, 25, 26, 27, 28, 30, 31, 32, 47, 54, 64, 78]

abbrev p0 : Pos := .xH
abbrev p1 : Pos := (.xO .xH)
abbrev p2 : Pos := (.xI .xH)
abbrev p3 : Pos := (.xO (.xO .xH))
abbrev p4 : Pos := (.xI (.xO .xH))
abbrev p5 : Pos := (.xO (.xI .xH))
abbrev p6 : Pos := (.xI (.xI .xH))
abbrev p7 : Pos := (.xO (.xO (.xO .xH)))
abbrev p8 : Pos := (.xI (.xO (.xO .xH)))
abbrev p9 : Pos := (.xO (.xI (.xO .xH)))
abbrev p10 : Pos := (.xI (.xI (.xO .xH)))
abbrev p11 : Pos := (.xO (.xO (.xI .xH)))
abbrev p12 : Pos := (.xI (.xO (.xI .xH)))
abbrev p13 : Pos := (.xO (.xI (.xI .xH)))
abbrev p14 : Pos := (.xI (.xI (.xI .xH)))
abbrev p15 : Pos := (.xO (.xO (.xO (.xO .xH))))
abbrev p16 : Pos := (.xI (.xO (.xO (.xO .xH))))
abbrev p17 : Pos := (.xO (.xI (.xO (.xO .xH))))
abbrev p18 : Pos := (.xI (.xI (.xO (.xO .xH))))
abbrev p19 : Pos := (.xO (.xO (.xI (.xO .xH))))
abbrev p20 : Pos := (.xI (.xO (.xI (.xO .xH))))
abbrev p21 : Pos := (.xO (.xI (.xI (.xO .xH))))
abbrev p22 : Pos := (.xI (.xI (.xI (.xO .xH))))
abbrev p23 : Pos := (.xO (.xO (.xO (.xI .xH))))
abbrev p24 : Pos := (.xI (.xO (.xO (.xI .xH))))
abbrev p25 : Pos := (.xO (.xI (.xO (.xI .xH))))
abbrev p26 : Pos := (.xI (.xI (.xO (.xI .xH))))
abbrev p27 : Pos := (.xO (.xO (.xI (.xI .xH))))
abbrev p28 : Pos := (.xI (.xO (.xI (.xI .xH))))
abbrev p29 : Pos := (.xO (.xI (.xI (.xI .xH))))
abbrev p30 : Pos := (.xI (.xI (.xI (.xI .xH))))
abbrev p31 : Pos := (.xO (.xO (.xO (.xO (.xO .xH)))))
abbrev p32 : Pos := (.xI (.xO (.xO (.xO (.xO .xH)))))
abbrev p33 : Pos := (.xO (.xI (.xO (.xO (.xO .xH)))))
abbrev p34 : Pos := (.xI (.xI (.xO (.xO (.xO .xH)))))
abbrev p35 : Pos := (.xO (.xO (.xI (.xO (.xO .xH)))))
abbrev p36 : Pos := (.xI (.xO (.xI (.xO (.xO .xH)))))
abbrev p37 : Pos := (.xO (.xI (.xI (.xO (.xO .xH)))))
abbrev p38 : Pos := (.xI (.xI (.xI (.xO (.xO .xH)))))
abbrev p39 : Pos := (.xO (.xO (.xO (.xI (.xO .xH)))))
abbrev p40 : Pos := (.xI (.xO (.xO (.xI (.xO .xH)))))
abbrev p41 : Pos := (.xO (.xI (.xO (.xI (.xO .xH)))))
abbrev p42 : Pos := (.xI (.xI (.xO (.xI (.xO .xH)))))
abbrev p43 : Pos := (.xO (.xO (.xI (.xI (.xO .xH)))))
abbrev p44 : Pos := (.xI (.xO (.xI (.xI (.xO .xH)))))
abbrev p45 : Pos := (.xO (.xI (.xI (.xI (.xO .xH)))))
abbrev p46 : Pos := (.xI (.xI (.xI (.xI (.xO .xH)))))
abbrev p47 : Pos := (.xO (.xO (.xO (.xO (.xI .xH)))))
abbrev p48 : Pos := (.xI (.xO (.xO (.xO (.xI .xH)))))
abbrev p49 : Pos := (.xO (.xI (.xO (.xO (.xI .xH)))))
abbrev p50 : Pos := (.xI (.xI (.xO (.xO (.xI .xH)))))
abbrev p51 : Pos := (.xO (.xO (.xI (.xO (.xI .xH)))))
abbrev p52 : Pos := (.xI (.xO (.xI (.xO (.xI .xH)))))
abbrev p53 : Pos := (.xO (.xI (.xI (.xO (.xI .xH)))))
abbrev p54 : Pos := (.xI (.xI (.xI (.xO (.xI .xH)))))
abbrev p55 : Pos := (.xO (.xO (.xO (.xI (.xI .xH)))))
abbrev p56 : Pos := (.xI (.xO (.xO (.xI (.xI .xH)))))
abbrev p57 : Pos := (.xO (.xI (.xO (.xI (.xI .xH)))))
abbrev p58 : Pos := (.xI (.xI (.xO (.xI (.xI .xH)))))
abbrev p59 : Pos := (.xO (.xO (.xI (.xI (.xI .xH)))))
abbrev p60 : Pos := (.xI (.xO (.xI (.xI (.xI .xH)))))
abbrev p61 : Pos := (.xO (.xI (.xI (.xI (.xI .xH)))))
abbrev p62 : Pos := (.xI (.xI (.xI (.xI (.xI .xH)))))
abbrev p63 : Pos := (.xO (.xO (.xO (.xO (.xO (.xO .xH))))))
abbrev p64 : Pos := (.xI (.xO (.xO (.xO (.xO (.xO .xH))))))
abbrev p65 : Pos := (.xO (.xI (.xO (.xO (.xO (.xO .xH))))))
abbrev p66 : Pos := (.xI (.xI (.xO (.xO (.xO (.xO .xH))))))
abbrev p67 : Pos := (.xO (.xO (.xI (.xO (.xO (.xO .xH))))))
abbrev p68 : Pos := (.xI (.xO (.xI (.xO (.xO (.xO .xH))))))
abbrev p69 : Pos := (.xO (.xI (.xI (.xO (.xO (.xO .xH))))))
abbrev p70 : Pos := (.xI (.xI (.xI (.xO (.xO (.xO .xH))))))
abbrev p71 : Pos := (.xO (.xO (.xO (.xI (.xO (.xO .xH))))))
abbrev p72 : Pos := (.xI (.xO (.xO (.xI (.xO (.xO .xH))))))
abbrev p73 : Pos := (.xO (.xI (.xO (.xI (.xO (.xO .xH))))))
abbrev p74 : Pos := (.xI (.xI (.xO (.xI (.xO (.xO .xH))))))
abbrev p75 : Pos := (.xO (.xO (.xI (.xI (.xO (.xO .xH))))))
abbrev p76 : Pos := (.xI (.xO (.xI (.xI (.xO (.xO .xH))))))
abbrev p77 : Pos := (.xO (.xI (.xI (.xI (.xO (.xO .xH))))))
abbrev p78 : Pos := (.xI (.xI (.xI (.xI (.xO (.xO .xH))))))
abbrev p79 : Pos := (.xO (.xO (.xO (.xO (.xI (.xO .xH))))))
abbrev p80 : Pos := (.xI (.xO (.xO (.xO (.xI (.xO .xH))))))
abbrev p81 : Pos := (.xO (.xI (.xO (.xO (.xI (.xO .xH))))))
abbrev p82 : Pos := (.xI (.xI (.xO (.xO (.xI (.xO .xH))))))
abbrev p83 : Pos := (.xO (.xO (.xI (.xO (.xI (.xO .xH))))))
abbrev p84 : Pos := (.xI (.xO (.xI (.xO (.xI (.xO .xH))))))
abbrev p85 : Pos := (.xO (.xI (.xI (.xO (.xI (.xO .xH))))))
abbrev p86 : Pos := (.xI (.xI (.xI (.xO (.xI (.xO .xH))))))
abbrev p87 : Pos := (.xO (.xO (.xO (.xI (.xI (.xO .xH))))))
abbrev p88 : Pos := (.xI (.xO (.xO (.xI (.xI (.xO .xH))))))
abbrev p89 : Pos := (.xO (.xI (.xO (.xI (.xI (.xO .xH))))))
abbrev p90 : Pos := (.xI (.xI (.xO (.xI (.xI (.xO .xH))))))
abbrev p91 : Pos := (.xO (.xO (.xI (.xI (.xI (.xO .xH))))))
abbrev p92 : Pos := (.xI (.xO (.xI (.xI (.xI (.xO .xH))))))
abbrev p93 : Pos := (.xO (.xI (.xI (.xI (.xI (.xO .xH))))))
abbrev p94 : Pos := (.xI (.xI (.xI (.xI (.xI (.xO .xH))))))
abbrev p95 : Pos := (.xO (.xO (.xO (.xO (.xO (.xI .xH))))))
abbrev p96 : Pos := (.xI (.xO (.xO (.xO (.xO (.xI .xH))))))
abbrev p97 : Pos := (.xO (.xI (.xO (.xO (.xO (.xI .xH))))))
abbrev p98 : Pos := (.xI (.xI (.xO (.xO (.xO (.xI .xH))))))
abbrev p99 : Pos := (.xO (.xO (.xI (.xO (.xO (.xI .xH))))))
abbrev p100 : Pos := (.xI (.xO (.xI (.xO (.xO (.xI .xH))))))
abbrev p101 : Pos := (.xO (.xI (.xI (.xO (.xO (.xI .xH))))))
abbrev p102 : Pos := (.xI (.xI (.xI (.xO (.xO (.xI .xH))))))
abbrev p103 : Pos := (.xO (.xO (.xO (.xI (.xO (.xI .xH))))))
abbrev p104 : Pos := (.xI (.xO (.xO (.xI (.xO (.xI .xH))))))
abbrev p105 : Pos := (.xO (.xI (.xO (.xI (.xO (.xI .xH))))))
abbrev p106 : Pos := (.xI (.xI (.xO (.xI (.xO (.xI .xH))))))
abbrev p107 : Pos := (.xO (.xO (.xI (.xI (.xO (.xI .xH))))))
abbrev p108 : Pos := (.xI (.xO (.xI (.xI (.xO (.xI .xH))))))
abbrev p109 : Pos := (.xO (.xI (.xI (.xI (.xO (.xI .xH))))))
abbrev p110 : Pos := (.xI (.xI (.xI (.xI (.xO (.xI .xH))))))
abbrev p111 : Pos := (.xO (.xO (.xO (.xO (.xI (.xI .xH))))))
abbrev p112 : Pos := (.xI (.xO (.xO (.xO (.xI (.xI .xH))))))
abbrev p113 : Pos := (.xO (.xI (.xO (.xO (.xI (.xI .xH))))))
abbrev p114 : Pos := (.xI (.xI (.xO (.xO (.xI (.xI .xH))))))
abbrev p115 : Pos := (.xO (.xO (.xI (.xO (.xI (.xI .xH))))))
abbrev p116 : Pos := (.xI (.xO (.xI (.xO (.xI (.xI .xH))))))
abbrev p117 : Pos := (.xO (.xI (.xI (.xO (.xI (.xI .xH))))))
abbrev p118 : Pos := (.xI (.xI (.xI (.xO (.xI (.xI .xH))))))
abbrev p119 : Pos := (.xO (.xO (.xO (.xI (.xI (.xI .xH))))))
abbrev p120 : Pos := (.xI (.xO (.xO (.xI (.xI (.xI .xH))))))
abbrev p121 : Pos := (.xO (.xI (.xO (.xI (.xI (.xI .xH))))))
abbrev p122 : Pos := (.xI (.xI (.xO (.xI (.xI (.xI .xH))))))
abbrev p123 : Pos := (.xO (.xO (.xI (.xI (.xI (.xI .xH))))))
abbrev p124 : Pos := (.xI (.xO (.xI (.xI (.xI (.xI .xH))))))
abbrev p125 : Pos := (.xO (.xI (.xI (.xI (.xI (.xI .xH))))))
abbrev p126 : Pos := (.xI (.xI (.xI (.xI (.xI (.xI .xH))))))
abbrev p127 : Pos := (.xO (.xO (.xO (.xO (.xO (.xO (.xO .xH)))))))
abbrev p128 : Pos := (.xI (.xO (.xO (.xO (.xO (.xO (.xO .xH)))))))
abbrev p129 : Pos := (.xO (.xI (.xO (.xO (.xO (.xO (.xO .xH)))))))
abbrev p130 : Pos := (.xI (.xI (.xO (.xO (.xO (.xO (.xO .xH)))))))
abbrev p131 : Pos := (.xO (.xO (.xI (.xO (.xO (.xO (.xO .xH)))))))
abbrev p132 : Pos := (.xI (.xO (.xI (.xO (.xO (.xO (.xO .xH)))))))

/-- demotic/demoticlaw11.SetsMore -/
def cf3 : CF := ⟨3, (.seq (.reg false [⟨none, none, .boxR p5 (.r p2), 0⟩, ⟨(some p6), none, .mov (.c (.bool false)), 0⟩])
  (.seq (.seq (.reg false [⟨(some p12), none, .mov (.r p0), 0⟩, ⟨(some p13), none, .callP 9 [(.r p12)], 0⟩, ⟨(some p14), none, .not (.r p13), 0⟩, ⟨(some p15), none, .mov (.r p14), 0⟩, ⟨(some p16), (some (p15, false)), .mov (.r p1), 0⟩, ⟨(some p17), (some (p15, false)), .len .sl (.r p16), 0⟩, ⟨(some p18), (some (p15, false)), .bin .gtr .other (.r p17) (.c (.int .i64 (20))), 0⟩, ⟨(some p19), none, .pick (.r p15) (.c (.bool true)) (.r p18), 0⟩, ⟨(some p20), none, .mov (.r p19), 0⟩, ⟨(some p21), (some (p20, false)), .adr p5, 0⟩, ⟨(some p22), (some (p20, false)), .adr p5, 0⟩, ⟨(some p23), (some (p20, false)), .ldR p5 2 none, 0⟩, ⟨(some p24), (some (p20, false)), .len .sl (.r p23), 0⟩, ⟨(some p25), (some (p20, false)), .bin .gtr .other (.r p24) (.c (.int .i64 (20))), 0⟩, ⟨(some p26), none, .pick (.r p20) (.c (.bool true)) (.r p25), 0⟩, ⟨(some p27), none, .mov (.r p26), 0⟩, ⟨(some p28), (some (p27, false)), .adr p5, 0⟩, ⟨(some p29), (some (p27, false)), .ldR p5 3 (some 3), 0⟩, ⟨(some p30), (some (p27, false)), .callP 10 [(.r p29)], 0⟩, ⟨(some p31), (some (p27, false)), .bin .gtr .other (.r p30) (.c (.int .i64 (60))), 0⟩, ⟨(some p32), none, .pick (.r p27) (.c (.bool true)) (.r p31), 0⟩])
  (.cond (.r p32) (.seq (.reg false [⟨(some p6), none, .mov (.c (.bool true)), 0⟩])
  .ret) .skip))
  (.seq (.reg true [⟨(some p33), none, .mov (.r p0), 0⟩, ⟨(some p34), none, .callP 11 [(.r p33)], 0⟩, ⟨(some p35), none, .mov (.r p1), 0⟩, ⟨(some p36), none, .callP 12 [(.r p35)], 0⟩, ⟨(some p37), none, .adr p5, 0⟩, ⟨(some p38), none, .ldR p5 3 (some 3), 0⟩, ⟨(some p39), none, .callP 13 [(.r p38)], 0⟩, ⟨none, none, .alR p9 (.agg [(.int .i64 (0)), (.str []), .nsl]), 0⟩, ⟨(some p7), none, .mov (.r p34), 0⟩, ⟨(some p8), none, .mov (.r p36), 0⟩, ⟨none, none, .stR p9 0 3 (.r p39), 0⟩])
  (.seq (.reg false [⟨(some p40), none, .adr p5, 0⟩, ⟨(some p41), none, .ldR p5 0 (some 3), 0⟩, ⟨(some p42), none, .callP 14 [(.r p41)], 0⟩, ⟨none, none, .alR p10 (.agg [(.bool false), (.bool false), .nsl]), 0⟩, ⟨none, none, .stR p10 0 3 (.r p42), 0⟩])
  (.seq (.seq (.reg false [⟨(some p43), none, .mov (.r p7), 0⟩, ⟨(some p44), none, .mov (.r p8), 0⟩, ⟨(some p45), none, .ldR p10 0 (some 3), 0⟩, ⟨(some p46), none, .ldR p9 0 (some 3), 0⟩, ⟨(some p47), none, .callP 15 [(.r p43), (.r p44), (.r p45), (.r p46)], 0⟩, ⟨(some p48), none, .not (.r p47), 0⟩])
  (.cond (.r p48) (.seq (.reg false [⟨(some p49), none, .callP 16 [], 0⟩, ⟨(some p6), none, .mov (.r p49), 0⟩])
  .ret) .skip))
  (.seq (.seq (.reg false [⟨(some p50), none, .adr p10, 0⟩, ⟨(some p51), none, .ldR p10 2 none, 0⟩, ⟨(some p52), none, .len .sl (.r p51), 0⟩, ⟨(some p53), none, .bin .gtr .other (.r p52) (.c (.int .i64 (0))), 0⟩])
  (.cond (.r p53) (.seq (.reg false [⟨(some p54), none, .buildSl 2 (.agg [(.bool false), (.str [])]) 0 [] false, 0⟩, ⟨(some p55), none, .adr p10, 0⟩, ⟨(some p56), none, .ldR p10 2 none, 0⟩, ⟨(some p57), none, .append 2 24 (.r p54) (.r p56) false, 0⟩, ⟨(some p58), none, .build [(.bool false), (.str [])] [(1, 1, (.c (.str [98, 111, 111, 108])))], 0⟩, ⟨(some p59), none, .build [(.bool false), (.str [])] [(0, 1, (.c (.bool true))), (1, 1, (.c (.str [105, 110, 116])))], 0⟩, ⟨(some p60), none, .buildSl 2 (.agg [(.bool false), (.str [])]) 2 [(0, (.r p58)), (1, (.r p59))] false, 0⟩, ⟨(some p61), none, .append 2 24 (.r p57) (.r p60) false, 0⟩, ⟨(some p62), none, .build [(.bool false), (.bool false), .nsl] [(2, 1, (.r p61))], 0⟩, ⟨none, none, .alR p11 (.agg [(.bool false), (.bool false), .nsl]), 0⟩, ⟨none, none, .stR p11 0 3 (.r p62), 0⟩])
  (.seq (.reg false [⟨(some p63), none, .mov (.r p7), 0⟩, ⟨(some p64), none, .mov (.r p8), 0⟩, ⟨(some p65), none, .ldR p11 0 (some 3), 0⟩, ⟨(some p66), none, .ldR p9 0 (some 3), 0⟩, ⟨(some p67), none, .callP 15 [(.r p63), (.r p64), (.r p65), (.r p66)], 0⟩, ⟨(some p68), none, .not (.r p67), 0⟩])
  (.cond (.r p68) (.seq (.reg false [⟨(some p6), none, .mov (.c (.bool false)), 0⟩])
  .ret) .skip))) .skip))
  (.seq (.reg false [⟨(some p69), none, .mov (.r p7), 0⟩, ⟨(some p70), none, .mov (.r p8), 0⟩, ⟨(some p71), none, .build [(.bool false), (.bool false), .nsl] [(0, 1, (.c (.bool true)))], 0⟩, ⟨(some p72), none, .ldR p9 0 (some 3), 0⟩, ⟨(some p73), none, .callP 15 [(.r p69), (.r p70), (.r p71), (.r p72)], 0⟩, ⟨(some p74), none, .mov (.r p73), 0⟩, ⟨(some p75), (some (p74, true)), .adr p10, 0⟩, ⟨(some p76), (some (p74, true)), .ldR p10 2 none, 0⟩, ⟨(some p77), (some (p74, true)), .len .sl (.r p76), 0⟩, ⟨(some p78), (some (p74, true)), .bin .eql .other (.r p77) (.c (.int .i64 (0))), 0⟩, ⟨(some p79), (some (p74, true)), .mov (.r p78), 0⟩, ⟨(some p80), (some (p79, false)), .mov (.r p7), 0⟩, ⟨(some p81), (some (p79, false)), .mov (.r p8), 0⟩, ⟨(some p82), (some (p79, false)), .build [(.bool false), (.bool false), .nsl] [(1, 1, (.c (.bool true)))], 0⟩, ⟨(some p83), (some (p79, false)), .ldR p9 0 (some 3), 0⟩, ⟨(some p84), (some (p79, false)), .callP 15 [(.r p80), (.r p81), (.r p82), (.r p83)], 0⟩, ⟨(some p85), (some (p74, true)), .pick (.r p79) (.c (.bool true)) (.r p84), 0⟩, ⟨(some p86), none, .pick (.r p74) (.r p85) (.c (.bool false)), 0⟩, ⟨(some p87), none, .mov (.r p86), 0⟩, ⟨(some p88), (some (p87, true)), .callP 16 [], 0⟩, ⟨(some p89), none, .pick (.r p87) (.r p88) (.c (.bool false)), 0⟩, ⟨(some p6), none, .mov (.r p89), 0⟩])
  .ret))))))), [.reg p6]⟩
def fh3 : FH := ⟨[5, 9, 10, 11], [], pu, [.perm [0, 1, 2, 3, 4, 5, 6, 7, 8, 9, 10]]⟩

/-- demotic/demoticlaw11.SetsTilde -/
def cf4 : CF := ⟨3, (.seq (.reg false [⟨none, none, .boxR p4 (.r p1), 0⟩, ⟨(some p6), none, .mov (.c (.bool false)), 0⟩])
  (.seq (.seq (.reg false [⟨(some p11), none, .mov (.r p0), 0⟩, ⟨(some p12), none, .callP 9 [(.r p11)], 0⟩, ⟨(some p13), none, .not (.r p12), 0⟩, ⟨(some p14), none, .mov (.r p13), 0⟩, ⟨(some p15), (some (p14, false)), .ldR p4 0 (some 3), 0⟩, ⟨(some p16), (some (p14, false)), .callP 10 [(.r p15)], 0⟩, ⟨(some p17), (some (p14, false)), .bin .gtr .other (.r p16) (.c (.int .i64 (60))), 0⟩, ⟨(some p18), none, .pick (.r p14) (.c (.bool true)) (.r p17), 0⟩, ⟨(some p19), none, .mov (.r p18), 0⟩, ⟨(some p20), (some (p19, false)), .mov (.r p2), 0⟩, ⟨(some p21), (some (p19, false)), .len .str (.r p20), 0⟩, ⟨(some p22), (some (p19, false)), .bin .gtr .other (.r p21) (.c (.int .i64 (20))), 0⟩, ⟨(some p23), none, .pick (.r p19) (.c (.bool true)) (.r p22), 0⟩])
  (.cond (.r p23) (.seq (.reg false [⟨(some p6), none, .mov (.c (.bool true)), 0⟩])
  .ret) .skip))
  (.seq (.reg true [⟨(some p24), none, .mov (.r p0), 0⟩, ⟨(some p25), none, .callP 11 [(.r p24)], 0⟩, ⟨(some p26), none, .ldR p4 0 (some 3), 0⟩, ⟨(some p27), none, .callP 13 [(.r p26)], 0⟩, ⟨none, none, .alR p8 (.agg [(.int .i64 (0)), (.str []), .nsl]), 0⟩, ⟨(some p7), none, .mov (.r p25), 0⟩, ⟨none, none, .stR p8 0 3 (.r p27), 0⟩])
  (.seq (.reg false [⟨(some p28), none, .mov (.r p7), 0⟩, ⟨(some p29), none, .mov (.r p2), 0⟩, ⟨(some p30), none, .build [(.bool false), (.str [])] [(1, 1, (.r p29))], 0⟩, ⟨(some p31), none, .buildSl 2 (.agg [(.bool false), (.str [])]) 1 [(0, (.r p30))] false, 0⟩, ⟨(some p32), none, .build [(.bool false), (.bool false), .nsl] [(2, 1, (.r p31))], 0⟩, ⟨(some p33), none, .ldR p8 0 (some 3), 0⟩, ⟨(some p34), none, .callP 15 [(.r p28), (.c .nsl), (.r p32), (.r p33)], 0⟩, ⟨(some p9), none, .mov (.r p34), 0⟩])
  (.seq (.reg false [⟨(some p35), none, .mov (.r p7), 0⟩, ⟨(some p36), none, .mov (.r p2), 0⟩, ⟨(some p37), none, .build [(.bool false), (.str [])] [(0, 1, (.c (.bool true))), (1, 1, (.r p36))], 0⟩, ⟨(some p38), none, .buildSl 2 (.agg [(.bool false), (.str [])]) 1 [(0, (.r p37))] false, 0⟩, ⟨(some p39), none, .build [(.bool false), (.bool false), .nsl] [(2, 1, (.r p38))], 0⟩, ⟨(some p40), none, .ldR p8 0 (some 3), 0⟩, ⟨(some p41), none, .callP 15 [(.r p35), (.c .nsl), (.r p39), (.r p40)], 0⟩, ⟨(some p10), none, .mov (.r p41), 0⟩])
  (.seq (.seq (.reg false [⟨(some p42), none, .mov (.r p9), 0⟩, ⟨(some p43), none, .mov (.r p42), 0⟩, ⟨(some p44), (some (p43, true)), .mov (.r p10), 0⟩, ⟨(some p45), (some (p43, true)), .not (.r p44), 0⟩, ⟨(some p46), (some (p43, true)), .mov (.r p45), 0⟩, ⟨(some p47), (some (p46, false)), .adr p4, 0⟩, ⟨(some p48), (some (p46, false)), .ldR p4 0 none, 0⟩, ⟨(some p49), (some (p46, false)), .bin .eql .other (.r p48) (.c (.int .i64 (3))), 0⟩, ⟨(some p50), (some (p46, false)), .mov (.r p49), 0⟩, ⟨(some p51), (some (p50, true)), .mov (.r p0), 0⟩, ⟨(some p52), (some (p50, true)), .adr p4, 0⟩, ⟨(some p53), (some (p50, true)), .ldR p4 1 none, 0⟩, ⟨(some p54), (some (p50, true)), .callP 17 [(.r p51), (.r p53)], 0⟩, ⟨(some p55), (some (p50, true)), .not (.r p54), 0⟩, ⟨(some p56), (some (p46, false)), .pick (.r p50) (.r p55) (.c (.bool false)), 0⟩, ⟨(some p57), (some (p43, true)), .pick (.r p46) (.c (.bool true)) (.r p56), 0⟩, ⟨(some p58), none, .pick (.r p43) (.r p57) (.c (.bool false)), 0⟩])
  (.cond (.r p58) (.seq (.reg false [⟨(some p6), none, .mov (.c (.bool false)), 0⟩])
  .ret) .skip))
  (.seq (.reg false [⟨(some p59), none, .mov (.r p10), 0⟩, ⟨(some p60), none, .not (.r p59), 0⟩, ⟨(some p61), none, .mov (.r p60), 0⟩, ⟨(some p62), (some (p61, false)), .adr p4, 0⟩, ⟨(some p63), (some (p61, false)), .ldR p4 0 none, 0⟩, ⟨(some p64), (some (p61, false)), .bin .neq .other (.r p63) (.c (.int .i64 (5))), 0⟩, ⟨(some p65), (some (p61, false)), .mov (.r p64), 0⟩, ⟨(some p66), (some (p65, true)), .adr p4, 0⟩, ⟨(some p67), (some (p65, true)), .ldR p4 0 none, 0⟩, ⟨(some p68), (some (p65, true)), .bin .neq .other (.r p67) (.c (.int .i64 (6))), 0⟩, ⟨(some p69), (some (p61, false)), .pick (.r p65) (.r p68) (.c (.bool false)), 0⟩, ⟨(some p70), (some (p61, false)), .mov (.r p69), 0⟩, ⟨(some p71), (some (p70, true)), .adr p4, 0⟩, ⟨(some p72), (some (p70, true)), .ldR p4 0 none, 0⟩, ⟨(some p73), (some (p70, true)), .bin .neq .other (.r p72) (.c (.int .i64 (2))), 0⟩, ⟨(some p74), (some (p61, false)), .pick (.r p70) (.r p73) (.c (.bool false)), 0⟩, ⟨(some p75), none, .pick (.r p61) (.c (.bool true)) (.r p74), 0⟩, ⟨(some p76), none, .mov (.r p75), 0⟩, ⟨(some p77), (some (p76, true)), .callP 16 [], 0⟩, ⟨(some p78), none, .pick (.r p76) (.r p77) (.c (.bool false)), 0⟩, ⟨(some p6), none, .mov (.r p78), 0⟩])
  .ret))))))), [.reg p6]⟩
def fh4 : FH := ⟨[4, 8], [], pu, [.perm [0, 1, 2, 3, 4, 5, 6]]⟩

/-- demotic/demoticlaw11.SetsNames -/
def cf5 : CF := ⟨2, (.seq (.reg false [⟨none, none, .boxR p2 (.r p0), 0⟩, ⟨(some p4), none, .mov (.c (.bool false)), 0⟩])
  (.seq (.seq (.reg false [⟨(some p10), none, .adr p2, 0⟩, ⟨(some p11), none, .adr p2, 0⟩, ⟨(some p12), none, .ldR p2 2 none, 0⟩, ⟨(some p13), none, .len .sl (.r p12), 0⟩, ⟨(some p14), none, .bin .gtr .other (.r p13) (.c (.int .i64 (20))), 0⟩, ⟨(some p15), none, .mov (.r p14), 0⟩, ⟨(some p16), (some (p15, false)), .adr p2, 0⟩, ⟨(some p17), (some (p15, false)), .ldR p2 6 none, 0⟩, ⟨(some p18), (some (p15, false)), .len .sl (.r p17), 0⟩, ⟨(some p19), (some (p15, false)), .bin .gtr .other (.r p18) (.c (.int .i64 (20))), 0⟩, ⟨(some p20), none, .pick (.r p15) (.c (.bool true)) (.r p19), 0⟩])
  (.cond (.r p20) (.seq (.reg false [⟨(some p4), none, .mov (.c (.bool true)), 0⟩])
  .ret) .skip))
  (.seq (.reg false [⟨(some p21), none, .adr p2, 0⟩, ⟨(some p22), none, .ldR p2 0 (some 3), 0⟩, ⟨(some p23), none, .callP 14 [(.r p22)], 0⟩, ⟨none, none, .alR p5 (.agg [(.bool false), (.bool false), .nsl]), 0⟩, ⟨none, none, .stR p5 0 3 (.r p23), 0⟩])
  (.seq (.seq (.reg false [⟨(some p24), none, .ldR p5 0 (some 3), 0⟩, ⟨(some p25), none, .adr p2, 0⟩, ⟨(some p26), none, .ldR p2 6 none, 0⟩, ⟨(some p27), none, .callP 18 [(.r p24), (.r p26)], 0⟩, ⟨(some p28), none, .not (.r p27), 0⟩])
  (.cond (.r p28) (.seq (.reg false [⟨(some p29), none, .callP 16 [], 0⟩, ⟨(some p4), none, .mov (.r p29), 0⟩])
  .ret) .skip))
  (.seq (.reg false [⟨(some p30), none, .build [(.str []), (.str []), (.str [])] [(0, 1, (.c (.str [105, 110, 116]))), (1, 1, (.c (.str [115, 116, 114, 105, 110, 103]))), (2, 1, (.c (.str [98, 111, 111, 108])))], 0⟩, ⟨(some p6), none, .al [(.str []), (.str []), (.str [])], 0⟩, ⟨none, none, .st 3 (.r p6) (.r p30), 0⟩])
  (.seq (.seq (.reg false [⟨(some p7), none, .mov (.c (.int .i64 (0))), 0⟩])
  (.block 0 (.loop [p1, p2, p5, p6, p7] (.seq (.seq (.reg false [⟨(some p31), none, .mov (.r p7), 0⟩, ⟨(some p32), none, .bin .lss .other (.r p31) (.c (.int .i64 (3))), 0⟩])
  (.cond (.r p32) .skip (.exit 0)))
  (.seq (.block 1 (.seq (.reg false [⟨(some p8), none, .mov (.c (.bool false)), 0⟩])
  (.seq (.seq (.reg false [⟨(some p9), none, .mov (.c (.int .i64 (0))), 0⟩])
  (.block 2 (.loop [p1, p2, p5, p6, p7, p8, p9] (.seq (.seq (.reg false [⟨(some p35), none, .mov (.r p9), 0⟩, ⟨(some p36), none, .adr p2, 0⟩, ⟨(some p37), none, .ldR p2 6 none, 0⟩, ⟨(some p38), none, .len .sl (.r p37), 0⟩, ⟨(some p39), none, .bin .lss .other (.r p35) (.r p38), 0⟩])
  (.cond (.r p39) .skip (.exit 2)))
  (.seq (.block 3 (.reg true [⟨(some p42), none, .mov (.r p8), 0⟩, ⟨(some p43), none, .mov (.r p42), 0⟩, ⟨(some p44), (some (p43, false)), .adr p2, 0⟩, ⟨(some p45), (some (p43, false)), .ldR p2 6 none, 0⟩, ⟨(some p46), (some (p43, false)), .mov (.r p9), 0⟩, ⟨(some p47), (some (p43, false)), .indexAddr 1 (.r p45) (.r p46), 0⟩, ⟨(some p48), (some (p43, false)), .ld none (.r p47), 0⟩, ⟨(some p49), (some (p43, false)), .mov (.r p7), 0⟩, ⟨(some p50), (some (p43, false)), .indexArr 1 3 (.r p6) (.r p49), 0⟩, ⟨(some p51), (some (p43, false)), .ld none (.r p50), 0⟩, ⟨(some p52), (some (p43, false)), .bin .eql .str (.r p48) (.r p51), 0⟩, ⟨(some p53), none, .pick (.r p43) (.c (.bool true)) (.r p52), 0⟩, ⟨(some p8), none, .mov (.r p53), 0⟩]))
  (.reg false [⟨(some p40), none, .mov (.r p9), 0⟩, ⟨(some p41), none, .bin .add .other (.r p40) (.c (.int .i64 (1))), 0⟩, ⟨(some p9), none, .mov (.r p41), 0⟩]))))))
  (.seq (.reg true [⟨(some p54), none, .adr p5, 0⟩, ⟨(some p55), none, .ldR p5 2 none, 0⟩, ⟨(some p56), none, .len .sl (.r p55), 0⟩, ⟨(some p57), none, .bin .gtr .other (.r p56) (.c (.int .i64 (0))), 0⟩, ⟨(some p58), none, .mov (.r p57), 0⟩, ⟨(some p59), (some (p58, true)), .adr p5, 0⟩, ⟨(some p60), (some (p58, true)), .ldR p5 0 none, 0⟩, ⟨(some p61), (some (p58, true)), .not (.r p60), 0⟩, ⟨(some p62), none, .pick (.r p58) (.r p61) (.c (.bool false)), 0⟩, ⟨(some p63), none, .mov (.r p62), 0⟩, ⟨(some p64), (some (p63, true)), .adr p5, 0⟩, ⟨(some p65), (some (p63, true)), .ldR p5 1 none, 0⟩, ⟨(some p66), (some (p63, true)), .not (.r p65), 0⟩, ⟨(some p67), none, .pick (.r p63) (.r p66) (.c (.bool false)), 0⟩, ⟨(some p68), none, .mov (.r p67), 0⟩, ⟨(some p69), (some (p68, true)), .ldR p5 0 (some 3), 0⟩, ⟨(some p70), (some (p68, true)), .mov (.r p7), 0⟩, ⟨(some p71), (some (p68, true)), .indexArr 1 3 (.r p6) (.r p70), 0⟩, ⟨(some p72), (some (p68, true)), .ld none (.r p71), 0⟩, ⟨(some p73), (some (p68, true)), .build [(.int .i64 (0)), (.str []), .nsl] [(0, 1, (.c (.int .i64 (1)))), (1, 1, (.r p72))], 0⟩, ⟨(some p74), (some (p68, true)), .callP 15 [(.c .nsl), (.c .nsl), (.r p69), (.r p73)], 0⟩, ⟨(some p75), none, .pick (.r p68) (.r p74) (.c (.bool false)), 0⟩, ⟨(some p76), none, .mov (.r p75), 0⟩, ⟨(some p77), (some (p76, true)), .mov (.r p8), 0⟩, ⟨(some p78), (some (p76, true)), .not (.r p77), 0⟩, ⟨(some p79), none, .pick (.r p76) (.r p78) (.c (.bool false)), 0⟩])
  (.cond (.r p79) (.seq (.reg false [⟨(some p4), none, .mov (.c (.bool false)), 0⟩])
  .ret) .skip)))))
  (.reg false [⟨(some p33), none, .mov (.r p7), 0⟩, ⟨(some p34), none, .bin .add .other (.r p33) (.c (.int .i64 (1))), 0⟩, ⟨(some p7), none, .mov (.r p34), 0⟩]))))))
  (.seq (.reg true [⟨(some p80), none, .ldR p5 0 (some 3), 0⟩, ⟨(some p81), none, .buildSl 1 (.str []) 0 [] false, 0⟩, ⟨(some p82), none, .adr p2, 0⟩, ⟨(some p83), none, .ldR p2 6 none, 0⟩, ⟨(some p85), none, .mov (.r p1), 0⟩, ⟨(some p86), none, .buildSl 1 (.str []) 1 [(0, (.r p85))] false, 0⟩, ⟨(some p84), none, .append 1 16 (.r p81) (.r p83) false, 0⟩, ⟨(some p87), none, .append 1 16 (.r p84) (.r p86) false, 0⟩, ⟨(some p88), none, .callP 18 [(.r p80), (.r p87)], 0⟩, ⟨(some p89), none, .mov (.r p88), 0⟩, ⟨(some p90), (some (p89, true)), .callP 16 [], 0⟩, ⟨(some p91), none, .pick (.r p89) (.r p90) (.c (.bool false)), 0⟩, ⟨(some p4), none, .mov (.r p91), 0⟩])
  .ret))))))), [.reg p4]⟩
def fh5 : FH := ⟨[2, 5], [], pu, [.live [1, 2, 5, 6, 7], .live [1, 2, 5, 6, 7, 8, 9], .perm [0, 1, 2, 3, 4, 5, 6, 7, 8, 9, 10, 11, 12], .perm [0, 1, 2, 3, 4, 5, 6, 7, 8, 9, 10, 11, 12, 13, 14, 15, 16, 17, 18, 19, 20, 21, 22, 23, 24, 25], .perm [0, 1, 2, 3, 5, 6, 4, 7, 8, 9, 10, 11, 12]]⟩

/-- demotic/demoticlaw11.SetsOf -/
def cf6 : CF := ⟨3, (.seq (.reg false [⟨none, none, .boxR p3 (.r p0), 0⟩, ⟨(some p6), none, .mov (.c (.bool false)), 0⟩])
  (.seq (.seq (.reg false [⟨(some p15), none, .ldR p3 0 (some 4), 0⟩, ⟨(some p16), none, .callP 19 [(.r p15), (.c (.int .i64 (1000)))], 0⟩, ⟨(some p17), none, .bin .gtr .other (.r p16) (.c (.int .i64 (200))), 0⟩, ⟨(some p18), none, .mov (.r p17), 0⟩, ⟨(some p19), (some (p18, false)), .mov (.r p1), 0⟩, ⟨(some p20), (some (p18, false)), .len .sl (.r p19), 0⟩, ⟨(some p21), (some (p18, false)), .bin .gtr .other (.r p20) (.c (.int .i64 (20))), 0⟩, ⟨(some p22), none, .pick (.r p18) (.c (.bool true)) (.r p21), 0⟩])
  (.cond (.r p22) (.seq (.reg false [⟨(some p6), none, .mov (.c (.bool true)), 0⟩])
  .ret) .skip))
  (.seq (.reg true [⟨(some p24), none, .ldR p3 0 (some 4), 0⟩, ⟨(some p25), none, .mov (.r p1), 0⟩, ⟨(some p26), none, .callP 12 [(.r p25)], 0⟩, ⟨(some p27), none, .callP 20 [(.r p24), (.r p26)], 0⟩, ⟨(some p23), none, .mov (.r p27), 0⟩, ⟨(some p28), none, .extract (.r p23) 0, 0⟩, ⟨(some p29), none, .extract (.r p23) 1, 0⟩, ⟨none, none, .alR p7 (.agg [(.bool false), (.bool false), .nsl]), 0⟩, ⟨none, none, .stR p7 0 3 (.r p28), 0⟩, ⟨(some p8), none, .mov (.r p29), 0⟩])
  (.seq (.reg false [⟨(some p31), none, .ldR p3 0 (some 4), 0⟩, ⟨(some p32), none, .mov (.r p1), 0⟩, ⟨(some p33), none, .callP 21 [(.r p31), (.r p32)], 0⟩, ⟨(some p30), none, .mov (.r p33), 0⟩, ⟨(some p34), none, .extract (.r p30) 0, 0⟩, ⟨(some p35), none, .extract (.r p30) 1, 0⟩, ⟨none, none, .alR p9 (.agg [(.bool false), (.bool false), .nsl]), 0⟩, ⟨none, none, .stR p9 0 3 (.r p34), 0⟩, ⟨(some p10), none, .mov (.r p35), 0⟩])
  (.seq (.reg false [⟨(some p37), none, .mov (.r p1), 0⟩, ⟨(some p38), none, .callP 12 [(.r p37)], 0⟩, ⟨(some p39), none, .mov (.r p2), 0⟩, ⟨(some p40), none, .callP 22 [(.r p38), (.r p39)], 0⟩, ⟨(some p36), none, .mov (.r p40), 0⟩, ⟨(some p41), none, .extract (.r p36) 0, 0⟩, ⟨(some p42), none, .extract (.r p36) 1, 0⟩, ⟨none, none, .alR p11 (.agg [(.bool false), (.bool false), .nsl]), 0⟩, ⟨none, none, .stR p11 0 3 (.r p41), 0⟩, ⟨(some p12), none, .mov (.r p42), 0⟩])
  (.seq (.reg false [⟨(some p44), none, .mov (.r p1), 0⟩, ⟨(some p45), none, .mov (.r p2), 0⟩, ⟨(some p46), none, .callP 23 [(.r p44), (.r p45)], 0⟩, ⟨(some p43), none, .mov (.r p46), 0⟩, ⟨(some p47), none, .extract (.r p43) 0, 0⟩, ⟨(some p48), none, .extract (.r p43) 1, 0⟩, ⟨none, none, .alR p13 (.agg [(.bool false), (.bool false), .nsl]), 0⟩, ⟨none, none, .stR p13 0 3 (.r p47), 0⟩, ⟨(some p14), none, .mov (.r p48), 0⟩])
  (.seq (.reg false [⟨(some p49), none, .ldR p7 0 (some 3), 0⟩, ⟨(some p50), none, .ldR p9 0 (some 3), 0⟩, ⟨(some p51), none, .callP 24 [(.r p49), (.r p50)], 0⟩, ⟨(some p52), none, .mov (.r p51), 0⟩, ⟨(some p53), (some (p52, true)), .mov (.r p8), 0⟩, ⟨(some p54), (some (p52, true)), .mov (.r p10), 0⟩, ⟨(some p55), (some (p52, true)), .bin .eql .bool (.r p53) (.r p54), 0⟩, ⟨(some p56), none, .pick (.r p52) (.r p55) (.c (.bool false)), 0⟩, ⟨(some p57), none, .mov (.r p56), 0⟩, ⟨(some p58), (some (p57, true)), .ldR p11 0 (some 3), 0⟩, ⟨(some p59), (some (p57, true)), .ldR p13 0 (some 3), 0⟩, ⟨(some p60), (some (p57, true)), .callP 24 [(.r p58), (.r p59)], 0⟩, ⟨(some p61), none, .pick (.r p57) (.r p60) (.c (.bool false)), 0⟩, ⟨(some p62), none, .mov (.r p61), 0⟩, ⟨(some p63), (some (p62, true)), .mov (.r p12), 0⟩, ⟨(some p64), (some (p62, true)), .mov (.r p14), 0⟩, ⟨(some p65), (some (p62, true)), .bin .eql .bool (.r p63) (.r p64), 0⟩, ⟨(some p66), none, .pick (.r p62) (.r p65) (.c (.bool false)), 0⟩, ⟨(some p67), none, .mov (.r p66), 0⟩, ⟨(some p68), (some (p67, true)), .callP 16 [], 0⟩, ⟨(some p69), none, .pick (.r p67) (.r p68) (.c (.bool false)), 0⟩, ⟨(some p6), none, .mov (.r p69), 0⟩])
  .ret))))))), [.reg p6]⟩
def fh6 : FH := ⟨[3, 7, 9, 11, 13], [], pu, [.perm [0, 1, 2, 3, 4, 5, 6, 7, 8, 9]]⟩

/-- demotic/demoticlaw12.UnifyMore -/
def cf7 : CF := ⟨2, (.seq (.reg false [⟨none, none, .boxR p3 (.r p1), 0⟩, ⟨(some p4), none, .mov (.c (.bool false)), 0⟩])
  (.seq (.seq (.reg false [⟨(some p15), none, .mov (.r p0), 0⟩, ⟨(some p16), none, .callP 25 [(.r p15)], 0⟩, ⟨(some p17), none, .not (.r p16), 0⟩, ⟨(some p18), none, .mov (.r p17), 0⟩, ⟨(some p19), (some (p18, false)), .adr p3, 0⟩, ⟨(some p20), (some (p18, false)), .ldR p3 0 none, 0⟩, ⟨(some p21), (some (p18, false)), .len .sl (.r p20), 0⟩, ⟨(some p22), (some (p18, false)), .bin .gtr .other (.r p21) (.c (.int .i64 (10))), 0⟩, ⟨(some p23), none, .pick (.r p18) (.c (.bool true)) (.r p22), 0⟩, ⟨(some p24), none, .mov (.r p23), 0⟩, ⟨(some p25), (some (p24, false)), .adr p3, 0⟩, ⟨(some p26), (some (p24, false)), .ldR p3 1 none, 0⟩, ⟨(some p27), (some (p24, false)), .callP 26 [(.r p26)], 0⟩, ⟨(some p28), (some (p24, false)), .not (.r p27), 0⟩, ⟨(some p29), none, .pick (.r p24) (.c (.bool true)) (.r p28), 0⟩, ⟨(some p30), none, .mov (.r p29), 0⟩, ⟨(some p31), (some (p30, false)), .adr p3, 0⟩, ⟨(some p32), (some (p30, false)), .ldR p3 2 none, 0⟩, ⟨(some p33), (some (p30, false)), .callP 26 [(.r p32)], 0⟩, ⟨(some p34), (some (p30, false)), .not (.r p33), 0⟩, ⟨(some p35), none, .pick (.r p30) (.c (.bool true)) (.r p34), 0⟩])
  (.cond (.r p35) (.seq (.reg false [⟨(some p4), none, .mov (.c (.bool true)), 0⟩])
  .ret) .skip))
  (.seq (.reg false [⟨(some p36), none, .mov (.r p0), 0⟩, ⟨(some p37), none, .callP 27 [(.r p36)], 0⟩, ⟨(some p5), none, .mov (.r p37), 0⟩])
  (.seq (.reg false [⟨(some p38), none, .build [(.int .i64 (0)), (.str []), .nsl] [(0, 1, (.c (.int .i64 (1)))), (1, 1, (.c (.str [105, 110, 116])))], 0⟩, ⟨(some p39), none, .build [(.int .i64 (0)), (.str []), .nsl] [(0, 1, (.c (.int .i64 (1)))), (1, 1, (.c (.str [115, 116, 114, 105, 110, 103])))], 0⟩, ⟨none, none, .alR p6 (.agg [(.int .i64 (0)), (.str []), .nsl]), 0⟩, ⟨none, none, .alR p7 (.agg [(.int .i64 (0)), (.str []), .nsl]), 0⟩, ⟨none, none, .stR p6 0 3 (.r p38), 0⟩, ⟨none, none, .stR p7 0 3 (.r p39), 0⟩])
  (.seq (.reg true [⟨(some p41), none, .mov (.r p5), 0⟩, ⟨(some p42), none, .adr p3, 0⟩, ⟨(some p43), none, .ldR p3 0 none, 0⟩, ⟨(some p44), none, .adr p3, 0⟩, ⟨(some p45), none, .ldR p3 1 none, 0⟩, ⟨(some p47), none, .adr p3, 0⟩, ⟨(some p48), none, .ldR p3 2 none, 0⟩, ⟨(some p46), none, .callF 29 [(.r p45)], 0⟩, ⟨(some p49), none, .callF 29 [(.r p48)], 0⟩, ⟨(some p50), none, .callP 28 [(.r p41), (.r p43), (.r p46), (.r p49)], 0⟩, ⟨(some p40), none, .mov (.r p50), 0⟩, ⟨(some p51), none, .extract (.r p40) 0, 0⟩, ⟨(some p52), none, .extract (.r p40) 1, 0⟩, ⟨(some p8), none, .mov (.r p51), 0⟩, ⟨(some p9), none, .mov (.r p52), 0⟩])
  (.seq (.seq (.reg false [⟨(some p53), none, .adr p3, 0⟩, ⟨(some p54), none, .ldR p3 1 none, 0⟩, ⟨(some p55), none, .len .sl (.r p54), 0⟩, ⟨(some p56), none, .adr p3, 0⟩, ⟨(some p57), none, .ldR p3 2 none, 0⟩, ⟨(some p58), none, .len .sl (.r p57), 0⟩, ⟨(some p59), none, .bin .neq .other (.r p55) (.r p58), 0⟩])
  (.cond (.r p59) (.seq (.reg false [⟨(some p60), none, .mov (.r p9), 0⟩, ⟨(some p61), none, .not (.r p60), 0⟩, ⟨(some p62), none, .mov (.r p61), 0⟩, ⟨(some p63), (some (p62, true)), .callP 30 [], 0⟩, ⟨(some p64), none, .pick (.r p62) (.r p63) (.c (.bool false)), 0⟩, ⟨(some p4), none, .mov (.r p64), 0⟩])
  .ret) .skip))
  (.seq (.reg true [⟨(some p66), none, .mov (.r p5), 0⟩, ⟨(some p67), none, .adr p3, 0⟩, ⟨(some p68), none, .ldR p3 0 none, 0⟩, ⟨(some p69), none, .adr p3, 0⟩, ⟨(some p70), none, .ldR p3 1 none, 0⟩, ⟨(some p72), none, .ldR p6 0 (some 3), 0⟩, ⟨(some p73), none, .buildSl 3 (.agg [(.int .i64 (0)), (.str []), .nsl]) 1 [(0, (.r p72))] false, 0⟩, ⟨(some p75), none, .adr p3, 0⟩, ⟨(some p76), none, .ldR p3 2 none, 0⟩, ⟨(some p78), none, .ldR p6 0 (some 3), 0⟩, ⟨(some p79), none, .buildSl 3 (.agg [(.int .i64 (0)), (.str []), .nsl]) 1 [(0, (.r p78))] false, 0⟩, ⟨(some p71), none, .callF 29 [(.r p70)], 0⟩, ⟨(some p74), none, .append 3 48 (.r p71) (.r p73) false, 0⟩, ⟨(some p77), none, .callF 29 [(.r p76)], 0⟩, ⟨(some p80), none, .append 3 48 (.r p77) (.r p79) false, 0⟩, ⟨(some p81), none, .callP 28 [(.r p66), (.r p68), (.r p74), (.r p80)], 0⟩, ⟨(some p65), none, .mov (.r p81), 0⟩, ⟨(some p82), none, .extract (.r p65) 0, 0⟩, ⟨(some p83), none, .extract (.r p65) 1, 0⟩, ⟨(some p10), none, .mov (.r p82), 0⟩, ⟨(some p11), none, .mov (.r p83), 0⟩])
  (.seq (.reg true [⟨(some p85), none, .mov (.r p5), 0⟩, ⟨(some p86), none, .adr p3, 0⟩, ⟨(some p87), none, .ldR p3 0 none, 0⟩, ⟨(some p88), none, .adr p3, 0⟩, ⟨(some p89), none, .ldR p3 1 none, 0⟩, ⟨(some p91), none, .ldR p6 0 (some 3), 0⟩, ⟨(some p92), none, .buildSl 3 (.agg [(.int .i64 (0)), (.str []), .nsl]) 1 [(0, (.r p91))] false, 0⟩, ⟨(some p94), none, .adr p3, 0⟩, ⟨(some p95), none, .ldR p3 2 none, 0⟩, ⟨(some p97), none, .ldR p7 0 (some 3), 0⟩, ⟨(some p98), none, .buildSl 3 (.agg [(.int .i64 (0)), (.str []), .nsl]) 1 [(0, (.r p97))] false, 0⟩, ⟨(some p90), none, .callF 29 [(.r p89)], 0⟩, ⟨(some p93), none, .append 3 48 (.r p90) (.r p92) false, 0⟩, ⟨(some p96), none, .callF 29 [(.r p95)], 0⟩, ⟨(some p99), none, .append 3 48 (.r p96) (.r p98) false, 0⟩, ⟨(some p100), none, .callP 28 [(.r p85), (.r p87), (.r p93), (.r p99)], 0⟩, ⟨(some p84), none, .mov (.r p100), 0⟩, ⟨(some p101), none, .extract (.r p84) 0, 0⟩, ⟨(some p102), none, .extract (.r p84) 1, 0⟩, ⟨(some p12), none, .mov (.r p101), 0⟩, ⟨(some p13), none, .mov (.r p102), 0⟩])
  (.seq (.seq (.reg false [⟨(some p103), none, .mov (.r p9), 0⟩, ⟨(some p104), none, .mov (.r p11), 0⟩, ⟨(some p105), none, .bin .neq .bool (.r p103) (.r p104), 0⟩, ⟨(some p106), none, .mov (.r p105), 0⟩, ⟨(some p107), (some (p106, false)), .mov (.r p13), 0⟩, ⟨(some p108), none, .pick (.r p106) (.c (.bool true)) (.r p107), 0⟩, ⟨(some p109), none, .mov (.r p108), 0⟩, ⟨(some p110), (some (p109, false)), .mov (.r p8), 0⟩, ⟨(some p111), (some (p109, false)), .len .sl (.r p110), 0⟩, ⟨(some p112), (some (p109, false)), .mov (.r p10), 0⟩, ⟨(some p113), (some (p109, false)), .len .sl (.r p112), 0⟩, ⟨(some p114), (some (p109, false)), .bin .neq .other (.r p111) (.r p113), 0⟩, ⟨(some p115), none, .pick (.r p109) (.c (.bool true)) (.r p114), 0⟩])
  (.cond (.r p115) (.seq (.reg false [⟨(some p4), none, .mov (.c (.bool false)), 0⟩])
  .ret) .skip))
  (.seq (.seq (.reg false [⟨(some p14), none, .mov (.c (.int .i64 (0))), 0⟩])
  (.block 0 (.loop [p8, p10, p14] (.seq (.seq (.reg false [⟨(some p116), none, .mov (.r p14), 0⟩, ⟨(some p117), none, .mov (.r p8), 0⟩, ⟨(some p118), none, .len .sl (.r p117), 0⟩, ⟨(some p119), none, .bin .lss .other (.r p116) (.r p118), 0⟩])
  (.cond (.r p119) .skip (.exit 0)))
  (.seq (.block 1 (.seq (.reg true [⟨(some p122), none, .mov (.r p8), 0⟩, ⟨(some p123), none, .mov (.r p14), 0⟩, ⟨(some p124), none, .indexAddr 3 (.r p122) (.r p123), 0⟩, ⟨(some p125), none, .ld (some 3) (.r p124), 0⟩, ⟨(some p126), none, .mov (.r p10), 0⟩, ⟨(some p127), none, .mov (.r p14), 0⟩, ⟨(some p128), none, .indexAddr 3 (.r p126) (.r p127), 0⟩, ⟨(some p129), none, .ld (some 3) (.r p128), 0⟩, ⟨(some p130), none, .callP 31 [(.r p125), (.r p129)], 0⟩, ⟨(some p131), none, .not (.r p130), 0⟩])
  (.cond (.r p131) (.seq (.reg false [⟨(some p4), none, .mov (.c (.bool false)), 0⟩])
  .ret) .skip)))
  (.reg false [⟨(some p120), none, .mov (.r p14), 0⟩, ⟨(some p121), none, .bin .add .other (.r p120) (.c (.int .i64 (1))), 0⟩, ⟨(some p14), none, .mov (.r p121), 0⟩]))))))
  (.seq (.reg false [⟨(some p132), none, .callP 30 [], 0⟩, ⟨(some p4), none, .mov (.r p132), 0⟩])
  .ret))))))))))), [.reg p4]⟩
def fh7 : FH := ⟨[3, 6, 7], [], pu, [.perm [0, 1, 2, 3, 4, 6, 7, 5, 8, 9, 10, 11, 12, 13, 14], .perm [0, 1, 2, 3, 4, 6, 7, 9, 10, 12, 13, 5, 8, 11, 14, 15, 16, 17, 18, 19, 20], .perm [0, 1, 2, 3, 4, 6, 7, 9, 10, 12, 13, 5, 8, 11, 14, 15, 16, 17, 18, 19, 20], .live [8, 10, 14], .perm [0, 1, 2, 3, 4, 5, 6, 7, 8, 9]]⟩

/-- demotic/demoticlaw12.UnifyNone -/
def cf8 : CF := ⟨2, (.seq (.reg false [⟨(some p4), none, .mov (.c (.bool false)), 0⟩])
  (.seq (.seq (.reg false [⟨(some p12), none, .mov (.r p0), 0⟩, ⟨(some p13), none, .len .sl (.r p12), 0⟩, ⟨(some p14), none, .bin .gtr .other (.r p13) (.c (.int .i64 (10))), 0⟩])
  (.cond (.r p14) (.seq (.reg false [⟨(some p4), none, .mov (.c (.bool true)), 0⟩])
  .ret) .skip))
  (.seq (.reg false [⟨(some p16), none, .mov (.r p0), 0⟩, ⟨(some p17), none, .callP 28 [(.c .nsl), (.r p16), (.c .nsl), (.c .nsl)], 0⟩, ⟨(some p15), none, .mov (.r p17), 0⟩, ⟨(some p18), none, .extract (.r p15) 0, 0⟩, ⟨(some p19), none, .extract (.r p15) 1, 0⟩, ⟨(some p5), none, .mov (.r p18), 0⟩, ⟨(some p6), none, .mov (.r p19), 0⟩])
  (.seq (.seq (.reg false [⟨(some p20), none, .mov (.r p5), 0⟩, ⟨(some p21), none, .len .sl (.r p20), 0⟩, ⟨(some p22), none, .bin .neq .other (.r p21) (.c (.int .i64 (0))), 0⟩, ⟨(some p23), none, .mov (.r p22), 0⟩, ⟨(some p24), (some (p23, true)), .mov (.r p6), 0⟩, ⟨(some p25), (some (p23, true)), .not (.r p24), 0⟩, ⟨(some p26), none, .pick (.r p23) (.r p25) (.c (.bool false)), 0⟩, ⟨(some p27), none, .mov (.r p26), 0⟩, ⟨(some p28), (some (p27, false)), .mov (.r p6), 0⟩, ⟨(some p29), (some (p27, false)), .mov (.r p0), 0⟩, ⟨(some p30), (some (p27, false)), .len .sl (.r p29), 0⟩, ⟨(some p31), (some (p27, false)), .bin .eql .other (.r p30) (.c (.int .i64 (0))), 0⟩, ⟨(some p32), (some (p27, false)), .bin .neq .bool (.r p28) (.r p31), 0⟩, ⟨(some p33), none, .pick (.r p27) (.c (.bool true)) (.r p32), 0⟩])
  (.cond (.r p33) (.seq (.reg false [⟨(some p4), none, .mov (.c (.bool false)), 0⟩])
  .ret) .skip))
  (.seq (.reg false [⟨(some p34), none, .build [(.int .i64 (0)), (.str []), .nsl] [(0, 1, (.c (.int .i64 (1)))), (1, 1, (.c (.str [105, 110, 116])))], 0⟩, ⟨none, none, .alR p7 (.agg [(.int .i64 (0)), (.str []), .nsl]), 0⟩, ⟨none, none, .stR p7 0 3 (.r p34), 0⟩])
  (.seq (.reg false [⟨(some p36), none, .mov (.r p1), 0⟩, ⟨(some p37), none, .buildSl 1 (.str []) 1 [(0, (.r p36))] false, 0⟩, ⟨(some p38), none, .mov (.r p1), 0⟩, ⟨(some p39), none, .build [(.int .i64 (0)), (.str []), .nsl] [(0, 1, (.c (.int .i64 (4)))), (1, 1, (.r p38))], 0⟩, ⟨(some p40), none, .buildSl 3 (.agg [(.int .i64 (0)), (.str []), .nsl]) 1 [(0, (.r p39))] false, 0⟩, ⟨(some p41), none, .ldR p7 0 (some 3), 0⟩, ⟨(some p42), none, .buildSl 3 (.agg [(.int .i64 (0)), (.str []), .nsl]) 1 [(0, (.r p41))] false, 0⟩, ⟨(some p43), none, .callP 28 [(.c .nsl), (.r p37), (.r p40), (.r p42)], 0⟩, ⟨(some p35), none, .mov (.r p43), 0⟩, ⟨(some p44), none, .extract (.r p35) 0, 0⟩, ⟨(some p45), none, .extract (.r p35) 1, 0⟩, ⟨(some p8), none, .mov (.r p44), 0⟩, ⟨(some p9), none, .mov (.r p45), 0⟩])
  (.seq (.reg false [⟨(some p47), none, .mov (.r p1), 0⟩, ⟨(some p48), none, .mov (.r p1), 0⟩, ⟨(some p49), none, .bin .add .str (.r p48) (.c (.str [120])), 0⟩, ⟨(some p50), none, .buildSl 1 (.str []) 2 [(0, (.r p47)), (1, (.r p49))] false, 0⟩, ⟨(some p51), none, .mov (.r p1), 0⟩, ⟨(some p52), none, .build [(.int .i64 (0)), (.str []), .nsl] [(0, 1, (.c (.int .i64 (4)))), (1, 1, (.r p51))], 0⟩, ⟨(some p53), none, .buildSl 3 (.agg [(.int .i64 (0)), (.str []), .nsl]) 1 [(0, (.r p52))] false, 0⟩, ⟨(some p54), none, .ldR p7 0 (some 3), 0⟩, ⟨(some p55), none, .buildSl 3 (.agg [(.int .i64 (0)), (.str []), .nsl]) 1 [(0, (.r p54))] false, 0⟩, ⟨(some p56), none, .callP 28 [(.c .nsl), (.r p50), (.r p53), (.r p55)], 0⟩, ⟨(some p46), none, .mov (.r p56), 0⟩, ⟨(some p57), none, .extract (.r p46) 0, 0⟩, ⟨(some p58), none, .extract (.r p46) 1, 0⟩, ⟨(some p10), none, .mov (.r p57), 0⟩, ⟨(some p11), none, .mov (.r p58), 0⟩])
  (.seq (.reg true [⟨(some p59), none, .mov (.r p9), 0⟩, ⟨(some p60), none, .mov (.r p59), 0⟩, ⟨(some p61), (some (p60, true)), .mov (.r p8), 0⟩, ⟨(some p62), (some (p60, true)), .len .sl (.r p61), 0⟩, ⟨(some p63), (some (p60, true)), .bin .eql .other (.r p62) (.c (.int .i64 (1))), 0⟩, ⟨(some p64), none, .pick (.r p60) (.r p63) (.c (.bool false)), 0⟩, ⟨(some p65), none, .mov (.r p64), 0⟩, ⟨(some p66), (some (p65, true)), .mov (.r p8), 0⟩, ⟨(some p67), (some (p65, true)), .indexAddr 3 (.r p66) (.c (.int .i64 (0))), 0⟩, ⟨(some p68), (some (p65, true)), .ld (some 3) (.r p67), 0⟩, ⟨(some p69), (some (p65, true)), .ldR p7 0 (some 3), 0⟩, ⟨(some p70), (some (p65, true)), .callP 32 [(.r p68), (.r p69)], 0⟩, ⟨(some p71), none, .pick (.r p65) (.r p70) (.c (.bool false)), 0⟩, ⟨(some p72), none, .mov (.r p71), 0⟩, ⟨(some p73), (some (p72, true)), .mov (.r p11), 0⟩, ⟨(some p74), (some (p72, true)), .not (.r p73), 0⟩, ⟨(some p75), none, .pick (.r p72) (.r p74) (.c (.bool false)), 0⟩, ⟨(some p76), none, .mov (.r p75), 0⟩, ⟨(some p77), (some (p76, true)), .callP 30 [], 0⟩, ⟨(some p78), none, .pick (.r p76) (.r p77) (.c (.bool false)), 0⟩, ⟨(some p4), none, .mov (.r p78), 0⟩])
  .ret)))))))), [.reg p4]⟩
def fh8 : FH := ⟨[7], [], pu, [.perm [0, 1, 2, 3, 4, 5, 6, 7, 8, 9, 10, 11, 12, 13, 14, 15, 16, 17, 18, 19, 20]]⟩

/-- demotic/demoticlaw11.light -/
def cf9 : CF := ⟨1, (.seq (.reg false [⟨(some p2), none, .mov (.c (.bool false)), 0⟩])
  (.seq (.seq (.reg false [⟨(some p4), none, .mov (.r p0), 0⟩, ⟨(some p5), none, .len .sl (.r p4), 0⟩, ⟨(some p6), none, .bin .gtr .other (.r p5) (.c (.int .i64 (20))), 0⟩])
  (.cond (.r p6) (.seq (.reg false [⟨(some p2), none, .mov (.c (.bool false)), 0⟩])
  .ret) .skip))
  (.seq (.seq (.reg false [⟨(some p3), none, .mov (.c (.int .i64 (0))), 0⟩])
  (.block 0 (.loop [p0, p3] (.seq (.seq (.reg false [⟨(some p7), none, .mov (.r p3), 0⟩, ⟨(some p8), none, .mov (.r p0), 0⟩, ⟨(some p9), none, .len .sl (.r p8), 0⟩, ⟨(some p10), none, .bin .lss .other (.r p7) (.r p9), 0⟩])
  (.cond (.r p10) .skip (.exit 0)))
  (.seq (.block 1 (.seq (.reg false [⟨(some p13), none, .mov (.r p0), 0⟩, ⟨(some p14), none, .mov (.r p3), 0⟩, ⟨(some p15), none, .indexAddr 6 (.r p13) (.r p14), 0⟩, ⟨(some p16), none, .fieldAddr 2 (.r p15), 0⟩, ⟨(some p17), none, .ld (some 3) (.r p16), 0⟩, ⟨(some p18), none, .callP 10 [(.r p17)], 0⟩, ⟨(some p19), none, .bin .gtr .other (.r p18) (.c (.int .i64 (20))), 0⟩, ⟨(some p20), none, .mov (.r p19), 0⟩, ⟨(some p21), (some (p20, false)), .mov (.r p0), 0⟩, ⟨(some p22), (some (p20, false)), .mov (.r p3), 0⟩, ⟨(some p23), (some (p20, false)), .indexAddr 6 (.r p21) (.r p22), 0⟩, ⟨(some p24), (some (p20, false)), .fieldAddr 1 (.r p23), 0⟩, ⟨(some p25), (some (p20, false)), .ld none (.r p24), 0⟩, ⟨(some p26), (some (p20, false)), .len .sl (.r p25), 0⟩, ⟨(some p27), (some (p20, false)), .bin .gtr .other (.r p26) (.c (.int .i64 (10))), 0⟩, ⟨(some p28), none, .pick (.r p20) (.c (.bool true)) (.r p27), 0⟩])
  (.cond (.r p28) (.seq (.reg false [⟨(some p2), none, .mov (.c (.bool false)), 0⟩])
  .ret) .skip)))
  (.reg false [⟨(some p11), none, .mov (.r p3), 0⟩, ⟨(some p12), none, .bin .add .other (.r p11) (.c (.int .i64 (1))), 0⟩, ⟨(some p3), none, .mov (.r p12), 0⟩]))))))
  (.seq (.reg false [⟨(some p2), none, .mov (.c (.bool true)), 0⟩])
  .ret)))), [.reg p2]⟩
def fh9 : FH := ⟨[], [], pu, [.live [0, 3]]⟩

/-- demotic/demoticref10.Size -/
def cf10 : CF := ⟨1, (.seq (.reg false [⟨none, none, .boxR p1 (.r p0), 0⟩, ⟨(some p2), none, .mov (.c (.int .i64 (0))), 0⟩])
  (.seq (.reg false [⟨(some p3), none, .mov (.c (.int .i64 (1))), 0⟩])
  (.seq (.seq (.reg false [⟨(some p4), none, .mov (.c (.int .i64 (0))), 0⟩])
  (.block 0 (.loop [p1, p3, p4] (.seq (.seq (.reg false [⟨(some p5), none, .mov (.r p4), 0⟩, ⟨(some p6), none, .adr p1, 0⟩, ⟨(some p7), none, .ldR p1 2 none, 0⟩, ⟨(some p8), none, .len .sl (.r p7), 0⟩, ⟨(some p9), none, .bin .lss .other (.r p5) (.r p8), 0⟩])
  (.cond (.r p9) .skip (.exit 0)))
  (.seq (.block 1 (.reg false [⟨(some p12), none, .mov (.r p3), 0⟩, ⟨(some p13), none, .adr p1, 0⟩, ⟨(some p14), none, .ldR p1 2 none, 0⟩, ⟨(some p15), none, .mov (.r p4), 0⟩, ⟨(some p16), none, .indexAddr 3 (.r p14) (.r p15), 0⟩, ⟨(some p17), none, .ld (some 3) (.r p16), 0⟩, ⟨(some p18), none, .callP 10 [(.r p17)], 0⟩, ⟨(some p19), none, .bin .add .other (.r p12) (.r p18), 0⟩, ⟨(some p3), none, .mov (.r p19), 0⟩]))
  (.reg false [⟨(some p10), none, .mov (.r p4), 0⟩, ⟨(some p11), none, .bin .add .other (.r p10) (.c (.int .i64 (1))), 0⟩, ⟨(some p4), none, .mov (.r p11), 0⟩]))))))
  (.seq (.reg false [⟨(some p20), none, .mov (.r p3), 0⟩, ⟨(some p2), none, .mov (.r p20), 0⟩])
  .ret)))), [.reg p2]⟩
def fh10 : FH := ⟨[1], [], pu, [.live [1, 3, 4]]⟩

/-- demotic/demoticlaw11.defs -/
def cf11 : CF := ⟨1, (.seq (.reg false [⟨(some p2), none, .mov (.c .nsl), 0⟩])
  (.seq (.reg false [⟨(some p3), none, .mov (.c .nsl), 0⟩])
  (.seq (.seq (.reg false [⟨(some p4), none, .mov (.c (.int .i64 (0))), 0⟩])
  (.block 0 (.loop [p0, p3, p4] (.seq (.seq (.reg false [⟨(some p5), none, .mov (.r p4), 0⟩, ⟨(some p6), none, .mov (.r p0), 0⟩, ⟨(some p7), none, .len .sl (.r p6), 0⟩, ⟨(some p8), none, .bin .lss .other (.r p5) (.r p7), 0⟩])
  (.cond (.r p8) .skip (.exit 0)))
  (.seq (.block 1 (.reg true [⟨(some p11), none, .mov (.r p3), 0⟩, ⟨(some p12), none, .mov (.r p0), 0⟩, ⟨(some p13), none, .mov (.r p4), 0⟩, ⟨(some p14), none, .indexAddr 6 (.r p12) (.r p13), 0⟩, ⟨(some p15), none, .fieldAddr 0 (.r p14), 0⟩, ⟨(some p16), none, .ld none (.r p15), 1⟩, ⟨(some p17), none, .buildSl 1 (.str []) 0 [] false, 0⟩, ⟨(some p18), none, .mov (.r p0), 0⟩, ⟨(some p19), none, .mov (.r p4), 0⟩, ⟨(some p20), none, .indexAddr 6 (.r p18) (.r p19), 0⟩, ⟨(some p21), none, .fieldAddr 1 (.r p20), 0⟩, ⟨(some p22), none, .ld none (.r p21), 0⟩, ⟨(some p24), none, .mov (.r p0), 0⟩, ⟨(some p25), none, .mov (.r p4), 0⟩, ⟨(some p26), none, .indexAddr 6 (.r p24) (.r p25), 0⟩, ⟨(some p27), none, .fieldAddr 2 (.r p26), 0⟩, ⟨(some p28), none, .ld (some 3) (.r p27), 1⟩, ⟨(some p30), none, .mov (.r p0), 0⟩, ⟨(some p31), none, .mov (.r p4), 0⟩, ⟨(some p32), none, .indexAddr 6 (.r p30) (.r p31), 0⟩, ⟨(some p33), none, .fieldAddr 5 (.r p32), 0⟩, ⟨(some p34), none, .ld none (.r p33), 1⟩, ⟨(some p23), none, .append 1 16 (.r p17) (.r p22) false, 0⟩, ⟨(some p29), none, .callP 13 [(.r p28)], 0⟩, ⟨(some p35), none, .build [(.str []), .nsl, (.int .i64 (0)), (.str []), .nsl, (.bool false)] [(0, 1, (.r p16)), (1, 1, (.r p23)), (2, 3, (.r p29)), (5, 1, (.r p34))], 0⟩, ⟨(some p36), none, .buildSl 6 (.agg [(.str []), .nsl, (.int .i64 (0)), (.str []), .nsl, (.bool false)]) 1 [(0, (.r p35))] false, 0⟩, ⟨(some p37), none, .append 6 96 (.r p11) (.r p36) false, 0⟩, ⟨(some p3), none, .mov (.r p37), 0⟩]))
  (.reg false [⟨(some p9), none, .mov (.r p4), 0⟩, ⟨(some p10), none, .bin .add .other (.r p9) (.c (.int .i64 (1))), 0⟩, ⟨(some p4), none, .mov (.r p10), 0⟩]))))))
  (.seq (.reg false [⟨(some p38), none, .mov (.r p3), 0⟩, ⟨(some p2), none, .mov (.r p38), 0⟩])
  .ret)))), [.reg p2]⟩
def fh11 : FH := ⟨[], [], pu, [.live [0, 3, 4], .perm [0, 1, 2, 3, 4, 5, 6, 7, 8, 9, 10, 11, 13, 14, 15, 16, 17, 19, 20, 21, 22, 23, 12, 18, 24, 25, 26, 27]]⟩

/-- demotic/demoticlaw11.bounds -/
def cf12 : CF := ⟨1, (.seq (.reg false [⟨(some p2), none, .mov (.c .nsl), 0⟩])
  (.seq (.reg false [⟨(some p3), none, .mov (.c .nsl), 0⟩])
  (.seq (.seq (.reg false [⟨(some p4), none, .mov (.c (.int .i64 (0))), 0⟩])
  (.block 0 (.loop [p0, p3, p4] (.seq (.seq (.reg false [⟨(some p5), none, .mov (.r p4), 0⟩, ⟨(some p6), none, .mov (.r p0), 0⟩, ⟨(some p7), none, .len .sl (.r p6), 0⟩, ⟨(some p8), none, .bin .lss .other (.r p5) (.r p7), 0⟩])
  (.cond (.r p8) .skip (.exit 0)))
  (.seq (.block 1 (.reg true [⟨(some p11), none, .mov (.r p3), 0⟩, ⟨(some p12), none, .mov (.r p0), 0⟩, ⟨(some p13), none, .mov (.r p4), 0⟩, ⟨(some p14), none, .indexAddr 4 (.r p12) (.r p13), 0⟩, ⟨(some p15), none, .fieldAddr 0 (.r p14), 0⟩, ⟨(some p16), none, .ld none (.r p15), 0⟩, ⟨(some p17), none, .mov (.r p0), 0⟩, ⟨(some p18), none, .mov (.r p4), 0⟩, ⟨(some p19), none, .indexAddr 4 (.r p17) (.r p18), 0⟩, ⟨(some p20), none, .fieldAddr 1 (.r p19), 0⟩, ⟨(some p21), none, .ld (some 3) (.r p20), 0⟩, ⟨(some p22), none, .callP 14 [(.r p21)], 0⟩, ⟨(some p23), none, .build [(.str []), (.bool false), (.bool false), .nsl] [(0, 1, (.r p16)), (1, 3, (.r p22))], 0⟩, ⟨(some p24), none, .buildSl 4 (.agg [(.str []), (.bool false), (.bool false), .nsl]) 1 [(0, (.r p23))] false, 0⟩, ⟨(some p25), none, .append 4 48 (.r p11) (.r p24) false, 0⟩, ⟨(some p3), none, .mov (.r p25), 0⟩]))
  (.reg false [⟨(some p9), none, .mov (.r p4), 0⟩, ⟨(some p10), none, .bin .add .other (.r p9) (.c (.int .i64 (1))), 0⟩, ⟨(some p4), none, .mov (.r p10), 0⟩]))))))
  (.seq (.reg false [⟨(some p26), none, .mov (.r p3), 0⟩, ⟨(some p2), none, .mov (.r p26), 0⟩])
  .ret)))), [.reg p2]⟩
def fh12 : FH := ⟨[], [], pu, [.live [0, 3, 4], .perm [0, 1, 2, 3, 4, 5, 6, 7, 8, 9, 10, 11, 12, 13, 14, 15]]⟩

/-- demotic/demoticlaw11.typ -/
def cf13 : CF := ⟨1, (.seq (.reg false [⟨none, none, .boxR p1 (.r p0), 0⟩, ⟨none, none, .alR p2 (.agg [(.int .i64 (0)), (.str []), .nsl]), 0⟩])
  (.seq (.reg false [⟨(some p5), none, .adr p1, 0⟩, ⟨(some p6), none, .ldR p1 0 none, 0⟩, ⟨(some p7), none, .adr p1, 0⟩, ⟨(some p8), none, .ldR p1 1 none, 0⟩, ⟨(some p9), none, .build [(.int .i64 (0)), (.str []), .nsl] [(0, 1, (.r p6)), (1, 1, (.r p8))], 0⟩, ⟨none, none, .alR p3 (.agg [(.int .i64 (0)), (.str []), .nsl]), 0⟩, ⟨none, none, .stR p3 0 3 (.r p9), 0⟩])
  (.seq (.seq (.reg false [⟨(some p4), none, .mov (.c (.int .i64 (0))), 0⟩])
  (.block 0 (.loop [p1, p2, p3, p4] (.seq (.seq (.reg false [⟨(some p10), none, .mov (.r p4), 0⟩, ⟨(some p11), none, .adr p1, 0⟩, ⟨(some p12), none, .ldR p1 2 none, 0⟩, ⟨(some p13), none, .len .sl (.r p12), 0⟩, ⟨(some p14), none, .bin .lss .other (.r p10) (.r p13), 0⟩])
  (.cond (.r p14) .skip (.exit 0)))
  (.seq (.block 1 (.reg true [⟨(some p17), none, .adr p3, 0⟩, ⟨(some p18), none, .ldR p3 2 none, 0⟩, ⟨(some p19), none, .adr p1, 0⟩, ⟨(some p20), none, .ldR p1 2 none, 0⟩, ⟨(some p21), none, .mov (.r p4), 0⟩, ⟨(some p22), none, .indexAddr 3 (.r p20) (.r p21), 0⟩, ⟨(some p23), none, .ld (some 3) (.r p22), 0⟩, ⟨(some p24), none, .callP 13 [(.r p23)], 0⟩, ⟨(some p25), none, .buildSl 3 (.agg [(.int .i64 (0)), (.str []), .nsl]) 1 [(0, (.r p24))] false, 0⟩, ⟨(some p26), none, .append 3 48 (.r p18) (.r p25) false, 0⟩, ⟨(some p27), none, .adr p3, 0⟩, ⟨none, none, .stR p3 2 1 (.r p26), 0⟩]))
  (.reg false [⟨(some p15), none, .mov (.r p4), 0⟩, ⟨(some p16), none, .bin .add .other (.r p15) (.c (.int .i64 (1))), 0⟩, ⟨(some p4), none, .mov (.r p16), 0⟩]))))))
  (.seq (.reg false [⟨(some p28), none, .ldR p3 0 (some 3), 0⟩, ⟨none, none, .stR p2 0 3 (.r p28), 0⟩])
  .ret)))), [.part p2 (some 3)]⟩
def fh13 : FH := ⟨[1, 2, 3], [], pu, [.live [1, 2, 3, 4], .perm [0, 1, 2, 3, 4, 5, 6, 7, 8, 9, 10, 11]]⟩

/-- demotic/demoticlaw11.of -/
def cf14 : CF := ⟨1, (.seq (.reg false [⟨none, none, .boxR p1 (.r p0), 0⟩, ⟨none, none, .alR p2 (.agg [(.bool false), (.bool false), .nsl]), 0⟩])
  (.seq (.reg false [⟨(some p5), none, .adr p1, 0⟩, ⟨(some p6), none, .ldR p1 0 none, 0⟩, ⟨(some p7), none, .adr p1, 0⟩, ⟨(some p8), none, .ldR p1 1 none, 0⟩, ⟨(some p9), none, .build [(.bool false), (.bool false), .nsl] [(0, 1, (.r p6)), (1, 1, (.r p8))], 0⟩, ⟨none, none, .alR p3 (.agg [(.bool false), (.bool false), .nsl]), 0⟩, ⟨none, none, .stR p3 0 3 (.r p9), 0⟩])
  (.seq (.seq (.reg false [⟨(some p4), none, .mov (.c (.int .i64 (0))), 0⟩])
  (.block 0 (.loop [p1, p2, p3, p4] (.seq (.seq (.reg false [⟨(some p10), none, .mov (.r p4), 0⟩, ⟨(some p11), none, .adr p1, 0⟩, ⟨(some p12), none, .ldR p1 2 none, 0⟩, ⟨(some p13), none, .len .sl (.r p12), 0⟩, ⟨(some p14), none, .bin .lss .other (.r p10) (.r p13), 0⟩])
  (.cond (.r p14) .skip (.exit 0)))
  (.seq (.block 1 (.reg true [⟨(some p17), none, .adr p3, 0⟩, ⟨(some p18), none, .ldR p3 2 none, 0⟩, ⟨(some p19), none, .adr p1, 0⟩, ⟨(some p20), none, .ldR p1 2 none, 0⟩, ⟨(some p21), none, .mov (.r p4), 0⟩, ⟨(some p22), none, .indexAddr 2 (.r p20) (.r p21), 0⟩, ⟨(some p23), none, .fieldAddr 0 (.r p22), 0⟩, ⟨(some p24), none, .ld none (.r p23), 0⟩, ⟨(some p25), none, .adr p1, 0⟩, ⟨(some p26), none, .ldR p1 2 none, 0⟩, ⟨(some p27), none, .mov (.r p4), 0⟩, ⟨(some p28), none, .indexAddr 2 (.r p26) (.r p27), 0⟩, ⟨(some p29), none, .fieldAddr 1 (.r p28), 0⟩, ⟨(some p30), none, .ld none (.r p29), 0⟩, ⟨(some p31), none, .build [(.bool false), (.str [])] [(0, 1, (.r p24)), (1, 1, (.r p30))], 0⟩, ⟨(some p32), none, .buildSl 2 (.agg [(.bool false), (.str [])]) 1 [(0, (.r p31))] false, 0⟩, ⟨(some p33), none, .append 2 24 (.r p18) (.r p32) false, 0⟩, ⟨(some p34), none, .adr p3, 0⟩, ⟨none, none, .stR p3 2 1 (.r p33), 0⟩]))
  (.reg false [⟨(some p15), none, .mov (.r p4), 0⟩, ⟨(some p16), none, .bin .add .other (.r p15) (.c (.int .i64 (1))), 0⟩, ⟨(some p4), none, .mov (.r p16), 0⟩]))))))
  (.seq (.reg false [⟨(some p35), none, .ldR p3 0 (some 3), 0⟩, ⟨none, none, .stR p2 0 3 (.r p35), 0⟩])
  .ret)))), [.part p2 (some 3)]⟩
def fh14 : FH := ⟨[1, 2, 3], [], pu, [.live [1, 2, 3, 4], .perm [0, 1, 2, 3, 4, 5, 6, 7, 8, 9, 10, 11, 12, 13, 14, 15, 16, 17, 18]]⟩

/-- demotic/sets.Lets -/
def cf15 : CF := ⟨4, (.seq (.reg false [⟨(some p6), none, .box 3 (.r p2), 0⟩, ⟨none, none, .boxR p7 (.r p3), 0⟩, ⟨(some p8), none, .mov (.c (.bool false)), 0⟩])
  (.seq (.reg false [⟨(some p13), none, .mov (.r p0), 0⟩, ⟨(some p14), none, .ldR p7 0 (some 3), 0⟩, ⟨(some p15), none, .callP 33 [(.r p13), (.r p14)], 0⟩, ⟨none, none, .stR p7 0 3 (.r p15), 0⟩])
  (.seq (.reg false [⟨(some p17), none, .mov (.r p1), 0⟩, ⟨(some p18), none, .adr p7, 0⟩, ⟨(some p19), none, .ldR p7 1 none, 0⟩, ⟨(some p20), none, .callP 22 [(.r p17), (.r p19)], 0⟩, ⟨(some p16), none, .mov (.r p20), 0⟩, ⟨(some p21), none, .extract (.r p16) 0, 0⟩, ⟨(some p22), none, .extract (.r p16) 1, 0⟩, ⟨none, none, .alR p9 (.agg [(.bool false), (.bool false), .nsl]), 0⟩, ⟨none, none, .stR p9 0 3 (.r p21), 0⟩, ⟨(some p10), none, .mov (.r p22), 0⟩])
  (.seq (.reg false [⟨(some p23), none, .adr p7, 0⟩, ⟨(some p24), none, .ldR p7 0 none, 0⟩, ⟨(some p25), none, .bin .eql .other (.r p24) (.c (.int .i64 (4))), 0⟩, ⟨(some p11), none, .mov (.r p25), 0⟩])
  (.seq (.block 0 (.seq (.reg false [⟨(some p27), none, .ld (some 3) (.r p6), 0⟩, ⟨(some p28), none, .callP 34 [(.r p27)], 0⟩, ⟨(some p29), none, .not (.r p28), 0⟩, ⟨(some p30), none, .mov (.r p29), 0⟩, ⟨(some p31), (some (p30, false)), .adr p7, 0⟩, ⟨(some p32), (some (p30, false)), .ldR p7 0 none, 0⟩, ⟨(some p33), (some (p30, false)), .bin .eql .other (.r p32) (.c (.int .i64 (0))), 0⟩, ⟨(some p34), none, .pick (.r p30) (.c (.bool true)) (.r p33), 0⟩, ⟨(some p35), none, .mov (.r p34), 0⟩, ⟨(some p36), (some (p35, false)), .mov (.r p11), 0⟩, ⟨(some p37), (some (p35, false)), .mov (.r p36), 0⟩, ⟨(some p38), (some (p37, true)), .mov (.r p10), 0⟩, ⟨(some p39), (some (p37, true)), .not (.r p38), 0⟩, ⟨(some p40), (some (p37, true)), .mov (.r p39), 0⟩, ⟨(some p41), (some (p40, false)), .ldR p9 0 (some 3), 0⟩, ⟨(some p42), (some (p40, false)), .callP 34 [(.r p41)], 0⟩, ⟨(some p43), (some (p40, false)), .not (.r p42), 0⟩, ⟨(some p44), (some (p37, true)), .pick (.r p40) (.c (.bool true)) (.r p43), 0⟩, ⟨(some p45), (some (p35, false)), .pick (.r p37) (.r p44) (.c (.bool false)), 0⟩, ⟨(some p46), none, .pick (.r p35) (.c (.bool true)) (.r p45), 0⟩, ⟨(some p26), none, .mov (.r p46), 0⟩])
  (.cond (.r p26) (.seq (.reg false [⟨(some p8), none, .mov (.c (.bool false)), 0⟩])
  .ret) (.seq (.reg false [⟨(some p48), none, .fieldAddr 0 (.r p6), 0⟩, ⟨(some p49), none, .ld none (.r p48), 0⟩, ⟨(some p47), none, .mov (.r p49), 0⟩])
  (.cond (.r p47) (.seq (.reg false [⟨(some p8), none, .mov (.c (.bool true)), 0⟩])
  .ret) (.seq (.reg false [⟨(some p51), none, .fieldAddr 1 (.r p6), 0⟩, ⟨(some p52), none, .ld none (.r p51), 0⟩, ⟨(some p50), none, .mov (.r p52), 0⟩])
  (.cond (.r p50) (.seq (.reg false [⟨(some p53), none, .mov (.r p0), 0⟩, ⟨(some p54), none, .ldR p7 0 (some 3), 0⟩, ⟨(some p55), none, .callP 35 [(.r p53), (.r p54)], 0⟩, ⟨(some p56), none, .mov (.r p55), 0⟩, ⟨(some p57), (some (p56, false)), .mov (.r p11), 0⟩, ⟨(some p58), (some (p56, false)), .mov (.r p57), 0⟩, ⟨(some p59), (some (p58, true)), .adr p9, 0⟩, ⟨(some p60), (some (p58, true)), .ldR p9 0 none, 0⟩, ⟨(some p61), (some (p58, true)), .not (.r p60), 0⟩, ⟨(some p62), (some (p56, false)), .pick (.r p58) (.r p61) (.c (.bool false)), 0⟩, ⟨(some p63), none, .pick (.r p56) (.c (.bool true)) (.r p62), 0⟩, ⟨(some p8), none, .mov (.r p63), 0⟩])
  .ret) (.seq (.reg false [⟨(some p65), none, .mov (.r p11), 0⟩, ⟨(some p64), none, .mov (.r p65), 0⟩])
  (.cond (.r p64) (.seq (.reg false [⟨(some p66), none, .adr p9, 0⟩, ⟨(some p67), none, .ldR p9 2 none, 0⟩, ⟨(some p68), none, .len .sl (.r p67), 0⟩, ⟨(some p69), none, .bin .gtr .other (.r p68) (.c (.int .i64 (0))), 0⟩, ⟨(some p70), none, .mov (.r p69), 0⟩, ⟨(some p71), (some (p70, true)), .adr p9, 0⟩, ⟨(some p72), (some (p70, true)), .ldR p9 2 none, 0⟩, ⟨(some p73), (some (p70, true)), .mkFunc 37 [(.r p6)], 0⟩, ⟨(some p74), (some (p70, true)), .callF 36 [(.r p72), (.r p73)], 0⟩, ⟨(some p75), (some (p70, true)), .not (.r p74), 0⟩, ⟨(some p76), none, .pick (.r p70) (.r p75) (.c (.bool false)), 0⟩, ⟨(some p8), none, .mov (.r p76), 0⟩])
  .ret) .skip)))))))))
  (.seq (.reg false [⟨(some p77), none, .mov (.r p0), 0⟩, ⟨(some p78), none, .ldR p7 0 (some 3), 0⟩, ⟨(some p79), none, .callP 39 [(.r p77), (.r p78)], 0⟩, ⟨none, none, .alR p12 (.agg [(.int .i64 (0)), (.str []), .nsl]), 0⟩, ⟨none, none, .stR p12 0 3 (.r p79), 0⟩])
  (.seq (.reg false [⟨(some p80), none, .adr p12, 0⟩, ⟨(some p81), none, .ldR p12 0 none, 0⟩, ⟨(some p82), none, .bin .eql .other (.r p81) (.c (.int .i64 (1))), 0⟩, ⟨(some p83), none, .mov (.r p82), 0⟩, ⟨(some p84), (some (p83, true)), .ld (some 3) (.r p6), 0⟩, ⟨(some p85), (some (p83, true)), .adr p7, 0⟩, ⟨(some p86), (some (p83, true)), .ldR p7 0 none, 0⟩, ⟨(some p87), (some (p83, true)), .bin .neq .other (.r p86) (.c (.int .i64 (1))), 0⟩, ⟨(some p88), (some (p83, true)), .adr p12, 0⟩, ⟨(some p89), (some (p83, true)), .ldR p12 1 none, 0⟩, ⟨(some p90), (some (p83, true)), .build [(.bool false), (.str [])] [(0, 1, (.r p87)), (1, 1, (.r p89))], 0⟩, ⟨(some p91), (some (p83, true)), .callP 38 [(.r p84), (.r p90)], 0⟩, ⟨(some p92), none, .pick (.r p83) (.r p91) (.c (.bool false)), 0⟩, ⟨(some p8), none, .mov (.r p92), 0⟩])
  .ret))))))), [.reg p8]⟩
def fh15 : FH := ⟨[7, 9, 12], [], pu, []⟩

/-- demotic/demoticlaw11.awake -/
def cf16 : CF := ⟨0, (.seq (.reg false [⟨(some p0), none, .mov (.c (.bool false)), 0⟩])
  (.seq (.reg false [⟨(some p3), none, .build [(.int .i64 (0)), (.str []), .nsl] [(0, 1, (.c (.int .i64 (1)))), (1, 1, (.c (.str [105, 110, 116])))], 0⟩, ⟨(some p4), none, .build [(.str []), .nsl, (.int .i64 (0)), (.str []), .nsl, (.bool false)] [(0, 1, (.c (.str [78]))), (2, 3, (.r p3))], 0⟩, ⟨(some p5), none, .build [(.int .i64 (0)), (.str []), .nsl] [(0, 1, (.c (.int .i64 (1)))), (1, 1, (.c (.str [115, 116, 114, 105, 110, 103])))], 0⟩, ⟨(some p6), none, .build [(.str []), .nsl, (.int .i64 (0)), (.str []), .nsl, (.bool false)] [(0, 1, (.c (.str [83]))), (2, 3, (.r p5))], 0⟩, ⟨(some p7), none, .buildSl 6 (.agg [(.str []), .nsl, (.int .i64 (0)), (.str []), .nsl, (.bool false)]) 2 [(0, (.r p4)), (1, (.r p6))] false, 0⟩, ⟨(some p1), none, .mov (.r p7), 0⟩])
  (.seq (.reg false [⟨(some p8), none, .build [(.bool false), (.str [])] [(0, 1, (.c (.bool true))), (1, 1, (.c (.str [105, 110, 116])))], 0⟩, ⟨(some p9), none, .build [(.bool false), (.str [])] [(1, 1, (.c (.str [115, 116, 114, 105, 110, 103])))], 0⟩, ⟨(some p10), none, .buildSl 2 (.agg [(.bool false), (.str [])]) 2 [(0, (.r p8)), (1, (.r p9))] false, 0⟩, ⟨(some p11), none, .build [(.bool false), (.bool false), .nsl] [(2, 1, (.r p10))], 0⟩, ⟨none, none, .alR p2 (.agg [(.bool false), (.bool false), .nsl]), 0⟩, ⟨none, none, .stR p2 0 3 (.r p11), 0⟩])
  (.seq (.reg false [⟨(some p12), none, .mov (.r p1), 0⟩, ⟨(some p13), none, .ldR p2 0 (some 3), 0⟩, ⟨(some p14), none, .build [(.int .i64 (0)), (.str []), .nsl] [(0, 1, (.c (.int .i64 (1)))), (1, 1, (.c (.str [115, 116, 114, 105, 110, 103])))], 0⟩, ⟨(some p15), none, .callP 15 [(.r p12), (.c .nsl), (.r p13), (.r p14)], 0⟩, ⟨(some p16), none, .mov (.r p15), 0⟩, ⟨(some p17), (some (p16, true)), .mov (.r p1), 0⟩, ⟨(some p18), (some (p16, true)), .ldR p2 0 (some 3), 0⟩, ⟨(some p19), (some (p16, true)), .build [(.int .i64 (0)), (.str []), .nsl] [(0, 1, (.c (.int .i64 (3)))), (1, 1, (.c (.str [78])))], 0⟩, ⟨(some p20), (some (p16, true)), .callP 15 [(.r p17), (.c .nsl), (.r p18), (.r p19)], 0⟩, ⟨(some p21), none, .pick (.r p16) (.r p20) (.c (.bool false)), 0⟩, ⟨(some p22), none, .mov (.r p21), 0⟩, ⟨(some p23), (some (p22, true)), .mov (.r p1), 0⟩, ⟨(some p24), (some (p22, true)), .ldR p2 0 (some 3), 0⟩, ⟨(some p25), (some (p22, true)), .build [(.int .i64 (0)), (.str []), .nsl] [(0, 1, (.c (.int .i64 (3)))), (1, 1, (.c (.str [83])))], 0⟩, ⟨(some p26), (some (p22, true)), .callP 15 [(.r p23), (.c .nsl), (.r p24), (.r p25)], 0⟩, ⟨(some p27), (some (p22, true)), .not (.r p26), 0⟩, ⟨(some p28), none, .pick (.r p22) (.r p27) (.c (.bool false)), 0⟩, ⟨(some p0), none, .mov (.r p28), 0⟩])
  .ret)))), [.reg p0]⟩
def fh16 : FH := ⟨[2], [], pu, []⟩

/-- demotic/demoticlaw11.alias -/
def cf17 : CF := ⟨2, (.seq (.reg false [⟨(some p4), none, .mov (.c (.bool false)), 0⟩])
  (.seq (.seq (.reg false [⟨(some p5), none, .mov (.c (.int .i64 (0))), 0⟩])
  (.block 0 (.loop [p0, p1, p5] (.seq (.seq (.reg false [⟨(some p6), none, .mov (.r p5), 0⟩, ⟨(some p7), none, .mov (.r p0), 0⟩, ⟨(some p8), none, .len .sl (.r p7), 0⟩, ⟨(some p9), none, .bin .lss .other (.r p6) (.r p8), 0⟩])
  (.cond (.r p9) .skip (.exit 0)))
  (.seq (.block 1 (.seq (.reg false [⟨(some p12), none, .mov (.r p0), 0⟩, ⟨(some p13), none, .mov (.r p5), 0⟩, ⟨(some p14), none, .indexAddr 6 (.r p12) (.r p13), 0⟩, ⟨(some p15), none, .fieldAddr 0 (.r p14), 0⟩, ⟨(some p16), none, .ld none (.r p15), 0⟩, ⟨(some p17), none, .mov (.r p1), 0⟩, ⟨(some p18), none, .bin .eql .str (.r p16) (.r p17), 0⟩])
  (.cond (.r p18) (.seq (.reg false [⟨(some p19), none, .mov (.r p0), 0⟩, ⟨(some p20), none, .mov (.r p5), 0⟩, ⟨(some p21), none, .indexAddr 6 (.r p19) (.r p20), 0⟩, ⟨(some p22), none, .fieldAddr 5 (.r p21), 0⟩, ⟨(some p23), none, .ld none (.r p22), 0⟩, ⟨(some p4), none, .mov (.r p23), 0⟩])
  .ret) .skip)))
  (.reg false [⟨(some p10), none, .mov (.r p5), 0⟩, ⟨(some p11), none, .bin .add .other (.r p10) (.c (.int .i64 (1))), 0⟩, ⟨(some p5), none, .mov (.r p11), 0⟩]))))))
  (.seq (.reg false [⟨(some p4), none, .mov (.c (.bool false)), 0⟩])
  .ret))), [.reg p4]⟩
def fh17 : FH := ⟨[], [], pu, [.live [0, 1, 5]]⟩

/-- demotic/sets.Each -/
def cf18 : CF := ⟨2, (.seq (.reg false [⟨none, none, .boxR p2 (.r p0), 0⟩, ⟨(some p3), none, .box 1 (.r p1), 0⟩, ⟨(some p4), none, .mov (.c (.bool false)), 0⟩])
  (.seq (.reg false [⟨(some p5), none, .adr p2, 0⟩, ⟨(some p6), none, .ldR p2 2 none, 0⟩, ⟨(some p7), none, .len .sl (.r p6), 0⟩, ⟨(some p8), none, .bin .gtr .other (.r p7) (.c (.int .i64 (0))), 0⟩, ⟨(some p9), none, .mov (.r p8), 0⟩, ⟨(some p10), (some (p9, true)), .adr p2, 0⟩, ⟨(some p11), (some (p9, true)), .ldR p2 2 none, 0⟩, ⟨(some p12), (some (p9, true)), .mkFunc 40 [(.r p3)], 0⟩, ⟨(some p13), (some (p9, true)), .callF 36 [(.r p11), (.r p12)], 0⟩, ⟨(some p14), (some (p9, true)), .not (.r p13), 0⟩, ⟨(some p15), none, .pick (.r p9) (.r p14) (.c (.bool false)), 0⟩, ⟨(some p4), none, .mov (.r p15), 0⟩])
  .ret)), [.reg p4]⟩
def fh18 : FH := ⟨[2], [], pu, []⟩

/-- demotic/demoticref06.Size -/
def cf19 : CF := ⟨2, (.seq (.reg false [⟨none, none, .boxR p2 (.r p0), 0⟩, ⟨(some p4), none, .mov (.c (.int .i64 (0))), 0⟩])
  (.seq (.seq (.reg false [⟨(some p7), none, .mov (.r p1), 0⟩, ⟨(some p8), none, .bin .eql .other (.r p7) (.c (.int .i64 (0))), 0⟩])
  (.cond (.r p8) (.seq (.reg false [⟨(some p4), none, .mov (.c (.int .i64 (0))), 0⟩])
  .ret) .skip))
  (.seq (.reg false [⟨(some p5), none, .mov (.c (.int .i64 (1))), 0⟩])
  (.seq (.seq (.reg false [⟨(some p6), none, .mov (.c (.int .i64 (0))), 0⟩])
  (.block 0 (.loop [p1, p2, p5, p6] (.seq (.seq (.reg false [⟨(some p9), none, .mov (.r p6), 0⟩, ⟨(some p10), none, .adr p2, 0⟩, ⟨(some p11), none, .ldR p2 2 none, 0⟩, ⟨(some p12), none, .len .sl (.r p11), 0⟩, ⟨(some p13), none, .bin .lss .other (.r p9) (.r p12), 0⟩])
  (.cond (.r p13) .skip (.exit 0)))
  (.seq (.block 1 (.reg false [⟨(some p16), none, .mov (.r p5), 0⟩, ⟨(some p17), none, .adr p2, 0⟩, ⟨(some p18), none, .ldR p2 2 none, 0⟩, ⟨(some p19), none, .mov (.r p6), 0⟩, ⟨(some p20), none, .indexAddr 4 (.r p18) (.r p19), 0⟩, ⟨(some p21), none, .ld (some 4) (.r p20), 0⟩, ⟨(some p22), none, .mov (.r p1), 0⟩, ⟨(some p23), none, .bin .sub .other (.r p22) (.c (.int .i64 (1))), 0⟩, ⟨(some p24), none, .callP 19 [(.r p21), (.r p23)], 0⟩, ⟨(some p25), none, .bin .add .other (.r p16) (.r p24), 0⟩, ⟨(some p5), none, .mov (.r p25), 0⟩]))
  (.reg false [⟨(some p14), none, .mov (.r p6), 0⟩, ⟨(some p15), none, .bin .add .other (.r p14) (.c (.int .i64 (1))), 0⟩, ⟨(some p6), none, .mov (.r p15), 0⟩]))))))
  (.seq (.reg false [⟨(some p26), none, .mov (.r p5), 0⟩, ⟨(some p4), none, .mov (.r p26), 0⟩])
  .ret))))), [.reg p4]⟩
def fh19 : FH := ⟨[2], [], pu, [.live [1, 2, 5, 6]]⟩

/-- demotic/sets.Of -/
def cf20 : CF := ⟨2, (.seq (.reg false [⟨none, none, .boxR p2 (.r p0), 0⟩, ⟨none, none, .alR p4 (.agg [(.bool false), (.bool false), .nsl]), 0⟩, ⟨(some p5), none, .mov (.c (.bool false)), 0⟩])
  (.seq (.block 0 (.seq (.reg false [⟨(some p10), none, .adr p2, 0⟩, ⟨(some p11), none, .ldR p2 0 none, 0⟩, ⟨(some p12), none, .bin .eql .other (.r p11) (.c (.int .i64 (14))), 0⟩, ⟨(some p9), none, .mov (.r p12), 0⟩])
  (.cond (.r p9) (.seq (.reg false [⟨(some p13), none, .ldR p2 0 (some 4), 0⟩, ⟨(some p14), none, .callP 42 [(.r p13)], 0⟩, ⟨(some p15), none, .extract (.r p14) 0, 0⟩, ⟨(some p16), none, .extract (.r p14) 1, 0⟩, ⟨none, none, .stR p4 0 3 (.r p15), 0⟩, ⟨(some p5), none, .mov (.r p16), 0⟩])
  .ret) (.seq (.reg false [⟨(some p18), none, .adr p2, 0⟩, ⟨(some p19), none, .ldR p2 0 none, 0⟩, ⟨(some p20), none, .bin .neq .other (.r p19) (.c (.int .i64 (10))), 0⟩, ⟨(some p21), none, .mov (.r p20), 0⟩, ⟨(some p22), (some (p21, false)), .adr p2, 0⟩, ⟨(some p23), (some (p21, false)), .ldR p2 2 none, 0⟩, ⟨(some p24), (some (p21, false)), .len .sl (.r p23), 0⟩, ⟨(some p25), (some (p21, false)), .bin .gtr .other (.r p24) (.c (.int .i64 (0))), 0⟩, ⟨(some p26), none, .pick (.r p21) (.c (.bool true)) (.r p25), 0⟩, ⟨(some p17), none, .mov (.r p26), 0⟩])
  (.cond (.r p17) (.seq (.reg false [⟨(some p27), none, .build [(.bool false), (.bool false), .nsl] [], 0⟩, ⟨none, none, .stR p4 0 3 (.r p27), 0⟩, ⟨(some p5), none, .mov (.c (.bool false)), 0⟩])
  .ret) .skip)))))
  (.seq (.seq (.reg false [⟨(some p29), none, .mov (.r p1), 0⟩, ⟨(some p30), none, .adr p2, 0⟩, ⟨(some p31), none, .ldR p2 1 none, 0⟩, ⟨(some p32), none, .callP 22 [(.r p29), (.r p31)], 0⟩, ⟨(some p28), none, .mov (.r p32), 0⟩, ⟨(some p33), none, .extract (.r p28) 0, 0⟩, ⟨(some p34), none, .extract (.r p28) 1, 0⟩, ⟨none, none, .alR p6 (.agg [(.bool false), (.bool false), .nsl]), 0⟩, ⟨none, none, .stR p6 0 3 (.r p33), 0⟩, ⟨(some p7), none, .mov (.r p34), 0⟩])
  (.seq (.reg false [⟨(some p35), none, .mov (.r p7), 0⟩])
  (.cond (.r p35) (.seq (.reg false [⟨(some p36), none, .ldR p6 0 (some 3), 0⟩, ⟨none, none, .stR p4 0 3 (.r p36), 0⟩, ⟨(some p5), none, .mov (.c (.bool true)), 0⟩])
  .ret) .skip)))
  (.seq (.reg false [⟨(some p37), none, .adr p2, 0⟩, ⟨(some p38), none, .ldR p2 1 none, 0⟩, ⟨(some p39), none, .bin .eql .str (.r p38) (.c (.str [97, 110, 121])), 0⟩, ⟨(some p40), none, .adr p2, 0⟩, ⟨(some p41), none, .ldR p2 1 none, 0⟩, ⟨(some p42), none, .bin .eql .str (.r p41) (.c (.str [99, 111, 109, 112, 97, 114, 97, 98, 108, 101])), 0⟩, ⟨(some p43), none, .build [(.bool false), (.bool false), .nsl] [(0, 1, (.r p39)), (1, 1, (.r p42))], 0⟩, ⟨none, none, .alR p8 (.agg [(.bool false), (.bool false), .nsl]), 0⟩, ⟨none, none, .stR p8 0 3 (.r p43), 0⟩])
  (.seq (.reg true [⟨(some p44), none, .ldR p8 0 (some 3), 0⟩, ⟨(some p45), none, .adr p8, 0⟩, ⟨(some p46), none, .ldR p8 0 none, 0⟩, ⟨(some p47), none, .mov (.r p46), 0⟩, ⟨(some p48), (some (p47, false)), .adr p8, 0⟩, ⟨(some p49), (some (p47, false)), .ldR p8 1 none, 0⟩, ⟨(some p50), none, .pick (.r p47) (.c (.bool true)) (.r p49), 0⟩, ⟨none, none, .stR p4 0 3 (.r p44), 0⟩, ⟨(some p5), none, .mov (.r p50), 0⟩])
  .ret))))), [.part p4 (some 3), .reg p5]⟩
def fh20 : FH := ⟨[2, 4, 6, 8], [], pu, [.perm [0, 1, 2, 3, 4, 5, 6, 7, 8]]⟩

/-- demotic/demoticref11.Of -/
def cf21 : CF := ⟨2, (.seq (.reg false [⟨none, none, .boxR p2 (.r p0), 0⟩, ⟨none, none, .alR p4 (.agg [(.bool false), (.bool false), .nsl]), 0⟩, ⟨(some p5), none, .mov (.c (.bool false)), 0⟩])
  (.seq (.reg false [⟨none, none, .alR p6 (.agg [(.bool false), (.bool false), .nsl]), 0⟩])
  (.seq (.seq (.reg false [⟨(some p11), none, .adr p2, 0⟩, ⟨(some p12), none, .ldR p2 0 none, 0⟩, ⟨(some p13), none, .bin .eql .other (.r p12) (.c (.int .i64 (14))), 0⟩])
  (.cond (.r p13) (.seq (.seq (.reg false [⟨(some p7), none, .mov (.c (.int .i64 (0))), 0⟩])
  (.block 0 (.loop [p2, p4, p6, p7] (.seq (.seq (.reg false [⟨(some p14), none, .mov (.r p7), 0⟩, ⟨(some p15), none, .adr p2, 0⟩, ⟨(some p16), none, .ldR p2 2 none, 0⟩, ⟨(some p17), none, .len .sl (.r p16), 0⟩, ⟨(some p18), none, .bin .lss .other (.r p14) (.r p17), 0⟩])
  (.cond (.r p18) .skip (.exit 0)))
  (.seq (.block 1 (.seq (.reg false [⟨(some p21), none, .adr p2, 0⟩, ⟨(some p22), none, .ldR p2 2 none, 0⟩, ⟨(some p23), none, .mov (.r p7), 0⟩, ⟨(some p24), none, .indexAddr 4 (.r p22) (.r p23), 0⟩, ⟨(some p25), none, .ld (some 4) (.r p24), 0⟩, ⟨none, none, .alR p8 (.agg [(.int .i64 (0)), (.str []), .nsl, (.int .i64 (0))]), 0⟩, ⟨none, none, .stR p8 0 4 (.r p25), 0⟩])
  (.seq (.seq (.reg false [⟨(some p26), none, .adr p8, 0⟩, ⟨(some p27), none, .ldR p8 0 none, 0⟩, ⟨(some p28), none, .bin .neq .other (.r p27) (.c (.int .i64 (15))), 0⟩, ⟨(some p29), none, .mov (.r p28), 0⟩, ⟨(some p30), (some (p29, false)), .adr p8, 0⟩, ⟨(some p31), (some (p29, false)), .ldR p8 2 none, 0⟩, ⟨(some p32), (some (p29, false)), .len .sl (.r p31), 0⟩, ⟨(some p33), (some (p29, false)), .bin .neq .other (.r p32) (.c (.int .i64 (1))), 0⟩, ⟨(some p34), none, .pick (.r p29) (.c (.bool true)) (.r p33), 0⟩, ⟨(some p35), none, .mov (.r p34), 0⟩, ⟨(some p36), (some (p35, false)), .adr p8, 0⟩, ⟨(some p37), (some (p35, false)), .ldR p8 2 none, 0⟩, ⟨(some p38), (some (p35, false)), .indexAddr 4 (.r p37) (.c (.int .i64 (0))), 0⟩, ⟨(some p39), (some (p35, false)), .fieldAddr 0 (.r p38), 0⟩, ⟨(some p40), (some (p35, false)), .ld none (.r p39), 0⟩, ⟨(some p41), (some (p35, false)), .bin .neq .other (.r p40) (.c (.int .i64 (10))), 0⟩, ⟨(some p42), none, .pick (.r p35) (.c (.bool true)) (.r p41), 0⟩, ⟨(some p43), none, .mov (.r p42), 0⟩, ⟨(some p44), (some (p43, false)), .adr p8, 0⟩, ⟨(some p45), (some (p43, false)), .ldR p8 2 none, 0⟩, ⟨(some p46), (some (p43, false)), .indexAddr 4 (.r p45) (.c (.int .i64 (0))), 0⟩, ⟨(some p47), (some (p43, false)), .fieldAddr 2 (.r p46), 0⟩, ⟨(some p48), (some (p43, false)), .ld none (.r p47), 0⟩, ⟨(some p49), (some (p43, false)), .len .sl (.r p48), 0⟩, ⟨(some p50), (some (p43, false)), .bin .gtr .other (.r p49) (.c (.int .i64 (0))), 0⟩, ⟨(some p51), none, .pick (.r p43) (.c (.bool true)) (.r p50), 0⟩, ⟨(some p52), none, .mov (.r p51), 0⟩, ⟨(some p53), (some (p52, false)), .adr p8, 0⟩, ⟨(some p54), (some (p52, false)), .ldR p8 2 none, 0⟩, ⟨(some p55), (some (p52, false)), .indexAddr 4 (.r p54) (.c (.int .i64 (0))), 0⟩, ⟨(some p56), (some (p52, false)), .fieldAddr 1 (.r p55), 0⟩, ⟨(some p57), (some (p52, false)), .ld none (.r p56), 0⟩, ⟨(some p58), (some (p52, false)), .callP 43 [(.r p57)], 0⟩, ⟨(some p59), (some (p52, false)), .not (.r p58), 0⟩, ⟨(some p60), none, .pick (.r p52) (.c (.bool true)) (.r p59), 0⟩])
  (.cond (.r p60) (.seq (.reg false [⟨(some p61), none, .build [(.bool false), (.bool false), .nsl] [], 0⟩, ⟨none, none, .stR p4 0 3 (.r p61), 0⟩, ⟨(some p5), none, .mov (.c (.bool false)), 0⟩])
  .ret) .skip))
  (.reg true [⟨(some p62), none, .adr p6, 0⟩, ⟨(some p63), none, .ldR p6 2 none, 0⟩, ⟨(some p64), none, .adr p8, 0⟩, ⟨(some p65), none, .ldR p8 1 none, 0⟩, ⟨(some p66), none, .bin .eql .str (.r p65) (.c (.str [126])), 0⟩, ⟨(some p67), none, .adr p8, 0⟩, ⟨(some p68), none, .ldR p8 2 none, 0⟩, ⟨(some p69), none, .indexAddr 4 (.r p68) (.c (.int .i64 (0))), 0⟩, ⟨(some p70), none, .fieldAddr 1 (.r p69), 0⟩, ⟨(some p71), none, .ld none (.r p70), 0⟩, ⟨(some p72), none, .build [(.bool false), (.str [])] [(0, 1, (.r p66)), (1, 1, (.r p71))], 0⟩, ⟨(some p73), none, .buildSl 2 (.agg [(.bool false), (.str [])]) 1 [(0, (.r p72))] false, 0⟩, ⟨(some p74), none, .append 2 24 (.r p63) (.r p73) false, 0⟩, ⟨(some p75), none, .adr p6, 0⟩, ⟨none, none, .stR p6 2 1 (.r p74), 0⟩]))))
  (.reg false [⟨(some p19), none, .mov (.r p7), 0⟩, ⟨(some p20), none, .bin .add .other (.r p19) (.c (.int .i64 (1))), 0⟩, ⟨(some p7), none, .mov (.r p20), 0⟩]))))))
  (.seq (.reg true [⟨(some p76), none, .ldR p6 0 (some 3), 0⟩, ⟨(some p77), none, .adr p6, 0⟩, ⟨(some p78), none, .ldR p6 2 none, 0⟩, ⟨(some p79), none, .len .sl (.r p78), 0⟩, ⟨(some p80), none, .bin .gtr .other (.r p79) (.c (.int .i64 (0))), 0⟩, ⟨none, none, .stR p4 0 3 (.r p76), 0⟩, ⟨(some p5), none, .mov (.r p80), 0⟩])
  .ret)) .skip))
  (.seq (.seq (.reg false [⟨(some p81), none, .adr p2, 0⟩, ⟨(some p82), none, .ldR p2 0 none, 0⟩, ⟨(some p83), none, .bin .neq .other (.r p82) (.c (.int .i64 (10))), 0⟩, ⟨(some p84), none, .mov (.r p83), 0⟩, ⟨(some p85), (some (p84, false)), .adr p2, 0⟩, ⟨(some p86), (some (p84, false)), .ldR p2 2 none, 0⟩, ⟨(some p87), (some (p84, false)), .len .sl (.r p86), 0⟩, ⟨(some p88), (some (p84, false)), .bin .gtr .other (.r p87) (.c (.int .i64 (0))), 0⟩, ⟨(some p89), none, .pick (.r p84) (.c (.bool true)) (.r p88), 0⟩])
  (.cond (.r p89) (.seq (.reg false [⟨(some p90), none, .build [(.bool false), (.bool false), .nsl] [], 0⟩, ⟨none, none, .stR p4 0 3 (.r p90), 0⟩, ⟨(some p5), none, .mov (.c (.bool false)), 0⟩])
  .ret) .skip))
  (.seq (.seq (.reg false [⟨(some p92), none, .mov (.r p1), 0⟩, ⟨(some p93), none, .adr p2, 0⟩, ⟨(some p94), none, .ldR p2 1 none, 0⟩, ⟨(some p95), none, .callP 23 [(.r p92), (.r p94)], 0⟩, ⟨(some p91), none, .mov (.r p95), 0⟩, ⟨(some p96), none, .extract (.r p91) 0, 0⟩, ⟨(some p97), none, .extract (.r p91) 1, 0⟩, ⟨none, none, .alR p9 (.agg [(.bool false), (.bool false), .nsl]), 0⟩, ⟨none, none, .stR p9 0 3 (.r p96), 0⟩, ⟨(some p10), none, .mov (.r p97), 0⟩])
  (.seq (.reg false [⟨(some p98), none, .mov (.r p10), 0⟩])
  (.cond (.r p98) (.seq (.reg false [⟨(some p99), none, .ldR p9 0 (some 3), 0⟩, ⟨none, none, .stR p4 0 3 (.r p99), 0⟩, ⟨(some p5), none, .mov (.c (.bool true)), 0⟩])
  .ret) .skip)))
  (.seq (.seq (.reg false [⟨(some p100), none, .adr p2, 0⟩, ⟨(some p101), none, .ldR p2 1 none, 0⟩])
  (.block 2 (.seq (.reg false [⟨(some p103), none, .bin .eql .str (.r p101) (.c (.str [97, 110, 121])), 0⟩, ⟨(some p102), none, .mov (.r p103), 0⟩])
  (.cond (.r p102) (.seq (.reg false [⟨(some p104), none, .build [(.bool false), (.bool false), .nsl] [(0, 1, (.c (.bool true)))], 0⟩, ⟨none, none, .stR p4 0 3 (.r p104), 0⟩, ⟨(some p5), none, .mov (.c (.bool true)), 0⟩])
  .ret) (.seq (.reg false [⟨(some p106), none, .bin .eql .str (.r p101) (.c (.str [99, 111, 109, 112, 97, 114, 97, 98, 108, 101])), 0⟩, ⟨(some p105), none, .mov (.r p106), 0⟩])
  (.cond (.r p105) (.seq (.reg false [⟨(some p107), none, .build [(.bool false), (.bool false), .nsl] [(1, 1, (.c (.bool true)))], 0⟩, ⟨none, none, .stR p4 0 3 (.r p107), 0⟩, ⟨(some p5), none, .mov (.c (.bool true)), 0⟩])
  .ret) .skip))))))
  (.seq (.reg false [⟨(some p108), none, .build [(.bool false), (.bool false), .nsl] [], 0⟩, ⟨none, none, .stR p4 0 3 (.r p108), 0⟩, ⟨(some p5), none, .mov (.c (.bool false)), 0⟩])
  .ret))))))), [.part p4 (some 3), .reg p5]⟩
def fh21 : FH := ⟨[2, 4, 6, 8, 9], [], pu, [.live [2, 4, 6, 7], .perm [0, 1, 2, 3, 4, 5, 6, 7, 8, 9, 10, 11, 12, 13, 14], .perm [0, 1, 2, 3, 4, 5, 6]]⟩

/-- demotic/sets.Find -/
def cf22 : CF := ⟨2, (.seq (.reg false [⟨(some p3), none, .box 1 (.r p1), 0⟩, ⟨none, none, .alR p4 (.agg [(.bool false), (.bool false), .nsl]), 0⟩, ⟨(some p5), none, .mov (.c (.bool false)), 0⟩])
  (.seq (.reg false [⟨(some p7), none, .mov (.r p0), 0⟩, ⟨(some p8), none, .mkFunc 45 [(.r p3)], 0⟩, ⟨(some p9), none, .callF 44 [(.r p7), (.r p8)], 0⟩, ⟨(some p6), none, .mov (.r p9), 0⟩])
  (.seq (.seq (.reg false [⟨(some p10), none, .mov (.r p6), 0⟩, ⟨(some p11), none, .bin .lss .other (.r p10) (.c (.int .i64 (0))), 0⟩])
  (.cond (.r p11) (.seq (.reg false [⟨(some p12), none, .build [(.bool false), (.bool false), .nsl] [], 0⟩, ⟨none, none, .stR p4 0 3 (.r p12), 0⟩, ⟨(some p5), none, .mov (.c (.bool false)), 0⟩])
  .ret) .skip))
  (.seq (.reg true [⟨(some p13), none, .mov (.r p0), 0⟩, ⟨(some p14), none, .mov (.r p6), 0⟩, ⟨(some p15), none, .indexAddr 4 (.r p13) (.r p14), 0⟩, ⟨(some p16), none, .fieldAddr 1 (.r p15), 0⟩, ⟨(some p17), none, .fieldAddr 0 (.r p16), 0⟩, ⟨(some p18), none, .ld none (.r p17), 1⟩, ⟨(some p19), none, .mov (.r p0), 0⟩, ⟨(some p20), none, .mov (.r p6), 0⟩, ⟨(some p21), none, .indexAddr 4 (.r p19) (.r p20), 0⟩, ⟨(some p22), none, .fieldAddr 1 (.r p21), 0⟩, ⟨(some p23), none, .fieldAddr 1 (.r p22), 0⟩, ⟨(some p24), none, .ld none (.r p23), 1⟩, ⟨(some p25), none, .mov (.r p0), 0⟩, ⟨(some p26), none, .mov (.r p6), 0⟩, ⟨(some p27), none, .indexAddr 4 (.r p25) (.r p26), 0⟩, ⟨(some p28), none, .fieldAddr 1 (.r p27), 0⟩, ⟨(some p29), none, .fieldAddr 2 (.r p28), 0⟩, ⟨(some p30), none, .ld none (.r p29), 0⟩, ⟨(some p31), none, .callF 46 [(.r p30)], 0⟩, ⟨(some p32), none, .build [(.bool false), (.bool false), .nsl] [(0, 1, (.r p18)), (1, 1, (.r p24)), (2, 1, (.r p31))], 0⟩, ⟨none, none, .stR p4 0 3 (.r p32), 0⟩, ⟨(some p5), none, .mov (.c (.bool true)), 0⟩])
  .ret)))), [.part p4 (some 3), .reg p5]⟩
def fh22 : FH := ⟨[4], [], pu, [.perm [0, 1, 2, 3, 4, 5, 6, 7, 8, 9, 10, 11, 12, 13, 14, 15, 16, 17, 18, 19, 20, 21]]⟩

/-- demotic/demoticref11.Find -/
def cf23 : CF := ⟨2, (.seq (.reg false [⟨none, none, .alR p4 (.agg [(.bool false), (.bool false), .nsl]), 0⟩, ⟨(some p5), none, .mov (.c (.bool false)), 0⟩])
  (.seq (.seq (.reg false [⟨(some p6), none, .mov (.c (.int .i64 (0))), 0⟩])
  (.block 0 (.loop [p0, p1, p4, p6] (.seq (.seq (.reg false [⟨(some p7), none, .mov (.r p6), 0⟩, ⟨(some p8), none, .mov (.r p0), 0⟩, ⟨(some p9), none, .len .sl (.r p8), 0⟩, ⟨(some p10), none, .bin .lss .other (.r p7) (.r p9), 0⟩])
  (.cond (.r p10) .skip (.exit 0)))
  (.seq (.block 1 (.seq (.reg false [⟨(some p13), none, .mov (.r p0), 0⟩, ⟨(some p14), none, .mov (.r p6), 0⟩, ⟨(some p15), none, .indexAddr 4 (.r p13) (.r p14), 0⟩, ⟨(some p16), none, .fieldAddr 0 (.r p15), 0⟩, ⟨(some p17), none, .ld none (.r p16), 0⟩, ⟨(some p18), none, .mov (.r p1), 0⟩, ⟨(some p19), none, .bin .eql .str (.r p17) (.r p18), 0⟩])
  (.cond (.r p19) (.seq (.reg false [⟨(some p20), none, .mov (.r p0), 0⟩, ⟨(some p21), none, .mov (.r p6), 0⟩, ⟨(some p22), none, .indexAddr 4 (.r p20) (.r p21), 0⟩, ⟨(some p23), none, .fieldAddr 1 (.r p22), 0⟩, ⟨(some p24), none, .ld (some 3) (.r p23), 0⟩, ⟨none, none, .stR p4 0 3 (.r p24), 0⟩, ⟨(some p5), none, .mov (.c (.bool true)), 0⟩])
  .ret) .skip)))
  (.reg false [⟨(some p11), none, .mov (.r p6), 0⟩, ⟨(some p12), none, .bin .add .other (.r p11) (.c (.int .i64 (1))), 0⟩, ⟨(some p6), none, .mov (.r p12), 0⟩]))))))
  (.seq (.reg false [⟨(some p25), none, .build [(.bool false), (.bool false), .nsl] [], 0⟩, ⟨none, none, .stR p4 0 3 (.r p25), 0⟩, ⟨(some p5), none, .mov (.c (.bool false)), 0⟩])
  .ret))), [.part p4 (some 3), .reg p5]⟩
def fh23 : FH := ⟨[4], [], pu, [.live [0, 1, 4, 6]]⟩

/-- demotic/demoticlaw11.told -/
def cf24 : CF := ⟨2, (.seq (.reg false [⟨none, none, .boxR p2 (.r p0), 0⟩, ⟨none, none, .boxR p3 (.r p1), 0⟩, ⟨(some p4), none, .mov (.c (.bool false)), 0⟩])
  (.seq (.seq (.reg false [⟨(some p6), none, .adr p2, 0⟩, ⟨(some p7), none, .ldR p2 0 none, 0⟩, ⟨(some p8), none, .adr p3, 0⟩, ⟨(some p9), none, .ldR p3 0 none, 0⟩, ⟨(some p10), none, .bin .neq .bool (.r p7) (.r p9), 0⟩, ⟨(some p11), none, .mov (.r p10), 0⟩, ⟨(some p12), (some (p11, false)), .adr p2, 0⟩, ⟨(some p13), (some (p11, false)), .ldR p2 1 none, 0⟩, ⟨(some p14), (some (p11, false)), .adr p3, 0⟩, ⟨(some p15), (some (p11, false)), .ldR p3 1 none, 0⟩, ⟨(some p16), (some (p11, false)), .bin .neq .bool (.r p13) (.r p15), 0⟩, ⟨(some p17), none, .pick (.r p11) (.c (.bool true)) (.r p16), 0⟩, ⟨(some p18), none, .mov (.r p17), 0⟩, ⟨(some p19), (some (p18, false)), .adr p2, 0⟩, ⟨(some p20), (some (p18, false)), .ldR p2 2 none, 0⟩, ⟨(some p21), (some (p18, false)), .len .sl (.r p20), 0⟩, ⟨(some p22), (some (p18, false)), .adr p3, 0⟩, ⟨(some p23), (some (p18, false)), .ldR p3 2 none, 0⟩, ⟨(some p24), (some (p18, false)), .len .sl (.r p23), 0⟩, ⟨(some p25), (some (p18, false)), .bin .neq .other (.r p21) (.r p24), 0⟩, ⟨(some p26), none, .pick (.r p18) (.c (.bool true)) (.r p25), 0⟩])
  (.cond (.r p26) (.seq (.reg false [⟨(some p4), none, .mov (.c (.bool false)), 0⟩])
  .ret) .skip))
  (.seq (.seq (.reg false [⟨(some p5), none, .mov (.c (.int .i64 (0))), 0⟩])
  (.block 0 (.loop [p2, p3, p5] (.seq (.seq (.reg false [⟨(some p27), none, .mov (.r p5), 0⟩, ⟨(some p28), none, .adr p2, 0⟩, ⟨(some p29), none, .ldR p2 2 none, 0⟩, ⟨(some p30), none, .len .sl (.r p29), 0⟩, ⟨(some p31), none, .bin .lss .other (.r p27) (.r p30), 0⟩])
  (.cond (.r p31) .skip (.exit 0)))
  (.seq (.block 1 (.seq (.reg true [⟨(some p34), none, .adr p2, 0⟩, ⟨(some p35), none, .ldR p2 2 none, 0⟩, ⟨(some p36), none, .mov (.r p5), 0⟩, ⟨(some p37), none, .indexAddr 2 (.r p35) (.r p36), 0⟩, ⟨(some p38), none, .fieldAddr 0 (.r p37), 0⟩, ⟨(some p39), none, .ld none (.r p38), 0⟩, ⟨(some p40), none, .adr p3, 0⟩, ⟨(some p41), none, .ldR p3 2 none, 0⟩, ⟨(some p42), none, .mov (.r p5), 0⟩, ⟨(some p43), none, .indexAddr 2 (.r p41) (.r p42), 0⟩, ⟨(some p44), none, .fieldAddr 0 (.r p43), 0⟩, ⟨(some p45), none, .ld none (.r p44), 0⟩, ⟨(some p46), none, .bin .neq .bool (.r p39) (.r p45), 0⟩, ⟨(some p47), none, .mov (.r p46), 0⟩, ⟨(some p48), (some (p47, false)), .adr p2, 0⟩, ⟨(some p49), (some (p47, false)), .ldR p2 2 none, 0⟩, ⟨(some p50), (some (p47, false)), .mov (.r p5), 0⟩, ⟨(some p51), (some (p47, false)), .indexAddr 2 (.r p49) (.r p50), 0⟩, ⟨(some p52), (some (p47, false)), .fieldAddr 1 (.r p51), 0⟩, ⟨(some p53), (some (p47, false)), .ld none (.r p52), 0⟩, ⟨(some p54), (some (p47, false)), .adr p3, 0⟩, ⟨(some p55), (some (p47, false)), .ldR p3 2 none, 0⟩, ⟨(some p56), (some (p47, false)), .mov (.r p5), 0⟩, ⟨(some p57), (some (p47, false)), .indexAddr 2 (.r p55) (.r p56), 0⟩, ⟨(some p58), (some (p47, false)), .fieldAddr 1 (.r p57), 0⟩, ⟨(some p59), (some (p47, false)), .ld none (.r p58), 0⟩, ⟨(some p60), (some (p47, false)), .bin .neq .str (.r p53) (.r p59), 0⟩, ⟨(some p61), none, .pick (.r p47) (.c (.bool true)) (.r p60), 0⟩])
  (.cond (.r p61) (.seq (.reg false [⟨(some p4), none, .mov (.c (.bool false)), 0⟩])
  .ret) .skip)))
  (.reg false [⟨(some p32), none, .mov (.r p5), 0⟩, ⟨(some p33), none, .bin .add .other (.r p32) (.c (.int .i64 (1))), 0⟩, ⟨(some p5), none, .mov (.r p33), 0⟩]))))))
  (.seq (.reg false [⟨(some p4), none, .mov (.c (.bool true)), 0⟩])
  .ret)))), [.reg p4]⟩
def fh24 : FH := ⟨[2, 3], [], pu, [.live [2, 3, 5], .perm [0, 1, 2, 3, 4, 5, 6, 7, 8, 9, 10, 11, 12, 13, 14, 15, 16, 17, 18, 19, 20, 21, 22, 23, 24, 25, 26, 27]]⟩

/-- demotic/demoticlaw12.light -/
def cf25 : CF := ⟨1, (.seq (.reg false [⟨(some p2), none, .mov (.c (.bool false)), 0⟩])
  (.seq (.seq (.reg false [⟨(some p4), none, .mov (.r p0), 0⟩, ⟨(some p5), none, .len .sl (.r p4), 0⟩, ⟨(some p6), none, .bin .gtr .other (.r p5) (.c (.int .i64 (20))), 0⟩])
  (.cond (.r p6) (.seq (.reg false [⟨(some p2), none, .mov (.c (.bool false)), 0⟩])
  .ret) .skip))
  (.seq (.seq (.reg false [⟨(some p3), none, .mov (.c (.int .i64 (0))), 0⟩])
  (.block 0 (.loop [p0, p3] (.seq (.seq (.reg false [⟨(some p7), none, .mov (.r p3), 0⟩, ⟨(some p8), none, .mov (.r p0), 0⟩, ⟨(some p9), none, .len .sl (.r p8), 0⟩, ⟨(some p10), none, .bin .lss .other (.r p7) (.r p9), 0⟩])
  (.cond (.r p10) .skip (.exit 0)))
  (.seq (.block 1 (.seq (.reg false [⟨(some p13), none, .mov (.r p0), 0⟩, ⟨(some p14), none, .mov (.r p3), 0⟩, ⟨(some p15), none, .indexAddr 6 (.r p13) (.r p14), 0⟩, ⟨(some p16), none, .fieldAddr 2 (.r p15), 0⟩, ⟨(some p17), none, .ld (some 3) (.r p16), 0⟩, ⟨(some p18), none, .callP 10 [(.r p17)], 0⟩, ⟨(some p19), none, .bin .gtr .other (.r p18) (.c (.int .i64 (20))), 0⟩, ⟨(some p20), none, .mov (.r p19), 0⟩, ⟨(some p21), (some (p20, false)), .mov (.r p0), 0⟩, ⟨(some p22), (some (p20, false)), .mov (.r p3), 0⟩, ⟨(some p23), (some (p20, false)), .indexAddr 6 (.r p21) (.r p22), 0⟩, ⟨(some p24), (some (p20, false)), .fieldAddr 1 (.r p23), 0⟩, ⟨(some p25), (some (p20, false)), .ld none (.r p24), 0⟩, ⟨(some p26), (some (p20, false)), .len .sl (.r p25), 0⟩, ⟨(some p27), (some (p20, false)), .bin .gtr .other (.r p26) (.c (.int .i64 (10))), 0⟩, ⟨(some p28), none, .pick (.r p20) (.c (.bool true)) (.r p27), 0⟩])
  (.cond (.r p28) (.seq (.reg false [⟨(some p2), none, .mov (.c (.bool false)), 0⟩])
  .ret) .skip)))
  (.reg false [⟨(some p11), none, .mov (.r p3), 0⟩, ⟨(some p12), none, .bin .add .other (.r p11) (.c (.int .i64 (1))), 0⟩, ⟨(some p3), none, .mov (.r p12), 0⟩]))))))
  (.seq (.reg false [⟨(some p2), none, .mov (.c (.bool true)), 0⟩])
  .ret)))), [.reg p2]⟩
def fh25 : FH := ⟨[], [], pu, [.live [0, 3]]⟩

/-- demotic/demoticlaw12.few -/
def cf26 : CF := ⟨1, (.seq (.reg false [⟨(some p2), none, .mov (.c (.bool false)), 0⟩])
  (.seq (.seq (.reg false [⟨(some p4), none, .mov (.r p0), 0⟩, ⟨(some p5), none, .len .sl (.r p4), 0⟩, ⟨(some p6), none, .bin .gtr .other (.r p5) (.c (.int .i64 (10))), 0⟩])
  (.cond (.r p6) (.seq (.reg false [⟨(some p2), none, .mov (.c (.bool false)), 0⟩])
  .ret) .skip))
  (.seq (.seq (.reg false [⟨(some p3), none, .mov (.c (.int .i64 (0))), 0⟩])
  (.block 0 (.loop [p0, p3] (.seq (.seq (.reg false [⟨(some p7), none, .mov (.r p3), 0⟩, ⟨(some p8), none, .mov (.r p0), 0⟩, ⟨(some p9), none, .len .sl (.r p8), 0⟩, ⟨(some p10), none, .bin .lss .other (.r p7) (.r p9), 0⟩])
  (.cond (.r p10) .skip (.exit 0)))
  (.seq (.block 1 (.seq (.reg false [⟨(some p13), none, .mov (.r p0), 0⟩, ⟨(some p14), none, .mov (.r p3), 0⟩, ⟨(some p15), none, .indexAddr 3 (.r p13) (.r p14), 0⟩, ⟨(some p16), none, .ld (some 3) (.r p15), 0⟩, ⟨(some p17), none, .callP 10 [(.r p16)], 0⟩, ⟨(some p18), none, .bin .gtr .other (.r p17) (.c (.int .i64 (40))), 0⟩])
  (.cond (.r p18) (.seq (.reg false [⟨(some p2), none, .mov (.c (.bool false)), 0⟩])
  .ret) .skip)))
  (.reg false [⟨(some p11), none, .mov (.r p3), 0⟩, ⟨(some p12), none, .bin .add .other (.r p11) (.c (.int .i64 (1))), 0⟩, ⟨(some p3), none, .mov (.r p12), 0⟩]))))))
  (.seq (.reg false [⟨(some p2), none, .mov (.c (.bool true)), 0⟩])
  .ret)))), [.reg p2]⟩
def fh26 : FH := ⟨[], [], pu, [.live [0, 3]]⟩

/-- demotic/demoticlaw12.defs -/
def cf27 : CF := ⟨1, (.seq (.reg false [⟨(some p2), none, .mov (.c .nsl), 0⟩])
  (.seq (.reg false [⟨(some p3), none, .mov (.c .nsl), 0⟩])
  (.seq (.seq (.reg false [⟨(some p4), none, .mov (.c (.int .i64 (0))), 0⟩])
  (.block 0 (.loop [p0, p3, p4] (.seq (.seq (.reg false [⟨(some p5), none, .mov (.r p4), 0⟩, ⟨(some p6), none, .mov (.r p0), 0⟩, ⟨(some p7), none, .len .sl (.r p6), 0⟩, ⟨(some p8), none, .bin .lss .other (.r p5) (.r p7), 0⟩])
  (.cond (.r p8) .skip (.exit 0)))
  (.seq (.block 1 (.reg true [⟨(some p11), none, .mov (.r p3), 0⟩, ⟨(some p12), none, .mov (.r p0), 0⟩, ⟨(some p13), none, .mov (.r p4), 0⟩, ⟨(some p14), none, .indexAddr 6 (.r p12) (.r p13), 0⟩, ⟨(some p15), none, .fieldAddr 0 (.r p14), 0⟩, ⟨(some p16), none, .ld none (.r p15), 1⟩, ⟨(some p17), none, .buildSl 1 (.str []) 0 [] false, 0⟩, ⟨(some p18), none, .mov (.r p0), 0⟩, ⟨(some p19), none, .mov (.r p4), 0⟩, ⟨(some p20), none, .indexAddr 6 (.r p18) (.r p19), 0⟩, ⟨(some p21), none, .fieldAddr 1 (.r p20), 0⟩, ⟨(some p22), none, .ld none (.r p21), 0⟩, ⟨(some p24), none, .mov (.r p0), 0⟩, ⟨(some p25), none, .mov (.r p4), 0⟩, ⟨(some p26), none, .indexAddr 6 (.r p24) (.r p25), 0⟩, ⟨(some p27), none, .fieldAddr 2 (.r p26), 0⟩, ⟨(some p28), none, .ld (some 3) (.r p27), 1⟩, ⟨(some p30), none, .mov (.r p0), 0⟩, ⟨(some p31), none, .mov (.r p4), 0⟩, ⟨(some p32), none, .indexAddr 6 (.r p30) (.r p31), 0⟩, ⟨(some p33), none, .fieldAddr 5 (.r p32), 0⟩, ⟨(some p34), none, .ld none (.r p33), 1⟩, ⟨(some p23), none, .append 1 16 (.r p17) (.r p22) false, 0⟩, ⟨(some p29), none, .callP 47 [(.r p28)], 0⟩, ⟨(some p35), none, .build [(.str []), .nsl, (.int .i64 (0)), (.str []), .nsl, (.bool false)] [(0, 1, (.r p16)), (1, 1, (.r p23)), (2, 3, (.r p29)), (5, 1, (.r p34))], 0⟩, ⟨(some p36), none, .buildSl 6 (.agg [(.str []), .nsl, (.int .i64 (0)), (.str []), .nsl, (.bool false)]) 1 [(0, (.r p35))] false, 0⟩, ⟨(some p37), none, .append 6 96 (.r p11) (.r p36) false, 0⟩, ⟨(some p3), none, .mov (.r p37), 0⟩]))
  (.reg false [⟨(some p9), none, .mov (.r p4), 0⟩, ⟨(some p10), none, .bin .add .other (.r p9) (.c (.int .i64 (1))), 0⟩, ⟨(some p4), none, .mov (.r p10), 0⟩]))))))
  (.seq (.reg false [⟨(some p38), none, .mov (.r p3), 0⟩, ⟨(some p2), none, .mov (.r p38), 0⟩])
  .ret)))), [.reg p2]⟩
def fh27 : FH := ⟨[], [], pu, [.live [0, 3, 4], .perm [0, 1, 2, 3, 4, 5, 6, 7, 8, 9, 10, 11, 13, 14, 15, 16, 17, 19, 20, 21, 22, 23, 12, 18, 24, 25, 26, 27]]⟩

/-- demotic/unify.Find -/
def cf28 : CF := ⟨4, (.seq (.reg false [⟨(some p8), none, .mov (.c .nsl), 0⟩, ⟨(some p9), none, .mov (.c (.bool false)), 0⟩])
  (.seq (.reg false [⟨(some p18), none, .mov (.r p0), 0⟩, ⟨(some p19), none, .mov (.r p1), 0⟩, ⟨(some p20), none, .mov (.r p1), 0⟩, ⟨(some p21), none, .len .sl (.r p20), 0⟩, ⟨(some p22), none, .mkSl 3 48 (.agg [(.int .i64 (0)), (.str []), .nsl]) (.r p21) false, 0⟩, ⟨(some p23), none, .callF 48 [(.r p18), (.r p19), (.r p22)], 0⟩, ⟨(some p17), none, .mov (.r p23), 0⟩, ⟨(some p24), none, .extract (.r p17) 0, 0⟩, ⟨(some p25), none, .extract (.r p17) 1, 0⟩, ⟨(some p10), none, .mov (.r p24), 0⟩, ⟨(some p11), none, .mov (.r p25), 0⟩])
  (.seq (.seq (.reg false [⟨(some p26), none, .mov (.r p11), 0⟩, ⟨(some p27), none, .not (.r p26), 0⟩, ⟨(some p28), none, .mov (.r p27), 0⟩, ⟨(some p29), (some (p28, false)), .mov (.r p2), 0⟩, ⟨(some p30), (some (p28, false)), .len .sl (.r p29), 0⟩, ⟨(some p31), (some (p28, false)), .mov (.r p3), 0⟩, ⟨(some p32), (some (p28, false)), .len .sl (.r p31), 0⟩, ⟨(some p33), (some (p28, false)), .bin .neq .other (.r p30) (.r p32), 0⟩, ⟨(some p34), none, .pick (.r p28) (.c (.bool true)) (.r p33), 0⟩])
  (.cond (.r p34) (.seq (.reg false [⟨(some p8), none, .mov (.c .nsl), 0⟩, ⟨(some p9), none, .mov (.c (.bool false)), 0⟩])
  .ret) .skip))
  (.seq (.seq (.reg false [⟨(some p35), none, .mov (.r p3), 0⟩, ⟨(some p36), none, .len .sl (.r p35), 0⟩, ⟨(some p37), none, .mov (.c (.int .i64 (0))), 0⟩])
  (.block 0 (.loop [p2, p3, p10, p35, p36, p37] (.seq (.reg false [⟨(some p38), none, .bin .lss .other (.r p37) (.r p36), 0⟩])
  (.seq (.cond (.r p38) .skip (.exit 0))
  (.seq (.block 1 (.seq (.reg false [⟨(some p39), none, .mov (.r p37), 0⟩, ⟨(some p40), none, .indexAddr 3 (.r p35) (.r p37), 0⟩, ⟨(some p41), none, .ld (some 3) (.r p40), 0⟩, ⟨none, none, .alR p13 (.agg [(.int .i64 (0)), (.str []), .nsl]), 0⟩, ⟨(some p12), none, .mov (.r p39), 0⟩, ⟨none, none, .stR p13 0 3 (.r p41), 0⟩])
  (.seq (.seq (.reg false [⟨(some p42), none, .adr p13, 0⟩, ⟨(some p43), none, .ldR p13 0 none, 0⟩, ⟨(some p44), none, .bin .eql .other (.r p43) (.c (.int .i64 (2))), 0⟩])
  (.cond (.r p44) (.exit 1) .skip))
  (.seq (.reg true [⟨(some p46), none, .mov (.r p10), 0⟩, ⟨(some p47), none, .mov (.r p2), 0⟩, ⟨(some p48), none, .mov (.r p12), 0⟩, ⟨(some p49), none, .indexAddr 3 (.r p47) (.r p48), 0⟩, ⟨(some p50), none, .ld (some 3) (.r p49), 0⟩, ⟨(some p51), none, .ldR p13 0 (some 3), 0⟩, ⟨none, none, .alR p14 (.agg [(.int .i64 (0)), (.str []), .nsl]), 0⟩, ⟨none, none, .alR p15 (.agg [(.int .i64 (0)), (.str []), .nsl]), 0⟩, ⟨(some p52), none, .callF 49 [(.r p46), (.r p50), (.r p51)], 0⟩, ⟨(some p45), none, .mov (.r p52), 0⟩, ⟨(some p53), none, .extract (.r p45) 0, 0⟩, ⟨(some p54), none, .extract (.r p45) 1, 0⟩, ⟨(some p55), none, .extract (.r p45) 2, 0⟩, ⟨none, none, .stR p14 0 3 (.r p53), 0⟩, ⟨none, none, .stR p15 0 3 (.r p54), 0⟩, ⟨(some p16), none, .mov (.r p55), 0⟩])
  (.seq (.reg false [⟨(some p56), none, .mov (.r p16), 0⟩, ⟨(some p57), none, .not (.r p56), 0⟩, ⟨(some p58), none, .mov (.r p57), 0⟩, ⟨(some p59), (some (p58, false)), .mov (.r p10), 0⟩, ⟨(some p60), (some (p58, false)), .ldR p14 0 (some 3), 0⟩, ⟨(some p61), (some (p58, false)), .ldR p15 0 (some 3), 0⟩, ⟨(some p62), (some (p58, false)), .callF 50 [(.r p59), (.r p60), (.r p61), (.c (.int .i64 (100)))], 0⟩, ⟨(some p63), (some (p58, false)), .not (.r p62), 0⟩, ⟨(some p64), none, .pick (.r p58) (.c (.bool true)) (.r p63), 0⟩])
  (.cond (.r p64) (.seq (.reg false [⟨(some p8), none, .mov (.c .nsl), 0⟩, ⟨(some p9), none, .mov (.c (.bool false)), 0⟩])
  .ret) .skip))))))
  (.reg false [⟨(some p65), none, .bin .add .other (.r p37) (.c (.int .i64 (1))), 0⟩, ⟨(some p37), none, .mov (.r p65), 0⟩])))))))
  (.seq (.seq (.reg false [⟨(some p66), none, .mov (.r p10), 0⟩, ⟨(some p67), none, .mov (.r p2), 0⟩, ⟨(some p68), none, .mov (.r p3), 0⟩, ⟨(some p69), none, .callF 51 [(.r p66), (.r p67), (.r p68)], 0⟩, ⟨(some p70), none, .not (.r p69), 0⟩, ⟨(some p71), none, .mov (.r p70), 0⟩, ⟨(some p72), (some (p71, false)), .mov (.r p10), 0⟩, ⟨(some p73), (some (p71, false)), .nilCheck (.r p72), 0⟩, ⟨(some p74), (some (p71, false)), .fieldAddr 2 (.r p73), 0⟩, ⟨(some p75), (some (p71, false)), .ld none (.r p74), 0⟩, ⟨(some p76), (some (p71, false)), .callF 52 [(.r p75), (.c (.func 53 []))], 0⟩, ⟨(some p77), none, .pick (.r p71) (.c (.bool true)) (.r p76), 0⟩])
  (.cond (.r p77) (.seq (.reg false [⟨(some p8), none, .mov (.c .nsl), 0⟩, ⟨(some p9), none, .mov (.c (.bool false)), 0⟩])
  .ret) .skip))
  (.seq (.reg false [⟨(some p78), none, .mov (.r p10), 0⟩, ⟨(some p79), none, .nilCheck (.r p78), 0⟩, ⟨(some p80), none, .fieldAddr 2 (.r p79), 0⟩, ⟨(some p81), none, .ld none (.r p80), 0⟩, ⟨(some p8), none, .mov (.r p81), 0⟩, ⟨(some p9), none, .mov (.c (.bool true)), 0⟩])
  .ret)))))), [.reg p8, .reg p9]⟩
def fh28 : FH := ⟨[13, 14, 15], [], pu, [.live [2, 3, 10, 35, 36, 37], .perm [0, 1, 2, 3, 4, 5, 11, 12, 6, 7, 8, 9, 10, 13, 14, 15]]⟩

/-- demotic/demoticlaw12.types -/
def cf29 : CF := ⟨1, (.seq (.reg false [⟨(some p2), none, .mov (.c .nsl), 0⟩])
  (.seq (.reg false [⟨(some p3), none, .mov (.c .nsl), 0⟩])
  (.seq (.seq (.reg false [⟨(some p4), none, .mov (.c (.int .i64 (0))), 0⟩])
  (.block 0 (.loop [p0, p3, p4] (.seq (.seq (.reg false [⟨(some p5), none, .mov (.r p4), 0⟩, ⟨(some p6), none, .mov (.r p0), 0⟩, ⟨(some p7), none, .len .sl (.r p6), 0⟩, ⟨(some p8), none, .bin .lss .other (.r p5) (.r p7), 0⟩])
  (.cond (.r p8) .skip (.exit 0)))
  (.seq (.block 1 (.reg false [⟨(some p11), none, .mov (.r p3), 0⟩, ⟨(some p12), none, .mov (.r p0), 0⟩, ⟨(some p13), none, .mov (.r p4), 0⟩, ⟨(some p14), none, .indexAddr 3 (.r p12) (.r p13), 0⟩, ⟨(some p15), none, .ld (some 3) (.r p14), 0⟩, ⟨(some p16), none, .callP 47 [(.r p15)], 0⟩, ⟨(some p17), none, .buildSl 3 (.agg [(.int .i64 (0)), (.str []), .nsl]) 1 [(0, (.r p16))] false, 0⟩, ⟨(some p18), none, .append 3 48 (.r p11) (.r p17) false, 0⟩, ⟨(some p3), none, .mov (.r p18), 0⟩]))
  (.reg false [⟨(some p9), none, .mov (.r p4), 0⟩, ⟨(some p10), none, .bin .add .other (.r p9) (.c (.int .i64 (1))), 0⟩, ⟨(some p4), none, .mov (.r p10), 0⟩]))))))
  (.seq (.reg false [⟨(some p19), none, .mov (.r p3), 0⟩, ⟨(some p2), none, .mov (.r p19), 0⟩])
  .ret)))), [.reg p2]⟩
def fh29 : FH := ⟨[], [], pu, [.live [0, 3, 4]]⟩

/-- demotic/demoticlaw12.awake -/
def cf30 : CF := ⟨0, (.seq (.reg false [⟨(some p0), none, .mov (.c (.bool false)), 0⟩])
  (.seq (.reg false [⟨(some p7), none, .build [(.int .i64 (0)), (.str []), .nsl] [(0, 1, (.c (.int .i64 (4)))), (1, 1, (.c (.str [80])))], 0⟩, ⟨(some p8), none, .build [(.int .i64 (0)), (.str []), .nsl] [(0, 1, (.c (.int .i64 (4)))), (1, 1, (.c (.str [81])))], 0⟩, ⟨none, none, .alR p1 (.agg [(.int .i64 (0)), (.str []), .nsl]), 0⟩, ⟨none, none, .alR p2 (.agg [(.int .i64 (0)), (.str []), .nsl]), 0⟩, ⟨none, none, .stR p1 0 3 (.r p7), 0⟩, ⟨none, none, .stR p2 0 3 (.r p8), 0⟩])
  (.seq (.reg false [⟨(some p9), none, .build [(.int .i64 (0)), (.str []), .nsl] [(0, 1, (.c (.int .i64 (1)))), (1, 1, (.c (.str [105, 110, 116])))], 0⟩, ⟨none, none, .alR p3 (.agg [(.int .i64 (0)), (.str []), .nsl]), 0⟩, ⟨none, none, .stR p3 0 3 (.r p9), 0⟩])
  (.seq (.reg false [⟨(some p10), none, .ldR p3 0 (some 3), 0⟩, ⟨(some p11), none, .buildSl 3 (.agg [(.int .i64 (0)), (.str []), .nsl]) 1 [(0, (.r p10))] false, 0⟩, ⟨(some p12), none, .build [(.int .i64 (0)), (.str []), .nsl] [(0, 1, (.c (.int .i64 (5)))), (2, 1, (.r p11))], 0⟩, ⟨none, none, .alR p4 (.agg [(.int .i64 (0)), (.str []), .nsl]), 0⟩, ⟨none, none, .stR p4 0 3 (.r p12), 0⟩])
  (.seq (.reg false [⟨(some p14), none, .buildSl 1 (.str []) 2 [(0, (.c (.str [80]))), (1, (.c (.str [81])))] false, 0⟩, ⟨(some p15), none, .ldR p1 0 (some 3), 0⟩, ⟨(some p16), none, .ldR p2 0 (some 3), 0⟩, ⟨(some p17), none, .buildSl 3 (.agg [(.int .i64 (0)), (.str []), .nsl]) 2 [(0, (.r p15)), (1, (.r p16))] false, 0⟩, ⟨(some p18), none, .build [(.int .i64 (0)), (.str []), .nsl] [(0, 1, (.c (.int .i64 (6)))), (2, 1, (.r p17))], 0⟩, ⟨(some p19), none, .buildSl 3 (.agg [(.int .i64 (0)), (.str []), .nsl]) 1 [(0, (.r p18))] false, 0⟩, ⟨(some p20), none, .ldR p3 0 (some 3), 0⟩, ⟨(some p21), none, .ldR p4 0 (some 3), 0⟩, ⟨(some p22), none, .buildSl 3 (.agg [(.int .i64 (0)), (.str []), .nsl]) 2 [(0, (.r p20)), (1, (.r p21))] false, 0⟩, ⟨(some p23), none, .build [(.int .i64 (0)), (.str []), .nsl] [(0, 1, (.c (.int .i64 (6)))), (2, 1, (.r p22))], 0⟩, ⟨(some p24), none, .buildSl 3 (.agg [(.int .i64 (0)), (.str []), .nsl]) 1 [(0, (.r p23))] false, 0⟩, ⟨(some p25), none, .callP 28 [(.c .nsl), (.r p14), (.r p19), (.r p24)], 0⟩, ⟨(some p13), none, .mov (.r p25), 0⟩, ⟨(some p26), none, .extract (.r p13) 0, 0⟩, ⟨(some p27), none, .extract (.r p13) 1, 0⟩, ⟨(some p5), none, .mov (.r p26), 0⟩, ⟨(some p6), none, .mov (.r p27), 0⟩])
  (.seq (.reg true [⟨(some p28), none, .mov (.r p6), 0⟩, ⟨(some p29), none, .mov (.r p28), 0⟩, ⟨(some p30), (some (p29, true)), .mov (.r p5), 0⟩, ⟨(some p31), (some (p29, true)), .len .sl (.r p30), 0⟩, ⟨(some p32), (some (p29, true)), .bin .eql .other (.r p31) (.c (.int .i64 (2))), 0⟩, ⟨(some p33), none, .pick (.r p29) (.r p32) (.c (.bool false)), 0⟩, ⟨(some p34), none, .mov (.r p33), 0⟩, ⟨(some p35), (some (p34, true)), .mov (.r p5), 0⟩, ⟨(some p36), (some (p34, true)), .indexAddr 3 (.r p35) (.c (.int .i64 (0))), 0⟩, ⟨(some p37), (some (p34, true)), .ld (some 3) (.r p36), 0⟩, ⟨(some p38), (some (p34, true)), .ldR p3 0 (some 3), 0⟩, ⟨(some p39), (some (p34, true)), .callP 32 [(.r p37), (.r p38)], 0⟩, ⟨(some p40), none, .pick (.r p34) (.r p39) (.c (.bool false)), 0⟩, ⟨(some p41), none, .mov (.r p40), 0⟩, ⟨(some p42), (some (p41, true)), .mov (.r p5), 0⟩, ⟨(some p43), (some (p41, true)), .indexAddr 3 (.r p42) (.c (.int .i64 (1))), 0⟩, ⟨(some p44), (some (p41, true)), .ld (some 3) (.r p43), 0⟩, ⟨(some p45), (some (p41, true)), .ldR p4 0 (some 3), 0⟩, ⟨(some p46), (some (p41, true)), .callP 32 [(.r p44), (.r p45)], 0⟩, ⟨(some p47), none, .pick (.r p41) (.r p46) (.c (.bool false)), 0⟩, ⟨(some p0), none, .mov (.r p47), 0⟩])
  .ret)))))), [.reg p0]⟩
def fh30 : FH := ⟨[1, 2, 3, 4], [], pu, [.perm [0, 1, 2, 3, 4, 5, 6, 7, 8, 9, 10, 11, 12, 13, 14, 15, 16, 17, 18, 19, 20]]⟩

/-- demotic/demoticlaw12.alike -/
def cf31 : CF := ⟨2, (.seq (.reg false [⟨none, none, .boxR p2 (.r p0), 0⟩, ⟨none, none, .boxR p3 (.r p1), 0⟩, ⟨(some p4), none, .mov (.c (.bool false)), 0⟩])
  (.seq (.seq (.reg false [⟨(some p6), none, .adr p2, 0⟩, ⟨(some p7), none, .ldR p2 0 none, 0⟩, ⟨(some p8), none, .adr p3, 0⟩, ⟨(some p9), none, .ldR p3 0 none, 0⟩, ⟨(some p10), none, .bin .neq .other (.r p7) (.r p9), 0⟩, ⟨(some p11), none, .mov (.r p10), 0⟩, ⟨(some p12), (some (p11, false)), .adr p2, 0⟩, ⟨(some p13), (some (p11, false)), .ldR p2 1 none, 0⟩, ⟨(some p14), (some (p11, false)), .adr p3, 0⟩, ⟨(some p15), (some (p11, false)), .ldR p3 1 none, 0⟩, ⟨(some p16), (some (p11, false)), .bin .neq .str (.r p13) (.r p15), 0⟩, ⟨(some p17), none, .pick (.r p11) (.c (.bool true)) (.r p16), 0⟩, ⟨(some p18), none, .mov (.r p17), 0⟩, ⟨(some p19), (some (p18, false)), .adr p2, 0⟩, ⟨(some p20), (some (p18, false)), .ldR p2 2 none, 0⟩, ⟨(some p21), (some (p18, false)), .len .sl (.r p20), 0⟩, ⟨(some p22), (some (p18, false)), .adr p3, 0⟩, ⟨(some p23), (some (p18, false)), .ldR p3 2 none, 0⟩, ⟨(some p24), (some (p18, false)), .len .sl (.r p23), 0⟩, ⟨(some p25), (some (p18, false)), .bin .neq .other (.r p21) (.r p24), 0⟩, ⟨(some p26), none, .pick (.r p18) (.c (.bool true)) (.r p25), 0⟩])
  (.cond (.r p26) (.seq (.reg false [⟨(some p4), none, .mov (.c (.bool false)), 0⟩])
  .ret) .skip))
  (.seq (.seq (.reg false [⟨(some p5), none, .mov (.c (.int .i64 (0))), 0⟩])
  (.block 0 (.loop [p2, p3, p5] (.seq (.seq (.reg false [⟨(some p27), none, .mov (.r p5), 0⟩, ⟨(some p28), none, .adr p2, 0⟩, ⟨(some p29), none, .ldR p2 2 none, 0⟩, ⟨(some p30), none, .len .sl (.r p29), 0⟩, ⟨(some p31), none, .bin .lss .other (.r p27) (.r p30), 0⟩])
  (.cond (.r p31) .skip (.exit 0)))
  (.seq (.block 1 (.seq (.reg true [⟨(some p34), none, .adr p2, 0⟩, ⟨(some p35), none, .ldR p2 2 none, 0⟩, ⟨(some p36), none, .mov (.r p5), 0⟩, ⟨(some p37), none, .indexAddr 3 (.r p35) (.r p36), 0⟩, ⟨(some p38), none, .ld (some 3) (.r p37), 0⟩, ⟨(some p39), none, .adr p3, 0⟩, ⟨(some p40), none, .ldR p3 2 none, 0⟩, ⟨(some p41), none, .mov (.r p5), 0⟩, ⟨(some p42), none, .indexAddr 3 (.r p40) (.r p41), 0⟩, ⟨(some p43), none, .ld (some 3) (.r p42), 0⟩, ⟨(some p44), none, .callP 31 [(.r p38), (.r p43)], 0⟩, ⟨(some p45), none, .not (.r p44), 0⟩])
  (.cond (.r p45) (.seq (.reg false [⟨(some p4), none, .mov (.c (.bool false)), 0⟩])
  .ret) .skip)))
  (.reg false [⟨(some p32), none, .mov (.r p5), 0⟩, ⟨(some p33), none, .bin .add .other (.r p32) (.c (.int .i64 (1))), 0⟩, ⟨(some p5), none, .mov (.r p33), 0⟩]))))))
  (.seq (.reg false [⟨(some p4), none, .mov (.c (.bool true)), 0⟩])
  .ret)))), [.reg p4]⟩
def fh31 : FH := ⟨[2, 3], [], pu, [.live [2, 3, 5], .perm [0, 1, 2, 3, 4, 5, 6, 7, 8, 9, 10, 11]]⟩

/-- demotic/kinds.Same -/
def cf32 : CF := ⟨2, (.seq (.reg false [⟨none, none, .boxR p2 (.r p0), 0⟩, ⟨none, none, .boxR p3 (.r p1), 0⟩, ⟨(some p4), none, .mov (.c (.bool false)), 0⟩])
  (.seq (.reg false [⟨(some p5), none, .ldR p2 0 (some 3), 0⟩, ⟨(some p6), none, .ldR p3 0 (some 3), 0⟩, ⟨(some p7), none, .callP 54 [(.r p5), (.r p6), (.c (.int .i64 (100)))], 0⟩, ⟨(some p4), none, .mov (.r p7), 0⟩])
  .ret)), [.reg p4]⟩
def fh32 : FH := ⟨[2, 3], [], pu, []⟩

/-- demotic/kinds.Full -/
def cf33 : CF := ⟨2, (.seq (.reg false [⟨none, none, .boxR p3 (.r p1), 0⟩, ⟨none, none, .alR p4 (.agg [(.int .i64 (0)), (.str []), .nsl]), 0⟩])
  (.seq (.reg false [⟨(some p7), none, .mov (.r p0), 0⟩, ⟨(some p8), none, .build [.nsl, (.int .i64 (0))] [(0, 1, (.r p7)), (1, 1, (.c (.int .i64 (20000))))], 0⟩, ⟨(some p9), none, .box 2 (.r p8), 0⟩, ⟨(some p5), none, .mov (.r p9), 0⟩])
  (.seq (.seq (.reg false [⟨(some p10), none, .mov (.r p5), 0⟩, ⟨(some p11), none, .ldR p3 0 (some 3), 0⟩, ⟨(some p12), none, .callF 55 [(.r p10), (.r p11), (.c (.int .i64 (100)))], 0⟩, ⟨none, none, .alR p6 (.agg [(.int .i64 (0)), (.str []), .nsl]), 0⟩, ⟨none, none, .stR p6 0 3 (.r p12), 0⟩])
  (.seq (.reg false [⟨(some p13), none, .mov (.r p5), 0⟩, ⟨(some p14), none, .nilCheck (.r p13), 0⟩, ⟨(some p15), none, .fieldAddr 1 (.r p14), 0⟩, ⟨(some p16), none, .ld none (.r p15), 0⟩, ⟨(some p17), none, .bin .gtr .other (.r p16) (.c (.int .i64 (0))), 0⟩])
  (.cond (.r p17) (.seq (.reg false [⟨(some p18), none, .ldR p6 0 (some 3), 0⟩, ⟨none, none, .stR p4 0 3 (.r p18), 0⟩])
  .ret) .skip)))
  (.seq (.reg false [⟨(some p19), none, .build [(.int .i64 (0)), (.str []), .nsl] [], 0⟩, ⟨none, none, .stR p4 0 3 (.r p19), 0⟩])
  .ret)))), [.part p4 (some 3)]⟩
def fh33 : FH := ⟨[3, 4, 6], [], pu, []⟩

/-- demotic/sets.Right -/
def cf34 : CF := ⟨1, (.seq (.reg false [⟨none, none, .boxR p1 (.r p0), 0⟩, ⟨(some p2), none, .mov (.c (.bool false)), 0⟩])
  (.seq (.reg false [⟨(some p3), none, .mov (.c (.int .i64 (0))), 0⟩])
  (.seq (.seq (.reg false [⟨(some p6), none, .adr p1, 0⟩, ⟨(some p7), none, .ldR p1 0 none, 0⟩, ⟨(some p8), none, .adr p1, 0⟩, ⟨(some p9), none, .ldR p1 1 none, 0⟩, ⟨(some p10), none, .adr p1, 0⟩, ⟨(some p11), none, .ldR p1 2 none, 0⟩, ⟨(some p12), none, .len .sl (.r p11), 0⟩, ⟨(some p13), none, .bin .gtr .other (.r p12) (.c (.int .i64 (0))), 0⟩, ⟨(some p14), none, .build [(.bool false), (.bool false), (.bool false)] [(0, 1, (.r p7)), (1, 1, (.r p9)), (2, 1, (.r p13))], 0⟩, ⟨(some p15), none, .mov (.c (.int .i64 (0))), 0⟩])
  (.block 0 (.loop [p1, p3, p14, p15] (.seq (.reg false [⟨(some p16), none, .bin .lss .other (.r p15) (.c (.int .i64 (3))), 0⟩])
  (.seq (.cond (.r p16) .skip (.exit 0))
  (.seq (.block 1 (.seq (.reg false [⟨(some p17), none, .index 1 3 none (.r p14) (.r p15), 0⟩, ⟨(some p5), none, .mov (.r p17), 0⟩])
  (.seq (.reg false [⟨(some p18), none, .mov (.r p5), 0⟩])
  (.cond (.r p18) (.reg false [⟨(some p19), none, .mov (.r p3), 0⟩, ⟨(some p20), none, .bin .add .other (.r p19) (.c (.int .i64 (1))), 0⟩, ⟨(some p3), none, .mov (.r p20), 0⟩]) .skip))))
  (.reg false [⟨(some p21), none, .bin .add .other (.r p15) (.c (.int .i64 (1))), 0⟩, ⟨(some p15), none, .mov (.r p21), 0⟩])))))))
  (.seq (.reg false [⟨(some p22), none, .mov (.r p3), 0⟩, ⟨(some p23), none, .bin .eql .other (.r p22) (.c (.int .i64 (1))), 0⟩, ⟨(some p24), none, .mov (.r p23), 0⟩, ⟨(some p25), (some (p24, true)), .adr p1, 0⟩, ⟨(some p26), (some (p24, true)), .ldR p1 2 none, 0⟩, ⟨(some p27), (some (p24, true)), .callF 36 [(.r p26), (.c (.func 56 []))], 0⟩, ⟨(some p28), (some (p24, true)), .not (.r p27), 0⟩, ⟨(some p29), none, .pick (.r p24) (.r p28) (.c (.bool false)), 0⟩, ⟨(some p2), none, .mov (.r p29), 0⟩])
  .ret)))), [.reg p2]⟩
def fh34 : FH := ⟨[1], [], pu, [.live [1, 3, 14, 15]]⟩

/-- demotic/kinds.Comparable -/
def cf35 : CF := ⟨2, (.seq (.reg false [⟨none, none, .boxR p3 (.r p1), 0⟩, ⟨(some p4), none, .mov (.c (.bool false)), 0⟩])
  (.seq (.reg false [⟨(some p5), none, .mov (.r p0), 0⟩, ⟨(some p6), none, .ldR p3 0 (some 3), 0⟩, ⟨(some p7), none, .callP 39 [(.r p5), (.r p6)], 0⟩, ⟨(some p8), none, .field 0 none (.r p7), 0⟩, ⟨(some p9), none, .bin .eql .other (.r p8) (.c (.int .i64 (1))), 0⟩, ⟨(some p4), none, .mov (.r p9), 0⟩])
  .ret)), [.reg p4]⟩
def fh35 : FH := ⟨[3], [], pu, []⟩

/-- slices.ContainsFunc[[]demotic/sets.Term,demotic/sets.Term] -/
def cf36 : CF := ⟨2, (.seq (.reg false [⟨(some p4), none, .mov (.c (.bool false)), 0⟩])
  (.seq (.reg false [⟨(some p5), none, .mov (.r p0), 0⟩, ⟨(some p6), none, .mov (.r p1), 0⟩, ⟨(some p7), none, .callF 58 [(.r p5), (.r p6)], 0⟩, ⟨(some p8), none, .bin .geq .other (.r p7) (.c (.int .i64 (0))), 0⟩, ⟨(some p4), none, .mov (.r p8), 0⟩])
  .ret)), [.reg p4]⟩
def fh36 : FH := ⟨[], [], pu, []⟩

/-- demotic/sets.Lets$1 -/
def cf37 : CF := ⟨2, (.seq (.reg false [⟨none, none, .boxR p2 (.r p0), 0⟩, ⟨(some p3), none, .mov (.c (.bool false)), 0⟩])
  (.seq (.reg false [⟨(some p4), none, .ld (some 3) (.r p1), 0⟩, ⟨(some p5), none, .ldR p2 0 (some 2), 0⟩, ⟨(some p6), none, .callP 38 [(.r p4), (.r p5)], 0⟩, ⟨(some p7), none, .not (.r p6), 0⟩, ⟨(some p3), none, .mov (.r p7), 0⟩])
  .ret)), [.reg p3]⟩
def fh37 : FH := ⟨[2], [], pu, []⟩

/-- demotic/sets.within -/
def cf38 : CF := ⟨2, (.seq (.reg false [⟨none, none, .boxR p2 (.r p0), 0⟩, ⟨(some p3), none, .box 2 (.r p1), 0⟩, ⟨(some p4), none, .mov (.c (.bool false)), 0⟩])
  (.seq (.reg false [⟨(some p5), none, .adr p2, 0⟩, ⟨(some p6), none, .ldR p2 2 none, 0⟩, ⟨(some p7), none, .mkFunc 59 [(.r p3)], 0⟩, ⟨(some p8), none, .callF 36 [(.r p6), (.r p7)], 0⟩, ⟨(some p4), none, .mov (.r p8), 0⟩])
  .ret)), [.reg p4]⟩
def fh38 : FH := ⟨[2], [], pu, []⟩

/-- demotic/kinds.Behind -/
def cf39 : CF := ⟨2, (.seq (.reg false [⟨none, none, .boxR p3 (.r p1), 0⟩, ⟨none, none, .alR p4 (.agg [(.int .i64 (0)), (.str []), .nsl]), 0⟩])
  (.seq (.seq (.reg false [⟨(some p6), none, .mov (.c (.int .i64 (0))), 0⟩])
  (.block 0 (.loop [p0, p3, p4, p6] (.seq (.reg false [⟨(some p7), none, .bin .lss .other (.r p6) (.c (.int .i64 (100))), 0⟩])
  (.seq (.cond (.r p7) .skip (.exit 0))
  (.seq (.block 1 (.seq (.seq (.reg false [⟨(some p8), none, .adr p3, 0⟩, ⟨(some p9), none, .ldR p3 0 none, 0⟩, ⟨(some p10), none, .bin .neq .other (.r p9) (.c (.int .i64 (3))), 0⟩])
  (.cond (.r p10) (.seq (.reg false [⟨(some p11), none, .ldR p3 0 (some 3), 0⟩, ⟨none, none, .stR p4 0 3 (.r p11), 0⟩])
  .ret) .skip))
  (.seq (.reg false [⟨(some p12), none, .mov (.r p0), 0⟩, ⟨(some p13), none, .ldR p3 0 (some 3), 0⟩, ⟨(some p14), none, .callF 60 [(.r p12), (.r p13)], 0⟩, ⟨(some p5), none, .mov (.r p14), 0⟩])
  (.seq (.seq (.reg false [⟨(some p15), none, .mov (.r p5), 0⟩, ⟨(some p16), none, .bin .eql .ptr (.r p15) (.c .nptr), 0⟩, ⟨(some p17), none, .mov (.r p16), 0⟩, ⟨(some p18), (some (p17, false)), .ldR p3 0 (some 3), 0⟩, ⟨(some p19), (some (p17, false)), .callP 61 [(.r p18)], 0⟩, ⟨(some p20), (some (p17, false)), .bin .gtr .other (.r p19) (.c (.int .i64 (1000))), 0⟩, ⟨(some p21), none, .pick (.r p17) (.c (.bool true)) (.r p20), 0⟩])
  (.cond (.r p21) (.seq (.reg false [⟨(some p22), none, .build [(.int .i64 (0)), (.str []), .nsl] [], 0⟩, ⟨none, none, .stR p4 0 3 (.r p22), 0⟩])
  .ret) .skip))
  (.reg true [⟨(some p23), none, .mov (.r p5), 0⟩, ⟨(some p24), none, .nilCheck (.r p23), 0⟩, ⟨(some p25), none, .fieldAddr 2 (.r p24), 0⟩, ⟨(some p26), none, .ld (some 3) (.r p25), 0⟩, ⟨(some p27), none, .mov (.r p5), 0⟩, ⟨(some p28), none, .nilCheck (.r p27), 0⟩, ⟨(some p29), none, .fieldAddr 1 (.r p28), 0⟩, ⟨(some p30), none, .ld none (.r p29), 0⟩, ⟨(some p31), none, .adr p3, 0⟩, ⟨(some p32), none, .ldR p3 2 none, 0⟩, ⟨(some p33), none, .callP 62 [(.r p26), (.r p30), (.r p32)], 0⟩, ⟨none, none, .stR p3 0 3 (.r p33), 0⟩])))))
  (.reg false [⟨(some p34), none, .bin .add .other (.r p6) (.c (.int .i64 (1))), 0⟩, ⟨(some p6), none, .mov (.r p34), 0⟩])))))))
  (.seq (.reg false [⟨(some p35), none, .build [(.int .i64 (0)), (.str []), .nsl] [], 0⟩, ⟨none, none, .stR p4 0 3 (.r p35), 0⟩])
  .ret))), [.part p4 (some 3)]⟩
def fh39 : FH := ⟨[3, 4], [], pu, [.live [0, 3, 4, 6], .perm [0, 1, 2, 3, 4, 5, 6, 7, 8, 9, 10, 11]]⟩

/-- demotic/sets.Each$1 -/
def cf40 : CF := ⟨2, (.seq (.reg false [⟨none, none, .boxR p2 (.r p0), 0⟩, ⟨(some p3), none, .mov (.c (.bool false)), 0⟩])
  (.seq (.reg false [⟨(some p4), none, .ld none (.r p1), 0⟩, ⟨(some p5), none, .adr p2, 0⟩, ⟨(some p6), none, .ldR p2 1 none, 0⟩, ⟨(some p7), none, .callF 41 [(.r p4), (.r p6)], 0⟩, ⟨(some p8), none, .not (.r p7), 0⟩, ⟨(some p3), none, .mov (.r p8), 0⟩])
  .ret)), [.reg p3]⟩
def fh40 : FH := ⟨[2], [], pu, []⟩

/-- slices.Contains[[]string,string] -/
def cf41 : CF := ⟨2, (.seq (.reg false [⟨(some p4), none, .mov (.c (.bool false)), 0⟩])
  (.seq (.reg false [⟨(some p5), none, .mov (.r p0), 0⟩, ⟨(some p6), none, .mov (.r p1), 0⟩, ⟨(some p7), none, .callF 63 [(.r p5), (.r p6)], 0⟩, ⟨(some p8), none, .bin .geq .other (.r p7) (.c (.int .i64 (0))), 0⟩, ⟨(some p4), none, .mov (.r p8), 0⟩])
  .ret)), [.reg p4]⟩
def fh41 : FH := ⟨[], [], pu, []⟩

/-- demotic/sets.union -/
def cf42 : CF := ⟨1, (.seq (.reg false [⟨none, none, .boxR p1 (.r p0), 0⟩, ⟨none, none, .alR p2 (.agg [(.bool false), (.bool false), .nsl]), 0⟩, ⟨(some p3), none, .mov (.c (.bool false)), 0⟩])
  (.seq (.reg false [⟨none, none, .alR p4 (.agg [(.bool false), (.bool false), .nsl]), 0⟩])
  (.seq (.seq (.reg false [⟨(some p7), none, .adr p1, 0⟩, ⟨(some p8), none, .ldR p1 2 none, 0⟩, ⟨(some p9), none, .len .sl (.r p8), 0⟩, ⟨(some p10), none, .mov (.c (.int .i64 (0))), 0⟩])
  (.block 0 (.loop [p2, p4, p8, p9, p10] (.seq (.reg false [⟨(some p11), none, .bin .lss .other (.r p10) (.r p9), 0⟩])
  (.seq (.cond (.r p11) .skip (.exit 0))
  (.seq (.block 1 (.seq (.reg false [⟨(some p12), none, .indexAddr 4 (.r p8) (.r p10), 0⟩, ⟨(some p13), none, .ld (some 4) (.r p12), 0⟩, ⟨none, none, .alR p6 (.agg [(.int .i64 (0)), (.str []), .nsl, (.int .i64 (0))]), 0⟩, ⟨none, none, .stR p6 0 4 (.r p13), 0⟩])
  (.seq (.seq (.reg true [⟨(some p14), none, .adr p6, 0⟩, ⟨(some p15), none, .ldR p6 0 none, 0⟩, ⟨(some p16), none, .bin .neq .other (.r p15) (.c (.int .i64 (15))), 0⟩, ⟨(some p17), none, .mov (.r p16), 0⟩, ⟨(some p18), (some (p17, false)), .adr p6, 0⟩, ⟨(some p19), (some (p17, false)), .ldR p6 2 none, 0⟩, ⟨(some p20), (some (p17, false)), .len .sl (.r p19), 0⟩, ⟨(some p21), (some (p17, false)), .bin .neq .other (.r p20) (.c (.int .i64 (1))), 0⟩, ⟨(some p22), none, .pick (.r p17) (.c (.bool true)) (.r p21), 0⟩, ⟨(some p23), none, .mov (.r p22), 0⟩, ⟨(some p24), (some (p23, false)), .adr p6, 0⟩, ⟨(some p25), (some (p23, false)), .ldR p6 2 none, 0⟩, ⟨(some p26), (some (p23, false)), .indexAddr 4 (.r p25) (.c (.int .i64 (0))), 0⟩, ⟨(some p27), (some (p23, false)), .fieldAddr 0 (.r p26), 0⟩, ⟨(some p28), (some (p23, false)), .ld none (.r p27), 0⟩, ⟨(some p29), (some (p23, false)), .bin .neq .other (.r p28) (.c (.int .i64 (10))), 0⟩, ⟨(some p30), none, .pick (.r p23) (.c (.bool true)) (.r p29), 0⟩, ⟨(some p31), none, .mov (.r p30), 0⟩, ⟨(some p32), (some (p31, false)), .adr p6, 0⟩, ⟨(some p33), (some (p31, false)), .ldR p6 2 none, 0⟩, ⟨(some p34), (some (p31, false)), .indexAddr 4 (.r p33) (.c (.int .i64 (0))), 0⟩, ⟨(some p35), (some (p31, false)), .fieldAddr 2 (.r p34), 0⟩, ⟨(some p36), (some (p31, false)), .ld none (.r p35), 0⟩, ⟨(some p37), (some (p31, false)), .len .sl (.r p36), 0⟩, ⟨(some p38), (some (p31, false)), .bin .gtr .other (.r p37) (.c (.int .i64 (0))), 0⟩, ⟨(some p39), none, .pick (.r p31) (.c (.bool true)) (.r p38), 0⟩, ⟨(some p40), none, .mov (.r p39), 0⟩, ⟨(some p42), (some (p40, false)), .adr p6, 0⟩, ⟨(some p43), (some (p40, false)), .ldR p6 2 none, 0⟩, ⟨(some p44), (some (p40, false)), .indexAddr 4 (.r p43) (.c (.int .i64 (0))), 0⟩, ⟨(some p45), (some (p40, false)), .fieldAddr 1 (.r p44), 0⟩, ⟨(some p46), (some (p40, false)), .ld none (.r p45), 1⟩, ⟨(some p41), (some (p40, false)), .callF 57 [], 0⟩, ⟨(some p47), (some (p40, false)), .lookup .str (.bool false) (.r p41) (.r p46) false, 0⟩, ⟨(some p48), (some (p40, false)), .not (.r p47), 0⟩, ⟨(some p49), none, .pick (.r p40) (.c (.bool true)) (.r p48), 0⟩])
  (.cond (.r p49) (.seq (.reg false [⟨(some p50), none, .build [(.bool false), (.bool false), .nsl] [], 0⟩, ⟨none, none, .stR p2 0 3 (.r p50), 0⟩, ⟨(some p3), none, .mov (.c (.bool false)), 0⟩])
  .ret) .skip))
  (.reg true [⟨(some p51), none, .adr p4, 0⟩, ⟨(some p52), none, .ldR p4 2 none, 0⟩, ⟨(some p53), none, .adr p6, 0⟩, ⟨(some p54), none, .ldR p6 1 none, 0⟩, ⟨(some p55), none, .bin .eql .str (.r p54) (.c (.str [126])), 0⟩, ⟨(some p56), none, .adr p6, 0⟩, ⟨(some p57), none, .ldR p6 2 none, 0⟩, ⟨(some p58), none, .indexAddr 4 (.r p57) (.c (.int .i64 (0))), 0⟩, ⟨(some p59), none, .fieldAddr 1 (.r p58), 0⟩, ⟨(some p60), none, .ld none (.r p59), 0⟩, ⟨(some p61), none, .build [(.bool false), (.str [])] [(0, 1, (.r p55)), (1, 1, (.r p60))], 0⟩, ⟨(some p62), none, .buildSl 2 (.agg [(.bool false), (.str [])]) 1 [(0, (.r p61))] false, 0⟩, ⟨(some p63), none, .append 2 24 (.r p52) (.r p62) false, 0⟩, ⟨(some p64), none, .adr p4, 0⟩, ⟨none, none, .stR p4 2 1 (.r p63), 0⟩]))))
  (.reg false [⟨(some p65), none, .bin .add .other (.r p10) (.c (.int .i64 (1))), 0⟩, ⟨(some p10), none, .mov (.r p65), 0⟩])))))))
  (.seq (.reg true [⟨(some p66), none, .ldR p4 0 (some 3), 0⟩, ⟨(some p67), none, .adr p4, 0⟩, ⟨(some p68), none, .ldR p4 2 none, 0⟩, ⟨(some p69), none, .len .sl (.r p68), 0⟩, ⟨(some p70), none, .bin .gtr .other (.r p69) (.c (.int .i64 (0))), 0⟩, ⟨none, none, .stR p2 0 3 (.r p66), 0⟩, ⟨(some p3), none, .mov (.r p70), 0⟩])
  .ret)))), [.part p2 (some 3), .reg p3]⟩
def fh42 : FH := ⟨[1, 2, 4, 6], [], pu, [.live [2, 4, 8, 9, 10], .perm [0, 1, 2, 3, 4, 5, 6, 7, 8, 9, 10, 11, 12, 13, 14, 15, 16, 17, 18, 19, 20, 21, 22, 23, 24, 25, 26, 28, 29, 30, 31, 32, 27, 33, 34, 35], .perm [0, 1, 2, 3, 4, 5, 6, 7, 8, 9, 10, 11, 12, 13, 14], .perm [0, 1, 2, 3, 4, 5, 6]]⟩

/-- demotic/demoticref11.basic -/
def cf43 : CF := ⟨1, (.seq (.reg false [⟨(some p2), none, .mov (.c (.bool false)), 0⟩])
  (.seq (.reg false [⟨(some p3), none, .mov (.r p0), 0⟩, ⟨(some p4), none, .bin .eql .str (.r p3) (.c (.str [105, 110, 116])), 0⟩, ⟨(some p5), none, .mov (.r p4), 0⟩, ⟨(some p6), (some (p5, false)), .mov (.r p0), 0⟩, ⟨(some p7), (some (p5, false)), .bin .eql .str (.r p6) (.c (.str [115, 116, 114, 105, 110, 103])), 0⟩, ⟨(some p8), none, .pick (.r p5) (.c (.bool true)) (.r p7), 0⟩, ⟨(some p9), none, .mov (.r p8), 0⟩, ⟨(some p10), (some (p9, false)), .mov (.r p0), 0⟩, ⟨(some p11), (some (p9, false)), .bin .eql .str (.r p10) (.c (.str [98, 111, 111, 108])), 0⟩, ⟨(some p12), none, .pick (.r p9) (.c (.bool true)) (.r p11), 0⟩, ⟨(some p2), none, .mov (.r p12), 0⟩])
  .ret)), [.reg p2]⟩
def fh43 : FH := ⟨[], [], pu, []⟩

/-- slices.IndexFunc[[]demotic/sets.Bound,demotic/sets.Bound] -/
def cf44 : CF := ⟨2, (.seq (.reg false [⟨(some p4), none, .mov (.c (.int .i64 (0))), 0⟩])
  (.seq (.seq (.reg false [⟨(some p6), none, .mov (.r p0), 0⟩, ⟨(some p7), none, .len .sl (.r p6), 0⟩, ⟨(some p8), none, .mov (.c (.int .i64 (0))), 0⟩])
  (.block 0 (.loop [p0, p1, p7, p8] (.seq (.reg false [⟨(some p9), none, .bin .lss .other (.r p8) (.r p7), 0⟩])
  (.seq (.cond (.r p9) .skip (.exit 0))
  (.seq (.block 1 (.seq (.reg false [⟨(some p10), none, .mov (.r p8), 0⟩, ⟨(some p5), none, .mov (.r p10), 0⟩])
  (.seq (.reg false [⟨(some p11), none, .mov (.r p1), 0⟩, ⟨(some p12), none, .mov (.r p0), 0⟩, ⟨(some p13), none, .mov (.r p5), 0⟩, ⟨(some p14), none, .indexAddr 4 (.r p12) (.r p13), 0⟩, ⟨(some p15), none, .ld (some 4) (.r p14), 0⟩, ⟨(some p16), none, .callV (.r p11) [(.r p15)], 0⟩])
  (.cond (.r p16) (.seq (.reg false [⟨(some p17), none, .mov (.r p5), 0⟩, ⟨(some p4), none, .mov (.r p17), 0⟩])
  .ret) .skip))))
  (.reg false [⟨(some p18), none, .bin .add .other (.r p8) (.c (.int .i64 (1))), 0⟩, ⟨(some p8), none, .mov (.r p18), 0⟩])))))))
  (.seq (.reg false [⟨(some p4), none, .mov (.c (.int .i64 (-1))), 0⟩])
  .ret))), [.reg p4]⟩
def fh44 : FH := ⟨[], [], pu, [.live [0, 1, 7, 8]]⟩

/-- demotic/sets.Find$1 -/
def cf45 : CF := ⟨2, (.seq (.reg false [⟨none, none, .boxR p2 (.r p0), 0⟩, ⟨(some p3), none, .mov (.c (.bool false)), 0⟩])
  (.seq (.reg false [⟨(some p4), none, .adr p2, 0⟩, ⟨(some p5), none, .ldR p2 0 none, 0⟩, ⟨(some p6), none, .ld none (.r p1), 0⟩, ⟨(some p7), none, .bin .eql .str (.r p5) (.r p6), 0⟩, ⟨(some p3), none, .mov (.r p7), 0⟩])
  .ret)), [.reg p3]⟩
def fh45 : FH := ⟨[2], [], pu, []⟩

/-- slices.Clone[[]demotic/sets.Term,demotic/sets.Term] -/
def cf46 : CF := ⟨1, (.seq (.reg false [⟨(some p2), none, .mov (.c .nsl), 0⟩])
  (.seq (.seq (.reg false [⟨(some p3), none, .mov (.r p0), 0⟩, ⟨(some p4), none, .bin .eql .sl (.r p3) (.c .nsl), 0⟩])
  (.cond (.r p4) (.seq (.reg false [⟨(some p2), none, .mov (.c .nsl), 0⟩])
  .ret) .skip))
  (.seq (.reg false [⟨(some p5), none, .buildSl 2 (.agg [(.bool false), (.str [])]) 0 [] false, 0⟩, ⟨(some p6), none, .mov (.r p0), 0⟩, ⟨(some p7), none, .append 2 24 (.r p5) (.r p6) false, 0⟩, ⟨(some p2), none, .mov (.r p7), 0⟩])
  .ret))), [.reg p2]⟩
def fh46 : FH := ⟨[], [], pu, []⟩

/-- demotic/demoticlaw12.typ -/
def cf47 : CF := ⟨1, (.seq (.reg false [⟨none, none, .boxR p1 (.r p0), 0⟩, ⟨none, none, .alR p2 (.agg [(.int .i64 (0)), (.str []), .nsl]), 0⟩])
  (.seq (.reg false [⟨(some p5), none, .adr p1, 0⟩, ⟨(some p6), none, .ldR p1 0 none, 0⟩, ⟨(some p7), none, .adr p1, 0⟩, ⟨(some p8), none, .ldR p1 1 none, 0⟩, ⟨(some p9), none, .build [(.int .i64 (0)), (.str []), .nsl] [(0, 1, (.r p6)), (1, 1, (.r p8))], 0⟩, ⟨none, none, .alR p3 (.agg [(.int .i64 (0)), (.str []), .nsl]), 0⟩, ⟨none, none, .stR p3 0 3 (.r p9), 0⟩])
  (.seq (.seq (.reg false [⟨(some p4), none, .mov (.c (.int .i64 (0))), 0⟩])
  (.block 0 (.loop [p1, p2, p3, p4] (.seq (.seq (.reg false [⟨(some p10), none, .mov (.r p4), 0⟩, ⟨(some p11), none, .adr p1, 0⟩, ⟨(some p12), none, .ldR p1 2 none, 0⟩, ⟨(some p13), none, .len .sl (.r p12), 0⟩, ⟨(some p14), none, .bin .lss .other (.r p10) (.r p13), 0⟩])
  (.cond (.r p14) .skip (.exit 0)))
  (.seq (.block 1 (.reg true [⟨(some p17), none, .adr p3, 0⟩, ⟨(some p18), none, .ldR p3 2 none, 0⟩, ⟨(some p19), none, .adr p1, 0⟩, ⟨(some p20), none, .ldR p1 2 none, 0⟩, ⟨(some p21), none, .mov (.r p4), 0⟩, ⟨(some p22), none, .indexAddr 3 (.r p20) (.r p21), 0⟩, ⟨(some p23), none, .ld (some 3) (.r p22), 0⟩, ⟨(some p24), none, .callP 47 [(.r p23)], 0⟩, ⟨(some p25), none, .buildSl 3 (.agg [(.int .i64 (0)), (.str []), .nsl]) 1 [(0, (.r p24))] false, 0⟩, ⟨(some p26), none, .append 3 48 (.r p18) (.r p25) false, 0⟩, ⟨(some p27), none, .adr p3, 0⟩, ⟨none, none, .stR p3 2 1 (.r p26), 0⟩]))
  (.reg false [⟨(some p15), none, .mov (.r p4), 0⟩, ⟨(some p16), none, .bin .add .other (.r p15) (.c (.int .i64 (1))), 0⟩, ⟨(some p4), none, .mov (.r p16), 0⟩]))))))
  (.seq (.reg false [⟨(some p28), none, .ldR p3 0 (some 3), 0⟩, ⟨none, none, .stR p2 0 3 (.r p28), 0⟩])
  .ret)))), [.part p2 (some 3)]⟩
def fh47 : FH := ⟨[1, 2, 3], [], pu, [.live [1, 2, 3, 4], .perm [0, 1, 2, 3, 4, 5, 6, 7, 8, 9, 10, 11]]⟩

/-- demotic/unify.begin -/
def cf48 : CF := ⟨3, (.seq (.reg false [⟨(some p6), none, .mov (.c .nptr), 0⟩, ⟨(some p7), none, .mov (.c (.bool false)), 0⟩])
  (.seq (.seq (.reg false [⟨(some p11), none, .mov (.r p2), 0⟩, ⟨(some p12), none, .len .sl (.r p11), 0⟩, ⟨(some p13), none, .mov (.r p1), 0⟩, ⟨(some p14), none, .len .sl (.r p13), 0⟩, ⟨(some p15), none, .bin .neq .other (.r p12) (.r p14), 0⟩, ⟨(some p16), none, .mov (.r p15), 0⟩, ⟨(some p17), (some (p16, false)), .mov (.r p1), 0⟩, ⟨(some p18), (some (p16, false)), .callP 64 [(.r p17)], 0⟩, ⟨(some p19), none, .pick (.r p16) (.c (.bool true)) (.r p18), 0⟩])
  (.cond (.r p19) (.seq (.reg false [⟨(some p6), none, .mov (.c .nptr), 0⟩, ⟨(some p7), none, .mov (.c (.bool false)), 0⟩])
  .ret) .skip))
  (.seq (.reg false [⟨(some p20), none, .mov (.r p0), 0⟩, ⟨(some p21), none, .mov (.r p1), 0⟩, ⟨(some p22), none, .build [.nsl, .nsl, .nsl] [(0, 1, (.r p20)), (1, 1, (.r p21)), (2, 1, (.c .nsl))], 0⟩, ⟨(some p23), none, .box 3 (.r p22), 0⟩, ⟨(some p8), none, .mov (.r p23), 0⟩])
  (.seq (.seq (.reg false [⟨(some p24), none, .mov (.r p2), 0⟩, ⟨(some p25), none, .len .sl (.r p24), 0⟩, ⟨(some p26), none, .mov (.c (.int .i64 (0))), 0⟩])
  (.block 0 (.loop [p0, p8, p24, p25, p26] (.seq (.reg false [⟨(some p27), none, .bin .lss .other (.r p26) (.r p25), 0⟩])
  (.seq (.cond (.r p27) .skip (.exit 0))
  (.seq (.block 1 (.seq (.reg false [⟨(some p28), none, .indexAddr 3 (.r p24) (.r p26), 0⟩, ⟨(some p29), none, .ld (some 3) (.r p28), 0⟩, ⟨none, none, .alR p10 (.agg [(.int .i64 (0)), (.str []), .nsl]), 0⟩, ⟨none, none, .stR p10 0 3 (.r p29), 0⟩])
  (.reg true [⟨(some p30), none, .mov (.r p8), 0⟩, ⟨(some p31), none, .nilCheck (.r p30), 0⟩, ⟨(some p32), none, .fieldAddr 2 (.r p31), 0⟩, ⟨(some p33), none, .ld none (.r p32), 0⟩, ⟨(some p34), none, .mov (.r p0), 0⟩, ⟨(some p35), none, .ldR p10 0 (some 3), 0⟩, ⟨(some p36), none, .callP 33 [(.r p34), (.r p35)], 0⟩, ⟨(some p37), none, .len .sl (.r p33), 0⟩, ⟨(some p38), none, .buildSl 3 (.agg [(.int .i64 (0)), (.str []), .nsl]) 1 [(0, (.c (.agg [(.int .i64 (0)), (.str []), .nsl])))] false, 0⟩, ⟨(some p39), none, .append 3 48 (.r p33) (.r p38) true, 0⟩, ⟨(some p40), none, .indexAddr 3 (.r p39) (.r p37), 0⟩, ⟨(some p41), none, .nilCheck (.r p30), 0⟩, ⟨(some p42), none, .fieldAddr 2 (.r p41), 0⟩, ⟨none, none, .st 3 (.r p40) (.r p36), 1⟩, ⟨none, none, .st 1 (.r p42) (.r p39), 0⟩])))
  (.reg false [⟨(some p43), none, .bin .add .other (.r p26) (.c (.int .i64 (1))), 0⟩, ⟨(some p26), none, .mov (.r p43), 0⟩])))))))
  (.seq (.reg false [⟨(some p44), none, .mov (.r p8), 0⟩, ⟨(some p6), none, .mov (.r p44), 0⟩, ⟨(some p7), none, .mov (.c (.bool true)), 0⟩])
  .ret))))), [.reg p6, .reg p7]⟩
def fh48 : FH := ⟨[10], [39], pu, [.live [0, 8, 24, 25, 26], .perm [0, 1, 2, 3, 4, 5, 6, 7, 8, 9, 10, 12, 13, 11, 14]]⟩

/-- (*demotic/unify.state).full -/
def cf49 : CF := ⟨3, (.seq (.reg false [⟨none, none, .boxR p4 (.r p1), 0⟩, ⟨none, none, .boxR p5 (.r p2), 0⟩, ⟨none, none, .alR p6 (.agg [(.int .i64 (0)), (.str []), .nsl]), 0⟩, ⟨none, none, .alR p7 (.agg [(.int .i64 (0)), (.str []), .nsl]), 0⟩, ⟨(some p8), none, .mov (.c (.bool false)), 0⟩])
  (.seq (.reg true [⟨(some p9), none, .mov (.r p0), 0⟩, ⟨(some p10), none, .nilCheck (.r p9), 0⟩, ⟨(some p11), none, .fieldAddr 0 (.r p10), 0⟩, ⟨(some p12), none, .ld none (.r p11), 0⟩, ⟨(some p13), none, .ldR p4 0 (some 3), 0⟩, ⟨(some p14), none, .callP 33 [(.r p12), (.r p13)], 0⟩, ⟨(some p15), none, .mov (.r p0), 0⟩, ⟨(some p16), none, .nilCheck (.r p15), 0⟩, ⟨(some p17), none, .fieldAddr 0 (.r p16), 0⟩, ⟨(some p18), none, .ld none (.r p17), 0⟩, ⟨(some p19), none, .ldR p5 0 (some 3), 0⟩, ⟨(some p20), none, .callP 33 [(.r p18), (.r p19)], 0⟩, ⟨none, none, .stR p4 0 3 (.r p14), 0⟩, ⟨none, none, .stR p5 0 3 (.r p20), 0⟩])
  (.seq (.reg true [⟨(some p21), none, .ldR p4 0 (some 3), 0⟩, ⟨(some p22), none, .ldR p5 0 (some 3), 0⟩, ⟨(some p23), none, .adr p4, 0⟩, ⟨(some p24), none, .ldR p4 0 none, 0⟩, ⟨(some p25), none, .bin .neq .other (.r p24) (.c (.int .i64 (0))), 0⟩, ⟨(some p26), none, .mov (.r p25), 0⟩, ⟨(some p27), (some (p26, true)), .adr p5, 0⟩, ⟨(some p28), (some (p26, true)), .ldR p5 0 none, 0⟩, ⟨(some p29), (some (p26, true)), .bin .neq .other (.r p28) (.c (.int .i64 (0))), 0⟩, ⟨(some p30), none, .pick (.r p26) (.r p29) (.c (.bool false)), 0⟩, ⟨none, none, .stR p6 0 3 (.r p21), 0⟩, ⟨none, none, .stR p7 0 3 (.r p22), 0⟩, ⟨(some p8), none, .mov (.r p30), 0⟩])
  .ret))), [.part p6 (some 3), .part p7 (some 3), .reg p8]⟩
def fh49 : FH := ⟨[4, 5, 6, 7], [], pu, [.perm [0, 1, 2, 3, 4, 5, 6, 7, 8, 9, 10, 11, 12, 13], .perm [0, 1, 2, 3, 4, 5, 6, 7, 8, 9, 10, 11, 12]]⟩

/-- (*demotic/unify.state).fits -/
def cf50 : CF := ⟨4, (.seq (.reg false [⟨none, none, .boxR p5 (.r p1), 0⟩, ⟨none, none, .boxR p6 (.r p2), 0⟩, ⟨(some p8), none, .mov (.c (.bool false)), 0⟩])
  (.seq (.reg false [⟨(some p10), none, .mov (.r p0), 0⟩, ⟨(some p11), none, .ldR p5 0 (some 3), 0⟩, ⟨(some p12), none, .callF 65 [(.r p10), (.r p11)], 0⟩, ⟨(some p9), none, .mov (.r p12), 0⟩])
  (.seq (.block 0 (.seq (.reg false [⟨(some p14), none, .mov (.r p3), 0⟩, ⟨(some p15), none, .bin .eql .other (.r p14) (.c (.int .i64 (0))), 0⟩, ⟨(some p13), none, .mov (.r p15), 0⟩])
  (.cond (.r p13) (.seq (.reg false [⟨(some p8), none, .mov (.c (.bool false)), 0⟩])
  .ret) (.seq (.reg false [⟨(some p17), none, .mov (.r p9), 0⟩, ⟨(some p18), none, .bin .geq .other (.r p17) (.c (.int .i64 (0))), 0⟩, ⟨(some p19), none, .mov (.r p18), 0⟩, ⟨(some p20), (some (p19, true)), .mov (.r p0), 0⟩, ⟨(some p21), (some (p19, true)), .nilCheck (.r p20), 0⟩, ⟨(some p22), (some (p19, true)), .fieldAddr 2 (.r p21), 0⟩, ⟨(some p23), (some (p19, true)), .ld none (.r p22), 0⟩, ⟨(some p24), (some (p19, true)), .mov (.r p9), 0⟩, ⟨(some p25), (some (p19, true)), .indexAddr 3 (.r p23) (.r p24), 0⟩, ⟨(some p26), (some (p19, true)), .fieldAddr 0 (.r p25), 0⟩, ⟨(some p27), (some (p19, true)), .ld none (.r p26), 0⟩, ⟨(some p28), (some (p19, true)), .bin .eql .other (.r p27) (.c (.int .i64 (0))), 0⟩, ⟨(some p29), none, .pick (.r p19) (.r p28) (.c (.bool false)), 0⟩, ⟨(some p16), none, .mov (.r p29), 0⟩])
  (.cond (.r p16) (.seq (.reg true [⟨(some p30), none, .mov (.r p0), 0⟩, ⟨(some p31), none, .nilCheck (.r p30), 0⟩, ⟨(some p32), none, .fieldAddr 2 (.r p31), 0⟩, ⟨(some p33), none, .ld none (.r p32), 0⟩, ⟨(some p34), none, .mov (.r p9), 0⟩, ⟨(some p35), none, .ldR p6 0 (some 3), 0⟩, ⟨(some p36), none, .indexAddr 3 (.r p33) (.r p34), 0⟩, ⟨none, none, .st 3 (.r p36) (.r p35), 0⟩])
  (.seq (.reg false [⟨(some p8), none, .mov (.c (.bool true)), 0⟩])
  .ret)) (.seq (.reg false [⟨(some p38), none, .mov (.r p9), 0⟩, ⟨(some p39), none, .bin .geq .other (.r p38) (.c (.int .i64 (0))), 0⟩, ⟨(some p37), none, .mov (.r p39), 0⟩])
  (.cond (.r p37) (.seq (.reg true [⟨(some p40), none, .mov (.r p0), 0⟩, ⟨(some p41), none, .nilCheck (.r p40), 0⟩, ⟨(some p42), none, .fieldAddr 2 (.r p41), 0⟩, ⟨(some p43), none, .ld none (.r p42), 0⟩, ⟨(some p44), none, .mov (.r p9), 0⟩, ⟨(some p45), none, .indexAddr 3 (.r p43) (.r p44), 0⟩, ⟨(some p46), none, .ld (some 3) (.r p45), 0⟩, ⟨(some p47), none, .ldR p6 0 (some 3), 0⟩, ⟨(some p48), none, .callP 32 [(.r p46), (.r p47)], 0⟩, ⟨(some p8), none, .mov (.r p48), 0⟩])
  .ret) (.seq (.reg false [⟨(some p50), none, .adr p5, 0⟩, ⟨(some p51), none, .ldR p5 0 none, 0⟩, ⟨(some p52), none, .bin .eql .other (.r p51) (.c (.int .i64 (5))), 0⟩, ⟨(some p53), none, .mov (.r p52), 0⟩, ⟨(some p54), (some (p53, false)), .adr p5, 0⟩, ⟨(some p55), (some (p53, false)), .ldR p5 0 none, 0⟩, ⟨(some p56), (some (p53, false)), .bin .eql .other (.r p55) (.c (.int .i64 (6))), 0⟩, ⟨(some p57), none, .pick (.r p53) (.c (.bool true)) (.r p56), 0⟩, ⟨(some p49), none, .mov (.r p57), 0⟩])
  (.cond (.r p49) (.seq (.seq (.reg false [⟨(some p58), none, .adr p6, 0⟩, ⟨(some p59), none, .ldR p6 0 none, 0⟩, ⟨(some p60), none, .bin .eql .other (.r p59) (.c (.int .i64 (3))), 0⟩])
  (.cond (.r p60) (.reg true [⟨(some p61), none, .mov (.r p0), 0⟩, ⟨(some p62), none, .nilCheck (.r p61), 0⟩, ⟨(some p63), none, .fieldAddr 0 (.r p62), 0⟩, ⟨(some p64), none, .ld none (.r p63), 0⟩, ⟨(some p65), none, .mov (.r p0), 0⟩, ⟨(some p66), none, .nilCheck (.r p65), 0⟩, ⟨(some p67), none, .fieldAddr 0 (.r p66), 0⟩, ⟨(some p68), none, .ld none (.r p67), 0⟩, ⟨(some p69), none, .ldR p6 0 (some 3), 0⟩, ⟨(some p70), none, .callP 39 [(.r p68), (.r p69)], 0⟩, ⟨(some p71), none, .callP 33 [(.r p64), (.r p70)], 0⟩, ⟨none, none, .stR p6 0 3 (.r p71), 0⟩]) .skip))
  (.seq (.reg false [⟨(some p72), none, .adr p6, 0⟩, ⟨(some p73), none, .ldR p6 0 none, 0⟩, ⟨(some p74), none, .adr p5, 0⟩, ⟨(some p75), none, .ldR p5 0 none, 0⟩, ⟨(some p76), none, .bin .eql .other (.r p73) (.r p75), 0⟩, ⟨(some p77), none, .mov (.r p76), 0⟩, ⟨(some p78), (some (p77, true)), .mov (.r p0), 0⟩, ⟨(some p79), (some (p77, true)), .ldR p5 0 (some 3), 0⟩, ⟨(some p80), (some (p77, true)), .ldR p6 0 (some 3), 0⟩, ⟨(some p81), (some (p77, true)), .mov (.r p3), 0⟩, ⟨(some p82), (some (p77, true)), .callF 66 [(.r p78), (.r p79), (.r p80), (.r p81)], 0⟩, ⟨(some p83), none, .pick (.r p77) (.r p82) (.c (.bool false)), 0⟩, ⟨(some p8), none, .mov (.r p83), 0⟩])
  .ret)) (.seq (.reg false [⟨(some p85), none, .adr p5, 0⟩, ⟨(some p86), none, .ldR p5 0 none, 0⟩, ⟨(some p87), none, .bin .eql .other (.r p86) (.c (.int .i64 (3))), 0⟩, ⟨(some p84), none, .mov (.r p87), 0⟩])
  (.cond (.r p84) (.seq (.reg false [⟨(some p88), none, .adr p6, 0⟩, ⟨(some p89), none, .ldR p6 0 none, 0⟩, ⟨(some p90), none, .bin .eql .other (.r p89) (.c (.int .i64 (3))), 0⟩, ⟨(some p91), none, .mov (.r p90), 0⟩, ⟨(some p92), (some (p91, true)), .adr p6, 0⟩, ⟨(some p93), (some (p91, true)), .ldR p6 1 none, 0⟩, ⟨(some p94), (some (p91, true)), .adr p5, 0⟩, ⟨(some p95), (some (p91, true)), .ldR p5 1 none, 0⟩, ⟨(some p96), (some (p91, true)), .bin .eql .str (.r p93) (.r p95), 0⟩, ⟨(some p97), none, .pick (.r p91) (.r p96) (.c (.bool false)), 0⟩, ⟨(some p98), none, .mov (.r p97), 0⟩, ⟨(some p99), (some (p98, true)), .mov (.r p0), 0⟩, ⟨(some p100), (some (p98, true)), .ldR p5 0 (some 3), 0⟩, ⟨(some p101), (some (p98, true)), .ldR p6 0 (some 3), 0⟩, ⟨(some p102), (some (p98, true)), .mov (.r p3), 0⟩, ⟨(some p103), (some (p98, true)), .callF 66 [(.r p99), (.r p100), (.r p101), (.r p102)], 0⟩, ⟨(some p104), none, .pick (.r p98) (.r p103) (.c (.bool false)), 0⟩, ⟨(some p8), none, .mov (.r p104), 0⟩])
  .ret) .skip)))))))))))
  (.seq (.reg false [⟨(some p105), none, .ldR p5 0 (some 3), 0⟩, ⟨(some p106), none, .ldR p6 0 (some 3), 0⟩, ⟨(some p107), none, .callP 32 [(.r p105), (.r p106)], 0⟩, ⟨(some p8), none, .mov (.r p107), 0⟩])
  .ret)))), [.reg p8]⟩
def fh50 : FH := ⟨[5, 6], [], pu, [.perm [0, 1, 2, 3, 4, 5, 6, 7], .perm [0, 1, 2, 3, 4, 5, 6, 7, 8, 9], .perm [0, 1, 2, 3, 4, 5, 6, 7, 8, 9, 10, 11]]⟩

/-- (*demotic/unify.state).untyped -/
def cf51 : CF := ⟨3, (.seq (.reg false [⟨(some p6), none, .mov (.c (.bool false)), 0⟩])
  (.seq (.reg false [⟨(some p12), none, .mkMap, 0⟩, ⟨(some p7), none, .mov (.r p12), 0⟩])
  (.seq (.seq (.reg false [⟨(some p13), none, .mov (.r p2), 0⟩, ⟨(some p14), none, .len .sl (.r p13), 0⟩, ⟨(some p15), none, .mov (.c (.int .i64 (0))), 0⟩])
  (.block 0 (.loop [p0, p1, p7, p13, p14, p15] (.seq (.reg false [⟨(some p16), none, .bin .lss .other (.r p15) (.r p14), 0⟩])
  (.seq (.cond (.r p16) .skip (.exit 0))
  (.seq (.block 1 (.seq (.reg false [⟨(some p17), none, .mov (.r p15), 0⟩, ⟨(some p18), none, .indexAddr 3 (.r p13) (.r p15), 0⟩, ⟨(some p19), none, .ld (some 3) (.r p18), 0⟩, ⟨none, none, .alR p9 (.agg [(.int .i64 (0)), (.str []), .nsl]), 0⟩, ⟨(some p8), none, .mov (.r p17), 0⟩, ⟨none, none, .stR p9 0 3 (.r p19), 0⟩])
  (.seq (.reg false [⟨(some p20), none, .mov (.r p0), 0⟩, ⟨(some p21), none, .mov (.r p1), 0⟩, ⟨(some p22), none, .mov (.r p8), 0⟩, ⟨(some p23), none, .indexAddr 3 (.r p21) (.r p22), 0⟩, ⟨(some p24), none, .ld (some 3) (.r p23), 0⟩, ⟨(some p25), none, .callF 65 [(.r p20), (.r p24)], 0⟩, ⟨(some p10), none, .mov (.r p25), 0⟩])
  (.seq (.seq (.reg false [⟨(some p26), none, .adr p9, 0⟩, ⟨(some p27), none, .ldR p9 0 none, 0⟩, ⟨(some p28), none, .bin .neq .other (.r p27) (.c (.int .i64 (2))), 0⟩, ⟨(some p29), none, .mov (.r p28), 0⟩, ⟨(some p30), (some (p29, false)), .mov (.r p10), 0⟩, ⟨(some p31), (some (p29, false)), .bin .lss .other (.r p30) (.c (.int .i64 (0))), 0⟩, ⟨(some p32), none, .pick (.r p29) (.c (.bool true)) (.r p31), 0⟩])
  (.cond (.r p32) (.exit 1) .skip))
  (.seq (.reg false [⟨(some p33), none, .adr p9, 0⟩, ⟨(some p34), none, .ldR p9 1 none, 0⟩, ⟨(some p35), none, .build [(.int .i64 (0)), (.str []), .nsl] [(0, 1, (.c (.int .i64 (1)))), (1, 1, (.r p34))], 0⟩, ⟨none, none, .alR p11 (.agg [(.int .i64 (0)), (.str []), .nsl]), 0⟩, ⟨none, none, .stR p11 0 3 (.r p35), 0⟩])
  (.block 2 (.seq (.reg false [⟨(some p37), none, .mov (.r p0), 0⟩, ⟨(some p38), none, .nilCheck (.r p37), 0⟩, ⟨(some p39), none, .fieldAddr 2 (.r p38), 0⟩, ⟨(some p40), none, .ld none (.r p39), 0⟩, ⟨(some p41), none, .mov (.r p10), 0⟩, ⟨(some p42), none, .indexAddr 3 (.r p40) (.r p41), 0⟩, ⟨(some p43), none, .fieldAddr 0 (.r p42), 0⟩, ⟨(some p44), none, .ld none (.r p43), 0⟩, ⟨(some p45), none, .bin .eql .other (.r p44) (.c (.int .i64 (0))), 0⟩, ⟨(some p36), none, .mov (.r p45), 0⟩])
  (.cond (.r p36) (.reg true [⟨(some p46), none, .mov (.r p0), 0⟩, ⟨(some p47), none, .nilCheck (.r p46), 0⟩, ⟨(some p48), none, .fieldAddr 2 (.r p47), 0⟩, ⟨(some p49), none, .ld none (.r p48), 0⟩, ⟨(some p50), none, .mov (.r p10), 0⟩, ⟨(some p51), none, .mov (.r p7), 0⟩, ⟨(some p52), none, .mov (.r p10), 0⟩, ⟨(some p53), none, .ldR p11 0 (some 3), 0⟩, ⟨(some p54), none, .indexAddr 3 (.r p49) (.r p50), 0⟩, ⟨none, none, .st 3 (.r p54) (.r p53), 0⟩, ⟨none, none, .mapUpd .other (.r p51) (.r p52) (.c (.bool true)), 0⟩]) (.seq (.reg true [⟨(some p56), none, .mov (.r p7), 0⟩, ⟨(some p57), none, .mov (.r p10), 0⟩, ⟨(some p58), none, .lookup .other (.bool false) (.r p56) (.r p57) false, 0⟩, ⟨(some p59), none, .mov (.r p58), 0⟩, ⟨(some p60), (some (p59, true)), .mov (.r p0), 0⟩, ⟨(some p61), (some (p59, true)), .nilCheck (.r p60), 0⟩, ⟨(some p62), (some (p59, true)), .fieldAddr 2 (.r p61), 0⟩, ⟨(some p63), (some (p59, true)), .ld none (.r p62), 0⟩, ⟨(some p64), (some (p59, true)), .mov (.r p10), 0⟩, ⟨(some p65), (some (p59, true)), .indexAddr 3 (.r p63) (.r p64), 0⟩, ⟨(some p66), (some (p59, true)), .ld (some 3) (.r p65), 0⟩, ⟨(some p67), (some (p59, true)), .ldR p11 0 (some 3), 0⟩, ⟨(some p68), (some (p59, true)), .callP 32 [(.r p66), (.r p67)], 0⟩, ⟨(some p69), (some (p59, true)), .not (.r p68), 0⟩, ⟨(some p70), none, .pick (.r p59) (.r p69) (.c (.bool false)), 0⟩, ⟨(some p55), none, .mov (.r p70), 0⟩])
  (.cond (.r p55) (.seq (.reg false [⟨(some p6), none, .mov (.c (.bool false)), 0⟩])
  .ret) .skip))))))))))
  (.reg false [⟨(some p71), none, .bin .add .other (.r p15) (.c (.int .i64 (1))), 0⟩, ⟨(some p15), none, .mov (.r p71), 0⟩])))))))
  (.seq (.reg false [⟨(some p6), none, .mov (.c (.bool true)), 0⟩])
  .ret)))), [.reg p6]⟩
def fh51 : FH := ⟨[9, 11], [], pu, [.live [0, 1, 7, 13, 14, 15], .perm [0, 1, 2, 3, 4, 5, 6, 7, 8, 9, 10], .perm [0, 1, 2, 3, 4, 5, 6, 7, 8, 9, 10, 11, 12, 13, 14, 15]]⟩

/-- slices.ContainsFunc[[]demotic/kinds.Type,demotic/kinds.Type] -/
def cf52 : CF := ⟨2, (.seq (.reg false [⟨(some p4), none, .mov (.c (.bool false)), 0⟩])
  (.seq (.reg false [⟨(some p5), none, .mov (.r p0), 0⟩, ⟨(some p6), none, .mov (.r p1), 0⟩, ⟨(some p7), none, .callF 67 [(.r p5), (.r p6)], 0⟩, ⟨(some p8), none, .bin .geq .other (.r p7) (.c (.int .i64 (0))), 0⟩, ⟨(some p4), none, .mov (.r p8), 0⟩])
  .ret)), [.reg p4]⟩
def fh52 : FH := ⟨[], [], pu, []⟩

/-- demotic/unify.Find$1 -/
def cf53 : CF := ⟨1, (.seq (.reg false [⟨none, none, .boxR p1 (.r p0), 0⟩, ⟨(some p2), none, .mov (.c (.bool false)), 0⟩])
  (.seq (.reg false [⟨(some p3), none, .adr p1, 0⟩, ⟨(some p4), none, .ldR p1 0 none, 0⟩, ⟨(some p5), none, .bin .eql .other (.r p4) (.c (.int .i64 (0))), 0⟩, ⟨(some p2), none, .mov (.r p5), 0⟩])
  .ret)), [.reg p2]⟩
def fh53 : FH := ⟨[1], [], pu, []⟩

/-- demotic/kinds.same -/
def cf54 : CF := ⟨3, (.seq (.reg false [⟨none, none, .boxR p3 (.r p0), 0⟩, ⟨none, none, .boxR p4 (.r p1), 0⟩, ⟨(some p5), none, .box 1 (.r p2), 0⟩, ⟨(some p6), none, .mov (.c (.bool false)), 0⟩])
  (.seq (.reg false [⟨(some p7), none, .ld none (.r p5), 0⟩, ⟨(some p8), none, .bin .gtr .other (.r p7) (.c (.int .i64 (0))), 0⟩, ⟨(some p9), none, .mov (.r p8), 0⟩, ⟨(some p10), (some (p9, true)), .adr p3, 0⟩, ⟨(some p11), (some (p9, true)), .ldR p3 0 none, 0⟩, ⟨(some p12), (some (p9, true)), .adr p4, 0⟩, ⟨(some p13), (some (p9, true)), .ldR p4 0 none, 0⟩, ⟨(some p14), (some (p9, true)), .bin .eql .other (.r p11) (.r p13), 0⟩, ⟨(some p15), none, .pick (.r p9) (.r p14) (.c (.bool false)), 0⟩, ⟨(some p16), none, .mov (.r p15), 0⟩, ⟨(some p17), (some (p16, true)), .adr p3, 0⟩, ⟨(some p18), (some (p16, true)), .ldR p3 1 none, 0⟩, ⟨(some p19), (some (p16, true)), .adr p4, 0⟩, ⟨(some p20), (some (p16, true)), .ldR p4 1 none, 0⟩, ⟨(some p21), (some (p16, true)), .bin .eql .str (.r p18) (.r p20), 0⟩, ⟨(some p22), none, .pick (.r p16) (.r p21) (.c (.bool false)), 0⟩, ⟨(some p23), none, .mov (.r p22), 0⟩, ⟨(some p24), (some (p23, true)), .adr p3, 0⟩, ⟨(some p25), (some (p23, true)), .ldR p3 2 none, 0⟩, ⟨(some p26), (some (p23, true)), .adr p4, 0⟩, ⟨(some p27), (some (p23, true)), .ldR p4 2 none, 0⟩, ⟨(some p28), (some (p23, true)), .mkFunc 69 [(.r p5)], 0⟩, ⟨(some p29), (some (p23, true)), .callF 68 [(.r p25), (.r p27), (.r p28)], 0⟩, ⟨(some p30), none, .pick (.r p23) (.r p29) (.c (.bool false)), 0⟩, ⟨(some p6), none, .mov (.r p30), 0⟩])
  .ret)), [.reg p6]⟩
def fh54 : FH := ⟨[3, 4], [], pu, []⟩

/-- (*demotic/kinds.writer).full -/
def cf55 : CF := ⟨3, (.seq (.reg false [⟨(some p3), none, .box 1 (.r p0), 0⟩, ⟨(some p4), none, .box 3 (.r p1), 0⟩, ⟨(some p5), none, .box 1 (.r p2), 0⟩, ⟨none, none, .alR p6 (.agg [(.int .i64 (0)), (.str []), .nsl]), 0⟩])
  (.seq (.seq (.reg false [⟨(some p9), none, .ld none (.r p3), 0⟩, ⟨(some p10), none, .nilCheck (.r p9), 0⟩, ⟨(some p11), none, .fieldAddr 1 (.r p10), 0⟩, ⟨(some p12), none, .ld none (.r p11), 0⟩, ⟨(some p13), none, .bin .sub .other (.r p12) (.c (.int .i64 (1))), 0⟩, ⟨(some p14), none, .nilCheck (.r p9), 0⟩, ⟨(some p15), none, .fieldAddr 1 (.r p14), 0⟩, ⟨none, none, .st 1 (.r p15) (.r p13), 0⟩])
  (.seq (.reg false [⟨(some p16), none, .ld none (.r p3), 0⟩, ⟨(some p17), none, .nilCheck (.r p16), 0⟩, ⟨(some p18), none, .fieldAddr 1 (.r p17), 0⟩, ⟨(some p19), none, .ld none (.r p18), 0⟩, ⟨(some p20), none, .bin .lss .other (.r p19) (.c (.int .i64 (0))), 0⟩])
  (.cond (.r p20) (.seq (.reg false [⟨(some p21), none, .build [(.int .i64 (0)), (.str []), .nsl] [], 0⟩, ⟨none, none, .stR p6 0 3 (.r p21), 0⟩])
  .ret) .skip)))
  (.seq (.reg true [⟨(some p22), none, .fieldAddr 0 (.r p4), 0⟩, ⟨(some p23), none, .ld none (.r p22), 1⟩, ⟨(some p24), none, .fieldAddr 1 (.r p4), 0⟩, ⟨(some p25), none, .ld none (.r p24), 1⟩, ⟨(some p26), none, .fieldAddr 2 (.r p4), 0⟩, ⟨(some p27), none, .ld none (.r p26), 0⟩, ⟨(some p28), none, .mkFunc 71 [(.r p3), (.r p5)], 0⟩, ⟨none, none, .alR p7 (.agg [(.int .i64 (0)), (.str []), .nsl]), 0⟩, ⟨(some p29), none, .callF 70 [(.r p27), (.r p28)], 0⟩, ⟨(some p30), none, .build [(.int .i64 (0)), (.str []), .nsl] [(0, 1, (.r p23)), (1, 1, (.r p25)), (2, 1, (.r p29))], 0⟩, ⟨none, none, .stR p7 0 3 (.r p30), 0⟩])
  (.seq (.seq (.reg false [⟨(some p31), none, .fieldAddr 0 (.r p4), 0⟩, ⟨(some p32), none, .ld none (.r p31), 0⟩, ⟨(some p33), none, .bin .neq .other (.r p32) (.c (.int .i64 (3))), 0⟩])
  (.cond (.r p33) (.seq (.reg false [⟨(some p34), none, .ldR p7 0 (some 3), 0⟩, ⟨none, none, .stR p6 0 3 (.r p34), 0⟩])
  .ret) .skip))
  (.seq (.reg false [⟨(some p35), none, .ld none (.r p3), 0⟩, ⟨(some p36), none, .nilCheck (.r p35), 0⟩, ⟨(some p37), none, .fieldAddr 0 (.r p36), 0⟩, ⟨(some p38), none, .ld none (.r p37), 0⟩, ⟨(some p39), none, .mkFunc 73 [(.r p4)], 0⟩, ⟨(some p40), none, .callF 72 [(.r p38), (.r p39)], 0⟩, ⟨(some p8), none, .mov (.r p40), 0⟩])
  (.seq (.block 0 (.seq (.reg false [⟨(some p42), none, .mov (.r p8), 0⟩, ⟨(some p43), none, .bin .lss .other (.r p42) (.c (.int .i64 (0))), 0⟩, ⟨(some p44), none, .mov (.r p43), 0⟩, ⟨(some p45), (some (p44, false)), .ld none (.r p3), 0⟩, ⟨(some p46), (some (p44, false)), .nilCheck (.r p45), 0⟩, ⟨(some p47), (some (p44, false)), .fieldAddr 0 (.r p46), 0⟩, ⟨(some p48), (some (p44, false)), .ld none (.r p47), 0⟩, ⟨(some p49), (some (p44, false)), .mov (.r p8), 0⟩, ⟨(some p50), (some (p44, false)), .indexAddr 6 (.r p48) (.r p49), 0⟩, ⟨(some p51), (some (p44, false)), .fieldAddr 5 (.r p50), 0⟩, ⟨(some p52), (some (p44, false)), .ld none (.r p51), 0⟩, ⟨(some p53), (some (p44, false)), .not (.r p52), 0⟩, ⟨(some p54), none, .pick (.r p44) (.c (.bool true)) (.r p53), 0⟩, ⟨(some p41), none, .mov (.r p54), 0⟩])
  (.cond (.r p41) (.seq (.reg false [⟨(some p55), none, .ldR p7 0 (some 3), 0⟩, ⟨none, none, .stR p6 0 3 (.r p55), 0⟩])
  .ret) (.seq (.reg true [⟨(some p57), none, .ld none (.r p5), 0⟩, ⟨(some p58), none, .bin .eql .other (.r p57) (.c (.int .i64 (0))), 0⟩, ⟨(some p59), none, .mov (.r p58), 0⟩, ⟨(some p60), (some (p59, false)), .ld none (.r p3), 0⟩, ⟨(some p61), (some (p59, false)), .nilCheck (.r p60), 0⟩, ⟨(some p62), (some (p59, false)), .fieldAddr 0 (.r p61), 0⟩, ⟨(some p63), (some (p59, false)), .ld none (.r p62), 0⟩, ⟨(some p64), (some (p59, false)), .mov (.r p8), 0⟩, ⟨(some p65), (some (p59, false)), .indexAddr 6 (.r p63) (.r p64), 0⟩, ⟨(some p66), (some (p59, false)), .fieldAddr 1 (.r p65), 0⟩, ⟨(some p67), (some (p59, false)), .ld none (.r p66), 0⟩, ⟨(some p68), (some (p59, false)), .len .sl (.r p67), 0⟩, ⟨(some p69), (some (p59, false)), .adr p7, 0⟩, ⟨(some p70), (some (p59, false)), .ldR p7 2 none, 0⟩, ⟨(some p71), (some (p59, false)), .len .sl (.r p70), 0⟩, ⟨(some p72), (some (p59, false)), .bin .neq .other (.r p68) (.r p71), 0⟩, ⟨(some p73), none, .pick (.r p59) (.c (.bool true)) (.r p72), 0⟩, ⟨(some p56), none, .mov (.r p73), 0⟩])
  (.cond (.r p56) (.seq (.reg false [⟨(some p74), none, .ld none (.r p3), 0⟩, ⟨(some p75), none, .nilCheck (.r p74), 0⟩, ⟨(some p76), none, .fieldAddr 1 (.r p75), 0⟩, ⟨none, none, .st 1 (.r p76) (.c (.int .i64 (0))), 0⟩])
  (.seq (.reg false [⟨(some p77), none, .build [(.int .i64 (0)), (.str []), .nsl] [], 0⟩, ⟨none, none, .stR p6 0 3 (.r p77), 0⟩])
  .ret)) .skip)))))
  (.seq (.reg true [⟨(some p78), none, .ld none (.r p3), 0⟩, ⟨(some p79), none, .ld none (.r p3), 0⟩, ⟨(some p80), none, .nilCheck (.r p79), 0⟩, ⟨(some p81), none, .fieldAddr 0 (.r p80), 0⟩, ⟨(some p82), none, .ld none (.r p81), 0⟩, ⟨(some p83), none, .mov (.r p8), 0⟩, ⟨(some p84), none, .indexAddr 6 (.r p82) (.r p83), 0⟩, ⟨(some p85), none, .fieldAddr 2 (.r p84), 0⟩, ⟨(some p86), none, .ld (some 3) (.r p85), 0⟩, ⟨(some p87), none, .ld none (.r p3), 0⟩, ⟨(some p88), none, .nilCheck (.r p87), 0⟩, ⟨(some p89), none, .fieldAddr 0 (.r p88), 0⟩, ⟨(some p90), none, .ld none (.r p89), 0⟩, ⟨(some p91), none, .mov (.r p8), 0⟩, ⟨(some p92), none, .indexAddr 6 (.r p90) (.r p91), 0⟩, ⟨(some p93), none, .fieldAddr 1 (.r p92), 0⟩, ⟨(some p94), none, .ld none (.r p93), 0⟩, ⟨(some p95), none, .adr p7, 0⟩, ⟨(some p96), none, .ldR p7 2 none, 0⟩, ⟨(some p97), none, .callP 62 [(.r p86), (.r p94), (.r p96)], 0⟩, ⟨(some p98), none, .ld none (.r p5), 0⟩, ⟨(some p99), none, .bin .sub .other (.r p98) (.c (.int .i64 (1))), 0⟩, ⟨(some p100), none, .callF 55 [(.r p78), (.r p97), (.r p99)], 0⟩, ⟨none, none, .stR p6 0 3 (.r p100), 0⟩])
  .ret))))))), [.part p6 (some 3)]⟩
def fh55 : FH := ⟨[6, 7], [], pu, [.perm [0, 1, 2, 3, 4, 5, 6, 9, 7, 8, 10], .perm [0, 1, 2, 3, 4, 5, 6, 7, 8, 9, 10, 11, 12, 13, 14, 15, 16, 17], .perm [0, 1, 2, 3, 4, 5, 6, 7, 8, 9, 10, 11, 12, 13, 14, 15, 16, 17, 18, 19, 20, 21, 22, 23]]⟩

/-- demotic/sets.Right$1 -/
def cf56 : CF := ⟨1, (.seq (.reg false [⟨none, none, .boxR p1 (.r p0), 0⟩, ⟨(some p2), none, .mov (.c (.bool false)), 0⟩])
  (.seq (.reg true [⟨(some p4), none, .adr p1, 0⟩, ⟨(some p5), none, .ldR p1 1 none, 0⟩, ⟨(some p3), none, .callF 57 [], 0⟩, ⟨(some p6), none, .lookup .str (.bool false) (.r p3) (.r p5) false, 0⟩, ⟨(some p7), none, .not (.r p6), 0⟩, ⟨(some p2), none, .mov (.r p7), 0⟩])
  .ret)), [.reg p2]⟩
def fh56 : FH := ⟨[1], [], pu, [.perm [1, 2, 0, 3, 4, 5]]⟩

/-- demotic/sets.basics -/
def cf57 : CF := ⟨0, (.seq (.reg false [⟨(some p0), none, .mov (.c .nmap), 0⟩])
  (.seq (.reg false [⟨(some p1), none, .mkMap, 0⟩, ⟨none, none, .mapUpd .str (.r p1) (.c (.str [105, 110, 116])) (.c (.bool true)), 0⟩, ⟨none, none, .mapUpd .str (.r p1) (.c (.str [115, 116, 114, 105, 110, 103])) (.c (.bool true)), 0⟩, ⟨none, none, .mapUpd .str (.r p1) (.c (.str [98, 111, 111, 108])) (.c (.bool true)), 0⟩, ⟨(some p2), none, .mov (.r p1), 0⟩, ⟨(some p0), none, .mov (.r p2), 0⟩])
  .ret)), [.reg p0]⟩
def fh57 : FH := ⟨[], [], pu, []⟩

/-- slices.IndexFunc[[]demotic/sets.Term,demotic/sets.Term] -/
def cf58 : CF := ⟨2, (.seq (.reg false [⟨(some p4), none, .mov (.c (.int .i64 (0))), 0⟩])
  (.seq (.seq (.reg false [⟨(some p6), none, .mov (.r p0), 0⟩, ⟨(some p7), none, .len .sl (.r p6), 0⟩, ⟨(some p8), none, .mov (.c (.int .i64 (0))), 0⟩])
  (.block 0 (.loop [p0, p1, p7, p8] (.seq (.reg false [⟨(some p9), none, .bin .lss .other (.r p8) (.r p7), 0⟩])
  (.seq (.cond (.r p9) .skip (.exit 0))
  (.seq (.block 1 (.seq (.reg false [⟨(some p10), none, .mov (.r p8), 0⟩, ⟨(some p5), none, .mov (.r p10), 0⟩])
  (.seq (.reg false [⟨(some p11), none, .mov (.r p1), 0⟩, ⟨(some p12), none, .mov (.r p0), 0⟩, ⟨(some p13), none, .mov (.r p5), 0⟩, ⟨(some p14), none, .indexAddr 2 (.r p12) (.r p13), 0⟩, ⟨(some p15), none, .ld (some 2) (.r p14), 0⟩, ⟨(some p16), none, .callV (.r p11) [(.r p15)], 0⟩])
  (.cond (.r p16) (.seq (.reg false [⟨(some p17), none, .mov (.r p5), 0⟩, ⟨(some p4), none, .mov (.r p17), 0⟩])
  .ret) .skip))))
  (.reg false [⟨(some p18), none, .bin .add .other (.r p8) (.c (.int .i64 (1))), 0⟩, ⟨(some p8), none, .mov (.r p18), 0⟩])))))))
  (.seq (.reg false [⟨(some p4), none, .mov (.c (.int .i64 (-1))), 0⟩])
  .ret))), [.reg p4]⟩
def fh58 : FH := ⟨[], [], pu, [.live [0, 1, 7, 8]]⟩

/-- demotic/sets.within$1 -/
def cf59 : CF := ⟨2, (.seq (.reg false [⟨none, none, .boxR p2 (.r p0), 0⟩, ⟨(some p3), none, .mov (.c (.bool false)), 0⟩])
  (.seq (.reg false [⟨(some p4), none, .adr p2, 0⟩, ⟨(some p5), none, .ldR p2 1 none, 0⟩, ⟨(some p6), none, .fieldAddr 1 (.r p1), 0⟩, ⟨(some p7), none, .ld none (.r p6), 0⟩, ⟨(some p8), none, .bin .eql .str (.r p5) (.r p7), 0⟩, ⟨(some p9), none, .mov (.r p8), 0⟩, ⟨(some p10), (some (p9, true)), .adr p2, 0⟩, ⟨(some p11), (some (p9, true)), .ldR p2 0 none, 0⟩, ⟨(some p12), (some (p9, true)), .mov (.r p11), 0⟩, ⟨(some p13), (some (p12, false)), .fieldAddr 0 (.r p1), 0⟩, ⟨(some p14), (some (p12, false)), .ld none (.r p13), 0⟩, ⟨(some p15), (some (p12, false)), .not (.r p14), 0⟩, ⟨(some p16), (some (p9, true)), .pick (.r p12) (.c (.bool true)) (.r p15), 0⟩, ⟨(some p17), none, .pick (.r p9) (.r p16) (.c (.bool false)), 0⟩, ⟨(some p3), none, .mov (.r p17), 0⟩])
  .ret)), [.reg p3]⟩
def fh59 : FH := ⟨[2], [], pu, []⟩

/-- demotic/kinds.find -/
def cf60 : CF := ⟨2, (.seq (.reg false [⟨(some p3), none, .box 3 (.r p1), 0⟩, ⟨(some p4), none, .mov (.c .nptr), 0⟩])
  (.seq (.reg false [⟨(some p6), none, .mov (.r p0), 0⟩, ⟨(some p7), none, .mkFunc 74 [(.r p3)], 0⟩, ⟨(some p8), none, .callF 72 [(.r p6), (.r p7)], 0⟩, ⟨(some p5), none, .mov (.r p8), 0⟩])
  (.seq (.seq (.reg true [⟨(some p9), none, .mov (.r p5), 0⟩, ⟨(some p10), none, .bin .lss .other (.r p9) (.c (.int .i64 (0))), 0⟩, ⟨(some p11), none, .mov (.r p10), 0⟩, ⟨(some p12), (some (p11, false)), .mov (.r p0), 0⟩, ⟨(some p13), (some (p11, false)), .mov (.r p5), 0⟩, ⟨(some p14), (some (p11, false)), .indexAddr 6 (.r p12) (.r p13), 0⟩, ⟨(some p15), (some (p11, false)), .fieldAddr 1 (.r p14), 0⟩, ⟨(some p16), (some (p11, false)), .ld none (.r p15), 0⟩, ⟨(some p17), (some (p11, false)), .len .sl (.r p16), 0⟩, ⟨(some p18), (some (p11, false)), .fieldAddr 2 (.r p3), 0⟩, ⟨(some p19), (some (p11, false)), .ld none (.r p18), 0⟩, ⟨(some p20), (some (p11, false)), .len .sl (.r p19), 0⟩, ⟨(some p21), (some (p11, false)), .bin .neq .other (.r p17) (.r p20), 0⟩, ⟨(some p22), none, .pick (.r p11) (.c (.bool true)) (.r p21), 0⟩])
  (.cond (.r p22) (.seq (.reg false [⟨(some p4), none, .mov (.c .nptr), 0⟩])
  .ret) .skip))
  (.seq (.reg false [⟨(some p23), none, .mov (.r p0), 0⟩, ⟨(some p24), none, .mov (.r p5), 0⟩, ⟨(some p25), none, .indexAddr 6 (.r p23) (.r p24), 0⟩, ⟨(some p4), none, .mov (.r p25), 0⟩])
  .ret)))), [.reg p4]⟩
def fh60 : FH := ⟨[], [], pu, [.perm [0, 1, 2, 3, 4, 5, 6, 7, 8, 9, 10, 11, 12, 13]]⟩

/-- demotic/kinds.size -/
def cf61 : CF := ⟨1, (.seq (.reg false [⟨none, none, .boxR p1 (.r p0), 0⟩, ⟨(some p2), none, .mov (.c (.int .i64 (0))), 0⟩])
  (.seq (.reg false [⟨(some p3), none, .mov (.c (.int .i64 (1))), 0⟩])
  (.seq (.seq (.reg false [⟨(some p6), none, .adr p1, 0⟩, ⟨(some p7), none, .ldR p1 2 none, 0⟩, ⟨(some p8), none, .len .sl (.r p7), 0⟩, ⟨(some p9), none, .mov (.c (.int .i64 (0))), 0⟩])
  (.block 0 (.loop [p3, p7, p8, p9] (.seq (.reg false [⟨(some p10), none, .bin .lss .other (.r p9) (.r p8), 0⟩])
  (.seq (.cond (.r p10) .skip (.exit 0))
  (.seq (.block 1 (.seq (.reg false [⟨(some p11), none, .indexAddr 3 (.r p7) (.r p9), 0⟩, ⟨(some p12), none, .ld (some 3) (.r p11), 0⟩, ⟨none, none, .alR p5 (.agg [(.int .i64 (0)), (.str []), .nsl]), 0⟩, ⟨none, none, .stR p5 0 3 (.r p12), 0⟩])
  (.seq (.reg false [⟨(some p13), none, .mov (.r p3), 0⟩, ⟨(some p14), none, .bin .leq .other (.r p13) (.c (.int .i64 (1000))), 0⟩])
  (.cond (.r p14) (.reg false [⟨(some p15), none, .mov (.r p3), 0⟩, ⟨(some p16), none, .ldR p5 0 (some 3), 0⟩, ⟨(some p17), none, .callP 61 [(.r p16)], 0⟩, ⟨(some p18), none, .bin .add .other (.r p15) (.r p17), 0⟩, ⟨(some p3), none, .mov (.r p18), 0⟩]) .skip))))
  (.reg false [⟨(some p19), none, .bin .add .other (.r p9) (.c (.int .i64 (1))), 0⟩, ⟨(some p9), none, .mov (.r p19), 0⟩])))))))
  (.seq (.reg false [⟨(some p20), none, .mov (.r p3), 0⟩, ⟨(some p2), none, .mov (.r p20), 0⟩])
  .ret)))), [.reg p2]⟩
def fh61 : FH := ⟨[1, 5], [], pu, [.live [3, 7, 8, 9]]⟩

/-- demotic/kinds.With -/
def cf62 : CF := ⟨3, (.seq (.reg false [⟨none, none, .boxR p3 (.r p0), 0⟩, ⟨(some p4), none, .box 1 (.r p1), 0⟩, ⟨(some p5), none, .box 1 (.r p2), 0⟩, ⟨none, none, .alR p6 (.agg [(.int .i64 (0)), (.str []), .nsl]), 0⟩])
  (.seq (.seq (.reg false [⟨(some p8), none, .ld none (.r p4), 0⟩, ⟨(some p9), none, .adr p3, 0⟩, ⟨(some p10), none, .ldR p3 1 none, 0⟩, ⟨(some p11), none, .callF 63 [(.r p8), (.r p10)], 0⟩, ⟨(some p7), none, .mov (.r p11), 0⟩])
  (.seq (.reg false [⟨(some p12), none, .adr p3, 0⟩, ⟨(some p13), none, .ldR p3 0 none, 0⟩, ⟨(some p14), none, .bin .eql .other (.r p13) (.c (.int .i64 (4))), 0⟩, ⟨(some p15), none, .mov (.r p14), 0⟩, ⟨(some p16), (some (p15, true)), .mov (.r p7), 0⟩, ⟨(some p17), (some (p15, true)), .bin .geq .other (.r p16) (.c (.int .i64 (0))), 0⟩, ⟨(some p18), none, .pick (.r p15) (.r p17) (.c (.bool false)), 0⟩, ⟨(some p19), none, .mov (.r p18), 0⟩, ⟨(some p20), (some (p19, true)), .mov (.r p7), 0⟩, ⟨(some p21), (some (p19, true)), .ld none (.r p5), 0⟩, ⟨(some p22), (some (p19, true)), .len .sl (.r p21), 0⟩, ⟨(some p23), (some (p19, true)), .bin .lss .other (.r p20) (.r p22), 0⟩, ⟨(some p24), none, .pick (.r p19) (.r p23) (.c (.bool false)), 0⟩])
  (.cond (.r p24) (.seq (.reg false [⟨(some p25), none, .ld none (.r p5), 0⟩, ⟨(some p26), none, .mov (.r p7), 0⟩, ⟨(some p27), none, .indexAddr 3 (.r p25) (.r p26), 0⟩, ⟨(some p28), none, .ld (some 3) (.r p27), 0⟩, ⟨none, none, .stR p6 0 3 (.r p28), 0⟩])
  .ret) .skip)))
  (.seq (.reg true [⟨(some p29), none, .adr p3, 0⟩, ⟨(some p30), none, .ldR p3 0 none, 0⟩, ⟨(some p31), none, .adr p3, 0⟩, ⟨(some p32), none, .ldR p3 1 none, 0⟩, ⟨(some p33), none, .adr p3, 0⟩, ⟨(some p34), none, .ldR p3 2 none, 0⟩, ⟨(some p35), none, .mkFunc 75 [(.r p4), (.r p5)], 0⟩, ⟨(some p36), none, .callF 70 [(.r p34), (.r p35)], 0⟩, ⟨(some p37), none, .build [(.int .i64 (0)), (.str []), .nsl] [(0, 1, (.r p30)), (1, 1, (.r p32)), (2, 1, (.r p36))], 0⟩, ⟨none, none, .stR p6 0 3 (.r p37), 0⟩])
  .ret))), [.part p6 (some 3)]⟩
def fh62 : FH := ⟨[3, 6], [], pu, [.perm [0, 1, 2, 3, 4, 5, 6, 7, 8, 9]]⟩

/-- slices.Index[[]string,string] -/
def cf63 : CF := ⟨2, (.seq (.reg false [⟨(some p4), none, .mov (.c (.int .i64 (0))), 0⟩])
  (.seq (.seq (.reg false [⟨(some p6), none, .mov (.r p0), 0⟩, ⟨(some p7), none, .len .sl (.r p6), 0⟩, ⟨(some p8), none, .mov (.c (.int .i64 (0))), 0⟩])
  (.block 0 (.loop [p0, p1, p7, p8] (.seq (.reg false [⟨(some p9), none, .bin .lss .other (.r p8) (.r p7), 0⟩])
  (.seq (.cond (.r p9) .skip (.exit 0))
  (.seq (.block 1 (.seq (.reg false [⟨(some p10), none, .mov (.r p8), 0⟩, ⟨(some p5), none, .mov (.r p10), 0⟩])
  (.seq (.reg false [⟨(some p11), none, .mov (.r p1), 0⟩, ⟨(some p12), none, .mov (.r p0), 0⟩, ⟨(some p13), none, .mov (.r p5), 0⟩, ⟨(some p14), none, .indexAddr 1 (.r p12) (.r p13), 0⟩, ⟨(some p15), none, .ld none (.r p14), 0⟩, ⟨(some p16), none, .bin .eql .str (.r p11) (.r p15), 0⟩])
  (.cond (.r p16) (.seq (.reg false [⟨(some p17), none, .mov (.r p5), 0⟩, ⟨(some p4), none, .mov (.r p17), 0⟩])
  .ret) .skip))))
  (.reg false [⟨(some p18), none, .bin .add .other (.r p8) (.c (.int .i64 (1))), 0⟩, ⟨(some p8), none, .mov (.r p18), 0⟩])))))))
  (.seq (.reg false [⟨(some p4), none, .mov (.c (.int .i64 (-1))), 0⟩])
  .ret))), [.reg p4]⟩
def fh63 : FH := ⟨[], [], pu, [.live [0, 1, 7, 8]]⟩

/-- demotic/unify.twice -/
def cf64 : CF := ⟨1, (.seq (.reg false [⟨(some p1), none, .box 1 (.r p0), 0⟩, ⟨(some p2), none, .mov (.c (.bool false)), 0⟩])
  (.seq (.reg false [⟨(some p3), none, .ld none (.r p1), 0⟩, ⟨(some p4), none, .mkFunc 77 [(.r p1)], 0⟩, ⟨(some p5), none, .callF 76 [(.r p3), (.r p4)], 0⟩, ⟨(some p2), none, .mov (.r p5), 0⟩])
  .ret)), [.reg p2]⟩
def fh64 : FH := ⟨[], [], pu, []⟩

/-- (*demotic/unify.state).own -/
def cf65 : CF := ⟨2, (.seq (.reg false [⟨none, none, .boxR p3 (.r p1), 0⟩, ⟨(some p4), none, .mov (.c (.int .i64 (0))), 0⟩])
  (.seq (.seq (.reg false [⟨(some p5), none, .adr p3, 0⟩, ⟨(some p6), none, .ldR p3 0 none, 0⟩, ⟨(some p7), none, .bin .neq .other (.r p6) (.c (.int .i64 (4))), 0⟩])
  (.cond (.r p7) (.seq (.reg false [⟨(some p4), none, .mov (.c (.int .i64 (-1))), 0⟩])
  .ret) .skip))
  (.seq (.reg true [⟨(some p8), none, .mov (.r p0), 0⟩, ⟨(some p9), none, .nilCheck (.r p8), 0⟩, ⟨(some p10), none, .fieldAddr 1 (.r p9), 0⟩, ⟨(some p11), none, .ld none (.r p10), 0⟩, ⟨(some p12), none, .adr p3, 0⟩, ⟨(some p13), none, .ldR p3 1 none, 0⟩, ⟨(some p14), none, .callF 63 [(.r p11), (.r p13)], 0⟩, ⟨(some p4), none, .mov (.r p14), 0⟩])
  .ret))), [.reg p4]⟩
def fh65 : FH := ⟨[3], [], pu, [.perm [0, 1, 2, 3, 4, 5, 6, 7]]⟩

/-- (*demotic/unify.state).parts -/
def cf66 : CF := ⟨4, (.seq (.reg false [⟨none, none, .boxR p5 (.r p1), 0⟩, ⟨none, none, .boxR p6 (.r p2), 0⟩, ⟨(some p8), none, .mov (.c (.bool false)), 0⟩])
  (.seq (.seq (.reg false [⟨(some p12), none, .adr p5, 0⟩, ⟨(some p13), none, .ldR p5 2 none, 0⟩, ⟨(some p14), none, .len .sl (.r p13), 0⟩, ⟨(some p15), none, .adr p6, 0⟩, ⟨(some p16), none, .ldR p6 2 none, 0⟩, ⟨(some p17), none, .len .sl (.r p16), 0⟩, ⟨(some p18), none, .bin .neq .other (.r p14) (.r p17), 0⟩])
  (.cond (.r p18) (.seq (.reg false [⟨(some p8), none, .mov (.c (.bool false)), 0⟩])
  .ret) .skip))
  (.seq (.reg false [⟨(some p9), none, .mov (.c (.bool true)), 0⟩])
  (.seq .skip
  (.seq (.seq (.reg false [⟨(some p19), none, .adr p5, 0⟩, ⟨(some p20), none, .ldR p5 2 none, 0⟩, ⟨(some p21), none, .len .sl (.r p20), 0⟩, ⟨(some p22), none, .mov (.c (.int .i64 (0))), 0⟩])
  (.block 0 (.loop [p0, p3, p6, p9, p20, p21, p22] (.seq (.reg false [⟨(some p23), none, .bin .lss .other (.r p22) (.r p21), 0⟩])
  (.seq (.cond (.r p23) .skip (.exit 0))
  (.seq (.block 1 (.seq (.reg false [⟨(some p24), none, .mov (.r p22), 0⟩, ⟨(some p25), none, .indexAddr 3 (.r p20) (.r p22), 0⟩, ⟨(some p26), none, .ld (some 3) (.r p25), 0⟩, ⟨none, none, .alR p11 (.agg [(.int .i64 (0)), (.str []), .nsl]), 0⟩, ⟨(some p10), none, .mov (.r p24), 0⟩, ⟨none, none, .stR p11 0 3 (.r p26), 0⟩])
  (.seq (.seq (.reg true [⟨(some p27), none, .mov (.r p0), 0⟩, ⟨(some p28), none, .ldR p11 0 (some 3), 0⟩, ⟨(some p29), none, .adr p6, 0⟩, ⟨(some p30), none, .ldR p6 2 none, 0⟩, ⟨(some p31), none, .mov (.r p10), 0⟩, ⟨(some p32), none, .indexAddr 3 (.r p30) (.r p31), 0⟩, ⟨(some p33), none, .ld (some 3) (.r p32), 0⟩, ⟨(some p34), none, .mov (.r p3), 0⟩, ⟨(some p35), none, .bin .sub .other (.r p34) (.c (.int .i64 (1))), 0⟩, ⟨(some p36), none, .callF 50 [(.r p27), (.r p28), (.r p33), (.r p35)], 0⟩])
  (.cond (.r p36) (.exit 1) .skip))
  (.seq (.reg false [⟨(some p9), none, .mov (.c (.bool false)), 0⟩])
  (.exit 0)))))
  (.reg false [⟨(some p37), none, .bin .add .other (.r p22) (.c (.int .i64 (1))), 0⟩, ⟨(some p22), none, .mov (.r p37), 0⟩])))))))
  (.seq (.reg false [⟨(some p38), none, .mov (.r p9), 0⟩, ⟨(some p8), none, .mov (.r p38), 0⟩])
  .ret)))))), [.reg p8]⟩
def fh66 : FH := ⟨[5, 6, 11], [], pu, [.live [0, 3, 6, 9, 20, 21, 22], .perm [0, 1, 2, 3, 4, 5, 6, 7, 8, 9]]⟩

/-- slices.IndexFunc[[]demotic/kinds.Type,demotic/kinds.Type] -/
def cf67 : CF := ⟨2, (.seq (.reg false [⟨(some p4), none, .mov (.c (.int .i64 (0))), 0⟩])
  (.seq (.seq (.reg false [⟨(some p6), none, .mov (.r p0), 0⟩, ⟨(some p7), none, .len .sl (.r p6), 0⟩, ⟨(some p8), none, .mov (.c (.int .i64 (0))), 0⟩])
  (.block 0 (.loop [p0, p1, p7, p8] (.seq (.reg false [⟨(some p9), none, .bin .lss .other (.r p8) (.r p7), 0⟩])
  (.seq (.cond (.r p9) .skip (.exit 0))
  (.seq (.block 1 (.seq (.reg false [⟨(some p10), none, .mov (.r p8), 0⟩, ⟨(some p5), none, .mov (.r p10), 0⟩])
  (.seq (.reg false [⟨(some p11), none, .mov (.r p1), 0⟩, ⟨(some p12), none, .mov (.r p0), 0⟩, ⟨(some p13), none, .mov (.r p5), 0⟩, ⟨(some p14), none, .indexAddr 3 (.r p12) (.r p13), 0⟩, ⟨(some p15), none, .ld (some 3) (.r p14), 0⟩, ⟨(some p16), none, .callV (.r p11) [(.r p15)], 0⟩])
  (.cond (.r p16) (.seq (.reg false [⟨(some p17), none, .mov (.r p5), 0⟩, ⟨(some p4), none, .mov (.r p17), 0⟩])
  .ret) .skip))))
  (.reg false [⟨(some p18), none, .bin .add .other (.r p8) (.c (.int .i64 (1))), 0⟩, ⟨(some p8), none, .mov (.r p18), 0⟩])))))))
  (.seq (.reg false [⟨(some p4), none, .mov (.c (.int .i64 (-1))), 0⟩])
  .ret))), [.reg p4]⟩
def fh67 : FH := ⟨[], [], pu, [.live [0, 1, 7, 8]]⟩

/-- slices.EqualFunc[[]demotic/kinds.Type,[]demotic/kinds.Type,demotic/kinds.Type,demotic/kinds.Type] -/
def cf68 : CF := ⟨3, (.seq (.reg false [⟨(some p6), none, .mov (.c (.bool false)), 0⟩])
  (.seq (.seq (.reg false [⟨(some p10), none, .mov (.r p0), 0⟩, ⟨(some p11), none, .len .sl (.r p10), 0⟩, ⟨(some p12), none, .mov (.r p1), 0⟩, ⟨(some p13), none, .len .sl (.r p12), 0⟩, ⟨(some p14), none, .bin .neq .other (.r p11) (.r p13), 0⟩])
  (.cond (.r p14) (.seq (.reg false [⟨(some p6), none, .mov (.c (.bool false)), 0⟩])
  .ret) .skip))
  (.seq (.seq (.reg false [⟨(some p15), none, .mov (.r p0), 0⟩, ⟨(some p16), none, .len .sl (.r p15), 0⟩, ⟨(some p17), none, .mov (.c (.int .i64 (0))), 0⟩])
  (.block 0 (.loop [p1, p2, p15, p16, p17] (.seq (.reg false [⟨(some p18), none, .bin .lss .other (.r p17) (.r p16), 0⟩])
  (.seq (.cond (.r p18) .skip (.exit 0))
  (.seq (.block 1 (.seq (.reg false [⟨(some p19), none, .mov (.r p17), 0⟩, ⟨(some p20), none, .indexAddr 3 (.r p15) (.r p17), 0⟩, ⟨(some p21), none, .ld (some 3) (.r p20), 0⟩, ⟨none, none, .alR p8 (.agg [(.int .i64 (0)), (.str []), .nsl]), 0⟩, ⟨(some p7), none, .mov (.r p19), 0⟩, ⟨none, none, .stR p8 0 3 (.r p21), 0⟩])
  (.seq (.reg false [⟨(some p22), none, .mov (.r p1), 0⟩, ⟨(some p23), none, .mov (.r p7), 0⟩, ⟨(some p24), none, .indexAddr 3 (.r p22) (.r p23), 0⟩, ⟨(some p25), none, .ld (some 3) (.r p24), 0⟩, ⟨none, none, .alR p9 (.agg [(.int .i64 (0)), (.str []), .nsl]), 0⟩, ⟨none, none, .stR p9 0 3 (.r p25), 0⟩])
  (.seq (.reg false [⟨(some p26), none, .mov (.r p2), 0⟩, ⟨(some p27), none, .ldR p8 0 (some 3), 0⟩, ⟨(some p28), none, .ldR p9 0 (some 3), 0⟩, ⟨(some p29), none, .callV (.r p26) [(.r p27), (.r p28)], 0⟩, ⟨(some p30), none, .not (.r p29), 0⟩])
  (.cond (.r p30) (.seq (.reg false [⟨(some p6), none, .mov (.c (.bool false)), 0⟩])
  .ret) .skip)))))
  (.reg false [⟨(some p31), none, .bin .add .other (.r p17) (.c (.int .i64 (1))), 0⟩, ⟨(some p17), none, .mov (.r p31), 0⟩])))))))
  (.seq (.reg false [⟨(some p6), none, .mov (.c (.bool true)), 0⟩])
  .ret)))), [.reg p6]⟩
def fh68 : FH := ⟨[8, 9], [], pu, [.live [1, 2, 15, 16, 17]]⟩

/-- demotic/kinds.same$1 -/
def cf69 : CF := ⟨3, (.seq (.reg false [⟨none, none, .boxR p3 (.r p0), 0⟩, ⟨none, none, .boxR p4 (.r p1), 0⟩, ⟨(some p5), none, .mov (.c (.bool false)), 0⟩])
  (.seq (.reg false [⟨(some p6), none, .ldR p3 0 (some 3), 0⟩, ⟨(some p7), none, .ldR p4 0 (some 3), 0⟩, ⟨(some p8), none, .ld none (.r p2), 0⟩, ⟨(some p9), none, .bin .sub .other (.r p8) (.c (.int .i64 (1))), 0⟩, ⟨(some p10), none, .callP 54 [(.r p6), (.r p7), (.r p9)], 0⟩, ⟨(some p5), none, .mov (.r p10), 0⟩])
  .ret)), [.reg p5]⟩
def fh69 : FH := ⟨[3, 4], [], pu, []⟩

/-- demotic/kinds.turned[demotic/kinds.Type,demotic/kinds.Type] -/
def cf70 : CF := ⟨2, (.seq (.reg false [⟨(some p4), none, .mov (.c .nsl), 0⟩])
  (.seq (.reg false [⟨(some p5), none, .mov (.c .nsl), 0⟩])
  (.seq (.seq (.reg false [⟨(some p8), none, .mov (.r p0), 0⟩, ⟨(some p9), none, .len .sl (.r p8), 0⟩, ⟨(some p10), none, .mov (.c (.int .i64 (0))), 0⟩])
  (.block 0 (.loop [p1, p5, p8, p9, p10] (.seq (.reg false [⟨(some p11), none, .bin .lss .other (.r p10) (.r p9), 0⟩])
  (.seq (.cond (.r p11) .skip (.exit 0))
  (.seq (.block 1 (.seq (.reg false [⟨(some p12), none, .indexAddr 3 (.r p8) (.r p10), 0⟩, ⟨(some p13), none, .ld (some 3) (.r p12), 0⟩, ⟨none, none, .alR p7 (.agg [(.int .i64 (0)), (.str []), .nsl]), 0⟩, ⟨none, none, .stR p7 0 3 (.r p13), 0⟩])
  (.reg false [⟨(some p14), none, .mov (.r p5), 0⟩, ⟨(some p15), none, .mov (.r p1), 0⟩, ⟨(some p16), none, .ldR p7 0 (some 3), 0⟩, ⟨(some p17), none, .callV (.r p15) [(.r p16)], 0⟩, ⟨(some p18), none, .buildSl 3 (.agg [(.int .i64 (0)), (.str []), .nsl]) 1 [(0, (.r p17))] false, 0⟩, ⟨(some p19), none, .append 3 48 (.r p14) (.r p18) false, 0⟩, ⟨(some p5), none, .mov (.r p19), 0⟩])))
  (.reg false [⟨(some p20), none, .bin .add .other (.r p10) (.c (.int .i64 (1))), 0⟩, ⟨(some p10), none, .mov (.r p20), 0⟩])))))))
  (.seq (.reg false [⟨(some p21), none, .mov (.r p5), 0⟩, ⟨(some p4), none, .mov (.r p21), 0⟩])
  .ret)))), [.reg p4]⟩
def fh70 : FH := ⟨[7], [], pu, [.live [1, 5, 8, 9, 10]]⟩

/-- (*demotic/kinds.writer).full$1 -/
def cf71 : CF := ⟨3, (.seq (.reg false [⟨none, none, .boxR p3 (.r p0), 0⟩, ⟨none, none, .alR p4 (.agg [(.int .i64 (0)), (.str []), .nsl]), 0⟩])
  (.seq (.reg false [⟨(some p5), none, .ld none (.r p1), 0⟩, ⟨(some p6), none, .ldR p3 0 (some 3), 0⟩, ⟨(some p7), none, .ld none (.r p2), 0⟩, ⟨(some p8), none, .callF 55 [(.r p5), (.r p6), (.r p7)], 0⟩, ⟨none, none, .stR p4 0 3 (.r p8), 0⟩])
  .ret)), [.part p4 (some 3)]⟩
def fh71 : FH := ⟨[3, 4], [], pu, []⟩

/-- slices.IndexFunc[[]demotic/kinds.Def,demotic/kinds.Def] -/
def cf72 : CF := ⟨2, (.seq (.reg false [⟨(some p4), none, .mov (.c (.int .i64 (0))), 0⟩])
  (.seq (.seq (.reg false [⟨(some p6), none, .mov (.r p0), 0⟩, ⟨(some p7), none, .len .sl (.r p6), 0⟩, ⟨(some p8), none, .mov (.c (.int .i64 (0))), 0⟩])
  (.block 0 (.loop [p0, p1, p7, p8] (.seq (.reg false [⟨(some p9), none, .bin .lss .other (.r p8) (.r p7), 0⟩])
  (.seq (.cond (.r p9) .skip (.exit 0))
  (.seq (.block 1 (.seq (.reg false [⟨(some p10), none, .mov (.r p8), 0⟩, ⟨(some p5), none, .mov (.r p10), 0⟩])
  (.seq (.reg false [⟨(some p11), none, .mov (.r p1), 0⟩, ⟨(some p12), none, .mov (.r p0), 0⟩, ⟨(some p13), none, .mov (.r p5), 0⟩, ⟨(some p14), none, .indexAddr 6 (.r p12) (.r p13), 0⟩, ⟨(some p15), none, .ld (some 6) (.r p14), 0⟩, ⟨(some p16), none, .callV (.r p11) [(.r p15)], 0⟩])
  (.cond (.r p16) (.seq (.reg false [⟨(some p17), none, .mov (.r p5), 0⟩, ⟨(some p4), none, .mov (.r p17), 0⟩])
  .ret) .skip))))
  (.reg false [⟨(some p18), none, .bin .add .other (.r p8) (.c (.int .i64 (1))), 0⟩, ⟨(some p8), none, .mov (.r p18), 0⟩])))))))
  (.seq (.reg false [⟨(some p4), none, .mov (.c (.int .i64 (-1))), 0⟩])
  .ret))), [.reg p4]⟩
def fh72 : FH := ⟨[], [], pu, [.live [0, 1, 7, 8]]⟩

/-- (*demotic/kinds.writer).full$2 -/
def cf73 : CF := ⟨2, (.seq (.reg false [⟨none, none, .boxR p2 (.r p0), 0⟩, ⟨(some p3), none, .mov (.c (.bool false)), 0⟩])
  (.seq (.reg false [⟨(some p4), none, .adr p2, 0⟩, ⟨(some p5), none, .ldR p2 0 none, 0⟩, ⟨(some p6), none, .fieldAddr 1 (.r p1), 0⟩, ⟨(some p7), none, .ld none (.r p6), 0⟩, ⟨(some p8), none, .bin .eql .str (.r p5) (.r p7), 0⟩, ⟨(some p3), none, .mov (.r p8), 0⟩])
  .ret)), [.reg p3]⟩
def fh73 : FH := ⟨[2], [], pu, []⟩

/-- demotic/kinds.find$1 -/
def cf74 : CF := ⟨2, (.seq (.reg false [⟨none, none, .boxR p2 (.r p0), 0⟩, ⟨(some p3), none, .mov (.c (.bool false)), 0⟩])
  (.seq (.reg false [⟨(some p4), none, .adr p2, 0⟩, ⟨(some p5), none, .ldR p2 0 none, 0⟩, ⟨(some p6), none, .fieldAddr 1 (.r p1), 0⟩, ⟨(some p7), none, .ld none (.r p6), 0⟩, ⟨(some p8), none, .bin .eql .str (.r p5) (.r p7), 0⟩, ⟨(some p3), none, .mov (.r p8), 0⟩])
  .ret)), [.reg p3]⟩
def fh74 : FH := ⟨[2], [], pu, []⟩

/-- demotic/kinds.With$1 -/
def cf75 : CF := ⟨3, (.seq (.reg false [⟨none, none, .boxR p3 (.r p0), 0⟩, ⟨none, none, .alR p4 (.agg [(.int .i64 (0)), (.str []), .nsl]), 0⟩])
  (.seq (.reg false [⟨(some p5), none, .ldR p3 0 (some 3), 0⟩, ⟨(some p6), none, .ld none (.r p1), 0⟩, ⟨(some p7), none, .ld none (.r p2), 0⟩, ⟨(some p8), none, .callP 62 [(.r p5), (.r p6), (.r p7)], 0⟩, ⟨none, none, .stR p4 0 3 (.r p8), 0⟩])
  .ret)), [.part p4 (some 3)]⟩
def fh75 : FH := ⟨[3, 4], [], pu, []⟩

/-- slices.ContainsFunc[[]string,string] -/
def cf76 : CF := ⟨2, (.seq (.reg false [⟨(some p4), none, .mov (.c (.bool false)), 0⟩])
  (.seq (.reg false [⟨(some p5), none, .mov (.r p0), 0⟩, ⟨(some p6), none, .mov (.r p1), 0⟩, ⟨(some p7), none, .callF 79 [(.r p5), (.r p6)], 0⟩, ⟨(some p8), none, .bin .geq .other (.r p7) (.c (.int .i64 (0))), 0⟩, ⟨(some p4), none, .mov (.r p8), 0⟩])
  .ret)), [.reg p4]⟩
def fh76 : FH := ⟨[], [], pu, []⟩

/-- demotic/unify.twice$1 -/
def cf77 : CF := ⟨2, (.seq (.reg false [⟨(some p3), none, .mov (.c (.bool false)), 0⟩])
  (.seq (.reg true [⟨(some p4), none, .ld none (.r p1), 0⟩, ⟨(some p5), none, .mov (.r p0), 0⟩, ⟨(some p7), none, .ld none (.r p1), 2⟩, ⟨(some p8), none, .len .sl (.r p7), 0⟩, ⟨(some p9), none, .bin .sub .other (.r p8) (.c (.int .i64 (1))), 0⟩, ⟨(some p10), none, .ld none (.r p1), 1⟩, ⟨(some p12), none, .mov (.r p0), 0⟩, ⟨(some p6), none, .callF 63 [(.r p4), (.r p5)], 0⟩, ⟨(some p11), none, .callP 78 [(.r p10)], 0⟩, ⟨(some p13), none, .callF 63 [(.r p11), (.r p12)], 0⟩, ⟨(some p14), none, .bin .sub .other (.r p9) (.r p13), 0⟩, ⟨(some p15), none, .bin .neq .other (.r p6) (.r p14), 0⟩, ⟨(some p3), none, .mov (.r p15), 0⟩])
  .ret)), [.reg p3]⟩
def fh77 : FH := ⟨[], [], pu, [.perm [0, 1, 3, 4, 5, 6, 8, 2, 7, 9, 10, 11, 12]]⟩

/-- demotic/unify.reversed -/
def cf78 : CF := ⟨1, (.seq (.reg false [⟨(some p2), none, .mov (.c .nsl), 0⟩])
  (.seq (.reg false [⟨(some p4), none, .mov (.r p0), 0⟩, ⟨(some p5), none, .callF 80 [(.r p4)], 0⟩, ⟨(some p3), none, .mov (.r p5), 0⟩])
  (.seq (.reg false [⟨(some p6), none, .mov (.r p3), 0⟩, ⟨(some p7), none, .callF 81 [(.r p6)], 0⟩])
  (.seq (.reg false [⟨(some p8), none, .mov (.r p3), 0⟩, ⟨(some p2), none, .mov (.r p8), 0⟩])
  .ret)))), [.reg p2]⟩
def fh78 : FH := ⟨[], [], pu, []⟩

/-- slices.IndexFunc[[]string,string] -/
def cf79 : CF := ⟨2, (.seq (.reg false [⟨(some p4), none, .mov (.c (.int .i64 (0))), 0⟩])
  (.seq (.seq (.reg false [⟨(some p6), none, .mov (.r p0), 0⟩, ⟨(some p7), none, .len .sl (.r p6), 0⟩, ⟨(some p8), none, .mov (.c (.int .i64 (0))), 0⟩])
  (.block 0 (.loop [p0, p1, p7, p8] (.seq (.reg false [⟨(some p9), none, .bin .lss .other (.r p8) (.r p7), 0⟩])
  (.seq (.cond (.r p9) .skip (.exit 0))
  (.seq (.block 1 (.seq (.reg false [⟨(some p10), none, .mov (.r p8), 0⟩, ⟨(some p5), none, .mov (.r p10), 0⟩])
  (.seq (.reg false [⟨(some p11), none, .mov (.r p1), 0⟩, ⟨(some p12), none, .mov (.r p0), 0⟩, ⟨(some p13), none, .mov (.r p5), 0⟩, ⟨(some p14), none, .indexAddr 1 (.r p12) (.r p13), 0⟩, ⟨(some p15), none, .ld none (.r p14), 0⟩, ⟨(some p16), none, .callV (.r p11) [(.r p15)], 0⟩])
  (.cond (.r p16) (.seq (.reg false [⟨(some p17), none, .mov (.r p5), 0⟩, ⟨(some p4), none, .mov (.r p17), 0⟩])
  .ret) .skip))))
  (.reg false [⟨(some p18), none, .bin .add .other (.r p8) (.c (.int .i64 (1))), 0⟩, ⟨(some p8), none, .mov (.r p18), 0⟩])))))))
  (.seq (.reg false [⟨(some p4), none, .mov (.c (.int .i64 (-1))), 0⟩])
  .ret))), [.reg p4]⟩
def fh79 : FH := ⟨[], [], pu, [.live [0, 1, 7, 8]]⟩

/-- slices.Clone[[]string,string] -/
def cf80 : CF := ⟨1, (.seq (.reg false [⟨(some p2), none, .mov (.c .nsl), 0⟩])
  (.seq (.seq (.reg false [⟨(some p3), none, .mov (.r p0), 0⟩, ⟨(some p4), none, .bin .eql .sl (.r p3) (.c .nsl), 0⟩])
  (.cond (.r p4) (.seq (.reg false [⟨(some p2), none, .mov (.c .nsl), 0⟩])
  .ret) .skip))
  (.seq (.reg false [⟨(some p5), none, .buildSl 1 (.str []) 0 [] false, 0⟩, ⟨(some p6), none, .mov (.r p0), 0⟩, ⟨(some p7), none, .append 1 16 (.r p5) (.r p6) true, 0⟩, ⟨(some p2), none, .mov (.r p7), 0⟩])
  .ret))), [.reg p2]⟩
def fh80 : FH := ⟨[], [7], pu, []⟩

/-- slices.Reverse[[]string,string] -/
def cf81 : CF := ⟨1, (.seq (.reg false [⟨(some p4), none, .mov (.r p0), 0⟩, ⟨(some p5), none, .len .sl (.r p4), 0⟩, ⟨(some p6), none, .bin .sub .other (.r p5) (.c (.int .i64 (1))), 0⟩, ⟨(some p2), none, .mov (.c (.int .i64 (0))), 0⟩, ⟨(some p3), none, .mov (.r p6), 0⟩])
  (.block 0 (.loop [p0, p2, p3] (.seq (.seq (.reg false [⟨(some p7), none, .mov (.r p2), 0⟩, ⟨(some p8), none, .mov (.r p3), 0⟩, ⟨(some p9), none, .bin .lss .other (.r p7) (.r p8), 0⟩])
  (.cond (.r p9) .skip (.exit 0)))
  (.seq (.block 1 (.reg true [⟨(some p14), none, .mov (.r p0), 0⟩, ⟨(some p15), none, .mov (.r p2), 0⟩, ⟨(some p16), none, .mov (.r p0), 0⟩, ⟨(some p17), none, .mov (.r p3), 0⟩, ⟨(some p18), none, .mov (.r p0), 0⟩, ⟨(some p19), none, .mov (.r p3), 0⟩, ⟨(some p20), none, .indexAddr 1 (.r p18) (.r p19), 0⟩, ⟨(some p21), none, .ld none (.r p20), 0⟩, ⟨(some p22), none, .mov (.r p0), 0⟩, ⟨(some p23), none, .mov (.r p2), 0⟩, ⟨(some p24), none, .indexAddr 1 (.r p22) (.r p23), 0⟩, ⟨(some p25), none, .ld none (.r p24), 0⟩, ⟨(some p26), none, .indexAddr 1 (.r p14) (.r p15), 0⟩, ⟨none, none, .st 1 (.r p26) (.r p21), 0⟩, ⟨(some p27), none, .indexAddr 1 (.r p16) (.r p17), 0⟩, ⟨none, none, .st 1 (.r p27) (.r p25), 0⟩]))
  (.reg false [⟨(some p10), none, .mov (.r p2), 0⟩, ⟨(some p11), none, .bin .add .other (.r p10) (.c (.int .i64 (1))), 0⟩, ⟨(some p12), none, .mov (.r p3), 0⟩, ⟨(some p13), none, .bin .sub .other (.r p12) (.c (.int .i64 (1))), 0⟩, ⟨(some p2), none, .mov (.r p11), 0⟩, ⟨(some p3), none, .mov (.r p13), 0⟩])))))), []⟩
def fh81 : FH := ⟨[], [], pu, [.live [0, 2, 3], .perm [0, 1, 2, 3, 4, 5, 6, 7, 8, 9, 10, 11, 12, 13, 14, 15]]⟩

end Go.Eng
