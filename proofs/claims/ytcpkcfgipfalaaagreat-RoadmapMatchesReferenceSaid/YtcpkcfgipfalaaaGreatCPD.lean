import Derived.Test.YtcpkcfgipfalaaaGreatProg
import Derived.KernelRfl
import Derived.Test.YtcpkcfgipfalaaaGreatCPA
import Derived.Test.YtcpkcfgipfalaaaGreatCPC
set_option linter.unusedVariables false
set_option linter.unusedSimpArgs false
set_option linter.unnecessarySimpa false
set_option linter.unusedSectionVars false
set_option maxRecDepth 100000
set_option linter.unusedVariables false
namespace Go.Rm
open Go Go.Am Go.Proofs
abbrev K0:Ty:=(.pair (.int .i64) (.int .i64))
abbrev K3:Ty:=(.pair (.int .i64) K0)
abbrev K5:Ty:=(.slice K0)
abbrev K14:Ty:=(.slice K5)
abbrev K9:Ty:=(.pair .str (.pair K0 K3))
abbrev K7:Ty:=(.pair .str (.pair K5 (.int .i64)))
abbrev K1:Ty:=(.pair (.pair (.pair K0 (.pair K3 (.pair (.int .i64) (.pair K3 K3)))) (.pair K0 (.pair K3 (.pair (.int .i64) (.pair K3 K3))))) (.pair (.pair K3 K3) (.pair K14 (.pair (.slice K9) (.pair (.slice K7) (.pair (.slice (.int .i64)) (.pair (.int .i64) (.pair K3 (.pair K3 (.pair K14 K0))))))))))
abbrev K2:Ty:=(.pair (.int .i64) (.pair (.int .i64) (.pair (.int .i64) K5)))
abbrev K4:Ty:=(.pair (.pair K3 K3) (.pair K0 (.slice (.int .i64))))
abbrev K11:Ty:=(.pair K3 (.pair (.int .i64) K3))
abbrev K6:Ty:=(.slice K11)
abbrev K8:Ty:=(.slice (.pair K2 K2))
abbrev K10:Ty:=(.pair (.int .i64) (.pair K3 (.pair (.int .i64) (.pair (.int .i64) (.pair (.int .i64) K3)))))
abbrev K12:Ty:=(.slice K2)
abbrev K13:Ty:=(.pair K1 (.pair K4 (.int .i64)))
abbrev D1:Type:=(Int×Int)
abbrev D4:Type:=(Int×D1)
abbrev D11:Type:=(D1×(D4×(Int×(D4×D4))))
abbrev D6:Type:=(List D1)
abbrev D30:Type:=(List D6)
abbrev D46:Type:=(ByteArray×(D1×D4))
abbrev D24:Type:=(ByteArray×(D6×Int))
abbrev D0:Type:=((D11×D11)×((D4×D4)×(D30×((List D46)×((List D24)×((List Int)×(Int×(D4×(D4×(D30×D1))))))))))
abbrev D2:Type:=((D4×D4)×(D1×(List Int)))
abbrev D3:Type:=(Int×(Int×(Int×D6)))
abbrev D5:Type:=(Int×Unit)
abbrev D18:Type:=(D6×Unit)
abbrev D16:Type:=(List (D3×D3))
abbrev D7:Type:=((D0×Unit)×((D2×Unit)×((D4×Unit)×(D18×((Bool×Unit)×((D2×Unit)×(D18×((D16×Unit)×Unit))))))))
abbrev D8:Type:=(Unit×Unit)
abbrev D9:Type:=(Int×D5)
abbrev D34:Type:=(D4×(Int×D4))
abbrev D13:Type:=(List D34)
abbrev D10:Type:=(D5×((D13×Unit)×((Bool×Unit)×((List (D4×Bool))×(((D0×(D2×Int))×(Unit×(D13×Unit)))×(D8×(D8×(D5×((D4×Unit)×((D2×Unit)×Unit))))))))))
abbrev D12:Type:=((D0×Unit)×((D2×Unit)×Unit))
abbrev D14:Type:=(Unit×(Unit×((D4×Unit)×(((Int×(D4×(Int×(Int×(Int×D4)))))×Unit)×Unit))))
abbrev D15:Type:=((Bool×Unit)×Unit)
abbrev D20:Type:=(Unit×D8)
abbrev D23:Type:=((D4×Unit)×Unit)
abbrev D17:Type:=(((Unit×D20)×(D20×(D16×(D16×D9))))×(Unit×(Unit×(Unit×(Unit×((D1×Unit)×(((List D3)×Unit)×D23)))))))
abbrev D19:Type:=(Unit×(D5×((D13×Unit)×((Bool×Unit)×((List (D4×Bool))×(((D0×(D2×Int))×(Unit×(D13×Unit)))×(D8×(D8×(D5×Unit)))))))))
abbrev D21:Type:=((D0×Unit)×((D2×Unit)×(((List D3)×Unit)×D12)))
abbrev D22:Type:=((D8×(Unit×((List D3)×((List D3)×D9))))×((D0×Unit)×((D2×Unit)×((D16×Unit)×((D0×Unit)×((D2×Unit)×D8))))))
abbrev D25:Type:=((D1×Unit)×Unit)
abbrev D26:Type:=((D8×(Unit×((List D3)×(Unit×((List D3)×(Int×(Int×((List D3)×D9))))))))×((D0×Unit)×((D2×Unit)×((D16×Unit)×((D0×Unit)×((D2×Unit)×(Unit×((D3×Unit)×Unit))))))))
abbrev D27:Type:=((D6×(Unit×(Bool×Unit)))×(Unit×(Unit×(Unit×(((Int×(D4×(Int×(Int×(Int×D4)))))×Unit)×Unit)))))
abbrev D28:Type:=((D13×Unit)×((Bool×Unit)×((List (D4×Bool))×(((D0×(D2×Int))×(Unit×(D13×Unit)))×(D8×Unit)))))
abbrev D29:Type:=(Unit×(Unit×D5))
abbrev D31:Type:=(D6×(D5×((D20×Unit)×(Unit×(D5×(D5×(Unit×(Unit×D18))))))))
abbrev D32:Type:=((Unit×(Unit×(Unit×(D16×(Unit×(D16×D5))))))×((D0×Unit)×((D2×Unit)×((D4×Unit)×((D2×Unit)×Unit)))))
abbrev D56:Type:=(D9×Unit)
abbrev D33:Type:=((D6×(D6×(Unit×(D6×D5))))×D56)
abbrev D48:Type:=(Int×D9)
abbrev D35:Type:=((D6×D48)×Unit)
abbrev D36:Type:=((((D4×D4)×D1)×((List Int)×Unit))×((((D4×D4)×D1)×((List Int)×Unit))×Unit))
abbrev D37:Type:=((D1×Unit)×((Bool×Unit)×(D5×(D18×(D18×Unit)))))
abbrev D38:Type:=((Unit×(Unit×(Unit×((List D3)×D9))))×((D1×Unit)×(((List D3)×Unit)×((D3×Unit)×((D4×D18)×Unit)))))
abbrev D39:Type:=(D6×(D5×((D20×Unit)×(Unit×(D5×(D5×(D6×D56)))))))
abbrev D53:Type:=((List D3)×D5)
abbrev D40:Type:=((Unit×(Unit×(Unit×D53)))×(Unit×(Unit×(Unit×(Unit×((D3×Unit)×((D4×D18)×D25)))))))
abbrev D41:Type:=((Unit×(Unit×(D6×(D16×(Int×(D30×(D30×D5)))))))×D14)
abbrev D42:Type:=((Int×(Int×(Unit×(Unit×(D13×((List D4)×D5))))))×D12)
abbrev D43:Type:=((D8×(Int×(D30×(D16×(Int×(Int×(D30×D9)))))))×D7)
abbrev D44:Type:=(D6×(D5×((D20×Unit)×(D6×(D5×(D5×D56))))))
abbrev D45:Type:=((D8×(Int×(D30×(Int×(D6×(D16×(Int×(Int×(D30×(Int×(Int×(D30×D9))))))))))))×D7)
abbrev D47:Type:=(D6×(D6×(Unit×D5)))
abbrev D49:Type:=(List ByteArray)
abbrev D50:Type:=((D0×Unit)×Unit)
abbrev D51:Type:=((D6×D9)×Unit)
abbrev D52:Type:=(D6×(D5×((D20×Unit)×(D6×(D5×(D5×Unit))))))
abbrev D54:Type:=((Int×(Int×(Unit×(Unit×(D13×((List D4)×D9))))))×D12)
abbrev D55:Type:=((D6×(Bool×(Int×(Unit×(Unit×D48)))))×(D6×(D5×((D20×Unit)×D18))))
abbrev D57:Type:=(Int×(Int×(Int×(Int×D48))))
abbrev lv0 (x:D0):List AV:=[.int .i64 x.1.1.1.1,.int .i64 x.1.1.1.2,.int .i64 x.1.1.2.1.1,.int .i64 x.1.1.2.1.2.1,.int .i64 x.1.1.2.1.2.2,.int .i64 x.1.1.2.2.1,.int .i64 x.1.1.2.2.2.1.1,.int .i64 x.1.1.2.2.2.1.2.1,.int .i64 x.1.1.2.2.2.1.2.2,.int .i64 x.1.1.2.2.2.2.1,.int .i64 x.1.1.2.2.2.2.2.1,.int .i64 x.1.1.2.2.2.2.2.2,.int .i64 x.1.2.1.1,.int .i64 x.1.2.1.2,.int .i64 x.1.2.2.1.1,.int .i64 x.1.2.2.1.2.1,.int .i64 x.1.2.2.1.2.2,.int .i64 x.1.2.2.2.1,.int .i64 x.1.2.2.2.2.1.1,.int .i64 x.1.2.2.2.2.1.2.1,.int .i64 x.1.2.2.2.2.1.2.2,.int .i64 x.1.2.2.2.2.2.1,.int .i64 x.1.2.2.2.2.2.2.1,.int .i64 x.1.2.2.2.2.2.2.2,.int .i64 x.2.1.1.1,.int .i64 x.2.1.1.2.1,.int .i64 x.2.1.1.2.2,.int .i64 x.2.1.2.1,.int .i64 x.2.1.2.2.1,.int .i64 x.2.1.2.2.2,.slice false K5 x.2.2.1,.slice false K9 x.2.2.2.1,.slice false K7 x.2.2.2.2.1,.slice false (.int .i64) x.2.2.2.2.2.1,.int .i64 x.2.2.2.2.2.2.1,.int .i64 x.2.2.2.2.2.2.2.1.1,.int .i64 x.2.2.2.2.2.2.2.1.2.1,.int .i64 x.2.2.2.2.2.2.2.1.2.2,.int .i64 x.2.2.2.2.2.2.2.2.1.1,.int .i64 x.2.2.2.2.2.2.2.2.1.2.1,.int .i64 x.2.2.2.2.2.2.2.2.1.2.2,.slice false K5 x.2.2.2.2.2.2.2.2.2.1,.int .i64 x.2.2.2.2.2.2.2.2.2.2.1,.int .i64 x.2.2.2.2.2.2.2.2.2.2.2]
abbrev lv1 (x:D2):List AV:=[.int .i64 x.1.1.1,.int .i64 x.1.1.2.1,.int .i64 x.1.1.2.2,.int .i64 x.1.2.1,.int .i64 x.1.2.2.1,.int .i64 x.1.2.2.2,.int .i64 x.2.1.1,.int .i64 x.2.1.2,.slice false (.int .i64) x.2.2]
abbrev lv2 (x:D11):List AV:=[.int .i64 x.1.1,.int .i64 x.1.2,.int .i64 x.2.1.1,.int .i64 x.2.1.2.1,.int .i64 x.2.1.2.2,.int .i64 x.2.2.1,.int .i64 x.2.2.2.1.1,.int .i64 x.2.2.2.1.2.1,.int .i64 x.2.2.2.1.2.2,.int .i64 x.2.2.2.2.1,.int .i64 x.2.2.2.2.2.1,.int .i64 x.2.2.2.2.2.2]
abbrev lv3 (x:D4):List AV:=[.int .i64 x.1,.int .i64 x.2.1,.int .i64 x.2.2]
abbrev lv4 (x:D3):List AV:=[.int .i64 x.1,.int .i64 x.2.1,.int .i64 x.2.2.1,.slice false K0 x.2.2.2]
abbrev dd (t:Ty):AT:=.base (.data false t)
abbrev di:AT:=dd (.int .i64)
abbrev db:AT:=dd .bool
abbrev pt (c:Nat):AT:=.base (.ptr c 0)
abbrev tp (l:List (Tmp×AT)):Tpl:={ tmps:=l,heap:=[] }
abbrev CT:Type:=(g:FuncId)→(t:Ty)→List AV→Option t.den
abbrev LT:Type:=Code→(sh:Shape)→Amb→sh.head.ty.den→Option (exitsTy sh.exits).den
def sh3x12x0:Shape:={ head:=(tp [(11,db),(13,(dd K6)),(21,di)]),exits:=[(.exit 0,(tp [(11,db)])),(.ret,(tp [(10,db)]))] }
def sh12x4x0:Shape:={ head:={ tmps:=[(7,(pt 2)),(8,(pt 3)),(9,(pt 4)),(10,(pt 7)),(11,di)],heap:=[.empty,.empty,.var [di],.var [.base (.data true K6)],.var [db],.map K3 .bool,.pre K13 [.base (.map 5),.base (.data true K6)],.var [(pt 6)]] },exits:=[(.exit 0,{ tmps:=[(8,(pt 3)),(9,(pt 4)),(10,(pt 7))],heap:=[.empty,.empty,.empty,.var [.base (.data true K6)],.var [db],.map K3 .bool,.pre K13 [.base (.map 5),.base (.data true K6)],.var [(pt 6)]] }),(.ret,{ tmps:=[(8,(pt 3)),(9,(pt 4))],heap:=[.empty,.empty,.empty,.var [(dd K6)],.var [db]] })] }
def sh13x4x0:Shape:={ head:={ tmps:=[(2,di),(3,di),(4,(pt 0)),(5,(pt 1)),(10,.base (.data true K6)),(11,(dd (.slice K3))),(12,di)],heap:=[.pre K1 [],.pre K4 []] },exits:=[(.exit 0,(tp [(10,.base (.data true K6))])),(.ret,(tp [(8,(dd K6)),(9,db)]))] }
def sh13x7x0:Shape:={ head:={ tmps:=[(2,di),(3,di),(4,(pt 0)),(5,(pt 1)),(10,.base (.data true K6)),(11,(dd (.slice K3))),(12,di),(13,di)],heap:=[.pre K1 [],.pre K4 []] },exits:=[(.exit 2,{ tmps:=[(2,di),(3,di),(4,(pt 0)),(5,(pt 1)),(10,.base (.data true K6)),(11,(dd (.slice K3))),(12,di)],heap:=[.pre K1 [],.pre K4 []] }),(.ret,(tp [(8,(dd K6)),(9,db)]))] }
def sh14x4x0:Shape:={ head:=(tp [(0,(dd K6)),(1,(dd K6)),(5,di)]),exits:=[(.exit 0,(tp [])),(.ret,(tp [(4,db)]))] }
def sh15x4x0:Shape:={ head:=(tp [(0,(dd (.slice K3))),(1,(dd (.slice K3))),(5,di)]),exits:=[(.exit 0,(tp [])),(.ret,(tp [(4,db)]))] }
def sh16x2x0:Shape:={ head:={ tmps:=[(0,(dd K6)),(1,di),(5,.base (.hs 0 K3))],heap:=[.row K3] },exits:=[(.exit 0,{ tmps:=[(5,.base (.hs 0 K3))],heap:=[.row K3] })] }
def sh17x2x0:Shape:={ head:=(tp [(0,(dd K6)),(1,di),(5,.base (.data true (.slice K3)))]),exits:=[(.exit 0,(tp [(5,.base (.data true (.slice K3)))]))] }
def sh18x2x0:Shape:={ head:={ tmps:=[(0,(dd K6)),(3,(pt 0)),(5,di)],heap:=[.pre K3 []] },exits:=[(.exit 0,(tp [])),(.ret,(tp [(4,di)]))] }
def sh28x3x0:Shape:={ head:={ tmps:=[(1,(pt 0)),(2,(pt 1)),(3,(pt 2)),(4,di)],heap:=[.pre K1 [],.pre (.pair (.pair K3 K3) K0) [.base (.data true (.slice (.int .i64)))],.pre (.pair (.pair K3 K3) K0) [.base (.data true (.slice (.int .i64)))]] },exits:=[(.exit 0,{ tmps:=[(2,(pt 1)),(3,(pt 2))],heap:=[.empty,.pre (.pair (.pair K3 K3) K0) [.base (.data true (.slice (.int .i64)))],.pre (.pair (.pair K3 K3) K0) [.base (.data true (.slice (.int .i64)))]] })] }
def sh29x2x0:Shape:={ head:={ tmps:=[(1,(pt 0)),(3,di)],heap:=[.pre K1 []] },exits:=[(.exit 0,{ tmps:=[(1,(pt 0))],heap:=[.pre K1 []] }),(.ret,(tp [(2,db)]))] }
def sh30x5x0:Shape:={ head:=(tp [(5,(dd K12)),(6,di)]),exits:=[(.exit 0,(tp [])),(.ret,(tp [(4,db)]))] }
def sh30x8x0:Shape:={ head:=(tp [(5,(dd K12)),(6,di),(7,di)]),exits:=[(.exit 2,(tp [(5,(dd K12)),(6,di)])),(.ret,(tp [(4,db)]))] }
def sh39x4x0:Shape:={ head:=(tp [(0,(dd K14)),(3,di)]),exits:=[(.exit 0,(tp [])),(.ret,(tp [(2,db)]))] }
def sh40x3x0:Shape:={ head:={ tmps:=[(1,(pt 0)),(3,.base (.data true K14)),(4,di)],heap:=[.pre K1 []] },exits:=[(.exit 0,(tp [(3,.base (.data true K14))]))] }
def sh41x3x0:Shape:={ head:=(tp [(0,(dd (.slice K9))),(3,.base (.data true (.slice .str))),(4,di)]),exits:=[(.exit 0,(tp [(0,(dd (.slice K9))),(3,.base (.data true (.slice .str)))])),(.ret,(tp [(2,db)]))] }
def sh42x4x0:Shape:={ head:=(tp [(0,(dd (.slice K7))),(1,di),(5,.base (.data true (.slice .str))),(6,.base (.data true (.slice (.int .i64)))),(7,di)]),exits:=[(.exit 0,(tp [(0,(dd (.slice K7))),(1,di),(5,.base (.data true (.slice .str))),(6,.base (.data true (.slice (.int .i64))))])),(.ret,(tp [(4,db)]))] }
def sh43x2x0:Shape:={ head:=(tp [(0,(dd (.slice (.int .i64)))),(1,di),(5,di)]),exits:=[(.exit 0,(tp [])),(.ret,(tp [(4,db)]))] }
def sh43x7x0:Shape:={ head:=(tp [(0,(dd (.slice (.int .i64)))),(1,di),(5,di),(6,di)]),exits:=[(.exit 2,(tp [(0,(dd (.slice (.int .i64)))),(1,di),(5,di)])),(.ret,(tp [(4,db)]))] }
def sh44x4x0:Shape:={ head:={ tmps:=[(2,(pt 0)),(3,(pt 1)),(5,di)],heap:=[.pre K1 [],.pre K4 []] },exits:=[(.exit 0,{ tmps:=[(2,(pt 0)),(3,(pt 1))],heap:=[.pre K1 [],.pre K4 []] }),(.ret,(tp [(4,db)]))] }
def sh44x10x0:Shape:={ head:={ tmps:=[(2,(pt 0)),(3,(pt 1)),(7,di)],heap:=[.pre K1 [],.pre K4 []] },exits:=[(.exit 2,(tp [])),(.ret,(tp [(4,db)]))] }
def sh44x15x0:Shape:={ head:={ tmps:=[(2,(pt 0)),(3,(pt 1)),(7,di),(8,di)],heap:=[.pre K1 [],.pre K4 []] },exits:=[(.exit 4,{ tmps:=[(2,(pt 0)),(3,(pt 1)),(7,di)],heap:=[.pre K1 [],.pre K4 []] }),(.ret,(tp [(4,db)]))] }
def sh45x18x0:Shape:={ head:={ tmps:=[(2,(pt 0)),(3,(pt 1)),(5,.base (.data true K12)),(12,di)],heap:=[.pre K1 [],.pre K4 []] },exits:=[(.exit 6,{ tmps:=[(2,(pt 0)),(5,.base (.data true K12))],heap:=[.pre K1 []] })] }
def sh45x24x0:Shape:={ head:={ tmps:=[(2,(pt 0)),(5,.base (.data true K12)),(14,di)],heap:=[.pre K1 []] },exits:=[(.exit 8,(tp [(5,.base (.data true K12))]))] }
def sh47x4x0:Shape:={ head:={ tmps:=[(0,.func (.yield 0) [] []),(1,(pt 6)),(2,(pt 7)),(4,(pt 8)),(5,(pt 9)),(31,di)],heap:=[.var [di],.var [.base (.data true K6)],.var [db],.map K3 .bool,.pre K13 [.base (.map 3),.base (.data true K6)],.var [(pt 4)],.var [(pt 4)],.var [di],.pre K3 [],.pre K4 []],pend:=[none] },exits:=[(.exit 0,{ tmps:=[],heap:=[.var [di],.var [.base (.data true K6)],.var [db],.map K3 .bool,.pre K13 [.base (.map 3),.base (.data true K6)],.var [(pt 4)],.var [(pt 4)],.var [di]],pend:=[none] }),(.ret,{ tmps:=[],heap:=[.var [di],.var [(dd K6)],.var [db],.map K3 .bool,.pre K13 [.base (.map 3),.base (.data true K6)],.var [(pt 4)],.var [(pt 4)],.var [di]],pend:=[some .ret] })] }
def sh47x7x0:Shape:={ head:={ tmps:=[(0,.func (.yield 0) [] []),(1,(pt 6)),(2,(pt 7)),(4,(pt 8)),(5,(pt 9)),(6,di),(31,di),(34,.base (.agg K0)),(35,di)],heap:=[.var [di],.var [.base (.data true K6)],.var [db],.map K3 .bool,.pre K13 [.base (.map 3),.base (.data true K6)],.var [(pt 4)],.var [(pt 4)],.var [di],.pre K3 [],.pre K4 []],pend:=[none] },exits:=[(.exit 2,{ tmps:=[(0,.func (.yield 0) [] []),(1,(pt 6)),(2,(pt 7)),(4,(pt 8)),(5,(pt 9)),(31,di)],heap:=[.var [di],.var [.base (.data true K6)],.var [db],.map K3 .bool,.pre K13 [.base (.map 3),.base (.data true K6)],.var [(pt 4)],.var [(pt 4)],.var [di],.pre K3 [],.pre K4 []],pend:=[none] }),(.ret,{ tmps:=[],heap:=[.var [di],.var [(dd K6)],.var [db],.map K3 .bool,.pre K13 [.base (.map 3),.base (.data true K6)],.var [(pt 4)],.var [(pt 4)],.var [di]],pend:=[some .ret] })] }
def sh50x10x0:Shape:={ head:={ tmps:=[(11,.func (.func 68) [] [.ptr 5 0,.ptr 4 0]),(12,.func (.func 102) [] [.ptr 6 0]),(13,.base (.data true K8)),(47,(dd K8)),(48,di),(49,di)],heap:=[.empty,.empty,.empty,.empty,.pre K0 [],.var [(dd K12)],.pre K3 []] },exits:=[(.exit 0,(tp [(13,.base (.data true K8))]))] }
def sh51x2x0:Shape:={ head:={ tmps:=[(0,(dd K5)),(1,(dd K5)),(4,(pt 0)),(5,(pt 1)),(13,.base (.agg (.pair K5 K5))),(14,di)],heap:=[.pre K0 [],.var [db]] },exits:=[(.exit 0,{ tmps:=[(4,(pt 0)),(5,(pt 1))],heap:=[.pre K0 [],.var [db]] }),(.ret,{ tmps:=[(4,(pt 0)),(5,(pt 1))],heap:=[.pre K0 [],.var [db]] })] }
def sh54x5x0:Shape:={ head:=(tp [(0,(dd K5)),(3,di),(4,di)]),exits:=[(.exit 0,(tp [(0,(dd K5)),(3,di)])),(.ret,(tp [(2,db)]))] }
def sh54x10x0:Shape:={ head:=(tp [(0,(dd K5)),(3,di),(5,di)]),exits:=[(.exit 2,(tp [(0,(dd K5))])),(.ret,(tp [(2,db)]))] }
def sh54x15x0:Shape:={ head:=(tp [(0,(dd K5)),(3,di),(5,di),(6,di)]),exits:=[(.exit 4,(tp [(0,(dd K5)),(3,di),(5,di)])),(.ret,(tp [(2,db)]))] }
def sh56x2x0:Shape:={ head:=(tp [(0,(dd (.slice .str))),(3,di)]),exits:=[(.exit 0,(tp [])),(.ret,(tp [(2,db)]))] }
def sh56x7x0:Shape:={ head:=(tp [(0,(dd (.slice .str))),(3,di),(4,di)]),exits:=[(.exit 2,(tp [(0,(dd (.slice .str))),(3,di)])),(.ret,(tp [(2,db)]))] }
def sh57x4x0:Shape:={ head:=(tp [(0,(dd K5)),(3,di)]),exits:=[(.exit 0,(tp [])),(.ret,(tp [(2,db)]))] }
def sh57x9x0:Shape:={ head:=(tp [(0,(dd K5)),(3,di),(4,di)]),exits:=[(.exit 2,(tp [(0,(dd K5)),(3,di)])),(.ret,(tp [(2,db)]))] }
def sh61x3x0:Shape:={ head:={ tmps:=[(3,(pt 0)),(4,(pt 1)),(5,(pt 2)),(7,.base (.data true K5)),(8,di)],heap:=[.pre K7 [],.pre K0 [],.pre K3 []] },exits:=[(.exit 0,(tp [(7,.base (.data true K5))]))] }
def sh63x4x0:Shape:={ head:={ tmps:=[(5,(pt 2)),(7,(pt 3)),(9,.base (.data true K5)),(10,(dd K8)),(11,di)],heap:=[.empty,.empty,.pre K3 [],.pre K10 []] },exits:=[(.exit 0,{ tmps:=[(7,(pt 3)),(9,.base (.data true K5))],heap:=[.empty,.empty,.empty,.pre K10 []] }),(.ret,{ tmps:=[(6,.base (.data true K5)),(7,(pt 3)),(8,db)],heap:=[.empty,.empty,.empty,.pre K10 []] })] }
def sh63x9x0:Shape:={ head:={ tmps:=[(5,(pt 2)),(7,(pt 3)),(9,.base (.data true K5)),(10,(dd K8)),(11,di),(12,.base (.data true K14)),(13,.base (.data true K14)),(14,di)],heap:=[.empty,.empty,.pre K3 [],.pre K10 []] },exits:=[(.exit 2,{ tmps:=[(5,(pt 2)),(7,(pt 3)),(9,.base (.data true K5)),(10,(dd K8)),(11,di)],heap:=[.empty,.empty,.pre K3 [],.pre K10 []] }),(.ret,{ tmps:=[(6,.base (.data true K5)),(7,(pt 3)),(8,db)],heap:=[.empty,.empty,.empty,.pre K10 []] })] }
def sh63x12x0:Shape:={ head:={ tmps:=[(5,(pt 2)),(7,(pt 3)),(9,.base (.data true K5)),(10,(dd K8)),(11,di),(12,.base (.data true K14)),(13,.base (.data true K14)),(14,di),(15,di)],heap:=[.empty,.empty,.pre K3 [],.pre K10 []] },exits:=[(.exit 4,{ tmps:=[(5,(pt 2)),(7,(pt 3)),(9,.base (.data true K5)),(10,(dd K8)),(11,di),(12,.base (.data true K14)),(13,.base (.data true K14)),(14,di)],heap:=[.empty,.empty,.pre K3 [],.pre K10 []] }),(.ret,{ tmps:=[(6,.base (.data true K5)),(7,(pt 3)),(8,db)],heap:=[.empty,.empty,.empty,.pre K10 []] })] }
def sh64x1x0:Shape:={ head:={ tmps:=[(0,.func (.yield 0) [] []),(10,(dd K8)),(11,di),(12,di)],heap:=[.pre K1 [],.pre K4 [],.pre K3 [],.var [.base (.data true K5)],.var [db],.pre K4 [],.var [.base (.data true K5)],.var [(dd K8)]],pend:=[none] },exits:=[(.exit 0,{ tmps:=[],heap:=[.pre K1 [],.pre K4 [],.pre K3 [],.var [.base (.data true K5)],.var [db],.pre K4 [],.var [.base (.data true K5)],.var [(dd K8)]],pend:=[none] }),(.ret,{ tmps:=[],heap:=[.pre K1 [],.pre K4 [],.pre K3 [],.var [.base (.data true K5)],.var [db],.pre K4 [],.var [.base (.data true K5)],.var [(dd K8)]],pend:=[some .ret] })] }
def sh64x5x0:Shape:={ head:={ tmps:=[(0,.func (.yield 0) [] []),(3,di),(5,.base (.data true K14)),(10,(dd K8)),(11,di),(12,di),(24,.base (.data true K14)),(25,di),(26,di)],heap:=[.pre K1 [],.pre K4 [],.pre K3 [],.var [.base (.data true K5)],.var [db],.pre K4 [],.var [.base (.data true K5)],.var [(dd K8)]],pend:=[none] },exits:=[(.exit 2,{ tmps:=[(0,.func (.yield 0) [] []),(10,(dd K8)),(11,di),(12,di)],heap:=[.pre K1 [],.pre K4 [],.pre K3 [],.var [.base (.data true K5)],.var [db],.pre K4 [],.var [.base (.data true K5)],.var [(dd K8)]],pend:=[none] }),(.ret,{ tmps:=[],heap:=[.pre K1 [],.pre K4 [],.pre K3 [],.var [.base (.data true K5)],.var [db],.pre K4 [],.var [.base (.data true K5)],.var [(dd K8)]],pend:=[some .ret] })] }
def sh64x8x0:Shape:={ head:={ tmps:=[(0,.func (.yield 0) [] []),(3,di),(5,.base (.data true K14)),(6,di),(7,(dd K5)),(10,(dd K8)),(11,di),(12,di),(24,.base (.data true K14)),(25,di),(26,di),(31,(dd K14)),(32,di),(33,di)],heap:=[.pre K1 [],.pre K4 [],.pre K3 [],.var [.base (.data true K5)],.var [db],.pre K4 [],.var [.base (.data true K5)],.var [(dd K8)]],pend:=[none] },exits:=[(.exit 4,{ tmps:=[(0,.func (.yield 0) [] []),(3,di),(5,.base (.data true K14)),(10,(dd K8)),(11,di),(12,di),(24,.base (.data true K14)),(25,di),(26,di)],heap:=[.pre K1 [],.pre K4 [],.pre K3 [],.var [.base (.data true K5)],.var [db],.pre K4 [],.var [.base (.data true K5)],.var [(dd K8)]],pend:=[none] }),(.ret,{ tmps:=[],heap:=[.pre K1 [],.pre K4 [],.pre K3 [],.var [.base (.data true K5)],.var [db],.pre K4 [],.var [.base (.data true K5)],.var [(dd K8)]],pend:=[some .ret] })] }
def sh65x5x0:Shape:={ head:={ tmps:=[(3,.base (.hs 0 K0)),(4,.base (.data true K14))],heap:=[.row K0] },exits:=[(.exit 0,{ tmps:=[(3,.base (.hs 0 K0)),(4,.base (.data true K14))],heap:=[.row K0] }),(.ret,(tp [(2,.base (.data true K14))]))] }
def sh68x2x0:Shape:={ head:={ tmps:=[(2,(pt 0)),(3,(pt 2)),(4,(pt 3)),(7,(dd K12)),(8,di),(9,di)],heap:=[.pre K0 [],.var [(dd K12)],.pre K2 [],.pre K3 [.base (.data true K5)]] },exits:=[(.exit 0,{ tmps:=[(3,(pt 2)),(4,(pt 3))],heap:=[.pre K0 [],.var [(dd K12)],.pre K2 [],.pre K3 [.base (.data true K5)]] })] }
def sh70x6x0:Shape:={ head:={ tmps:=[(1,(dd K5)),(2,(dd K5)),(8,.func (.func 99) [.agg K0] []),(9,.base (.data true K5)),(24,di),(25,di)],heap:=[] },exits:=[(.exit 0,(tp [(1,(dd K5)),(2,(dd K5)),(9,.base (.data true K5))]))] }
def sh79x3x0:Shape:={ head:=(tp [(0,(dd K5)),(3,di),(4,di)]),exits:=[(.exit 0,(tp [(3,di)]))] }
def sh80x3x0:Shape:={ head:=(tp [(0,di),(3,di),(4,di)]),exits:=[(.exit 0,(tp [(3,di)]))] }
def sh81x4x0:Shape:={ head:=(tp [(0,(dd .str)),(3,di)]),exits:=[(.exit 0,(tp [])),(.ret,(tp [(2,db)]))] }
def sh86x7x0:Shape:={ head:={ tmps:=[(3,(pt 0)),(4,(pt 1)),(5,(pt 2)),(7,.base (.data true K8)),(8,(pt 3)),(10,(dd K8)),(11,di)],heap:=[.pre K1 [],.pre K4 [],.pre K3 [],.pre K4 []] },exits:=[(.exit 0,(tp [(7,.base (.data true K8))]))] }
def sh87x6x0:Shape:={ head:=(tp [(4,.base (.data true K14)),(5,(dd K5))]),exits:=[(.exit 0,(tp [(4,.base (.data true K14)),(5,(dd K5))])),(.ret,(tp [(2,.base (.data true K14))]))] }
def sh87x8x0:Shape:={ head:=(tp [(4,.base (.data true K14)),(5,(dd K5)),(6,di)]),exits:=[(.exit 2,(tp [(4,.base (.data true K14)),(5,(dd K5)),(6,di)]))] }
def sh88x2x0:Shape:={ head:={ tmps:=[(0,(dd K5)),(1,(dd K5)),(4,(pt 0)),(6,di)],heap:=[.pre K0 []] },exits:=[(.exit 0,{ tmps:=[(0,(dd K5)),(1,(dd K5)),(4,(pt 0))],heap:=[.pre K0 []] }),(.ret,{ tmps:=[(4,(pt 0)),(5,db)],heap:=[.pre K0 []] })] }
def sh88x7x0:Shape:={ head:={ tmps:=[(0,(dd K5)),(1,(dd K5)),(4,(pt 0)),(7,di)],heap:=[.pre K0 []] },exits:=[(.exit 2,{ tmps:=[(4,(pt 0))],heap:=[.pre K0 []] }),(.ret,{ tmps:=[(4,(pt 0)),(5,db)],heap:=[.pre K0 []] })] }
def sh89x2x0:Shape:={ head:={ tmps:=[(0,(dd K5)),(1,(dd K5)),(4,(pt 0)),(6,di)],heap:=[.pre K3 []] },exits:=[(.exit 0,{ tmps:=[(4,(pt 0))],heap:=[.pre K3 []] }),(.ret,{ tmps:=[(4,(pt 0)),(5,db)],heap:=[.pre K3 []] })] }
def sh89x5x0:Shape:={ head:={ tmps:=[(0,(dd K5)),(1,(dd K5)),(4,(pt 0)),(6,di),(7,di)],heap:=[.pre K3 []] },exits:=[(.exit 2,{ tmps:=[(0,(dd K5)),(1,(dd K5)),(4,(pt 0)),(6,di)],heap:=[.pre K3 []] }),(.ret,{ tmps:=[(4,(pt 0)),(5,db)],heap:=[.pre K3 []] })] }
def sh89x8x0:Shape:={ head:={ tmps:=[(0,(dd K5)),(1,(dd K5)),(4,(pt 0)),(6,di),(7,di),(8,di)],heap:=[.pre K3 []] },exits:=[(.exit 4,{ tmps:=[(0,(dd K5)),(1,(dd K5)),(4,(pt 0)),(6,di),(7,di)],heap:=[.pre K3 []] }),(.ret,{ tmps:=[(4,(pt 0)),(5,db)],heap:=[.pre K3 []] })] }
def sh91x5x0:Shape:={ head:=(tp [(0,(dd K5)),(3,di),(11,di),(12,di)]),exits:=[(.exit 0,(tp [])),(.ret,(tp [(2,db)]))] }
def sh91x9x0:Shape:={ head:=(tp [(0,(dd K5)),(3,di),(4,di),(5,di),(11,di),(12,di),(19,di),(20,di)]),exits:=[(.exit 2,(tp [(0,(dd K5)),(3,di),(11,di),(12,di)])),(.ret,(tp [(2,db)]))] }
def sh92x3x0:Shape:={ head:=(tp [(0,(dd K5)),(5,di),(12,di),(13,di)]),exits:=[(.exit 0,(tp [])),(.ret,(tp [(2,di),(3,di),(4,di)]))] }
def sh92x8x0:Shape:={ head:=(tp [(0,(dd K5)),(5,di),(6,di),(7,di),(8,di),(12,di),(13,di),(40,di),(41,di)]),exits:=[(.exit 1,(tp [(0,(dd K5)),(5,di),(12,di),(13,di)])),(.exit 2,(tp [(6,di),(7,di),(8,di)]))] }
def sh100x9x0:Shape:={ head:={ tmps:=[(2,.base (.data true K5)),(3,db),(4,.base (.hs 0 K0)),(5,(pt 1)),(6,(pt 2)),(22,.base (.hs 0 K0)),(23,di),(24,di)],heap:=[.row K0,.var [.base (.hs 3 K0)],.var [.func (.func 134) [] [.ptr 1 0]],.row K0] },exits:=[(.exit 0,{ tmps:=[(2,.base (.data true K5)),(3,db),(4,.base (.hs 0 K0)),(5,(pt 1)),(6,(pt 2))],heap:=[.row K0,.var [.base (.hs 3 K0)],.var [.func (.func 134) [] [.ptr 1 0]],.row K0] })] }
def sh101x3x0:Shape:={ head:=(tp [(3,.base (.data true K5)),(6,(dd K14)),(7,di),(8,di)]),exits:=[(.exit 0,(tp [(3,.base (.data true K5))]))] }
def sh104x1x0:Shape:={ head:={ tmps:=[(0,.func (.yield 0) [] []),(1,(pt 4)),(5,(dd K5)),(6,di),(7,di)],heap:=[.pre K0 [],.var [db],.var [di],.var [(dd K5)],.var [(dd K5)]],pend:=[none] },exits:=[(.exit 0,{ tmps:=[],heap:=[.pre K0 [],.var [db],.var [di],.var [(dd K5)],.var [(dd K5)]],pend:=[none] }),(.ret,{ tmps:=[],heap:=[.pre K0 [],.var [db],.var [di],.var [(dd K5)],.var [(dd K5)]],pend:=[some .ret] })] }
def sh105x2x0:Shape:={ head:={ tmps:=[(1,.func (.func 106) [] [.ptr 0 0]),(7,(dd K5)),(8,di),(9,di)],heap:=[.pre (.pair K0 K0) []] },exits:=[(.exit 0,{ tmps:=[],heap:=[.pre (.pair K0 K0) []] }),(.ret,{ tmps:=[(4,db)],heap:=[.pre (.pair K0 K0) []] })] }
def sh112x7x0:Shape:={ head:=(tp [(6,di),(7,di),(8,di),(9,di)]),exits:=[(.exit 0,(tp [(7,di),(8,di)]))] }
def sh113x4x0:Shape:={ head:=(tp [(5,.base (.data true K8)),(6,(dd K12)),(7,di)]),exits:=[(.exit 0,(tp [(5,.base (.data true K8))]))] }
def sh113x7x0:Shape:={ head:=(tp [(5,.base (.data true K8)),(6,(dd K12)),(7,di),(8,di)]),exits:=[(.exit 2,(tp [(5,.base (.data true K8)),(6,(dd K12)),(7,di)]))] }
def sh115x4x0:Shape:={ head:={ tmps:=[(9,(pt 4)),(10,(pt 5)),(11,(pt 6)),(12,(dd K12)),(13,di)],heap:=[.empty,.empty,.empty,.empty,.pre K2 [],.pre K3 [.base (.data true K5)],.pre K0 []] },exits:=[(.exit 0,{ tmps:=[(9,(pt 4)),(10,(pt 5))],heap:=[.empty,.empty,.empty,.empty,.pre K2 [],.pre K3 [.base (.data true K5)]] }),(.ret,{ tmps:=[(10,(pt 5))],heap:=[.empty,.empty,.empty,.empty,.empty,.pre K2 []] })] }
def sh116x2x0:Shape:={ head:=(tp [(0,(dd K5)),(3,di)]),exits:=[(.exit 0,(tp [(0,(dd K5))])),(.ret,(tp [(2,db)]))] }
def sh116x8x0:Shape:={ head:=(tp [(0,(dd K5)),(3,di),(4,di),(5,di)]),exits:=[(.exit 2,(tp [(0,(dd K5)),(3,di)])),(.ret,(tp [(2,db)]))] }
def sh117x8x0:Shape:={ head:=(tp [(0,(dd K5)),(1,di),(5,di),(6,di),(7,di),(9,di)]),exits:=[(.exit 0,(tp [])),(.ret,(tp [(4,db)]))] }
def sh118x2x0:Shape:={ head:=(tp [(0,(dd K5)),(1,di),(2,(dd K5)),(7,di)]),exits:=[(.exit 0,(tp [])),(.ret,(tp [(6,db)]))] }
def sh123x3x0:Shape:={ head:=(tp [(3,di),(4,di),(5,di)]),exits:=[(.exit 0,(tp [(3,di)]))] }
def sh124x17x0:Shape:={ head:={ tmps:=[(0,.func (.yield 0) [] []),(1,(pt 3)),(82,(dd (.slice (.int .i64)))),(83,di),(84,di)],heap:=[.pre K1 [],.pre K4 [],.var [.base (.data true K12)],.pre K1 [],.pre K4 []],pend:=[none] },exits:=[(.exit 6,{ tmps:=[(0,.func (.yield 0) [] []),(1,(pt 3))],heap:=[.pre K1 [],.pre K4 [],.var [.base (.data true K12)],.pre K1 [],.pre K4 []],pend:=[none] })] }
def sh124x22x0:Shape:={ head:={ tmps:=[(0,.func (.yield 0) [] []),(118,(dd K14)),(119,di),(120,di)],heap:=[.pre K1 [],.pre K4 [],.var [.base (.data true K12)],.pre K1 [],.pre K4 []],pend:=[none] },exits:=[(.exit 8,{ tmps:=[],heap:=[.pre K1 [],.pre K4 [],.var [.base (.data true K12)],.pre K1 [],.pre K4 []],pend:=[none] })] }
def sh133x4x0:Shape:={ head:={ tmps:=[(0,.base (.hs 0 K0)),(3,di)],heap:=[.row K0] },exits:=[(.exit 0,{ tmps:=[(0,.base (.hs 0 K0))],heap:=[.row K0] }),(.ret,{ tmps:=[(2,.base (.hs 0 K0))],heap:=[.row K0] })] }
def sh133x9x0:Shape:={ head:={ tmps:=[(0,.base (.hs 0 K0)),(3,di),(4,.base (.hw 0 K0)),(5,di)],heap:=[.row K0] },exits:=[(.exit 2,{ tmps:=[(0,.base (.hs 0 K0)),(3,di)],heap:=[.row K0] })] }
def sh134x1x0:Shape:={ head:={ tmps:=[(1,di),(2,(pt 0)),(3,(pt 2))],heap:=[.var [.base (.hs 1 K0)],.row K0,.var [di,di]] },exits:=[(.exit 0,{ tmps:=[(2,(pt 0)),(3,(pt 2))],heap:=[.var [.base (.hs 1 K0)],.row K0,.var [di,di]] })] }
def sh134x1x1:Shape:={ head:={ tmps:=[(1,di),(2,(pt 1)),(3,(pt 6))],heap:=[.row K0,.var [.base (.hs 3 K0)],.var [.func (.func 134) [] [.ptr 1 0]],.row K0,.var [di],.var [.base (.hs 0 K0)],.var [di,di]],pend:=[some .normal] },exits:=[(.exit 0,{ tmps:=[(2,(pt 1)),(3,(pt 6))],heap:=[.row K0,.var [.base (.hs 3 K0)],.var [.func (.func 134) [] [.ptr 1 0]],.row K0,.var [di],.var [.base (.hs 0 K0)],.var [di,di]],pend:=[some .normal] })] }
def sh134x1x2:Shape:={ head:={ tmps:=[(1,di),(2,(pt 1)),(3,(pt 7))],heap:=[.row K0,.var [.base (.hs 6 K0)],.var [.func (.func 134) [] [.ptr 1 0]],.gone,.var [di],.var [.base (.hs 0 K0)],.row K0,.var [di,di]],pend:=[some .normal] },exits:=[(.exit 0,{ tmps:=[(2,(pt 1)),(3,(pt 7))],heap:=[.row K0,.var [.base (.hs 6 K0)],.var [.func (.func 134) [] [.ptr 1 0]],.gone,.var [di],.var [.base (.hs 0 K0)],.row K0,.var [di,di]],pend:=[some .normal] })] }
def sh136x3x0:Shape:={ head:={ tmps:=[(0,.func (.yield 0) [] []),(4,.base (.map 5)),(5,(dd K12)),(16,(dd K12)),(17,di),(18,di)],heap:=[.pre K1 [],.pre K4 [],.var [.base (.data true K8)],.pre K1 [],.pre K4 [],.mapv K0 true [(((1:Int),(1:Int)),[.func (.func 157) [] []]),(((1:Int),(2:Int)),[.func (.func 158) [] []]),(((1:Int),(3:Int)),[.func (.func 159) [] []]),(((1:Int),(4:Int)),[.func (.func 160) [] []]),(((2:Int),(2:Int)),[.func (.func 160) [] []]),(((2:Int),(3:Int)),[.func (.func 160) [] []]),(((2:Int),(4:Int)),[.func (.func 160) [] []])]],pend:=[none] },exits:=[(.exit 0,{ tmps:=[],heap:=[.pre K1 [],.pre K4 [],.var [.base (.data true K8)],.pre K1 [],.pre K4 []],pend:=[none] })] }
def sh136x6x0:Shape:={ head:={ tmps:=[(0,.func (.yield 0) [] []),(4,.base (.map 5)),(5,(dd K12)),(7,(pt 6)),(16,(dd K12)),(17,di),(18,di),(26,(dd K12)),(27,di),(28,di)],heap:=[.pre K1 [],.pre K4 [],.var [.base (.data true K8)],.pre K1 [],.pre K4 [],.mapv K0 true [(((1:Int),(1:Int)),[.func (.func 157) [] []]),(((1:Int),(2:Int)),[.func (.func 158) [] []]),(((1:Int),(3:Int)),[.func (.func 159) [] []]),(((1:Int),(4:Int)),[.func (.func 160) [] []]),(((2:Int),(2:Int)),[.func (.func 160) [] []]),(((2:Int),(3:Int)),[.func (.func 160) [] []]),(((2:Int),(4:Int)),[.func (.func 160) [] []])],.pre K2 []],pend:=[none] },exits:=[(.exit 2,{ tmps:=[(0,.func (.yield 0) [] []),(4,.base (.map 5)),(5,(dd K12)),(16,(dd K12)),(17,di),(18,di)],heap:=[.pre K1 [],.pre K4 [],.var [.base (.data true K8)],.pre K1 [],.pre K4 [],.mapv K0 true [(((1:Int),(1:Int)),[.func (.func 157) [] []]),(((1:Int),(2:Int)),[.func (.func 158) [] []]),(((1:Int),(3:Int)),[.func (.func 159) [] []]),(((1:Int),(4:Int)),[.func (.func 160) [] []]),(((2:Int),(2:Int)),[.func (.func 160) [] []]),(((2:Int),(3:Int)),[.func (.func 160) [] []]),(((2:Int),(4:Int)),[.func (.func 160) [] []])]],pend:=[none] })] }
def sh147x3x0:Shape:={ head:={ tmps:=[(0,(dd K5)),(3,(pt 0)),(5,di),(6,di)],heap:=[.pre K0 []] },exits:=[(.exit 0,(tp [(5,di)])),(.ret,(tp [(4,di)]))] }
def sh151x3x0:Shape:={ head:={ tmps:=[(1,.func (.func 152) [] [.ptr 0 0,.ptr 1 0]),(5,.base (.data true K5)),(11,(dd K5)),(12,di),(13,di)],heap:=[.pre K0 [],.pre K3 []] },exits:=[(.exit 0,{ tmps:=[(5,.base (.data true K5))],heap:=[.pre K0 [],.pre K3 []] })] }
def sh156x1x0:Shape:={ head:={ tmps:=[(0,.func (.yield 0) [] []),(1,(pt 5)),(3,di)],heap:=[.row K0,.var [.base (.hs 3 K0)],.var [.func (.func 134) [] [.ptr 1 0]],.row K0,.var [di],.var [.base (.hs 0 K0)]],pend:=[none] },exits:=[(.exit 0,{ tmps:=[],heap:=[.row K0,.var [.base (.hs 8 K0)],.var [.func (.func 134) [] [.ptr 1 0]],.gone,.var [di],.var [.base (.hs 0 K0)],.empty,.empty,.row K0],pend:=[none] }),(.exit 0,{ tmps:=[],heap:=[.row K0,.var [.base (.hs 3 K0)],.var [.func (.func 134) [] [.ptr 1 0]],.row K0,.var [di],.var [.base (.hs 0 K0)]],pend:=[none] })] }
def sh156x1x1:Shape:={ head:={ tmps:=[(0,.func (.yield 0) [] []),(1,(pt 5)),(3,di)],heap:=[.row K0,.var [.base (.hs 8 K0)],.var [.func (.func 134) [] [.ptr 1 0]],.gone,.var [di],.var [.base (.hs 0 K0)],.empty,.empty,.row K0],pend:=[none] },exits:=[(.exit 0,{ tmps:=[],heap:=[.row K0,.var [.base (.hs 8 K0)],.var [.func (.func 134) [] [.ptr 1 0]],.gone,.var [di],.var [.base (.hs 0 K0)],.empty,.empty,.row K0],pend:=[none] })] }
def sh161x6x0:Shape:={ head:={ tmps:=[(0,(dd K5)),(4,(pt 0)),(5,.base (.data true K5)),(6,di)],heap:=[.var [di,di]] },exits:=[(.exit 0,(tp [(5,.base (.data true K5))]))] }
def sh162x3x0:Shape:={ head:={ tmps:=[(1,(dd K5)),(2,(dd K5)),(3,(pt 0)),(7,.base (.data true K5)),(8,di)],heap:=[.var [di,di]] },exits:=[(.exit 0,{ tmps:=[(1,(dd K5)),(2,(dd K5)),(3,(pt 0)),(7,.base (.data true K5))],heap:=[.var [di,di]] })] }
def sh162x7x0:Shape:={ head:={ tmps:=[(1,(dd K5)),(2,(dd K5)),(3,(pt 0)),(7,.base (.data true K5)),(9,di)],heap:=[.var [di,di]] },exits:=[(.exit 2,{ tmps:=[(1,(dd K5)),(2,(dd K5)),(3,(pt 0)),(7,.base (.data true K5))],heap:=[.var [di,di]] })] }
def sh162x11x0:Shape:={ head:={ tmps:=[(1,(dd K5)),(2,(dd K5)),(3,(pt 0)),(7,.base (.data true K5)),(10,di)],heap:=[.var [di,di]] },exits:=[(.exit 4,(tp [(7,.base (.data true K5))]))] }
def sh165x6x0:Shape:={ head:={ tmps:=[(6,(pt 1)),(7,.func (.func 183) [] []),(20,di),(21,di)],heap:=[.empty,.pre K0 []] },exits:=[(.exit 0,{ tmps:=[(6,(pt 1))],heap:=[.empty,.pre K0 []] })] }
def sh177x3x0:Shape:={ head:={ tmps:=[(0,(dd K5)),(2,(pt 0)),(3,(pt 1)),(4,di)],heap:=[.var [di,di],.var [di,di]] },exits:=[(.exit 0,{ tmps:=[(2,(pt 0)),(3,(pt 1))],heap:=[.var [di,di],.var [di,di]] })] }
def sh178x3x0:Shape:={ head:={ tmps:=[(0,(dd K5)),(3,(pt 0)),(4,(pt 1)),(5,(pt 2)),(6,di)],heap:=[.var [di,di],.var [di,di],.var [di,di]] },exits:=[(.exit 0,{ tmps:=[(4,(pt 1)),(5,(pt 2))],heap:=[.empty,.var [di,di],.var [di,di]] })] }
def shapeTab:List ((Nat×Nat)×List Shape):=[((3,12),[sh3x12x0]),
 ((12,4),[sh12x4x0]),
 ((13,4),[sh13x4x0]),
 ((13,7),[sh13x7x0]),
 ((14,4),[sh14x4x0]),
 ((15,4),[sh15x4x0]),
 ((16,2),[sh16x2x0]),
 ((17,2),[sh17x2x0]),
 ((18,2),[sh18x2x0]),
 ((28,3),[sh28x3x0]),
 ((29,2),[sh29x2x0]),
 ((30,5),[sh30x5x0]),
 ((30,8),[sh30x8x0]),
 ((39,4),[sh39x4x0]),
 ((40,3),[sh40x3x0]),
 ((41,3),[sh41x3x0]),
 ((42,4),[sh42x4x0]),
 ((43,2),[sh43x2x0]),
 ((43,7),[sh43x7x0]),
 ((44,4),[sh44x4x0]),
 ((44,10),[sh44x10x0]),
 ((44,15),[sh44x15x0]),
 ((45,18),[sh45x18x0]),
 ((45,24),[sh45x24x0]),
 ((47,4),[sh47x4x0]),
 ((47,7),[sh47x7x0]),
 ((50,10),[sh50x10x0]),
 ((51,2),[sh51x2x0]),
 ((54,5),[sh54x5x0]),
 ((54,10),[sh54x10x0]),
 ((54,15),[sh54x15x0]),
 ((56,2),[sh56x2x0]),
 ((56,7),[sh56x7x0]),
 ((57,4),[sh57x4x0]),
 ((57,9),[sh57x9x0]),
 ((61,3),[sh61x3x0]),
 ((63,4),[sh63x4x0]),
 ((63,9),[sh63x9x0]),
 ((63,12),[sh63x12x0]),
 ((64,1),[sh64x1x0]),
 ((64,5),[sh64x5x0]),
 ((64,8),[sh64x8x0]),
 ((65,5),[sh65x5x0]),
 ((68,2),[sh68x2x0]),
 ((70,6),[sh70x6x0]),
 ((79,3),[sh79x3x0]),
 ((80,3),[sh80x3x0]),
 ((81,4),[sh81x4x0]),
 ((86,7),[sh86x7x0]),
 ((87,6),[sh87x6x0]),
 ((87,8),[sh87x8x0]),
 ((88,2),[sh88x2x0]),
 ((88,7),[sh88x7x0]),
 ((89,2),[sh89x2x0]),
 ((89,5),[sh89x5x0]),
 ((89,8),[sh89x8x0]),
 ((91,5),[sh91x5x0]),
 ((91,9),[sh91x9x0]),
 ((92,3),[sh92x3x0]),
 ((92,8),[sh92x8x0]),
 ((100,9),[sh100x9x0]),
 ((101,3),[sh101x3x0]),
 ((104,1),[sh104x1x0]),
 ((105,2),[sh105x2x0]),
 ((112,7),[sh112x7x0]),
 ((113,4),[sh113x4x0]),
 ((113,7),[sh113x7x0]),
 ((115,4),[sh115x4x0]),
 ((116,2),[sh116x2x0]),
 ((116,8),[sh116x8x0]),
 ((117,8),[sh117x8x0]),
 ((118,2),[sh118x2x0]),
 ((123,3),[sh123x3x0]),
 ((124,17),[sh124x17x0]),
 ((124,22),[sh124x22x0]),
 ((133,4),[sh133x4x0]),
 ((133,9),[sh133x9x0]),
 ((134,1),[sh134x1x0,sh134x1x1,sh134x1x2]),
 ((136,3),[sh136x3x0]),
 ((136,6),[sh136x6x0]),
 ((147,3),[sh147x3x0]),
 ((151,3),[sh151x3x0]),
 ((156,1),[sh156x1x0,sh156x1x1]),
 ((161,6),[sh161x6x0]),
 ((162,3),[sh162x3x0]),
 ((162,7),[sh162x7x0]),
 ((162,11),[sh162x11x0]),
 ((165,6),[sh165x6x0]),
 ((177,3),[sh177x3x0]),
 ((178,3),[sh178x3x0])]
def cutTab:List ((Nat×Nat)×List (AE×Tpl)):=[((13,8),[(.normal,{ tmps:=[(2,di),(3,di),(4,(pt 0)),(5,(pt 1)),(10,.base (.data true K6)),(11,(dd (.slice K3))),(12,di),(13,di)],heap:=[.pre K1 [],.pre K4 []] }),(.ret,(tp [(8,(dd K6)),(9,db)]))]),
 ((29,13),[(.normal,{ tmps:=[(1,(pt 0)),(6,db)],heap:=[.pre K1 []] })]),
 ((45,17),[(.normal,{ tmps:=[(2,(pt 0)),(3,(pt 1)),(5,.base (.data true K12))],heap:=[.pre K1 [],.pre K4 []] })]),
 ((45,19),[(.normal,{ tmps:=[(2,(pt 0)),(3,(pt 1)),(5,.base (.data true K12)),(12,di)],heap:=[.pre K1 [],.pre K4 []] })]),
 ((47,9),[(.normal,{ tmps:=[(0,.func (.yield 0) [] []),(1,(pt 6)),(2,(pt 7)),(4,(pt 8)),(5,(pt 9)),(6,di),(8,di),(31,di),(34,.base (.agg K0)),(35,di)],heap:=[.var [di],.var [.base (.data true K6)],.var [db],.map K3 .bool,.pre K13 [.base (.map 3),.base (.data true K6)],.var [(pt 4)],.var [(pt 4)],.var [di],.pre K3 [],.pre K4 []],pend:=[none] })]),
 ((47,11),[(.normal,{ tmps:=[(0,.func (.yield 0) [] []),(1,(pt 6)),(2,(pt 7)),(4,(pt 8)),(5,(pt 9)),(6,di),(9,(pt 10)),(10,(pt 11)),(11,db),(31,di),(34,.base (.agg K0)),(35,di)],heap:=[.var [di],.var [.base (.data true K6)],.var [db],.map K3 .bool,.pre K13 [.base (.map 3),.base (.data true K6)],.var [(pt 4)],.var [(pt 4)],.var [di],.pre K3 [],.pre K4 [],.pre K3 [],.pre K3 []],pend:=[none] })]),
 ((50,16),[(.normal,{ tmps:=[(11,.func (.func 68) [] [.ptr 5 0,.ptr 4 0]),(12,.func (.func 102) [] [.ptr 6 0]),(13,.base (.data true K8)),(15,(pt 7)),(47,(dd K8)),(48,di),(49,di)],heap:=[.empty,.empty,.empty,.empty,.pre K0 [],.var [(dd K12)],.pre K3 [],.pre (.pair K2 K2) []] }),(.exit 1,{ tmps:=[(11,.func (.func 68) [] [.ptr 5 0,.ptr 4 0]),(12,.func (.func 102) [] [.ptr 6 0]),(13,.base (.data true K8)),(47,(dd K8)),(48,di),(49,di)],heap:=[.empty,.empty,.empty,.empty,.pre K0 [],.var [(dd K12)],.pre K3 []] })]),
 ((50,17),[(.normal,{ tmps:=[(11,.func (.func 68) [] [.ptr 5 0,.ptr 4 0]),(12,.func (.func 102) [] [.ptr 6 0]),(13,.base (.data true K8)),(47,(dd K8)),(48,di),(49,di)],heap:=[.empty,.empty,.empty,.empty,.pre K0 [],.var [(dd K12)],.pre K3 []] })]),
 ((86,8),[(.normal,{ tmps:=[(3,(pt 0)),(4,(pt 1)),(5,(pt 2)),(7,.base (.data true K8)),(8,(pt 3)),(10,(dd K8)),(11,di)],heap:=[.pre K1 [],.pre K4 [],.pre K3 [],.pre K4 []] })]),
 ((86,13),[(.normal,{ tmps:=[(3,(pt 0)),(4,(pt 1)),(5,(pt 2)),(7,.base (.data true K8)),(8,(pt 3)),(10,(dd K8)),(11,di),(12,db),(13,db)],heap:=[.pre K1 [],.pre K4 [],.pre K3 [],.pre K4 []] })]),
 ((92,13),[(.normal,(tp [(0,(dd K5)),(5,di),(12,di),(13,di)])),(.ret,(tp [(2,di),(3,di),(4,di)]))]),
 ((100,4),[(.normal,{ tmps:=[(2,.base (.data true K5)),(3,db),(4,.base (.hs 0 K0))],heap:=[.row K0] })]),
 ((100,17),[(.normal,{ tmps:=[(5,(pt 1))],heap:=[.empty,.var [.base (.hs 8 K0)],.empty,.empty,.empty,.empty,.empty,.empty,.row K0] })]),
 ((113,8),[(.normal,(tp [(5,.base (.data true K8)),(6,(dd K12)),(7,di),(8,di)]))]),
 ((116,3),[(.normal,(tp [(0,(dd K5)),(3,di)])),(.ret,(tp [(2,db)]))]),
 ((116,7),[(.normal,(tp [(0,(dd K5)),(3,di),(4,di)]))]),
 ((124,16),[(.normal,{ tmps:=[(0,.func (.yield 0) [] []),(1,(pt 3)),(2,(pt 4))],heap:=[.pre K1 [],.pre K4 [],.var [.base (.data true K12)],.pre K1 [],.pre K4 []],pend:=[none] })]),
 ((133,10),[(.normal,{ tmps:=[(0,.base (.hs 0 K0)),(3,di),(4,.base (.hw 0 K0)),(5,di)],heap:=[.row K0] })]),
 ((147,4),[(.normal,{ tmps:=[(0,(dd K5)),(3,(pt 0)),(5,di),(6,di)],heap:=[.pre K0 []] }),(.ret,(tp [(4,di)]))]),
 ((147,11),[(.normal,{ tmps:=[(0,(dd K5)),(3,(pt 0)),(5,di),(6,di),(7,(pt 1)),(8,(pt 2))],heap:=[.pre K0 [],.pre K0 [],.pre K0 []] })]),
 ((177,4),[(.normal,{ tmps:=[(0,(dd K5)),(2,(pt 0)),(3,(pt 1)),(4,di)],heap:=[.var [di,di],.var [di,di]] })]),
 ((178,4),[(.normal,{ tmps:=[(0,(dd K5)),(3,(pt 0)),(4,(pt 1)),(5,(pt 2)),(6,di)],heap:=[.var [di,di],.var [di,di],.var [di,di]] })]),
 ((181,4),[(.normal,(tp [(0,di)]))])]
def retTab:List (Nat×Ty):=[(3,.bool),(9,.bool),(10,.bool),(11,K1),(12,(.pair K6 .bool)),(13,(.pair K6 .bool)),(14,.bool),(15,.bool),(16,(.slice K3)),(17,(.slice K3)),(18,(.int .i64)),(19,(.pair K3 .bool)),(20,.bool),(21,K4),(22,.bool),(23,(.slice K3)),(25,(.pair K3 .bool)),(26,(.pair K4 .bool)),(27,K1),(28,K4),(29,.bool),(30,.bool),(33,.bool),(35,(.pair K5 .bool)),(36,.bool),(37,.bool),(38,.bool),(39,.bool),(40,K14),(41,.bool),(42,.bool),(43,.bool),(44,.bool),(45,K12),(46,.bool),(48,(.pair K5 .bool)),(50,K8),(51,(.pair K0 .bool)),(52,.bool),(53,(.int .i64)),(54,.bool),(55,.bool),(56,.bool),(57,.bool),(58,(.pair K5 (.pair K5 K5))),(59,(.pair K0 (.pair K0 (.pair K0 K0)))),(60,(.pair K3 (.pair K3 K3))),(61,K5),(62,(.pair K4 .bool)),(63,(.pair K5 (.pair K10 .bool))),(65,K14),(66,(.pair K0 (.pair K0 (.pair K0 K0)))),(67,K12),(69,.bool),(70,(.pair K5 .bool)),(72,K8),(74,.bool),(75,.bool),(76,(.int .i64)),(77,K0),(78,.bool),(79,(.int .i64)),(80,(.int .i64)),(81,.bool),(82,(.int .i64)),(83,K0),(84,K0),(85,K3),(86,K8),(87,K14),(88,(.pair K0 .bool)),(89,(.pair K3 .bool)),(91,.bool),(92,K3),(95,K0),(96,(.pair K3 (.pair K3 K3))),(97,K0),(99,K0),(100,(.pair K5 .bool)),(101,K5),(107,(.int .i64)),(108,.bool),(109,(.int .i64)),(110,.bool),(111,(.int .i64)),(112,K0),(113,K8),(114,.bool),(115,K2),(116,.bool),(117,.bool),(118,.bool),(119,.bool),(120,(.int .i64)),(121,.bool),(122,K3),(123,(.int .i64)),(125,(.pair K5 (.pair K5 K5))),(126,K5),(127,(.int .i64)),(138,K0),(139,.bool),(140,(.int .i64)),(141,.bool),(142,(.pair K5 .bool)),(143,(.int .i64)),(144,.bool),(145,(.int .i64)),(146,.bool),(147,(.int .i64)),(148,.bool),(149,K0),(150,K5),(157,.bool),(158,.bool),(159,.bool),(160,.bool),(161,(.pair K5 .bool)),(162,K5),(163,.bool),(165,K0),(166,K0),(177,K0),(178,K0),(179,K0),(180,.bool),(181,(.int .i64)),(182,(.pair K0 (.pair K0 (.pair K0 (.pair K0 (.pair K0 (.pair K0 (.pair K0 (.pair K0 K0))))))))),(183,K0),(189,(.int .i64))]
def freshTab:List Nat:=[65,87,150]
def markTab:List (Nat×Nat):=[(16,21),(16,29),(35,43),(93,26),(93,31),(134,34)]
def unrollTab:List ((Nat×Nat)×Nat):=[((11,2),40),((11,5),40),((22,2),40),((23,3),40),((36,2),40),((37,5),40),((45,3),40),((45,7),40),((45,11),40),((58,5),40),((59,4),40),((66,5),40),((96,4),40),((124,1),40),((124,4),40),((124,10),40),((125,5),40)]
noncomputable def X0:Ext:={ P:=Tryz.prog,shapes:=fun g r=>(shapeTab.lookup (g,r)).getD [],cuts:=fun g r=>cutTab.lookup (g,r),fresh:=fun g=>freshTab.contains g,retTy:=fun g=>retTab.lookup g,mark:=fun g t=>markTab.contains (g,t),specH:=specHTab,unroll:=fun g r=>(unrollTab.lookup (g,r)).getD 0 }
noncomputable def Z27G (T:CT):Option D0:=T 27 K1 []
noncomputable def Z27 (n:Nat):Option D0:=Z27G (run X0 n).callT
noncomputable def Z28L3G (L:LT) (z:((Unit×D29)×((D0×Unit)×D36))):Option (D20×(Unit×D36)):=L (loopOf X0 28 3) sh28x3x0 { fn:=28,base:=0,nt:=28,loops:=[] } z
noncomputable def Z28L3 (n:Nat) (z:((Unit×D29)×((D0×Unit)×D36))):Option (D20×(Unit×D36)):=Z28L3G (run X0 n).loop z
abbrev Z28A (a0:D0):List AV:=[.agg (lv0 a0)]
noncomputable def Z28G (T:CT) (a0:D0):Option D2:=T 28 K4 (Z28A a0)
noncomputable def Z28 (n:Nat) (a0:D0):Option D2:=Z28G (run X0 n).callT a0
abbrev Z22A (a0:D11) (a1:D4):List AV:=[.agg (lv2 a0),.agg (lv3 a1)]
noncomputable def Z22G (T:CT) (a0:D11) (a1:D4):Option Bool:=T 22 .bool (Z22A a0 a1)
noncomputable def Z22 (n:Nat) (a0:D11) (a1:D4):Option Bool:=Z22G (run X0 n).callT a0 a1
abbrev Z19A (a0:D11) (a1:D4) (a2:Int) (a3:Int):List AV:=[.agg (lv2 a0),.agg (lv3 a1),.int .i64 a2,.int .i64 a3]
noncomputable def Z19G (T:CT) (a0:D11) (a1:D4) (a2:Int) (a3:Int):Option (D4×Bool):=T 19 (.pair K3 .bool) (Z19A a0 a1 a2 a3)
noncomputable def Z19 (n:Nat) (a0:D11) (a1:D4) (a2:Int) (a3:Int):Option (D4×Bool):=Z19G (run X0 n).callT a0 a1 a2 a3
theorem Z19F (n:Nat) (a0:D11) (a1:D4) (a2:Int) (a3:Int):Z19G (run X0 n).callT a0 a1 a2 a3=Z19 n a0 a1 a2 a3:=Eq.trans (Eq.refl _) (Eq.refl _)
abbrev Z26A (a0:D0) (a1:D2) (a2:D4):List AV:=[.agg (lv0 a0),.agg (lv1 a1),.agg (lv3 a2)]
noncomputable def Z26G (T:CT) (a0:D0) (a1:D2) (a2:D4):Option (D2×Bool):=T 26 (.pair K4 .bool) (Z26A a0 a1 a2)
noncomputable def Z26 (n:Nat) (a0:D0) (a1:D2) (a2:D4):Option (D2×Bool):=Z26G (run X0 n).callT a0 a1 a2
theorem Z26F (n:Nat) (a0:D0) (a1:D2) (a2:D4):Z26G (run X0 n).callT a0 a1 a2=Z26 n a0 a1 a2:=Eq.trans (Eq.refl _) (Eq.refl _)
noncomputable def Z123L3G (L:LT) (z:(D48×Unit)):Option (D5×Unit):=L (loopOf X0 123 3) sh123x3x0 { fn:=123,base:=0,nt:=11,loops:=[] } z
noncomputable def Z123L3 (n:Nat) (z:(D48×Unit)):Option (D5×Unit):=Z123L3G (run X0 n).loop z
noncomputable def Z123G (T:CT) (a0:Int):Option Int:=T 123 (.int .i64) [.int .i64 a0]
noncomputable def Z123 (n:Nat) (a0:Int):Option Int:=Z123G (run X0 n).callT a0
theorem Z123F (n:Nat) (a0:Int):Z123G (run X0 n).callT a0=Z123 n a0:=Eq.trans (Eq.refl _) (Eq.refl _)
noncomputable def Z148G (T:CT) (a0:D4):Option Bool:=T 148 .bool [.agg (lv3 a0)]
noncomputable def Z148 (n:Nat) (a0:D4):Option Bool:=Z148G (run X0 n).callT a0
noncomputable def Z181G (T:CT) (a0:Int):Option Int:=T 181 (.int .i64) [.int .i64 a0]
noncomputable def Z181 (n:Nat) (a0:Int):Option Int:=Z181G (run X0 n).callT a0
noncomputable def Z182G (T:CT):Option (D1×(D1×(D1×(D1×(D1×(D1×(D1×(D1×D1)))))))):=T 182 (.pair K0 (.pair K0 (.pair K0 (.pair K0 (.pair K0 (.pair K0 (.pair K0 (.pair K0 K0)))))))) []
noncomputable def Z182 (n:Nat):Option (D1×(D1×(D1×(D1×(D1×(D1×(D1×(D1×D1)))))))):=Z182G (run X0 n).callT
noncomputable def Z183G (T:CT) (a0:D1):Option D1:=T 183 K0 [.agg [.int .i64 a0.1,.int .i64 a0.2]]
noncomputable def Z183 (n:Nat) (a0:D1):Option D1:=Z183G (run X0 n).callT a0
noncomputable def Z165L6G (L:LT) (z:((Unit×(D8×D9))×(Unit×D25))):Option (D8×(Unit×D25)):=L (loopOf X0 165 6) sh165x6x0 { fn:=165,base:=0,nt:=31,loops:=[] } z
noncomputable def Z165L6 (n:Nat) (z:((Unit×(D8×D9))×(Unit×D25))):Option (D8×(Unit×D25)):=Z165L6G (run X0 n).loop z
noncomputable def Z165G (T:CT) (a0:Int):Option D1:=T 165 K0 [.int .i64 a0]
noncomputable def Z165 (n:Nat) (a0:Int):Option D1:=Z165G (run X0 n).callT a0
noncomputable def Z149G (T:CT) (a0:D1) (a1:Int):Option D1:=T 149 K0 [.agg [.int .i64 a0.1,.int .i64 a0.2],.int .i64 a1]
noncomputable def Z149 (n:Nat) (a0:D1) (a1:Int):Option D1:=Z149G (run X0 n).callT a0 a1
abbrev Z122A (a0:D4) (a1:Int):List AV:=[.agg (lv3 a0),.int .i64 a1]
noncomputable def Z122G (T:CT) (a0:D4) (a1:Int):Option D4:=T 122 K3 (Z122A a0 a1)
noncomputable def Z122 (n:Nat) (a0:D4) (a1:Int):Option D4:=Z122G (run X0 n).callT a0 a1
abbrev Z96A (a0:D11) (a1:D4):List AV:=[.agg (lv2 a0),.agg (lv3 a1)]
noncomputable def Z96G (T:CT) (a0:D11) (a1:D4):Option (D4×(D4×D4)):=T 96 (.pair K3 (.pair K3 K3)) (Z96A a0 a1)
noncomputable def Z96 (n:Nat) (a0:D11) (a1:D4):Option (D4×(D4×D4)):=Z96G (run X0 n).callT a0 a1
theorem Z96F (n:Nat) (a0:D11) (a1:D4):Z96G (run X0 n).callT a0 a1=Z96 n a0 a1:=Eq.trans (Eq.refl _) (Eq.refl _)
abbrev Z97A (a0:D4) (a1:Int):List AV:=[.agg (lv3 a0),.int .i64 a1]
noncomputable def Z97G (T:CT) (a0:D4) (a1:Int):Option D1:=T 97 K0 (Z97A a0 a1)
noncomputable def Z97 (n:Nat) (a0:D4) (a1:Int):Option D1:=Z97G (run X0 n).callT a0 a1
theorem Z97F (n:Nat) (a0:D4) (a1:Int):Z97G (run X0 n).callT a0 a1=Z97 n a0 a1:=Eq.trans (Eq.refl _) (Eq.refl _)
abbrev Z95A (a0:D1) (a1:D1):List AV:=[.agg [.int .i64 a0.1,.int .i64 a0.2],.agg [.int .i64 a1.1,.int .i64 a1.2]]
noncomputable def Z95G (T:CT) (a0:D1) (a1:D1):Option D1:=T 95 K0 (Z95A a0 a1)
noncomputable def Z95 (n:Nat) (a0:D1) (a1:D1):Option D1:=Z95G (run X0 n).callT a0 a1
theorem Z95F (n:Nat) (a0:D1) (a1:D1):Z95G (run X0 n).callT a0 a1=Z95 n a0 a1:=Eq.trans (Eq.refl _) (Eq.refl _)
abbrev Z66A (a0:D11) (a1:D4):List AV:=[.agg (lv2 a0),.agg (lv3 a1)]
noncomputable def Z66G (T:CT) (a0:D11) (a1:D4):Option (D1×(D1×(D1×D1))):=T 66 (.pair K0 (.pair K0 (.pair K0 K0))) (Z66A a0 a1)
noncomputable def Z66 (n:Nat) (a0:D11) (a1:D4):Option (D1×(D1×(D1×D1))):=Z66G (run X0 n).callT a0 a1
theorem Z66F (n:Nat) (a0:D11) (a1:D4):Z66G (run X0 n).callT a0 a1=Z66 n a0 a1:=Eq.trans (Eq.refl _) (Eq.refl _)
noncomputable def Z166G (T:CT) (a0:D1):Option D1:=T 166 K0 [.agg [.int .i64 a0.1,.int .i64 a0.2]]
noncomputable def Z166 (n:Nat) (a0:D1):Option D1:=Z166G (run X0 n).callT a0
abbrev Z138A (a0:D1) (a1:D1):List AV:=[.agg [.int .i64 a0.1,.int .i64 a0.2],.agg [.int .i64 a1.1,.int .i64 a1.2]]
noncomputable def Z138G (T:CT) (a0:D1) (a1:D1):Option D1:=T 138 K0 (Z138A a0 a1)
noncomputable def Z138 (n:Nat) (a0:D1) (a1:D1):Option D1:=Z138G (run X0 n).callT a0 a1
abbrev Z150A (a0:(D11×D4)) (a1:D4) (a2:D1) (a3:D1):List AV:=[.agg [.int .i64 a0.1.1.1,.int .i64 a0.1.1.2,.int .i64 a0.1.2.1.1,.int .i64 a0.1.2.1.2.1,.int .i64 a0.1.2.1.2.2,.int .i64 a0.1.2.2.1,.int .i64 a0.1.2.2.2.1.1,.int .i64 a0.1.2.2.2.1.2.1,.int .i64 a0.1.2.2.2.1.2.2,.int .i64 a0.1.2.2.2.2.1,.int .i64 a0.1.2.2.2.2.2.1,.int .i64 a0.1.2.2.2.2.2.2,.int .i64 a0.2.1,.int .i64 a0.2.2.1,.int .i64 a0.2.2.2],.agg (lv3 a1),.agg [.int .i64 a2.1,.int .i64 a2.2],.agg [.int .i64 a3.1,.int .i64 a3.2]]
noncomputable def Z150G (T:CT) (a0:(D11×D4)) (a1:D4) (a2:D1) (a3:D1):Option D6:=T 150 K5 (Z150A a0 a1 a2 a3)
noncomputable def Z150 (n:Nat) (a0:(D11×D4)) (a1:D4) (a2:D1) (a3:D1):Option D6:=Z150G (run X0 n).callT a0 a1 a2 a3
abbrev Z125A (a0:D11) (a1:D4):List AV:=[.agg (lv2 a0),.agg (lv3 a1)]
noncomputable def Z125G (T:CT) (a0:D11) (a1:D4):Option (D6×(D6×D6)):=T 125 (.pair K5 (.pair K5 K5)) (Z125A a0 a1)
noncomputable def Z125 (n:Nat) (a0:D11) (a1:D4):Option (D6×(D6×D6)):=Z125G (run X0 n).callT a0 a1
theorem Z125F (n:Nat) (a0:D11) (a1:D4):Z125G (run X0 n).callT a0 a1=Z125 n a0 a1:=Eq.trans (Eq.refl _) (Eq.refl _)
noncomputable def Z151L3G (L:LT) (z:(((Unit×D20)×(D6×(D6×D9)))×((D1×Unit)×D23))):Option (D18×((D1×Unit)×D23)):=L (loopOf X0 151 3) sh151x3x0 { fn:=151,base:=2,nt:=25,loops:=[] } z
noncomputable def Z151L3 (n:Nat) (z:(((Unit×D20)×(D6×(D6×D9)))×((D1×Unit)×D23))):Option (D18×((D1×Unit)×D23)):=Z151L3G (run X0 n).loop z
theorem Z151L3F (n:Nat) (z:(((Unit×D20)×(D6×(D6×D9)))×((D1×Unit)×D23))):Z151L3G (run X0 n).loop z=Z151L3 n z:=Eq.trans (Eq.refl _) (Eq.refl _)
abbrev Z126A (a0:D24) (a1:D1) (a2:D4):List AV:=[.agg [.str a0.1,.slice false K0 a0.2.1,.int .i64 a0.2.2],.agg [.int .i64 a1.1,.int .i64 a1.2],.agg (lv3 a2)]
noncomputable def Z126G (T:CT) (a0:D24) (a1:D1) (a2:D4):Option D6:=T 126 K5 (Z126A a0 a1 a2)
noncomputable def Z126 (n:Nat) (a0:D24) (a1:D1) (a2:D4):Option D6:=Z126G (run X0 n).callT a0 a1 a2
theorem Z126F (n:Nat) (a0:D24) (a1:D1) (a2:D4):Z126G (run X0 n).callT a0 a1 a2=Z126 n a0 a1 a2:=Eq.trans (Eq.refl _) (Eq.refl _)
noncomputable abbrev Z124L17M (c0:D0) (c1:D2) (c2:D0) (c3:D2):Amb:={ fn:=124,base:=5,nt:=132,loops:=[{ fn:=67,tmps:=[.agg (lv0 c0),.agg (lv1 c1),.ptr 0 0,.ptr 1 0,.nil,.ptr 2 0,.top,.agg (lv0 c2),.agg (lv1 c3),.func (.func 124) [] [.ptr 3 0,.ptr 4 0],.top,.top,.top,.top,.top,.top],params:=[10],assign:=rfAssign X0 67 0,body:=rfBody X0 67 0 }] }
noncomputable def Z124L17G (L:LT) (c0:D0) (c1:D2) (c2:D0) (c3:D2) (z:((D8×(Unit×((List Int)×D9)))×D21)):Option ((D8×D8)×D21):=L (loopOf X0 124 17) sh124x17x0 (Z124L17M c0 c1 c2 c3) z
noncomputable def Z124L17 (n:Nat) (c0:D0) (c1:D2) (c2:D0) (c3:D2) (z:((D8×(Unit×((List Int)×D9)))×D21)):Option ((D8×D8)×D21):=Z124L17G (run X0 n).loop c0 c1 c2 c3 z
theorem Z124L17F (n:Nat) (c0:D0) (c1:D2) (c2:D0) (c3:D2) (z:((D8×(Unit×((List Int)×D9)))×D21)):Z124L17G (run X0 n).loop c0 c1 c2 c3 z=Z124L17 n c0 c1 c2 c3 z:=Eq.trans (Eq.refl _) (Eq.refl _)
noncomputable abbrev Z124L22M (c0:D0) (c1:D2) (c2:D0) (c3:D2):Amb:={ fn:=124,base:=5,nt:=132,loops:=[{ fn:=67,tmps:=[.agg (lv0 c0),.agg (lv1 c1),.ptr 0 0,.ptr 1 0,.nil,.ptr 2 0,.top,.agg (lv0 c2),.agg (lv1 c3),.func (.func 124) [] [.ptr 3 0,.ptr 4 0],.top,.top,.top,.top,.top,.top],params:=[10],assign:=rfAssign X0 67 0,body:=rfBody X0 67 0 }] }
noncomputable def Z124L22G (L:LT) (c0:D0) (c1:D2) (c2:D0) (c3:D2) (z:((D8×(D30×D9))×D21)):Option (Unit×D21):=L (loopOf X0 124 22) sh124x22x0 (Z124L22M c0 c1 c2 c3) z
noncomputable def Z124L22 (n:Nat) (c0:D0) (c1:D2) (c2:D0) (c3:D2) (z:((D8×(D30×D9))×D21)):Option (Unit×D21):=Z124L22G (run X0 n).loop c0 c1 c2 c3 z
theorem Z124L22F (n:Nat) (c0:D0) (c1:D2) (c2:D0) (c3:D2) (z:((D8×(D30×D9))×D21)):Z124L22G (run X0 n).loop c0 c1 c2 c3 z=Z124L22 n c0 c1 c2 c3 z:=Eq.trans (Eq.refl _) (Eq.refl _)
abbrev Z67A (a0:D0) (a1:D2):List AV:=[.agg (lv0 a0),.agg (lv1 a1)]
noncomputable def Z67G (T:CT) (a0:D0) (a1:D2):Option (List D3):=T 67 K12 (Z67A a0 a1)
noncomputable def Z67 (n:Nat) (a0:D0) (a1:D2):Option (List D3):=Z67G (run X0 n).callT a0 a1
theorem Z67F (n:Nat) (a0:D0) (a1:D2):Z67G (run X0 n).callT a0 a1=Z67 n a0 a1:=Eq.trans (Eq.refl _) (Eq.refl _)
abbrev Z157A (a0:D3) (a1:D3):List AV:=[.agg (lv4 a0),.agg (lv4 a1)]
noncomputable def Z157G (T:CT) (a0:D3) (a1:D3):Option Bool:=T 157 .bool (Z157A a0 a1)
noncomputable def Z157 (n:Nat) (a0:D3) (a1:D3):Option Bool:=Z157G (run X0 n).callT a0 a1
theorem Z157F (n:Nat) (a0:D3) (a1:D3):Z157G (run X0 n).callT a0 a1=Z157 n a0 a1:=Eq.trans (Eq.refl _) (Eq.refl _)
abbrev Z158A (a0:D3) (a1:D3):List AV:=[.agg (lv4 a0),.agg (lv4 a1)]
noncomputable def Z158G (T:CT) (a0:D3) (a1:D3):Option Bool:=T 158 .bool (Z158A a0 a1)
noncomputable def Z158 (n:Nat) (a0:D3) (a1:D3):Option Bool:=Z158G (run X0 n).callT a0 a1
theorem Z158F (n:Nat) (a0:D3) (a1:D3):Z158G (run X0 n).callT a0 a1=Z158 n a0 a1:=Eq.trans (Eq.refl _) (Eq.refl _)
abbrev Z159A (a0:D3) (a1:D3):List AV:=[.agg (lv4 a0),.agg (lv4 a1)]
noncomputable def Z159G (T:CT) (a0:D3) (a1:D3):Option Bool:=T 159 .bool (Z159A a0 a1)
noncomputable def Z159 (n:Nat) (a0:D3) (a1:D3):Option Bool:=Z159G (run X0 n).callT a0 a1
theorem Z159F (n:Nat) (a0:D3) (a1:D3):Z159G (run X0 n).callT a0 a1=Z159 n a0 a1:=Eq.trans (Eq.refl _) (Eq.refl _)
abbrev Z160A (a0:D3) (a1:D3):List AV:=[.agg (lv4 a0),.agg (lv4 a1)]
noncomputable def Z160G (T:CT) (a0:D3) (a1:D3):Option Bool:=T 160 .bool (Z160A a0 a1)
noncomputable def Z160 (n:Nat) (a0:D3) (a1:D3):Option Bool:=Z160G (run X0 n).callT a0 a1
theorem Z160F (n:Nat) (a0:D3) (a1:D3):Z160G (run X0 n).callT a0 a1=Z160 n a0 a1:=Eq.trans (Eq.refl _) (Eq.refl _)
noncomputable abbrev Z136L6M (c0:D0) (c1:D2) (c2:D0) (c3:D2):Amb:={ fn:=136,base:=5,nt:=60,loops:=[{ fn:=72,tmps:=[.agg (lv0 c0),.agg (lv1 c1),.ptr 0 0,.ptr 1 0,.nil,.ptr 2 0,.top,.agg (lv0 c2),.agg (lv1 c3),.func (.func 136) [] [.ptr 3 0,.ptr 4 0],.top,.top,.top,.top,.top,.top],params:=[10],assign:=rfAssign X0 72 0,body:=rfBody X0 72 0 }] }
noncomputable def Z136L6G (L:LT) (c0:D0) (c1:D2) (c2:D0) (c3:D2) (z:D26):Option D22:=L (loopOf X0 136 6) sh136x6x0 (Z136L6M c0 c1 c2 c3) z
noncomputable def Z136L6 (n:Nat) (c0:D0) (c1:D2) (c2:D0) (c3:D2) (z:D26):Option D22:=Z136L6G (run X0 n).loop c0 c1 c2 c3 z
theorem Z136L6F (n:Nat) (c0:D0) (c1:D2) (c2:D0) (c3:D2) (z:D26):Z136L6G (run X0 n).loop c0 c1 c2 c3 z=Z136L6 n c0 c1 c2 c3 z:=Eq.trans (Eq.refl _) (Eq.refl _)
noncomputable abbrev Z136L3M (c0:D0) (c1:D2) (c2:D0) (c3:D2):Amb:={ fn:=136,base:=5,nt:=60,loops:=[{ fn:=72,tmps:=[.agg (lv0 c0),.agg (lv1 c1),.ptr 0 0,.ptr 1 0,.nil,.ptr 2 0,.top,.agg (lv0 c2),.agg (lv1 c3),.func (.func 136) [] [.ptr 3 0,.ptr 4 0],.top,.top,.top,.top,.top,.top],params:=[10],assign:=rfAssign X0 72 0,body:=rfBody X0 72 0 }] }
noncomputable def Z136L3G (L:LT) (c0:D0) (c1:D2) (c2:D0) (c3:D2) (z:D22):Option (Unit×((D0×Unit)×((D2×Unit)×((D16×Unit)×D12)))):=L (loopOf X0 136 3) sh136x3x0 (Z136L3M c0 c1 c2 c3) z
noncomputable def Z136L3 (n:Nat) (c0:D0) (c1:D2) (c2:D0) (c3:D2) (z:D22):Option (Unit×((D0×Unit)×((D2×Unit)×((D16×Unit)×D12)))):=Z136L3G (run X0 n).loop c0 c1 c2 c3 z
theorem Z136L3F (n:Nat) (c0:D0) (c1:D2) (c2:D0) (c3:D2) (z:D22):Z136L3G (run X0 n).loop c0 c1 c2 c3 z=Z136L3 n c0 c1 c2 c3 z:=Eq.trans (Eq.refl _) (Eq.refl _)
abbrev Z72A (a0:D0) (a1:D2):List AV:=[.agg (lv0 a0),.agg (lv1 a1)]
noncomputable def Z72G (T:CT) (a0:D0) (a1:D2):Option D16:=T 72 K8 (Z72A a0 a1)
noncomputable def Z72 (n:Nat) (a0:D0) (a1:D2):Option D16:=Z72G (run X0 n).callT a0 a1
theorem Z72F (n:Nat) (a0:D0) (a1:D2):Z72G (run X0 n).callT a0 a1=Z72 n a0 a1:=Eq.trans (Eq.refl _) (Eq.refl _)
abbrev Z69A (a0:D3) (a1:D3):List AV:=[.agg (lv4 a0),.agg (lv4 a1)]
noncomputable def Z69G (T:CT) (a0:D3) (a1:D3):Option Bool:=T 69 .bool (Z69A a0 a1)
noncomputable def Z69 (n:Nat) (a0:D3) (a1:D3):Option Bool:=Z69G (run X0 n).callT a0 a1
noncomputable def Z127G (T:CT) (a0:Int) (a1:Int) (a2:Int):Option Int:=T 127 (.int .i64) [.int .i64 a0,.int .i64 a1,.int .i64 a2]
noncomputable def Z127 (n:Nat) (a0:Int) (a1:Int) (a2:Int):Option Int:=Z127G (run X0 n).callT a0 a1 a2
abbrev Z99A (a0:D1) (a1:D1) (a2:D1):List AV:=[.agg [.int .i64 a0.1,.int .i64 a0.2],.agg [.int .i64 a1.1,.int .i64 a1.2],.agg [.int .i64 a2.1,.int .i64 a2.2]]
noncomputable def Z99G (T:CT) (a0:D1) (a1:D1) (a2:D1):Option D1:=T 99 K0 (Z99A a0 a1 a2)
noncomputable def Z99 (n:Nat) (a0:D1) (a1:D1) (a2:D1):Option D1:=Z99G (run X0 n).callT a0 a1 a2
noncomputable def Z70L6G (L:LT) (z:((D6×(D6×(D25×(D6×D9))))×Unit)):Option ((D6×(D6×D18))×Unit):=L (loopOf X0 70 6) sh70x6x0 { fn:=70,base:=0,nt:=50,loops:=[] } z
noncomputable def Z70L6 (n:Nat) (z:((D6×(D6×(D25×(D6×D9))))×Unit)):Option ((D6×(D6×D18))×Unit):=Z70L6G (run X0 n).loop z
noncomputable def Z101L3G (L:LT) (z:((D6×(D30×D9))×Unit)):Option (D18×Unit):=L (loopOf X0 101 3) sh101x3x0 { fn:=101,base:=0,nt:=17,loops:=[] } z
noncomputable def Z101L3 (n:Nat) (z:((D6×(D30×D9))×Unit)):Option (D18×Unit):=Z101L3G (run X0 n).loop z
noncomputable def Z101G (T:CT) (a0:List D6):Option D6:=T 101 K5 [.slice false K5 a0]
noncomputable def Z101 (n:Nat) (a0:List D6):Option D6:=Z101G (run X0 n).callT a0
noncomputable def Z133L9G (L:LT) (z:((Int×(Int×(D1×D5)))×D18)):Option (D9×D18):=L (loopOf X0 133 9) sh133x9x0 { fn:=133,base:=1,nt:=61,loops:=[] } z
noncomputable def Z133L9 (n:Nat) (z:((Int×(Int×(D1×D5)))×D18)):Option (D9×D18):=Z133L9G (run X0 n).loop z
noncomputable def Z133L4G (L:LT) (z:(D9×D18)):Option ((D5×D18) ⊕ (D5×D18)):=L (loopOf X0 133 4) sh133x4x0 { fn:=133,base:=1,nt:=61,loops:=[] } z
noncomputable def Z133L4 (n:Nat) (z:(D9×D18)):Option ((D5×D18) ⊕ (D5×D18)):=Z133L4G (run X0 n).loop z
theorem Z133L4F (n:Nat) (z:(D9×D18)):Z133L4G (run X0 n).loop z=Z133L4 n z:=Eq.trans (Eq.refl _) (Eq.refl _)
abbrev Z120A (a0:D1) (a1:D1) (a2:D1):List AV:=[.agg [.int .i64 a0.1,.int .i64 a0.2],.agg [.int .i64 a1.1,.int .i64 a1.2],.agg [.int .i64 a2.1,.int .i64 a2.2]]
noncomputable def Z120G (T:CT) (a0:D1) (a1:D1) (a2:D1):Option Int:=T 120 (.int .i64) (Z120A a0 a1 a2)
noncomputable def Z120 (n:Nat) (a0:D1) (a1:D1) (a2:D1):Option Int:=Z120G (run X0 n).callT a0 a1 a2
noncomputable def Z134L1G (L:LT) (z:((Int×D20)×(D5×(D6×D56)))):Option (D20×(D5×(D6×D56))):=L (loopOf X0 134 1) sh134x1x0 { fn:=134,base:=2,nt:=35,loops:=[] } z
noncomputable def Z134L1 (n:Nat) (z:((Int×D20)×(D5×(D6×D56)))):Option (D20×(D5×(D6×D56))):=Z134L1G (run X0 n).loop z
theorem Z134L1F (n:Nat) (z:((Int×D20)×(D5×(D6×D56)))):Z134L1G (run X0 n).loop z=Z134L1 n z:=Eq.trans (Eq.refl _) (Eq.refl _)
noncomputable def Z100L9G (L:LT) (z:D55):Option ((D6×(Bool×(Int×D20)))×(D6×(D5×((D20×Unit)×D18)))):=L (loopOf X0 100 9) sh100x9x0 { fn:=100,base:=0,nt:=55,loops:=[] } z
noncomputable def Z100L9 (n:Nat) (z:D55):Option ((D6×(Bool×(Int×D20)))×(D6×(D5×((D20×Unit)×D18)))):=Z100L9G (run X0 n).loop z
theorem Z100L9F (n:Nat) (z:D55):Z100L9G (run X0 n).loop z=Z100L9 n z:=Eq.trans (Eq.refl _) (Eq.refl _)
noncomputable abbrev Z134L1v1M (c0:List D1) (c1:Bool) (c2:Nat) (c3:Nat) (c4:Nat) (c5:Nat) (c6:Int) (c7:Nat) (c8:Nat) (c9:Nat) (c10:Nat) (c11:Int) (c12:Int) (c13:Nat) (c14:Nat):Amb:={ fn:=134,base:=6,nt:=35,loops:=[{ fn:=100,tmps:=[.top,.top,.slice false K0 c0,.bool c1,.hs 0 K0 c2 c3,.ptr 1 0,.ptr 2 0,.top,.top,.ptr 4 0,.top,.top,.top,.top,.top,.top,.top,.top,.top,.top,.top,.top,.top,.top,.top,.top,.top,.top,.top,.top,.top,.top,.hs 3 K0 c4 c5,.int .i64 c6,.hs 0 K0 c7 c8,.hs 0 K0 c9 c10,.int .i64 c11,.int .i64 c12,.hs 0 K0 c13 c14,.func (.func 156) [] [.ptr 5 0],.top,.top,.top,.top,.top,.top,.top,.top,.top,.top,.top,.top,.top,.top,.top],params:=[40,41],assign:=rfAssign X0 100 0,body:=rfBody X0 100 0 }] }
noncomputable def Z134L1v1G (L:LT) (c0:List D1) (c1:Bool) (c2:Nat) (c3:Nat) (c4:Nat) (c5:Nat) (c6:Int) (c7:Nat) (c8:Nat) (c9:Nat) (c10:Nat) (c11:Int) (c12:Int) (c13:Nat) (c14:Nat) (z:((Int×D20)×D44)):Option (D20×D44):=L (loopOf X0 134 1) sh134x1x1 (Z134L1v1M c0 c1 c2 c3 c4 c5 c6 c7 c8 c9 c10 c11 c12 c13 c14) z
noncomputable def Z134L1v1 (n:Nat) (c0:List D1) (c1:Bool) (c2:Nat) (c3:Nat) (c4:Nat) (c5:Nat) (c6:Int) (c7:Nat) (c8:Nat) (c9:Nat) (c10:Nat) (c11:Int) (c12:Int) (c13:Nat) (c14:Nat) (z:((Int×D20)×D44)):Option (D20×D44):=Z134L1v1G (run X0 n).loop c0 c1 c2 c3 c4 c5 c6 c7 c8 c9 c10 c11 c12 c13 c14 z
theorem Z134L1v1F (n:Nat) (c0:List D1) (c1:Bool) (c2:Nat) (c3:Nat) (c4:Nat) (c5:Nat) (c6:Int) (c7:Nat) (c8:Nat) (c9:Nat) (c10:Nat) (c11:Int) (c12:Int) (c13:Nat) (c14:Nat) (z:((Int×D20)×D44)):Z134L1v1G (run X0 n).loop c0 c1 c2 c3 c4 c5 c6 c7 c8 c9 c10 c11 c12 c13 c14 z=Z134L1v1 n c0 c1 c2 c3 c4 c5 c6 c7 c8 c9 c10 c11 c12 c13 c14 z:=Eq.trans (Eq.refl _) (Eq.refl _)
noncomputable abbrev Z134L1v2M (c0:List D1) (c1:Bool) (c2:Nat) (c3:Nat) (c4:Nat) (c5:Nat) (c6:Int) (c7:Nat) (c8:Nat) (c9:Nat) (c10:Nat) (c11:Int) (c12:Int) (c13:Nat) (c14:Nat):Amb:={ fn:=134,base:=7,nt:=35,loops:=[{ fn:=100,tmps:=[.top,.top,.slice false K0 c0,.bool c1,.hs 0 K0 c2 c3,.ptr 1 0,.ptr 2 0,.top,.top,.ptr 4 0,.top,.top,.top,.top,.top,.top,.top,.top,.top,.top,.top,.top,.top,.top,.top,.top,.top,.top,.top,.top,.top,.top,.hs 3 K0 c4 c5,.int .i64 c6,.hs 0 K0 c7 c8,.hs 0 K0 c9 c10,.int .i64 c11,.int .i64 c12,.hs 0 K0 c13 c14,.func (.func 156) [] [.ptr 5 0],.top,.top,.top,.top,.top,.top,.top,.top,.top,.top,.top,.top,.top,.top,.top],params:=[40,41],assign:=rfAssign X0 100 0,body:=rfBody X0 100 0 }] }
noncomputable def Z134L1v2G (L:LT) (c0:List D1) (c1:Bool) (c2:Nat) (c3:Nat) (c4:Nat) (c5:Nat) (c6:Int) (c7:Nat) (c8:Nat) (c9:Nat) (c10:Nat) (c11:Int) (c12:Int) (c13:Nat) (c14:Nat) (z:((Int×D20)×D39)):Option (D20×D39):=L (loopOf X0 134 1) sh134x1x2 (Z134L1v2M c0 c1 c2 c3 c4 c5 c6 c7 c8 c9 c10 c11 c12 c13 c14) z
noncomputable def Z134L1v2 (n:Nat) (c0:List D1) (c1:Bool) (c2:Nat) (c3:Nat) (c4:Nat) (c5:Nat) (c6:Int) (c7:Nat) (c8:Nat) (c9:Nat) (c10:Nat) (c11:Int) (c12:Int) (c13:Nat) (c14:Nat) (z:((Int×D20)×D39)):Option (D20×D39):=Z134L1v2G (run X0 n).loop c0 c1 c2 c3 c4 c5 c6 c7 c8 c9 c10 c11 c12 c13 c14 z
theorem Z134L1v2F (n:Nat) (c0:List D1) (c1:Bool) (c2:Nat) (c3:Nat) (c4:Nat) (c5:Nat) (c6:Int) (c7:Nat) (c8:Nat) (c9:Nat) (c10:Nat) (c11:Int) (c12:Int) (c13:Nat) (c14:Nat) (z:((Int×D20)×D39)):Z134L1v2G (run X0 n).loop c0 c1 c2 c3 c4 c5 c6 c7 c8 c9 c10 c11 c12 c13 c14 z=Z134L1v2 n c0 c1 c2 c3 c4 c5 c6 c7 c8 c9 c10 c11 c12 c13 c14 z:=Eq.trans (Eq.refl _) (Eq.refl _)
noncomputable abbrev Z156L1v1M (c0:List D1) (c1:Bool) (c2:Nat) (c3:Nat) (c4:Nat) (c5:Nat) (c6:Int) (c7:Nat) (c8:Nat) (c9:Nat) (c10:Nat) (c11:Int) (c12:Int) (c13:Nat) (c14:Nat):Amb:={ fn:=156,base:=6,nt:=19,loops:=[{ fn:=100,tmps:=[.top,.top,.slice false K0 c0,.bool c1,.hs 0 K0 c2 c3,.ptr 1 0,.ptr 2 0,.top,.top,.ptr 4 0,.top,.top,.top,.top,.top,.top,.top,.top,.top,.top,.top,.top,.top,.top,.top,.top,.top,.top,.top,.top,.top,.top,.hs 3 K0 c4 c5,.int .i64 c6,.hs 0 K0 c7 c8,.hs 0 K0 c9 c10,.int .i64 c11,.int .i64 c12,.hs 0 K0 c13 c14,.func (.func 156) [] [.ptr 5 0],.top,.top,.top,.top,.top,.top,.top,.top,.top,.top,.top,.top,.top,.top,.top],params:=[40,41],assign:=rfAssign X0 100 0,body:=rfBody X0 100 0 }] }
noncomputable def Z156L1v1G (L:LT) (c0:List D1) (c1:Bool) (c2:Nat) (c3:Nat) (c4:Nat) (c5:Nat) (c6:Int) (c7:Nat) (c8:Nat) (c9:Nat) (c10:Nat) (c11:Int) (c12:Int) (c13:Nat) (c14:Nat) (z:((D8×(Unit×D5))×D31)):Option (Unit×D31):=L (loopOf X0 156 1) sh156x1x1 (Z156L1v1M c0 c1 c2 c3 c4 c5 c6 c7 c8 c9 c10 c11 c12 c13 c14) z
noncomputable def Z156L1v1 (n:Nat) (c0:List D1) (c1:Bool) (c2:Nat) (c3:Nat) (c4:Nat) (c5:Nat) (c6:Int) (c7:Nat) (c8:Nat) (c9:Nat) (c10:Nat) (c11:Int) (c12:Int) (c13:Nat) (c14:Nat) (z:((D8×(Unit×D5))×D31)):Option (Unit×D31):=Z156L1v1G (run X0 n).loop c0 c1 c2 c3 c4 c5 c6 c7 c8 c9 c10 c11 c12 c13 c14 z
theorem Z156L1v1F (n:Nat) (c0:List D1) (c1:Bool) (c2:Nat) (c3:Nat) (c4:Nat) (c5:Nat) (c6:Int) (c7:Nat) (c8:Nat) (c9:Nat) (c10:Nat) (c11:Int) (c12:Int) (c13:Nat) (c14:Nat) (z:((D8×(Unit×D5))×D31)):Z156L1v1G (run X0 n).loop c0 c1 c2 c3 c4 c5 c6 c7 c8 c9 c10 c11 c12 c13 c14 z=Z156L1v1 n c0 c1 c2 c3 c4 c5 c6 c7 c8 c9 c10 c11 c12 c13 c14 z:=Eq.trans (Eq.refl _) (Eq.refl _)
noncomputable abbrev Z156L1M (c0:List D1) (c1:Bool) (c2:Nat) (c3:Nat) (c4:Nat) (c5:Nat) (c6:Int) (c7:Nat) (c8:Nat) (c9:Nat) (c10:Nat) (c11:Int) (c12:Int) (c13:Nat) (c14:Nat):Amb:={ fn:=156,base:=6,nt:=19,loops:=[{ fn:=100,tmps:=[.top,.top,.slice false K0 c0,.bool c1,.hs 0 K0 c2 c3,.ptr 1 0,.ptr 2 0,.top,.top,.ptr 4 0,.top,.top,.top,.top,.top,.top,.top,.top,.top,.top,.top,.top,.top,.top,.top,.top,.top,.top,.top,.top,.top,.top,.hs 3 K0 c4 c5,.int .i64 c6,.hs 0 K0 c7 c8,.hs 0 K0 c9 c10,.int .i64 c11,.int .i64 c12,.hs 0 K0 c13 c14,.func (.func 156) [] [.ptr 5 0],.top,.top,.top,.top,.top,.top,.top,.top,.top,.top,.top,.top,.top,.top,.top],params:=[40,41],assign:=rfAssign X0 100 0,body:=rfBody X0 100 0 }] }
noncomputable def Z156L1G (L:LT) (c0:List D1) (c1:Bool) (c2:Nat) (c3:Nat) (c4:Nat) (c5:Nat) (c6:Int) (c7:Nat) (c8:Nat) (c9:Nat) (c10:Nat) (c11:Int) (c12:Int) (c13:Nat) (c14:Nat) (z:((D8×(Unit×D5))×D52)):Option ((Unit×D31) ⊕ (Unit×D52)):=L (loopOf X0 156 1) sh156x1x0 (Z156L1M c0 c1 c2 c3 c4 c5 c6 c7 c8 c9 c10 c11 c12 c13 c14) z
noncomputable def Z156L1 (n:Nat) (c0:List D1) (c1:Bool) (c2:Nat) (c3:Nat) (c4:Nat) (c5:Nat) (c6:Int) (c7:Nat) (c8:Nat) (c9:Nat) (c10:Nat) (c11:Int) (c12:Int) (c13:Nat) (c14:Nat) (z:((D8×(Unit×D5))×D52)):Option ((Unit×D31) ⊕ (Unit×D52)):=Z156L1G (run X0 n).loop c0 c1 c2 c3 c4 c5 c6 c7 c8 c9 c10 c11 c12 c13 c14 z
theorem Z156L1F (n:Nat) (c0:List D1) (c1:Bool) (c2:Nat) (c3:Nat) (c4:Nat) (c5:Nat) (c6:Int) (c7:Nat) (c8:Nat) (c9:Nat) (c10:Nat) (c11:Int) (c12:Int) (c13:Nat) (c14:Nat) (z:((D8×(Unit×D5))×D52)):Z156L1G (run X0 n).loop c0 c1 c2 c3 c4 c5 c6 c7 c8 c9 c10 c11 c12 c13 c14 z=Z156L1 n c0 c1 c2 c3 c4 c5 c6 c7 c8 c9 c10 c11 c12 c13 c14 z:=Eq.trans (Eq.refl _) (Eq.refl _)
noncomputable def hullOfG (T:CT) (a0:List D1):Option (D6×Bool):=T 100 (.pair K5 .bool) [.slice false K0 a0]
noncomputable def hullOf (n:Nat) (a0:List D1):Option (D6×Bool):=hullOfG (run X0 n).callT a0
abbrev Z70A (a0:D1) (a1:List D1) (a2:List D1):List AV:=[.agg [.int .i64 a0.1,.int .i64 a0.2],.slice false K0 a1,.slice false K0 a2]
noncomputable def Z70G (T:CT) (a0:D1) (a1:List D1) (a2:List D1):Option (D6×Bool):=T 70 (.pair K5 .bool) (Z70A a0 a1 a2)
noncomputable def Z70 (n:Nat) (a0:D1) (a1:List D1) (a2:List D1):Option (D6×Bool):=Z70G (run X0 n).callT a0 a1 a2
noncomputable def Z68L2G (L:LT) (z:D38):Option (D20×((D1×Unit)×(((List D3)×Unit)×((D3×Unit)×((D4×D18)×Unit))))):=L (loopOf X0 68 2) sh68x2x0 { fn:=68,base:=2,nt:=28,loops:=[] } z
noncomputable def Z68L2 (n:Nat) (z:D38):Option (D20×((D1×Unit)×(((List D3)×Unit)×((D3×Unit)×((D4×D18)×Unit))))):=Z68L2G (run X0 n).loop z
theorem Z68L2F (n:Nat) (z:D38):Z68L2G (run X0 n).loop z=Z68L2 n z:=Eq.trans (Eq.refl _) (Eq.refl _)
noncomputable def Z50L10G (L:LT) (z:D17):Option ((D16×Unit)×Unit):=L (loopOf X0 50 10) sh50x10x0 { fn:=50,base:=0,nt:=93,loops:=[] } z
noncomputable def Z50L10 (n:Nat) (z:D17):Option ((D16×Unit)×Unit):=Z50L10G (run X0 n).loop z
theorem Z50L10F (n:Nat) (z:D17):Z50L10G (run X0 n).loop z=Z50L10 n z:=Eq.trans (Eq.refl _) (Eq.refl _)
abbrev Z50A (a0:D0) (a1:D2) (a2:D4):List AV:=[.agg (lv0 a0),.agg (lv1 a1),.agg (lv3 a2)]
noncomputable def Z50G (T:CT) (a0:D0) (a1:D2) (a2:D4):Option D16:=T 50 K8 (Z50A a0 a1 a2)
noncomputable def Z50 (n:Nat) (a0:D0) (a1:D2) (a2:D4):Option D16:=Z50G (run X0 n).callT a0 a1 a2
theorem Z50F (n:Nat) (a0:D0) (a1:D2) (a2:D4):Z50G (run X0 n).callT a0 a1 a2=Z50 n a0 a1 a2:=Eq.trans (Eq.refl _) (Eq.refl _)
noncomputable def Z91L9G (L:LT) (z:((D6×D57)×Unit)):Option (D35 ⊕ D15):=L (loopOf X0 91 9) sh91x9x0 { fn:=91,base:=0,nt:=49,loops:=[] } z
noncomputable def Z91L9 (n:Nat) (z:((D6×D57)×Unit)):Option (D35 ⊕ D15):=Z91L9G (run X0 n).loop z
noncomputable def Z91L5G (L:LT) (z:D35):Option (D8 ⊕ D15):=L (loopOf X0 91 5) sh91x5x0 { fn:=91,base:=0,nt:=49,loops:=[] } z
noncomputable def Z91L5 (n:Nat) (z:D35):Option (D8 ⊕ D15):=Z91L5G (run X0 n).loop z
noncomputable def Z91G (T:CT) (a0:List D1):Option Bool:=T 91 .bool [.slice false K0 a0]
noncomputable def Z91 (n:Nat) (a0:List D1):Option Bool:=Z91G (run X0 n).callT a0
theorem Z91F (n:Nat) (a0:List D1):Z91G (run X0 n).callT a0=Z91 n a0:=Eq.trans (Eq.refl _) (Eq.refl _)
abbrev Z121A (a0:D1) (a1:D1) (a2:D1) (a3:D1):List AV:=[.agg [.int .i64 a0.1,.int .i64 a0.2],.agg [.int .i64 a1.1,.int .i64 a1.2],.agg [.int .i64 a2.1,.int .i64 a2.2],.agg [.int .i64 a3.1,.int .i64 a3.2]]
noncomputable def Z121G (T:CT) (a0:D1) (a1:D1) (a2:D1) (a3:D1):Option Bool:=T 121 .bool (Z121A a0 a1 a2 a3)
noncomputable def Z121 (n:Nat) (a0:D1) (a1:D1) (a2:D1) (a3:D1):Option Bool:=Z121G (run X0 n).callT a0 a1 a2 a3
noncomputable def Z92L8G (L:LT) (z:((D6×(Int×D57))×Unit)):Option (D35 ⊕ (D48×Unit)):=L (loopOf X0 92 8) sh92x8x0 { fn:=92,base:=0,nt:=81,loops:=[] } z
noncomputable def Z92L8 (n:Nat) (z:((D6×(Int×D57))×Unit)):Option (D35 ⊕ (D48×Unit)):=Z92L8G (run X0 n).loop z
noncomputable def Z92L3G (L:LT) (z:D35):Option (D8 ⊕ (D48×Unit)):=L (loopOf X0 92 3) sh92x3x0 { fn:=92,base:=0,nt:=81,loops:=[] } z
noncomputable def Z92L3 (n:Nat) (z:D35):Option (D8 ⊕ (D48×Unit)):=Z92L3G (run X0 n).loop z
noncomputable def Z92G (T:CT) (a0:List D1):Option D4:=T 92 K3 [.slice false K0 a0]
noncomputable def Z92 (n:Nat) (a0:List D1):Option D4:=Z92G (run X0 n).callT a0
theorem Z92F (n:Nat) (a0:List D1):Z92G (run X0 n).callT a0=Z92 n a0:=Eq.trans (Eq.refl _) (Eq.refl _)
noncomputable def Z65L5G (L:LT) (z:((Int×(D30×Unit))×D18)):Option (((Int×(D30×Unit))×D18) ⊕ ((D30×Unit)×Unit)):=L (loopOf X0 65 5) sh65x5x0 { fn:=65,base:=0,nt:=50,loops:=[] } z
noncomputable def Z65L5 (n:Nat) (z:((Int×(D30×Unit))×D18)):Option (((Int×(D30×Unit))×D18) ⊕ ((D30×Unit)×Unit)):=Z65L5G (run X0 n).loop z
theorem Z65L5F (n:Nat) (z:((Int×(D30×Unit))×D18)):Z65L5G (run X0 n).loop z=Z65L5 n z:=Eq.trans (Eq.refl _) (Eq.refl _)
noncomputable def Z65G (T:CT) (a0:List D1):Option D30:=T 65 K14 [.slice false K0 a0]
noncomputable def Z65 (n:Nat) (a0:List D1):Option D30:=Z65G (run X0 n).callT a0
abbrev Z107A (a0:D1) (a1:D1) (a2:D1):List AV:=[.agg [.int .i64 a0.1,.int .i64 a0.2],.agg [.int .i64 a1.1,.int .i64 a1.2],.agg [.int .i64 a2.1,.int .i64 a2.2]]
noncomputable def Z107G (T:CT) (a0:D1) (a1:D1) (a2:D1):Option Int:=T 107 (.int .i64) (Z107A a0 a1 a2)
noncomputable def Z107 (n:Nat) (a0:D1) (a1:D1) (a2:D1):Option Int:=Z107G (run X0 n).callT a0 a1 a2
theorem Z107F (n:Nat) (a0:D1) (a1:D1) (a2:D1):Z107G (run X0 n).callT a0 a1 a2=Z107 n a0 a1 a2:=Eq.trans (Eq.refl _) (Eq.refl _)
noncomputable def Z105L2G (L:LT) (z:((D20×(D6×D9))×(((D1×D1)×Unit)×Unit))):Option ((Unit×(((D1×D1)×Unit)×Unit)) ⊕ ((Bool×Unit)×(((D1×D1)×Unit)×Unit))):=L (loopOf X0 105 2) sh105x2x0 { fn:=105,base:=1,nt:=18,loops:=[] } z
noncomputable def Z105L2 (n:Nat) (z:((D20×(D6×D9))×(((D1×D1)×Unit)×Unit))):Option ((Unit×(((D1×D1)×Unit)×Unit)) ⊕ ((Bool×Unit)×(((D1×D1)×Unit)×Unit))):=Z105L2G (run X0 n).loop z
theorem Z105L2F (n:Nat) (z:((D20×(D6×D9))×(((D1×D1)×Unit)×Unit))):Z105L2G (run X0 n).loop z=Z105L2 n z:=Eq.trans (Eq.refl _) (Eq.refl _)
abbrev Z74A (a0:(D1×D1)) (a1:List D1):List AV:=[.agg [.int .i64 a0.1.1,.int .i64 a0.1.2,.int .i64 a0.2.1,.int .i64 a0.2.2],.slice false K0 a1]
noncomputable def Z74G (T:CT) (a0:(D1×D1)) (a1:List D1):Option Bool:=T 74 .bool (Z74A a0 a1)
noncomputable def Z74 (n:Nat) (a0:(D1×D1)) (a1:List D1):Option Bool:=Z74G (run X0 n).callT a0 a1
theorem Z74F (n:Nat) (a0:(D1×D1)) (a1:List D1):Z74G (run X0 n).callT a0 a1=Z74 n a0 a1:=Eq.trans (Eq.refl _) (Eq.refl _)
noncomputable abbrev Z104L1M (c0:List D1) (c1:List D1) (c2:List D1) (c3:(D6×D6)) (c4:Int) (c5:Bool) (c6:Int) (c7:List D1) (c8:List D1) (c9:List D1) (c10:(D6×D6)) (c11:Int) (c12:List D1) (c13:List D1):Amb:={ fn:=104,base:=5,nt:=27,loops:=[{ fn:=51,tmps:=[.slice false K0 c0,.slice false K0 c1,.top,.top,.ptr 0 0,.ptr 1 0,.ptr 2 0,.slice false K0 c2,.ptr 3 0,.top,.top,.top,.top,.agg [.slice false K0 c3.1,.slice false K0 c3.2],.int .i64 c4,.bool c5,.int .i64 c6,.slice false K0 c7,.slice false K0 c8,.slice false K0 c9,.agg [.slice false K0 c10.1,.slice false K0 c10.2],.int .i64 c11,.slice false K0 c12,.slice false K0 c13,.func (.func 104) [] [.ptr 4 0],.top,.top,.top,.top,.top,.top,.top,.top,.top,.top],params:=[25,26],assign:=rfAssign X0 51 0,body:=rfBody X0 51 0 }] }
noncomputable def Z104L1G (L:LT) (c0:List D1) (c1:List D1) (c2:List D1) (c3:(D6×D6)) (c4:Int) (c5:Bool) (c6:Int) (c7:List D1) (c8:List D1) (c9:List D1) (c10:(D6×D6)) (c11:Int) (c12:List D1) (c13:List D1) (z:((D8×(Unit×(D6×D9)))×D37)):Option ((Unit×D37) ⊕ (Unit×D37)):=L (loopOf X0 104 1) sh104x1x0 (Z104L1M c0 c1 c2 c3 c4 c5 c6 c7 c8 c9 c10 c11 c12 c13) z
noncomputable def Z104L1 (n:Nat) (c0:List D1) (c1:List D1) (c2:List D1) (c3:(D6×D6)) (c4:Int) (c5:Bool) (c6:Int) (c7:List D1) (c8:List D1) (c9:List D1) (c10:(D6×D6)) (c11:Int) (c12:List D1) (c13:List D1) (z:((D8×(Unit×(D6×D9)))×D37)):Option ((Unit×D37) ⊕ (Unit×D37)):=Z104L1G (run X0 n).loop c0 c1 c2 c3 c4 c5 c6 c7 c8 c9 c10 c11 c12 c13 z
theorem Z104L1F (n:Nat) (c0:List D1) (c1:List D1) (c2:List D1) (c3:(D6×D6)) (c4:Int) (c5:Bool) (c6:Int) (c7:List D1) (c8:List D1) (c9:List D1) (c10:(D6×D6)) (c11:Int) (c12:List D1) (c13:List D1) (z:((D8×(Unit×(D6×D9)))×D37)):Z104L1G (run X0 n).loop c0 c1 c2 c3 c4 c5 c6 c7 c8 c9 c10 c11 c12 c13 z=Z104L1 n c0 c1 c2 c3 c4 c5 c6 c7 c8 c9 c10 c11 c12 c13 z:=Eq.trans (Eq.refl _) (Eq.refl _)
noncomputable def Z51L2G (L:LT) (z:((D6×(D6×(Unit×(Unit×((D6×D6)×D5)))))×((D1×Unit)×D15))):Option ((D20×((D1×Unit)×D15)) ⊕ (D20×((D1×Unit)×D15))):=L (loopOf X0 51 2) sh51x2x0 { fn:=51,base:=0,nt:=35,loops:=[] } z
noncomputable def Z51L2 (n:Nat) (z:((D6×(D6×(Unit×(Unit×((D6×D6)×D5)))))×((D1×Unit)×D15))):Option ((D20×((D1×Unit)×D15)) ⊕ (D20×((D1×Unit)×D15))):=Z51L2G (run X0 n).loop z
theorem Z51L2F (n:Nat) (z:((D6×(D6×(Unit×(Unit×((D6×D6)×D5)))))×((D1×Unit)×D15))):Z51L2G (run X0 n).loop z=Z51L2 n z:=Eq.trans (Eq.refl _) (Eq.refl _)
abbrev Z51A (a0:List D1) (a1:List D1):List AV:=[.slice false K0 a0,.slice false K0 a1]
noncomputable def Z51G (T:CT) (a0:List D1) (a1:List D1):Option (D1×Bool):=T 51 (.pair K0 .bool) (Z51A a0 a1)
noncomputable def Z51 (n:Nat) (a0:List D1) (a1:List D1):Option (D1×Bool):=Z51G (run X0 n).callT a0 a1
theorem Z51F (n:Nat) (a0:List D1) (a1:List D1):Z51G (run X0 n).callT a0 a1=Z51 n a0 a1:=Eq.trans (Eq.refl _) (Eq.refl _)
noncomputable abbrev Z64L8M (c0:D0) (c1:D2) (c2:D4) (c3:Bool) (c4:Int) (c5:Int) (c6:Int) (c7:Int) (c8:Int) (c9:Int) (c10:Int) (c11:Int) (c12:List Int) (c13:Bool) (c14:D0) (c15:D2) (c16:D4) (c17:Int) (c18:Int) (c19:Int) (c20:Int) (c21:Int) (c22:Int) (c23:Int) (c24:Int) (c25:List Int) (c26:Bool) (c27:D2) (c28:Bool) (c29:Bool) (c30:Bool) (c31:D0) (c32:D2) (c33:D4) (c34:List (D3×D3)):Amb:={ fn:=64,base:=8,nt:=50,loops:=[{ fn:=35,tmps:=[.agg (lv0 c0),.agg (lv1 c1),.agg (lv3 c2),.ptr 0 0,.ptr 1 0,.ptr 2 0,.ptr 3 0,.ptr 4 0,.ptr 5 0,.bool c3,.ptr 6 0,.top,.top,.top,.tuple [.agg [.int .i64 c4,.int .i64 c5,.int .i64 c6,.int .i64 c7,.int .i64 c8,.int .i64 c9,.int .i64 c10,.int .i64 c11,.slice false (.int .i64) c12],.bool c13],.agg (lv0 c14),.agg (lv1 c15),.agg (lv3 c16),.tuple [.agg [.int .i64 c17,.int .i64 c18,.int .i64 c19,.int .i64 c20,.int .i64 c21,.int .i64 c22,.int .i64 c23,.int .i64 c24,.slice false (.int .i64) c25],.bool c26],.agg (lv1 c27),.bool c28,.bool c29,.bool c30,.agg (lv0 c31),.agg (lv1 c32),.agg (lv3 c33),.slice false (.pair K2 K2) c34,.func (.func 64) [] [.ptr 7 0],.top,.top,.top,.top,.top,.top,.top,.top,.top,.top,.top,.top,.top,.top,.top,.top],params:=[28],assign:=rfAssign X0 35 0,body:=rfBody X0 35 0 }] }
noncomputable def Z64L8G (L:LT) (c0:D0) (c1:D2) (c2:D4) (c3:Bool) (c4:Int) (c5:Int) (c6:Int) (c7:Int) (c8:Int) (c9:Int) (c10:Int) (c11:Int) (c12:List Int) (c13:Bool) (c14:D0) (c15:D2) (c16:D4) (c17:Int) (c18:Int) (c19:Int) (c20:Int) (c21:Int) (c22:Int) (c23:Int) (c24:Int) (c25:List Int) (c26:Bool) (c27:D2) (c28:Bool) (c29:Bool) (c30:Bool) (c31:D0) (c32:D2) (c33:D4) (c34:List (D3×D3)) (z:D45):Option (D43 ⊕ (Unit×D7)):=L (loopOf X0 64 8) sh64x8x0 (Z64L8M c0 c1 c2 c3 c4 c5 c6 c7 c8 c9 c10 c11 c12 c13 c14 c15 c16 c17 c18 c19 c20 c21 c22 c23 c24 c25 c26 c27 c28 c29 c30 c31 c32 c33 c34) z
noncomputable def Z64L8 (n:Nat) (c0:D0) (c1:D2) (c2:D4) (c3:Bool) (c4:Int) (c5:Int) (c6:Int) (c7:Int) (c8:Int) (c9:Int) (c10:Int) (c11:Int) (c12:List Int) (c13:Bool) (c14:D0) (c15:D2) (c16:D4) (c17:Int) (c18:Int) (c19:Int) (c20:Int) (c21:Int) (c22:Int) (c23:Int) (c24:Int) (c25:List Int) (c26:Bool) (c27:D2) (c28:Bool) (c29:Bool) (c30:Bool) (c31:D0) (c32:D2) (c33:D4) (c34:List (D3×D3)) (z:D45):Option (D43 ⊕ (Unit×D7)):=Z64L8G (run X0 n).loop c0 c1 c2 c3 c4 c5 c6 c7 c8 c9 c10 c11 c12 c13 c14 c15 c16 c17 c18 c19 c20 c21 c22 c23 c24 c25 c26 c27 c28 c29 c30 c31 c32 c33 c34 z
theorem Z64L8F (n:Nat) (c0:D0) (c1:D2) (c2:D4) (c3:Bool) (c4:Int) (c5:Int) (c6:Int) (c7:Int) (c8:Int) (c9:Int) (c10:Int) (c11:Int) (c12:List Int) (c13:Bool) (c14:D0) (c15:D2) (c16:D4) (c17:Int) (c18:Int) (c19:Int) (c20:Int) (c21:Int) (c22:Int) (c23:Int) (c24:Int) (c25:List Int) (c26:Bool) (c27:D2) (c28:Bool) (c29:Bool) (c30:Bool) (c31:D0) (c32:D2) (c33:D4) (c34:List (D3×D3)) (z:D45):Z64L8G (run X0 n).loop c0 c1 c2 c3 c4 c5 c6 c7 c8 c9 c10 c11 c12 c13 c14 c15 c16 c17 c18 c19 c20 c21 c22 c23 c24 c25 c26 c27 c28 c29 c30 c31 c32 c33 c34 z=Z64L8 n c0 c1 c2 c3 c4 c5 c6 c7 c8 c9 c10 c11 c12 c13 c14 c15 c16 c17 c18 c19 c20 c21 c22 c23 c24 c25 c26 c27 c28 c29 c30 c31 c32 c33 c34 z:=Eq.trans (Eq.refl _) (Eq.refl _)
noncomputable abbrev Z64L5M (c0:D0) (c1:D2) (c2:D4) (c3:Bool) (c4:Int) (c5:Int) (c6:Int) (c7:Int) (c8:Int) (c9:Int) (c10:Int) (c11:Int) (c12:List Int) (c13:Bool) (c14:D0) (c15:D2) (c16:D4) (c17:Int) (c18:Int) (c19:Int) (c20:Int) (c21:Int) (c22:Int) (c23:Int) (c24:Int) (c25:List Int) (c26:Bool) (c27:D2) (c28:Bool) (c29:Bool) (c30:Bool) (c31:D0) (c32:D2) (c33:D4) (c34:List (D3×D3)):Amb:={ fn:=64,base:=8,nt:=50,loops:=[{ fn:=35,tmps:=[.agg (lv0 c0),.agg (lv1 c1),.agg (lv3 c2),.ptr 0 0,.ptr 1 0,.ptr 2 0,.ptr 3 0,.ptr 4 0,.ptr 5 0,.bool c3,.ptr 6 0,.top,.top,.top,.tuple [.agg [.int .i64 c4,.int .i64 c5,.int .i64 c6,.int .i64 c7,.int .i64 c8,.int .i64 c9,.int .i64 c10,.int .i64 c11,.slice false (.int .i64) c12],.bool c13],.agg (lv0 c14),.agg (lv1 c15),.agg (lv3 c16),.tuple [.agg [.int .i64 c17,.int .i64 c18,.int .i64 c19,.int .i64 c20,.int .i64 c21,.int .i64 c22,.int .i64 c23,.int .i64 c24,.slice false (.int .i64) c25],.bool c26],.agg (lv1 c27),.bool c28,.bool c29,.bool c30,.agg (lv0 c31),.agg (lv1 c32),.agg (lv3 c33),.slice false (.pair K2 K2) c34,.func (.func 64) [] [.ptr 7 0],.top,.top,.top,.top,.top,.top,.top,.top,.top,.top,.top,.top,.top,.top,.top,.top],params:=[28],assign:=rfAssign X0 35 0,body:=rfBody X0 35 0 }] }
noncomputable def Z64L5G (L:LT) (c0:D0) (c1:D2) (c2:D4) (c3:Bool) (c4:Int) (c5:Int) (c6:Int) (c7:Int) (c8:Int) (c9:Int) (c10:Int) (c11:Int) (c12:List Int) (c13:Bool) (c14:D0) (c15:D2) (c16:D4) (c17:Int) (c18:Int) (c19:Int) (c20:Int) (c21:Int) (c22:Int) (c23:Int) (c24:Int) (c25:List Int) (c26:Bool) (c27:D2) (c28:Bool) (c29:Bool) (c30:Bool) (c31:D0) (c32:D2) (c33:D4) (c34:List (D3×D3)) (z:D43):Option (((D8×(D16×D9))×D7) ⊕ (Unit×D7)):=L (loopOf X0 64 5) sh64x5x0 (Z64L5M c0 c1 c2 c3 c4 c5 c6 c7 c8 c9 c10 c11 c12 c13 c14 c15 c16 c17 c18 c19 c20 c21 c22 c23 c24 c25 c26 c27 c28 c29 c30 c31 c32 c33 c34) z
noncomputable def Z64L5 (n:Nat) (c0:D0) (c1:D2) (c2:D4) (c3:Bool) (c4:Int) (c5:Int) (c6:Int) (c7:Int) (c8:Int) (c9:Int) (c10:Int) (c11:Int) (c12:List Int) (c13:Bool) (c14:D0) (c15:D2) (c16:D4) (c17:Int) (c18:Int) (c19:Int) (c20:Int) (c21:Int) (c22:Int) (c23:Int) (c24:Int) (c25:List Int) (c26:Bool) (c27:D2) (c28:Bool) (c29:Bool) (c30:Bool) (c31:D0) (c32:D2) (c33:D4) (c34:List (D3×D3)) (z:D43):Option (((D8×(D16×D9))×D7) ⊕ (Unit×D7)):=Z64L5G (run X0 n).loop c0 c1 c2 c3 c4 c5 c6 c7 c8 c9 c10 c11 c12 c13 c14 c15 c16 c17 c18 c19 c20 c21 c22 c23 c24 c25 c26 c27 c28 c29 c30 c31 c32 c33 c34 z
noncomputable abbrev Z64L1M (c0:D0) (c1:D2) (c2:D4) (c3:Bool) (c4:Int) (c5:Int) (c6:Int) (c7:Int) (c8:Int) (c9:Int) (c10:Int) (c11:Int) (c12:List Int) (c13:Bool) (c14:D0) (c15:D2) (c16:D4) (c17:Int) (c18:Int) (c19:Int) (c20:Int) (c21:Int) (c22:Int) (c23:Int) (c24:Int) (c25:List Int) (c26:Bool) (c27:D2) (c28:Bool) (c29:Bool) (c30:Bool) (c31:D0) (c32:D2) (c33:D4) (c34:List (D3×D3)):Amb:={ fn:=64,base:=8,nt:=50,loops:=[{ fn:=35,tmps:=[.agg (lv0 c0),.agg (lv1 c1),.agg (lv3 c2),.ptr 0 0,.ptr 1 0,.ptr 2 0,.ptr 3 0,.ptr 4 0,.ptr 5 0,.bool c3,.ptr 6 0,.top,.top,.top,.tuple [.agg [.int .i64 c4,.int .i64 c5,.int .i64 c6,.int .i64 c7,.int .i64 c8,.int .i64 c9,.int .i64 c10,.int .i64 c11,.slice false (.int .i64) c12],.bool c13],.agg (lv0 c14),.agg (lv1 c15),.agg (lv3 c16),.tuple [.agg [.int .i64 c17,.int .i64 c18,.int .i64 c19,.int .i64 c20,.int .i64 c21,.int .i64 c22,.int .i64 c23,.int .i64 c24,.slice false (.int .i64) c25],.bool c26],.agg (lv1 c27),.bool c28,.bool c29,.bool c30,.agg (lv0 c31),.agg (lv1 c32),.agg (lv3 c33),.slice false (.pair K2 K2) c34,.func (.func 64) [] [.ptr 7 0],.top,.top,.top,.top,.top,.top,.top,.top,.top,.top,.top,.top,.top,.top,.top,.top],params:=[28],assign:=rfAssign X0 35 0,body:=rfBody X0 35 0 }] }
noncomputable def Z64L1G (L:LT) (c0:D0) (c1:D2) (c2:D4) (c3:Bool) (c4:Int) (c5:Int) (c6:Int) (c7:Int) (c8:Int) (c9:Int) (c10:Int) (c11:Int) (c12:List Int) (c13:Bool) (c14:D0) (c15:D2) (c16:D4) (c17:Int) (c18:Int) (c19:Int) (c20:Int) (c21:Int) (c22:Int) (c23:Int) (c24:Int) (c25:List Int) (c26:Bool) (c27:D2) (c28:Bool) (c29:Bool) (c30:Bool) (c31:D0) (c32:D2) (c33:D4) (c34:List (D3×D3)) (z:((D8×(D16×D9))×D7)):Option ((Unit×D7) ⊕ (Unit×D7)):=L (loopOf X0 64 1) sh64x1x0 (Z64L1M c0 c1 c2 c3 c4 c5 c6 c7 c8 c9 c10 c11 c12 c13 c14 c15 c16 c17 c18 c19 c20 c21 c22 c23 c24 c25 c26 c27 c28 c29 c30 c31 c32 c33 c34) z
noncomputable def Z64L1 (n:Nat) (c0:D0) (c1:D2) (c2:D4) (c3:Bool) (c4:Int) (c5:Int) (c6:Int) (c7:Int) (c8:Int) (c9:Int) (c10:Int) (c11:Int) (c12:List Int) (c13:Bool) (c14:D0) (c15:D2) (c16:D4) (c17:Int) (c18:Int) (c19:Int) (c20:Int) (c21:Int) (c22:Int) (c23:Int) (c24:Int) (c25:List Int) (c26:Bool) (c27:D2) (c28:Bool) (c29:Bool) (c30:Bool) (c31:D0) (c32:D2) (c33:D4) (c34:List (D3×D3)) (z:((D8×(D16×D9))×D7)):Option ((Unit×D7) ⊕ (Unit×D7)):=Z64L1G (run X0 n).loop c0 c1 c2 c3 c4 c5 c6 c7 c8 c9 c10 c11 c12 c13 c14 c15 c16 c17 c18 c19 c20 c21 c22 c23 c24 c25 c26 c27 c28 c29 c30 c31 c32 c33 c34 z
theorem Z64L1F (n:Nat) (c0:D0) (c1:D2) (c2:D4) (c3:Bool) (c4:Int) (c5:Int) (c6:Int) (c7:Int) (c8:Int) (c9:Int) (c10:Int) (c11:Int) (c12:List Int) (c13:Bool) (c14:D0) (c15:D2) (c16:D4) (c17:Int) (c18:Int) (c19:Int) (c20:Int) (c21:Int) (c22:Int) (c23:Int) (c24:Int) (c25:List Int) (c26:Bool) (c27:D2) (c28:Bool) (c29:Bool) (c30:Bool) (c31:D0) (c32:D2) (c33:D4) (c34:List (D3×D3)) (z:((D8×(D16×D9))×D7)):Z64L1G (run X0 n).loop c0 c1 c2 c3 c4 c5 c6 c7 c8 c9 c10 c11 c12 c13 c14 c15 c16 c17 c18 c19 c20 c21 c22 c23 c24 c25 c26 c27 c28 c29 c30 c31 c32 c33 c34 z=Z64L1 n c0 c1 c2 c3 c4 c5 c6 c7 c8 c9 c10 c11 c12 c13 c14 c15 c16 c17 c18 c19 c20 c21 c22 c23 c24 c25 c26 c27 c28 c29 c30 c31 c32 c33 c34 z:=Eq.trans (Eq.refl _) (Eq.refl _)
abbrev Z35A (a0:D0) (a1:D2) (a2:D4):List AV:=[.agg (lv0 a0),.agg (lv1 a1),.agg (lv3 a2)]
noncomputable def Z35G (T:CT) (a0:D0) (a1:D2) (a2:D4):Option (D6×Bool):=T 35 (.pair K5 .bool) (Z35A a0 a1 a2)
noncomputable def Z35 (n:Nat) (a0:D0) (a1:D2) (a2:D4):Option (D6×Bool):=Z35G (run X0 n).callT a0 a1 a2
abbrev Z20A (a0:D0) (a1:D2) (a2:D4):List AV:=[.agg (lv0 a0),.agg (lv1 a1),.agg (lv3 a2)]
noncomputable def Z20G (T:CT) (a0:D0) (a1:D2) (a2:D4):Option Bool:=T 20 .bool (Z20A a0 a1 a2)
noncomputable def Z20 (n:Nat) (a0:D0) (a1:D2) (a2:D4):Option Bool:=Z20G (run X0 n).callT a0 a1 a2
theorem Z20F (n:Nat) (a0:D0) (a1:D2) (a2:D4):Z20G (run X0 n).callT a0 a1 a2=Z20 n a0 a1 a2:=Eq.trans (Eq.refl _) (Eq.refl _)
noncomputable abbrev Z47L7M (c0:Int) (c1:Int) (c2:List D34) (c3:Int) (c4:Bool) (c5:Int):Amb:={ fn:=47,base:=8,nt:=92,loops:=[{ fn:=12,tmps:=[.top,.top,.top,.top,.top,.top,.top,.ptr 0 0,.ptr 1 0,.ptr 2 0,.ptr 5 0,.int .i64 c0,.top,.top,.top,.top,.top,.top,.top,.top,.top,.top,.top,.top,.top,.top,.int .i64 c1,.ptr 4 0,.ptr 4 0,.ptr 4 55,.slice false K11 c2,.int .i64 c3,.bool c4,.top,.top,.ptr 4 0,.int .i64 c5,.func (.func 47) [] [.ptr 6 0,.ptr 7 0],.top,.top,.top,.top,.top,.top,.top,.top,.top,.top,.top,.top,.top,.top,.top,.top,.top,.top,.top],params:=[38],assign:=rfAssign X0 12 0,body:=rfBody X0 12 0 }] }
noncomputable def Z47L7G (L:LT) (c0:Int) (c1:Int) (c2:List D34) (c3:Int) (c4:Bool) (c5:Int) (z:((D8×(Unit×(Unit×(Unit×(Unit×(Int×(Int×(D1×D5))))))))×D10)):Option (((D8×(Unit×(Unit×D29)))×D10) ⊕ D19):=L (loopOf X0 47 7) sh47x7x0 (Z47L7M c0 c1 c2 c3 c4 c5) z
noncomputable def Z47L7 (n:Nat) (c0:Int) (c1:Int) (c2:List D34) (c3:Int) (c4:Bool) (c5:Int) (z:((D8×(Unit×(Unit×(Unit×(Unit×(Int×(Int×(D1×D5))))))))×D10)):Option (((D8×(Unit×(Unit×D29)))×D10) ⊕ D19):=Z47L7G (run X0 n).loop c0 c1 c2 c3 c4 c5 z
theorem Z47L7F (n:Nat) (c0:Int) (c1:Int) (c2:List D34) (c3:Int) (c4:Bool) (c5:Int) (z:((D8×(Unit×(Unit×(Unit×(Unit×(Int×(Int×(D1×D5))))))))×D10)):Z47L7G (run X0 n).loop c0 c1 c2 c3 c4 c5 z=Z47L7 n c0 c1 c2 c3 c4 c5 z:=Eq.trans (Eq.refl _) (Eq.refl _)
noncomputable abbrev Z47L4M (c0:Int) (c1:Int) (c2:List D34) (c3:Int) (c4:Bool) (c5:Int):Amb:={ fn:=47,base:=8,nt:=92,loops:=[{ fn:=12,tmps:=[.top,.top,.top,.top,.top,.top,.top,.ptr 0 0,.ptr 1 0,.ptr 2 0,.ptr 5 0,.int .i64 c0,.top,.top,.top,.top,.top,.top,.top,.top,.top,.top,.top,.top,.top,.top,.int .i64 c1,.ptr 4 0,.ptr 4 0,.ptr 4 55,.slice false K11 c2,.int .i64 c3,.bool c4,.top,.top,.ptr 4 0,.int .i64 c5,.func (.func 47) [] [.ptr 6 0,.ptr 7 0],.top,.top,.top,.top,.top,.top,.top,.top,.top,.top,.top,.top,.top,.top,.top,.top,.top,.top,.top],params:=[38],assign:=rfAssign X0 12 0,body:=rfBody X0 12 0 }] }
noncomputable def Z47L4G (L:LT) (c0:Int) (c1:Int) (c2:List D34) (c3:Int) (c4:Bool) (c5:Int) (z:((D8×(Unit×(Unit×D29)))×D10)):Option (D19 ⊕ D19):=L (loopOf X0 47 4) sh47x4x0 (Z47L4M c0 c1 c2 c3 c4 c5) z
noncomputable def Z47L4 (n:Nat) (c0:Int) (c1:Int) (c2:List D34) (c3:Int) (c4:Bool) (c5:Int) (z:((D8×(Unit×(Unit×D29)))×D10)):Option (D19 ⊕ D19):=Z47L4G (run X0 n).loop c0 c1 c2 c3 c4 c5 z
theorem Z47L4F (n:Nat) (c0:Int) (c1:Int) (c2:List D34) (c3:Int) (c4:Bool) (c5:Int) (z:((D8×(Unit×(Unit×D29)))×D10)):Z47L4G (run X0 n).loop c0 c1 c2 c3 c4 c5 z=Z47L4 n c0 c1 c2 c3 c4 c5 z:=Eq.trans (Eq.refl _) (Eq.refl _)
noncomputable def Z12L4G (L:LT) (z:((Unit×(Unit×D29))×(Unit×(Unit×(D5×D28))))):Option (((Unit×D20)×(Unit×(Unit×(Unit×D28)))) ⊕ (D20×(Unit×(Unit×(Unit×((D13×Unit)×D15)))))):=L (loopOf X0 12 4) sh12x4x0 { fn:=12,base:=0,nt:=57,loops:=[] } z
noncomputable def Z12L4 (n:Nat) (z:((Unit×(Unit×D29))×(Unit×(Unit×(D5×D28))))):Option (((Unit×D20)×(Unit×(Unit×(Unit×D28)))) ⊕ (D20×(Unit×(Unit×(Unit×((D13×Unit)×D15)))))):=Z12L4G (run X0 n).loop z
theorem Z12L4F (n:Nat) (z:((Unit×(Unit×D29))×(Unit×(Unit×(D5×D28))))):Z12L4G (run X0 n).loop z=Z12L4 n z:=Eq.trans (Eq.refl _) (Eq.refl _)
abbrev Z12A (a0:D0) (a1:D2) (a2:Int) (a3:Int):List AV:=[.agg (lv0 a0),.agg (lv1 a1),.int .i64 a2,.int .i64 a3]
noncomputable def Z12G (T:CT) (a0:D0) (a1:D2) (a2:Int) (a3:Int):Option (D13×Bool):=T 12 (.pair K6 .bool) (Z12A a0 a1 a2 a3)
noncomputable def Z12 (n:Nat) (a0:D0) (a1:D2) (a2:Int) (a3:Int):Option (D13×Bool):=Z12G (run X0 n).callT a0 a1 a2 a3
noncomputable def Z16L2G (L:LT) (z:((D13×D9)×((List D4)×Unit))):Option (D5×((List D4)×Unit)):=L (loopOf X0 16 2) sh16x2x0 { fn:=16,base:=0,nt:=30,loops:=[] } z
noncomputable def Z16L2 (n:Nat) (z:((D13×D9)×((List D4)×Unit))):Option (D5×((List D4)×Unit)):=Z16L2G (run X0 n).loop z
theorem Z16L2F (n:Nat) (z:((D13×D9)×((List D4)×Unit))):Z16L2G (run X0 n).loop z=Z16L2 n z:=Eq.trans (Eq.refl _) (Eq.refl _)
abbrev Z16A (a0:List D34) (a1:Int):List AV:=[.slice false K11 a0,.int .i64 a1]
noncomputable def Z16G (T:CT) (a0:List D34) (a1:Int):Option (List D4):=T 16 (.slice K3) (Z16A a0 a1)
noncomputable def Z16 (n:Nat) (a0:List D34) (a1:Int):Option (List D4):=Z16G (run X0 n).callT a0 a1
noncomputable def Z15L4G (L:LT) (z:(((List D4)×((List D4)×D5))×Unit)):Option (D8 ⊕ D15):=L (loopOf X0 15 4) sh15x4x0 { fn:=15,base:=0,nt:=26,loops:=[] } z
noncomputable def Z15L4 (n:Nat) (z:(((List D4)×((List D4)×D5))×Unit)):Option (D8 ⊕ D15):=Z15L4G (run X0 n).loop z
abbrev Z15A (a0:List D4) (a1:List D4):List AV:=[.slice false K3 a0,.slice false K3 a1]
noncomputable def Z15G (T:CT) (a0:List D4) (a1:List D4):Option Bool:=T 15 .bool (Z15A a0 a1)
noncomputable def Z15 (n:Nat) (a0:List D4) (a1:List D4):Option Bool:=Z15G (run X0 n).callT a0 a1
noncomputable def Z9G (T:CT):Option Bool:=T 9 .bool []
noncomputable def Z9 (n:Nat):Option Bool:=Z9G (run X0 n).callT
abbrev Z52A (a0:D11):List AV:=[.agg (lv2 a0)]
noncomputable def Z52G (T:CT) (a0:D11):Option Bool:=T 52 .bool (Z52A a0)
noncomputable def Z52 (n:Nat) (a0:D11):Option Bool:=Z52G (run X0 n).callT a0
noncomputable def Z53G (T:CT) (a0:Int):Option Int:=T 53 (.int .i64) [.int .i64 a0]
noncomputable def Z53 (n:Nat) (a0:Int):Option Int:=Z53G (run X0 n).callT a0
abbrev Z37A (a0:D11):List AV:=[.agg (lv2 a0)]
noncomputable def Z37G (T:CT) (a0:D11):Option Bool:=T 37 .bool (Z37A a0)
noncomputable def Z37 (n:Nat) (a0:D11):Option Bool:=Z37G (run X0 n).callT a0
abbrev Z36A (a0:D11) (a1:D4):List AV:=[.agg (lv2 a0),.agg (lv3 a1)]
noncomputable def Z36G (T:CT) (a0:D11) (a1:D4):Option Bool:=T 36 .bool (Z36A a0 a1)
noncomputable def Z36 (n:Nat) (a0:D11) (a1:D4):Option Bool:=Z36G (run X0 n).callT a0 a1
noncomputable def Z29L2G (L:LT) (z:((Unit×D5)×D50)):Option ((D8×D50) ⊕ D15):=L (loopOf X0 29 2) sh29x2x0 { fn:=29,base:=0,nt:=179,loops:=[] } z
noncomputable def Z29L2 (n:Nat) (z:((Unit×D5)×D50)):Option ((D8×D50) ⊕ D15):=Z29L2G (run X0 n).loop z
noncomputable def Z38G (T:CT) (a0:D4):Option Bool:=T 38 .bool [.agg (lv3 a0)]
noncomputable def Z38 (n:Nat) (a0:D4):Option Bool:=Z38G (run X0 n).callT a0
noncomputable def Z75G (T:CT) (a0:D1):Option Bool:=T 75 .bool [.agg [.int .i64 a0.1,.int .i64 a0.2]]
noncomputable def Z75 (n:Nat) (a0:D1):Option Bool:=Z75G (run X0 n).callT a0
noncomputable def Z54L5G (L:LT) (z:D51):Option (((D6×D5)×Unit) ⊕ D15):=L (loopOf X0 54 5) sh54x5x0 { fn:=54,base:=0,nt:=79,loops:=[] } z
noncomputable def Z54L5 (n:Nat) (z:D51):Option (((D6×D5)×Unit) ⊕ D15):=Z54L5G (run X0 n).loop z
abbrev Z77A (a0:List D1) (a1:Int):List AV:=[.slice false K0 a0,.int .i64 a1]
noncomputable def Z77G (T:CT) (a0:List D1) (a1:Int):Option D1:=T 77 K0 (Z77A a0 a1)
noncomputable def Z77 (n:Nat) (a0:List D1) (a1:Int):Option D1:=Z77G (run X0 n).callT a0 a1
abbrev Z76A (a0:D1) (a1:D1) (a2:D1):List AV:=[.agg [.int .i64 a0.1,.int .i64 a0.2],.agg [.int .i64 a1.1,.int .i64 a1.2],.agg [.int .i64 a2.1,.int .i64 a2.2]]
noncomputable def Z76G (T:CT) (a0:D1) (a1:D1) (a2:D1):Option Int:=T 76 (.int .i64) (Z76A a0 a1 a2)
noncomputable def Z76 (n:Nat) (a0:D1) (a1:D1) (a2:D1):Option Int:=Z76G (run X0 n).callT a0 a1 a2
noncomputable def Z139G (T:CT) (a0:Int) (a1:Int) (a2:Int):Option Bool:=T 139 .bool [.int .i64 a0,.int .i64 a1,.int .i64 a2]
noncomputable def Z139 (n:Nat) (a0:Int) (a1:Int) (a2:Int):Option Bool:=Z139G (run X0 n).callT a0 a1 a2
abbrev Z108A (a0:D1) (a1:D1) (a2:D1):List AV:=[.agg [.int .i64 a0.1,.int .i64 a0.2],.agg [.int .i64 a1.1,.int .i64 a1.2],.agg [.int .i64 a2.1,.int .i64 a2.2]]
noncomputable def Z108G (T:CT) (a0:D1) (a1:D1) (a2:D1):Option Bool:=T 108 .bool (Z108A a0 a1 a2)
noncomputable def Z108 (n:Nat) (a0:D1) (a1:D1) (a2:D1):Option Bool:=Z108G (run X0 n).callT a0 a1 a2
noncomputable def Z109G (T:CT) (a0:Int):Option Int:=T 109 (.int .i64) [.int .i64 a0]
noncomputable def Z109 (n:Nat) (a0:Int):Option Int:=Z109G (run X0 n).callT a0
abbrev Z78A (a0:D1) (a1:D1) (a2:D1) (a3:D1):List AV:=[.agg [.int .i64 a0.1,.int .i64 a0.2],.agg [.int .i64 a1.1,.int .i64 a1.2],.agg [.int .i64 a2.1,.int .i64 a2.2],.agg [.int .i64 a3.1,.int .i64 a3.2]]
noncomputable def Z78G (T:CT) (a0:D1) (a1:D1) (a2:D1) (a3:D1):Option Bool:=T 78 .bool (Z78A a0 a1 a2 a3)
noncomputable def Z78 (n:Nat) (a0:D1) (a1:D1) (a2:D1) (a3:D1):Option Bool:=Z78G (run X0 n).callT a0 a1 a2 a3
noncomputable def Z54L15G (L:LT) (z:D35):Option (D51 ⊕ D15):=L (loopOf X0 54 15) sh54x15x0 { fn:=54,base:=0,nt:=79,loops:=[] } z
noncomputable def Z54L15 (n:Nat) (z:D35):Option (D51 ⊕ D15):=Z54L15G (run X0 n).loop z
noncomputable def Z54L10G (L:LT) (z:D51):Option ((D18×Unit) ⊕ D15):=L (loopOf X0 54 10) sh54x10x0 { fn:=54,base:=0,nt:=79,loops:=[] } z
noncomputable def Z54L10 (n:Nat) (z:D51):Option ((D18×Unit) ⊕ D15):=Z54L10G (run X0 n).loop z
noncomputable def Z79L3G (L:LT) (z:D51):Option (D5×Unit):=L (loopOf X0 79 3) sh79x3x0 { fn:=79,base:=0,nt:=34,loops:=[] } z
noncomputable def Z79L3 (n:Nat) (z:D51):Option (D5×Unit):=Z79L3G (run X0 n).loop z
noncomputable def Z79G (T:CT) (a0:List D1):Option Int:=T 79 (.int .i64) [.slice false K0 a0]
noncomputable def Z79 (n:Nat) (a0:List D1):Option Int:=Z79G (run X0 n).callT a0
noncomputable def Z54G (T:CT) (a0:List D1):Option Bool:=T 54 .bool [.slice false K0 a0]
noncomputable def Z54 (n:Nat) (a0:List D1):Option Bool:=Z54G (run X0 n).callT a0
noncomputable def Z39L4G (L:LT) (z:((D30×D5)×Unit)):Option (D8 ⊕ D15):=L (loopOf X0 39 4) sh39x4x0 { fn:=39,base:=0,nt:=19,loops:=[] } z
noncomputable def Z39L4 (n:Nat) (z:((D30×D5)×Unit)):Option (D8 ⊕ D15):=Z39L4G (run X0 n).loop z
noncomputable def Z39G (T:CT) (a0:List D6):Option Bool:=T 39 .bool [.slice false K5 a0]
noncomputable def Z39 (n:Nat) (a0:List D6):Option Bool:=Z39G (run X0 n).callT a0
noncomputable def Z40L3G (L:LT) (z:((Unit×(D30×D5))×D50)):Option ((D30×Unit)×Unit):=L (loopOf X0 40 3) sh40x3x0 { fn:=40,base:=0,nt:=22,loops:=[] } z
noncomputable def Z40L3 (n:Nat) (z:((Unit×(D30×D5))×D50)):Option ((D30×Unit)×Unit):=Z40L3G (run X0 n).loop z
abbrev Z40A (a0:D0):List AV:=[.agg (lv0 a0)]
noncomputable def Z40G (T:CT) (a0:D0):Option D30:=T 40 K14 (Z40A a0)
noncomputable def Z40 (n:Nat) (a0:D0):Option D30:=Z40G (run X0 n).callT a0
noncomputable def Z80L3G (L:LT) (z:(D48×Unit)):Option (D5×Unit):=L (loopOf X0 80 3) sh80x3x0 { fn:=80,base:=0,nt:=13,loops:=[] } z
noncomputable def Z80L3 (n:Nat) (z:(D48×Unit)):Option (D5×Unit):=Z80L3G (run X0 n).loop z
noncomputable def Z80G (T:CT) (a0:Int):Option Int:=T 80 (.int .i64) [.int .i64 a0]
noncomputable def Z80 (n:Nat) (a0:Int):Option Int:=Z80G (run X0 n).callT a0
noncomputable def Z55G (T:CT) (a0:D4):Option Bool:=T 55 .bool [.agg (lv3 a0)]
noncomputable def Z55 (n:Nat) (a0:D4):Option Bool:=Z55G (run X0 n).callT a0
noncomputable def Z41L3G (L:LT) (z:(((List D46)×(D49×D5))×Unit)):Option ((((List D46)×(D49×Unit))×Unit) ⊕ D15):=L (loopOf X0 41 3) sh41x3x0 { fn:=41,base:=0,nt:=72,loops:=[] } z
noncomputable def Z41L3 (n:Nat) (z:(((List D46)×(D49×D5))×Unit)):Option ((((List D46)×(D49×Unit))×Unit) ⊕ D15):=Z41L3G (run X0 n).loop z
noncomputable def Z110G (T:CT) (a0:Int):Option Bool:=T 110 .bool [.int .u8 a0]
noncomputable def Z110 (n:Nat) (a0:Int):Option Bool:=Z110G (run X0 n).callT a0
noncomputable def Z81L4G (L:LT) (z:((ByteArray×D5)×Unit)):Option (D8 ⊕ D15):=L (loopOf X0 81 4) sh81x4x0 { fn:=81,base:=0,nt:=47,loops:=[] } z
noncomputable def Z81L4 (n:Nat) (z:((ByteArray×D5)×Unit)):Option (D8 ⊕ D15):=Z81L4G (run X0 n).loop z
noncomputable def Z81G (T:CT) (a0:ByteArray):Option Bool:=T 81 .bool [.str a0]
noncomputable def Z81 (n:Nat) (a0:ByteArray):Option Bool:=Z81G (run X0 n).callT a0
noncomputable def Z56L7G (L:LT) (z:((D49×D9)×Unit)):Option (((D49×D5)×Unit) ⊕ D15):=L (loopOf X0 56 7) sh56x7x0 { fn:=56,base:=0,nt:=31,loops:=[] } z
noncomputable def Z56L7 (n:Nat) (z:((D49×D9)×Unit)):Option (((D49×D5)×Unit) ⊕ D15):=Z56L7G (run X0 n).loop z
noncomputable def Z56L2G (L:LT) (z:((D49×D5)×Unit)):Option (D8 ⊕ D15):=L (loopOf X0 56 2) sh56x2x0 { fn:=56,base:=0,nt:=31,loops:=[] } z
noncomputable def Z56L2 (n:Nat) (z:((D49×D5)×Unit)):Option (D8 ⊕ D15):=Z56L2G (run X0 n).loop z
noncomputable def Z56G (T:CT) (a0:List ByteArray):Option Bool:=T 56 .bool [.slice false .str a0]
noncomputable def Z56 (n:Nat) (a0:List ByteArray):Option Bool:=Z56G (run X0 n).callT a0
abbrev Z41A (a0:List D46):List AV:=[.slice false K9 a0]
noncomputable def Z41G (T:CT) (a0:List D46):Option Bool:=T 41 .bool (Z41A a0)
noncomputable def Z41 (n:Nat) (a0:List D46):Option Bool:=Z41G (run X0 n).callT a0
abbrev Z111A (a0:D1) (a1:D1) (a2:D1):List AV:=[.agg [.int .i64 a0.1,.int .i64 a0.2],.agg [.int .i64 a1.1,.int .i64 a1.2],.agg [.int .i64 a2.1,.int .i64 a2.2]]
noncomputable def Z111G (T:CT) (a0:D1) (a1:D1) (a2:D1):Option Int:=T 111 (.int .i64) (Z111A a0 a1 a2)
noncomputable def Z111 (n:Nat) (a0:D1) (a1:D1) (a2:D1):Option Int:=Z111G (run X0 n).callT a0 a1 a2
abbrev Z82A (a0:D1) (a1:D1) (a2:D1):List AV:=[.agg [.int .i64 a0.1,.int .i64 a0.2],.agg [.int .i64 a1.1,.int .i64 a1.2],.agg [.int .i64 a2.1,.int .i64 a2.2]]
noncomputable def Z82G (T:CT) (a0:D1) (a1:D1) (a2:D1):Option Int:=T 82 (.int .i64) (Z82A a0 a1 a2)
noncomputable def Z82 (n:Nat) (a0:D1) (a1:D1) (a2:D1):Option Int:=Z82G (run X0 n).callT a0 a1 a2
noncomputable def Z57L9G (L:LT) (z:D51):Option (((D6×D5)×Unit) ⊕ D15):=L (loopOf X0 57 9) sh57x9x0 { fn:=57,base:=0,nt:=73,loops:=[] } z
noncomputable def Z57L9 (n:Nat) (z:D51):Option (((D6×D5)×Unit) ⊕ D15):=Z57L9G (run X0 n).loop z
noncomputable def Z57L4G (L:LT) (z:((D6×D5)×Unit)):Option (D8 ⊕ D15):=L (loopOf X0 57 4) sh57x4x0 { fn:=57,base:=0,nt:=73,loops:=[] } z
noncomputable def Z57L4 (n:Nat) (z:((D6×D5)×Unit)):Option (D8 ⊕ D15):=Z57L4G (run X0 n).loop z
noncomputable def Z57G (T:CT) (a0:List D1):Option Bool:=T 57 .bool [.slice false K0 a0]
noncomputable def Z57 (n:Nat) (a0:List D1):Option Bool:=Z57G (run X0 n).callT a0
noncomputable def Z42L4G (L:LT) (z:(((List D24)×(Int×(D49×((List Int)×D5))))×Unit)):Option ((((List D24)×(Int×(D49×((List Int)×Unit))))×Unit) ⊕ D15):=L (loopOf X0 42 4) sh42x4x0 { fn:=42,base:=0,nt:=49,loops:=[] } z
noncomputable def Z42L4 (n:Nat) (z:(((List D24)×(Int×(D49×((List Int)×D5))))×Unit)):Option ((((List D24)×(Int×(D49×((List Int)×Unit))))×Unit) ⊕ D15):=Z42L4G (run X0 n).loop z
noncomputable def Z43L7G (L:LT) (z:(((List Int)×D48)×Unit)):Option ((((List Int)×D9)×Unit) ⊕ D15):=L (loopOf X0 43 7) sh43x7x0 { fn:=43,base:=0,nt:=40,loops:=[] } z
noncomputable def Z43L7 (n:Nat) (z:(((List Int)×D48)×Unit)):Option ((((List Int)×D9)×Unit) ⊕ D15):=Z43L7G (run X0 n).loop z
noncomputable def Z43L2G (L:LT) (z:(((List Int)×D9)×Unit)):Option (D8 ⊕ D15):=L (loopOf X0 43 2) sh43x2x0 { fn:=43,base:=0,nt:=40,loops:=[] } z
noncomputable def Z43L2 (n:Nat) (z:(((List Int)×D9)×Unit)):Option (D8 ⊕ D15):=Z43L2G (run X0 n).loop z
noncomputable def Z43G (T:CT) (a0:List Int) (a1:Int):Option Bool:=T 43 .bool [.slice false (.int .i64) a0,.int .i64 a1]
noncomputable def Z43 (n:Nat) (a0:List Int) (a1:Int):Option Bool:=Z43G (run X0 n).callT a0 a1
abbrev Z42A (a0:List D24) (a1:Int):List AV:=[.slice false K7 a0,.int .i64 a1]
noncomputable def Z42G (T:CT) (a0:List D24) (a1:Int):Option Bool:=T 42 .bool (Z42A a0 a1)
noncomputable def Z42 (n:Nat) (a0:List D24) (a1:Int):Option Bool:=Z42G (run X0 n).callT a0 a1
abbrev Z29A (a0:D0):List AV:=[.agg (lv0 a0)]
noncomputable def Z29G (T:CT) (a0:D0):Option Bool:=T 29 .bool (Z29A a0)
noncomputable def Z29 (n:Nat) (a0:D0):Option Bool:=Z29G (run X0 n).callT a0
noncomputable def Z44L4G (L:LT) (z:(D29×D12)):Option ((D20×D12) ⊕ D15):=L (loopOf X0 44 4) sh44x4x0 { fn:=44,base:=0,nt:=108,loops:=[] } z
noncomputable def Z44L4 (n:Nat) (z:(D29×D12)):Option ((D20×D12) ⊕ D15):=Z44L4G (run X0 n).loop z
noncomputable def Z44L15G (L:LT) (z:((Unit×(Unit×D9))×D12)):Option ((D29×D12) ⊕ D15):=L (loopOf X0 44 15) sh44x15x0 { fn:=44,base:=0,nt:=108,loops:=[] } z
noncomputable def Z44L15 (n:Nat) (z:((Unit×(Unit×D9))×D12)):Option ((D29×D12) ⊕ D15):=Z44L15G (run X0 n).loop z
noncomputable def Z44L10G (L:LT) (z:(D29×D12)):Option (D8 ⊕ D15):=L (loopOf X0 44 10) sh44x10x0 { fn:=44,base:=0,nt:=108,loops:=[] } z
noncomputable def Z44L10 (n:Nat) (z:(D29×D12)):Option (D8 ⊕ D15):=Z44L10G (run X0 n).loop z
abbrev Z44A (a0:D0) (a1:D2):List AV:=[.agg (lv0 a0),.agg (lv1 a1)]
noncomputable def Z44G (T:CT) (a0:D0) (a1:D2):Option Bool:=T 44 .bool (Z44A a0 a1)
noncomputable def Z44 (n:Nat) (a0:D0) (a1:D2):Option Bool:=Z44G (run X0 n).callT a0 a1
noncomputable def Z140G (T:CT) (a0:Int):Option Int:=T 140 (.int .i64) [.int .i64 a0]
noncomputable def Z140 (n:Nat) (a0:Int):Option Int:=Z140G (run X0 n).callT a0
noncomputable def Z112L7G (L:LT) (z:((Int×D48)×Unit)):Option D56:=L (loopOf X0 112 7) sh112x7x0 { fn:=112,base:=0,nt:=35,loops:=[] } z
noncomputable def Z112L7 (n:Nat) (z:((Int×D48)×Unit)):Option D56:=Z112L7G (run X0 n).loop z
noncomputable def Z112G (T:CT) (a0:Int):Option D1:=T 112 K0 [.int .i64 a0]
noncomputable def Z112 (n:Nat) (a0:Int):Option D1:=Z112G (run X0 n).callT a0
abbrev Z85A (a0:D4) (a1:Int):List AV:=[.agg (lv3 a0),.int .i64 a1]
noncomputable def Z85G (T:CT) (a0:D4) (a1:Int):Option D4:=T 85 K3 (Z85A a0 a1)
noncomputable def Z85 (n:Nat) (a0:D4) (a1:Int):Option D4:=Z85G (run X0 n).callT a0 a1
abbrev Z60A (a0:D11) (a1:D4):List AV:=[.agg (lv2 a0),.agg (lv3 a1)]
noncomputable def Z60G (T:CT) (a0:D11) (a1:D4):Option (D4×(D4×D4)):=T 60 (.pair K3 (.pair K3 K3)) (Z60A a0 a1)
noncomputable def Z60 (n:Nat) (a0:D11) (a1:D4):Option (D4×(D4×D4)):=Z60G (run X0 n).callT a0 a1
abbrev Z83A (a0:D4) (a1:Int):List AV:=[.agg (lv3 a0),.int .i64 a1]
noncomputable def Z83G (T:CT) (a0:D4) (a1:Int):Option D1:=T 83 K0 (Z83A a0 a1)
noncomputable def Z83 (n:Nat) (a0:D4) (a1:Int):Option D1:=Z83G (run X0 n).callT a0 a1
abbrev Z84A (a0:D1) (a1:D1):List AV:=[.agg [.int .i64 a0.1,.int .i64 a0.2],.agg [.int .i64 a1.1,.int .i64 a1.2]]
noncomputable def Z84G (T:CT) (a0:D1) (a1:D1):Option D1:=T 84 K0 (Z84A a0 a1)
noncomputable def Z84 (n:Nat) (a0:D1) (a1:D1):Option D1:=Z84G (run X0 n).callT a0 a1
abbrev Z59A (a0:D11) (a1:D4):List AV:=[.agg (lv2 a0),.agg (lv3 a1)]
noncomputable def Z59G (T:CT) (a0:D11) (a1:D4):Option (D1×(D1×(D1×D1))):=T 59 (.pair K0 (.pair K0 (.pair K0 K0))) (Z59A a0 a1)
noncomputable def Z59 (n:Nat) (a0:D11) (a1:D4):Option (D1×(D1×(D1×D1))):=Z59G (run X0 n).callT a0 a1
abbrev Z58A (a0:D11) (a1:D4):List AV:=[.agg (lv2 a0),.agg (lv3 a1)]
noncomputable def Z58G (T:CT) (a0:D11) (a1:D4):Option (D6×(D6×D6)):=T 58 (.pair K5 (.pair K5 K5)) (Z58A a0 a1)
noncomputable def Z58 (n:Nat) (a0:D11) (a1:D4):Option (D6×(D6×D6)):=Z58G (run X0 n).callT a0 a1
noncomputable def Z61L3G (L:LT) (z:((Unit×(Unit×(Unit×(D6×D5))))×((D24×Unit)×((D1×Unit)×D23)))):Option (D18×Unit):=L (loopOf X0 61 3) sh61x3x0 { fn:=61,base:=0,nt:=61,loops:=[] } z
noncomputable def Z61L3 (n:Nat) (z:((Unit×(Unit×(Unit×(D6×D5))))×((D24×Unit)×((D1×Unit)×D23)))):Option (D18×Unit):=Z61L3G (run X0 n).loop z
abbrev Z61A (a0:D24) (a1:D1) (a2:D4):List AV:=[.agg [.str a0.1,.slice false K0 a0.2.1,.int .i64 a0.2.2],.agg [.int .i64 a1.1,.int .i64 a1.2],.agg (lv3 a2)]
noncomputable def Z61G (T:CT) (a0:D24) (a1:D1) (a2:D4):Option D6:=T 61 K5 (Z61A a0 a1 a2)
noncomputable def Z61 (n:Nat) (a0:D24) (a1:D1) (a2:D4):Option D6:=Z61G (run X0 n).callT a0 a1 a2
noncomputable def Z45L18G (L:LT) (z:((Unit×(Unit×D53))×D12)):Option ((Unit×((List D3)×Unit))×D50):=L (loopOf X0 45 18) sh45x18x0 { fn:=45,base:=0,nt:=142,loops:=[] } z
noncomputable def Z45L18 (n:Nat) (z:((Unit×(Unit×D53))×D12)):Option ((Unit×((List D3)×Unit))×D50):=Z45L18G (run X0 n).loop z
noncomputable def Z45L24G (L:LT) (z:((Unit×D53)×D50)):Option (((List D3)×Unit)×Unit):=L (loopOf X0 45 24) sh45x24x0 { fn:=45,base:=0,nt:=142,loops:=[] } z
noncomputable def Z45L24 (n:Nat) (z:((Unit×D53)×D50)):Option (((List D3)×Unit)×Unit):=Z45L24G (run X0 n).loop z
abbrev Z45A (a0:D0) (a1:D2):List AV:=[.agg (lv0 a0),.agg (lv1 a1)]
noncomputable def Z45G (T:CT) (a0:D0) (a1:D2):Option (List D3):=T 45 K12 (Z45A a0 a1)
noncomputable def Z45 (n:Nat) (a0:D0) (a1:D2):Option (List D3):=Z45G (run X0 n).callT a0 a1
noncomputable def Z46G (T:CT) (a0:D1):Option Bool:=T 46 .bool [.agg [.int .i64 a0.1,.int .i64 a0.2]]
noncomputable def Z46 (n:Nat) (a0:D1):Option Bool:=Z46G (run X0 n).callT a0
noncomputable def Z30L8G (L:LT) (z:(((List D3)×D9)×Unit)):Option ((D53×Unit) ⊕ D15):=L (loopOf X0 30 8) sh30x8x0 { fn:=30,base:=0,nt:=61,loops:=[] } z
noncomputable def Z30L8 (n:Nat) (z:(((List D3)×D9)×Unit)):Option ((D53×Unit) ⊕ D15):=Z30L8G (run X0 n).loop z
noncomputable def Z30L5G (L:LT) (z:(D53×Unit)):Option (D8 ⊕ D15):=L (loopOf X0 30 5) sh30x5x0 { fn:=30,base:=0,nt:=61,loops:=[] } z
noncomputable def Z30L5 (n:Nat) (z:(D53×Unit)):Option (D8 ⊕ D15):=Z30L5G (run X0 n).loop z
abbrev Z30A (a0:D0) (a1:D2):List AV:=[.agg (lv0 a0),.agg (lv1 a1)]
noncomputable def Z30G (T:CT) (a0:D0) (a1:D2):Option Bool:=T 30 .bool (Z30A a0 a1)
noncomputable def Z30 (n:Nat) (a0:D0) (a1:D2):Option Bool:=Z30G (run X0 n).callT a0 a1
abbrev Z10A (a0:D0) (a1:D2):List AV:=[.agg (lv0 a0),.agg (lv1 a1)]
noncomputable def Z10G (T:CT) (a0:D0) (a1:D2):Option Bool:=T 10 .bool (Z10A a0 a1)
noncomputable def Z10 (n:Nat) (a0:D0) (a1:D2):Option Bool:=Z10G (run X0 n).callT a0 a1
abbrev Z11A (a0:D0) (a1:D2) (a2:Int):List AV:=[.agg (lv0 a0),.agg (lv1 a1),.int .u8 a2]
noncomputable def Z11G (T:CT) (a0:D0) (a1:D2) (a2:Int):Option D0:=T 11 K1 (Z11A a0 a1 a2)
noncomputable def Z11 (n:Nat) (a0:D0) (a1:D2) (a2:Int):Option D0:=Z11G (run X0 n).callT a0 a1 a2
noncomputable def Z23G (T:CT) (a0:Int):Option (List D4):=T 23 (.slice K3) [.int .i64 a0]
noncomputable def Z23 (n:Nat) (a0:Int):Option (List D4):=Z23G (run X0 n).callT a0
abbrev Z25A (a0:D11) (a1:D4) (a2:Int) (a3:Int):List AV:=[.agg (lv2 a0),.agg (lv3 a1),.int .i64 a2,.int .i64 a3]
noncomputable def Z25G (T:CT) (a0:D11) (a1:D4) (a2:Int) (a3:Int):Option (D4×Bool):=T 25 (.pair K3 .bool) (Z25A a0 a1 a2 a3)
noncomputable def Z25 (n:Nat) (a0:D11) (a1:D4) (a2:Int) (a3:Int):Option (D4×Bool):=Z25G (run X0 n).callT a0 a1 a2 a3
noncomputable def Z18L2G (L:LT) (z:((D13×(Unit×D5))×D23)):Option (D8 ⊕ (D5×Unit)):=L (loopOf X0 18 2) sh18x2x0 { fn:=18,base:=0,nt:=20,loops:=[] } z
noncomputable def Z18L2 (n:Nat) (z:((D13×(Unit×D5))×D23)):Option (D8 ⊕ (D5×Unit)):=Z18L2G (run X0 n).loop z
abbrev Z18A (a0:List D34) (a1:D4):List AV:=[.slice false K11 a0,.agg (lv3 a1)]
noncomputable def Z18G (T:CT) (a0:List D34) (a1:D4):Option Int:=T 18 (.int .i64) (Z18A a0 a1)
noncomputable def Z18 (n:Nat) (a0:List D34) (a1:D4):Option Int:=Z18G (run X0 n).callT a0 a1
abbrev Z21A (a0:D2) (a1:Int) (a2:D4):List AV:=[.agg (lv1 a0),.int .i64 a1,.agg (lv3 a2)]
noncomputable def Z21G (T:CT) (a0:D2) (a1:Int) (a2:D4):Option D2:=T 21 K4 (Z21A a0 a1 a2)
noncomputable def Z21 (n:Nat) (a0:D2) (a1:Int) (a2:D4):Option D2:=Z21G (run X0 n).callT a0 a1 a2
abbrev Z62A (a0:D0) (a1:D2) (a2:D4):List AV:=[.agg (lv0 a0),.agg (lv1 a1),.agg (lv3 a2)]
noncomputable def Z62G (T:CT) (a0:D0) (a1:D2) (a2:D4):Option (D2×Bool):=T 62 (.pair K4 .bool) (Z62A a0 a1 a2)
noncomputable def Z62 (n:Nat) (a0:D0) (a1:D2) (a2:D4):Option (D2×Bool):=Z62G (run X0 n).callT a0 a1 a2
abbrev Z141A (a0:D3) (a1:D3):List AV:=[.agg (lv4 a0),.agg (lv4 a1)]
noncomputable def Z141G (T:CT) (a0:D3) (a1:D3):Option Bool:=T 141 .bool (Z141A a0 a1)
noncomputable def Z141 (n:Nat) (a0:D3) (a1:D3):Option Bool:=Z141G (run X0 n).callT a0 a1
noncomputable def Z113L7G (L:LT) (z:((D16×((List D3)×D9))×Unit)):Option ((D16×D53)×Unit):=L (loopOf X0 113 7) sh113x7x0 { fn:=113,base:=0,nt:=49,loops:=[] } z
noncomputable def Z113L7 (n:Nat) (z:((D16×((List D3)×D9))×Unit)):Option ((D16×D53)×Unit):=Z113L7G (run X0 n).loop z
noncomputable def Z113L4G (L:LT) (z:((D16×D53)×Unit)):Option ((D16×Unit)×Unit):=L (loopOf X0 113 4) sh113x4x0 { fn:=113,base:=0,nt:=49,loops:=[] } z
noncomputable def Z113L4 (n:Nat) (z:((D16×D53)×Unit)):Option ((D16×Unit)×Unit):=Z113L4G (run X0 n).loop z
abbrev Z113A (a0:D0) (a1:D2):List AV:=[.agg (lv0 a0),.agg (lv1 a1)]
noncomputable def Z113G (T:CT) (a0:D0) (a1:D2):Option D16:=T 113 K8 (Z113A a0 a1)
noncomputable def Z113 (n:Nat) (a0:D0) (a1:D2):Option D16:=Z113G (run X0 n).callT a0 a1
abbrev Z114A (a0:D4) (a1:D3):List AV:=[.agg (lv3 a0),.agg (lv4 a1)]
noncomputable def Z114G (T:CT) (a0:D4) (a1:D3):Option Bool:=T 114 .bool (Z114A a0 a1)
noncomputable def Z114 (n:Nat) (a0:D4) (a1:D3):Option Bool:=Z114G (run X0 n).callT a0 a1
noncomputable def Z162L3G (L:LT) (z:D33):Option ((D6×(D6×(Unit×D18)))×D56):=L (loopOf X0 162 3) sh162x3x0 { fn:=162,base:=0,nt:=64,loops:=[] } z
noncomputable def Z162L3 (n:Nat) (z:D33):Option ((D6×(D6×(Unit×D18)))×D56):=Z162L3G (run X0 n).loop z
noncomputable def Z162L7G (L:LT) (z:D33):Option ((D6×(D6×(Unit×D18)))×D56):=L (loopOf X0 162 7) sh162x7x0 { fn:=162,base:=0,nt:=64,loops:=[] } z
noncomputable def Z162L7 (n:Nat) (z:D33):Option ((D6×(D6×(Unit×D18)))×D56):=Z162L7G (run X0 n).loop z
abbrev Z179A (a0:D1) (a1:D1) (a2:D1):List AV:=[.agg [.int .i64 a0.1,.int .i64 a0.2],.agg [.int .i64 a1.1,.int .i64 a1.2],.agg [.int .i64 a2.1,.int .i64 a2.2]]
noncomputable def Z179G (T:CT) (a0:D1) (a1:D1) (a2:D1):Option D1:=T 179 K0 (Z179A a0 a1 a2)
noncomputable def Z179 (n:Nat) (a0:D1) (a1:D1) (a2:D1):Option D1:=Z179G (run X0 n).callT a0 a1 a2
noncomputable def Z162L11G (L:LT) (z:D33):Option (D18×Unit):=L (loopOf X0 162 11) sh162x11x0 { fn:=162,base:=0,nt:=64,loops:=[] } z
noncomputable def Z162L11 (n:Nat) (z:D33):Option (D18×Unit):=Z162L11G (run X0 n).loop z
abbrev Z162A (a0:D1) (a1:List D1) (a2:List D1):List AV:=[.agg [.int .i64 a0.1,.int .i64 a0.2],.slice false K0 a1,.slice false K0 a2]
noncomputable def Z162G (T:CT) (a0:D1) (a1:List D1) (a2:List D1):Option D6:=T 162 K5 (Z162A a0 a1 a2)
noncomputable def Z162 (n:Nat) (a0:D1) (a1:List D1) (a2:List D1):Option D6:=Z162G (run X0 n).callT a0 a1 a2
noncomputable def Z177L3G (L:LT) (z:((D6×D29)×(D9×D56))):Option (D20×(D9×D56)):=L (loopOf X0 177 3) sh177x3x0 { fn:=177,base:=0,nt:=47,loops:=[] } z
noncomputable def Z177L3 (n:Nat) (z:((D6×D29)×(D9×D56))):Option (D20×(D9×D56)):=Z177L3G (run X0 n).loop z
noncomputable def Z177G (T:CT) (a0:List D1):Option D1:=T 177 K0 [.slice false K0 a0]
noncomputable def Z177 (n:Nat) (a0:List D1):Option D1:=Z177G (run X0 n).callT a0
abbrev Z143A (a0:D1) (a1:D1) (a2:D1):List AV:=[.agg [.int .i64 a0.1,.int .i64 a0.2],.agg [.int .i64 a1.1,.int .i64 a1.2],.agg [.int .i64 a2.1,.int .i64 a2.2]]
noncomputable def Z143G (T:CT) (a0:D1) (a1:D1) (a2:D1):Option Int:=T 143 (.int .i64) (Z143A a0 a1 a2)
noncomputable def Z143 (n:Nat) (a0:D1) (a1:D1) (a2:D1):Option Int:=Z143G (run X0 n).callT a0 a1 a2
abbrev Z189A (a0:D1) (a1:D1):List AV:=[.agg [.int .i64 a0.1,.int .i64 a0.2],.agg [.int .i64 a1.1,.int .i64 a1.2]]
noncomputable def Z189G (T:CT) (a0:D1) (a1:D1):Option Int:=T 189 (.int .i64) (Z189A a0 a1)
noncomputable def Z189 (n:Nat) (a0:D1) (a1:D1):Option Int:=Z189G (run X0 n).callT a0 a1
noncomputable def Z178L3G (L:LT) (z:((D6×(Unit×D29))×(D9×(D9×D56)))):Option (D20×(Unit×(D9×D56))):=L (loopOf X0 178 3) sh178x3x0 { fn:=178,base:=0,nt:=62,loops:=[] } z
noncomputable def Z178L3 (n:Nat) (z:((D6×(Unit×D29))×(D9×(D9×D56)))):Option (D20×(Unit×(D9×D56))):=Z178L3G (run X0 n).loop z
abbrev Z178A (a0:List D1) (a1:D1):List AV:=[.slice false K0 a0,.agg [.int .i64 a1.1,.int .i64 a1.2]]
noncomputable def Z178G (T:CT) (a0:List D1) (a1:D1):Option D1:=T 178 K0 (Z178A a0 a1)
noncomputable def Z178 (n:Nat) (a0:List D1) (a1:D1):Option D1:=Z178G (run X0 n).callT a0 a1
noncomputable def Z161L6G (L:LT) (z:((D6×(Unit×(D6×D5)))×D56)):Option (D18×Unit):=L (loopOf X0 161 6) sh161x6x0 { fn:=161,base:=0,nt:=38,loops:=[] } z
noncomputable def Z161L6 (n:Nat) (z:((D6×(Unit×(D6×D5)))×D56)):Option (D18×Unit):=Z161L6G (run X0 n).loop z
noncomputable def Z116L8G (L:LT) (z:D35):Option (((D6×D5)×Unit) ⊕ D15):=L (loopOf X0 116 8) sh116x8x0 { fn:=116,base:=0,nt:=54,loops:=[] } z
noncomputable def Z116L8 (n:Nat) (z:D35):Option (((D6×D5)×Unit) ⊕ D15):=Z116L8G (run X0 n).loop z
noncomputable def Z116L2G (L:LT) (z:((D6×D5)×Unit)):Option ((D18×Unit) ⊕ D15):=L (loopOf X0 116 2) sh116x2x0 { fn:=116,base:=0,nt:=54,loops:=[] } z
noncomputable def Z116L2 (n:Nat) (z:((D6×D5)×Unit)):Option ((D18×Unit) ⊕ D15):=Z116L2G (run X0 n).loop z
noncomputable def Z116G (T:CT) (a0:List D1):Option Bool:=T 116 .bool [.slice false K0 a0]
noncomputable def Z116 (n:Nat) (a0:List D1):Option Bool:=Z116G (run X0 n).callT a0
noncomputable def Z161G (T:CT) (a0:List D1):Option (D6×Bool):=T 161 (.pair K5 .bool) [.slice false K0 a0]
noncomputable def Z161 (n:Nat) (a0:List D1):Option (D6×Bool):=Z161G (run X0 n).callT a0
abbrev Z142A (a0:D1) (a1:List D1) (a2:List D1):List AV:=[.agg [.int .i64 a0.1,.int .i64 a0.2],.slice false K0 a1,.slice false K0 a2]
noncomputable def Z142G (T:CT) (a0:D1) (a1:List D1) (a2:List D1):Option (D6×Bool):=T 142 (.pair K5 .bool) (Z142A a0 a1 a2)
noncomputable def Z142 (n:Nat) (a0:D1) (a1:List D1) (a2:List D1):Option (D6×Bool):=Z142G (run X0 n).callT a0 a1 a2
noncomputable def Z115L4G (L:LT) (z:D40):Option ((D20×(Unit×(Unit×(Unit×(Unit×((D3×Unit)×((D4×D18)×Unit))))))) ⊕ (D8×(Unit×(Unit×(Unit×(Unit×(Unit×((D3×Unit)×Unit)))))))):=L (loopOf X0 115 4) sh115x4x0 { fn:=115,base:=0,nt:=88,loops:=[] } z
noncomputable def Z115L4 (n:Nat) (z:D40):Option ((D20×(Unit×(Unit×(Unit×(Unit×((D3×Unit)×((D4×D18)×Unit))))))) ⊕ (D8×(Unit×(Unit×(Unit×(Unit×(Unit×((D3×Unit)×Unit)))))))):=Z115L4G (run X0 n).loop z
abbrev Z115A (a0:D0) (a1:D2) (a2:D2) (a3:D4) (a4:D3):List AV:=[.agg (lv0 a0),.agg (lv1 a1),.agg (lv1 a2),.agg (lv3 a3),.agg (lv4 a4)]
noncomputable def Z115G (T:CT) (a0:D0) (a1:D2) (a2:D2) (a3:D4) (a4:D3):Option D3:=T 115 K2 (Z115A a0 a1 a2 a3 a4)
noncomputable def Z115 (n:Nat) (a0:D0) (a1:D2) (a2:D2) (a3:D4) (a4:D3):Option D3:=Z115G (run X0 n).callT a0 a1 a2 a3 a4
noncomputable def Z86L7G (L:LT) (z:D32):Option ((D16×Unit)×Unit):=L (loopOf X0 86 7) sh86x7x0 { fn:=86,base:=0,nt:=97,loops:=[] } z
noncomputable def Z86L7 (n:Nat) (z:D32):Option ((D16×Unit)×Unit):=Z86L7G (run X0 n).loop z
abbrev Z86A (a0:D0) (a1:D2) (a2:D4):List AV:=[.agg (lv0 a0),.agg (lv1 a1),.agg (lv3 a2)]
noncomputable def Z86G (T:CT) (a0:D0) (a1:D2) (a2:D4):Option D16:=T 86 K8 (Z86A a0 a1 a2)
noncomputable def Z86 (n:Nat) (a0:D0) (a1:D2) (a2:D4):Option D16:=Z86G (run X0 n).callT a0 a1 a2
abbrev Z144A (a0:D1) (a1:D1) (a2:D1) (a3:D1):List AV:=[.agg [.int .i64 a0.1,.int .i64 a0.2],.agg [.int .i64 a1.1,.int .i64 a1.2],.agg [.int .i64 a2.1,.int .i64 a2.2],.agg [.int .i64 a3.1,.int .i64 a3.2]]
noncomputable def Z144G (T:CT) (a0:D1) (a1:D1) (a2:D1) (a3:D1):Option Bool:=T 144 .bool (Z144A a0 a1 a2 a3)
noncomputable def Z144 (n:Nat) (a0:D1) (a1:D1) (a2:D1) (a3:D1):Option Bool:=Z144G (run X0 n).callT a0 a1 a2 a3
noncomputable def Z117L8G (L:LT) (z:((D6×(Int×(Int×D48)))×Unit)):Option (D8 ⊕ D15):=L (loopOf X0 117 8) sh117x8x0 { fn:=117,base:=0,nt:=76,loops:=[] } z
noncomputable def Z117L8 (n:Nat) (z:((D6×(Int×(Int×D48)))×Unit)):Option (D8 ⊕ D15):=Z117L8G (run X0 n).loop z
abbrev Z117A (a0:List D1) (a1:Int):List AV:=[.slice false K0 a0,.int .i64 a1]
noncomputable def Z117G (T:CT) (a0:List D1) (a1:Int):Option Bool:=T 117 .bool (Z117A a0 a1)
noncomputable def Z117 (n:Nat) (a0:List D1) (a1:Int):Option Bool:=Z117G (run X0 n).callT a0 a1
noncomputable def Z87L8G (L:LT) (z:((D30×(D6×D5))×Unit)):Option ((D30×(D6×D5))×Unit):=L (loopOf X0 87 8) sh87x8x0 { fn:=87,base:=0,nt:=75,loops:=[] } z
noncomputable def Z87L8 (n:Nat) (z:((D30×(D6×D5))×Unit)):Option ((D30×(D6×D5))×Unit):=Z87L8G (run X0 n).loop z
noncomputable def Z87L6G (L:LT) (z:((D30×D18)×Unit)):Option (((D30×D18)×Unit) ⊕ ((D30×Unit)×Unit)):=L (loopOf X0 87 6) sh87x6x0 { fn:=87,base:=0,nt:=75,loops:=[] } z
noncomputable def Z87L6 (n:Nat) (z:((D30×D18)×Unit)):Option (((D30×D18)×Unit) ⊕ ((D30×Unit)×Unit)):=Z87L6G (run X0 n).loop z
noncomputable def Z87G (T:CT) (a0:List D1):Option D30:=T 87 K14 [.slice false K0 a0]
noncomputable def Z87 (n:Nat) (a0:List D1):Option D30:=Z87G (run X0 n).callT a0
abbrev Z145A (a0:List D1) (a1:Int):List AV:=[.slice false K0 a0,.int .i64 a1]
noncomputable def Z145G (T:CT) (a0:List D1) (a1:Int):Option Int:=T 145 (.int .i64) (Z145A a0 a1)
noncomputable def Z145 (n:Nat) (a0:List D1) (a1:Int):Option Int:=Z145G (run X0 n).callT a0 a1
noncomputable def Z118L2G (L:LT) (z:((D6×(Int×(D6×D5)))×Unit)):Option (D8 ⊕ D15):=L (loopOf X0 118 2) sh118x2x0 { fn:=118,base:=0,nt:=30,loops:=[] } z
noncomputable def Z118L2 (n:Nat) (z:((D6×(Int×(D6×D5)))×Unit)):Option (D8 ⊕ D15):=Z118L2G (run X0 n).loop z
abbrev Z118A (a0:List D1) (a1:Int) (a2:List D1):List AV:=[.slice false K0 a0,.int .i64 a1,.slice false K0 a2]
noncomputable def Z118G (T:CT) (a0:List D1) (a1:Int) (a2:List D1):Option Bool:=T 118 .bool (Z118A a0 a1 a2)
noncomputable def Z118 (n:Nat) (a0:List D1) (a1:Int) (a2:List D1):Option Bool:=Z118G (run X0 n).callT a0 a1 a2
noncomputable def Z88L2G (L:LT) (z:(D47×D25)):Option (((D6×(D6×D8))×D25) ⊕ ((Unit×(Bool×Unit))×D25)):=L (loopOf X0 88 2) sh88x2x0 { fn:=88,base:=0,nt:=33,loops:=[] } z
noncomputable def Z88L2 (n:Nat) (z:(D47×D25)):Option (((D6×(D6×D8))×D25) ⊕ ((Unit×(Bool×Unit))×D25)):=Z88L2G (run X0 n).loop z
noncomputable def Z88L7G (L:LT) (z:(D47×D25)):Option ((D8×D25) ⊕ ((Unit×(Bool×Unit))×D25)):=L (loopOf X0 88 7) sh88x7x0 { fn:=88,base:=0,nt:=33,loops:=[] } z
noncomputable def Z88L7 (n:Nat) (z:(D47×D25)):Option ((D8×D25) ⊕ ((Unit×(Bool×Unit))×D25)):=Z88L7G (run X0 n).loop z
abbrev Z88A (a0:List D1) (a1:List D1):List AV:=[.slice false K0 a0,.slice false K0 a1]
noncomputable def Z88G (T:CT) (a0:List D1) (a1:List D1):Option (D1×Bool):=T 88 (.pair K0 .bool) (Z88A a0 a1)
noncomputable def Z88 (n:Nat) (a0:List D1) (a1:List D1):Option (D1×Bool):=Z88G (run X0 n).callT a0 a1
noncomputable def Z180G (T:CT) (a0:Int) (a1:Int) (a2:Int):Option Bool:=T 180 .bool [.int .i64 a0,.int .i64 a1,.int .i64 a2]
noncomputable def Z180 (n:Nat) (a0:Int) (a1:Int) (a2:Int):Option Bool:=Z180G (run X0 n).callT a0 a1 a2
abbrev Z163A (a0:D1) (a1:D1) (a2:D1):List AV:=[.agg [.int .i64 a0.1,.int .i64 a0.2],.agg [.int .i64 a1.1,.int .i64 a1.2],.agg [.int .i64 a2.1,.int .i64 a2.2]]
noncomputable def Z163G (T:CT) (a0:D1) (a1:D1) (a2:D1):Option Bool:=T 163 .bool (Z163A a0 a1 a2)
noncomputable def Z163 (n:Nat) (a0:D1) (a1:D1) (a2:D1):Option Bool:=Z163G (run X0 n).callT a0 a1 a2
abbrev Z146A (a0:D1) (a1:D1) (a2:D1) (a3:D1):List AV:=[.agg [.int .i64 a0.1,.int .i64 a0.2],.agg [.int .i64 a1.1,.int .i64 a1.2],.agg [.int .i64 a2.1,.int .i64 a2.2],.agg [.int .i64 a3.1,.int .i64 a3.2]]
noncomputable def Z146G (T:CT) (a0:D1) (a1:D1) (a2:D1) (a3:D1):Option Bool:=T 146 .bool (Z146A a0 a1 a2 a3)
noncomputable def Z146 (n:Nat) (a0:D1) (a1:D1) (a2:D1) (a3:D1):Option Bool:=Z146G (run X0 n).callT a0 a1 a2 a3
noncomputable def Z147L3G (L:LT) (z:((D6×(Unit×D9))×D25)):Option ((D5×Unit) ⊕ (D5×Unit)):=L (loopOf X0 147 3) sh147x3x0 { fn:=147,base:=0,nt:=71,loops:=[] } z
noncomputable def Z147L3 (n:Nat) (z:((D6×(Unit×D9))×D25)):Option ((D5×Unit) ⊕ (D5×Unit)):=Z147L3G (run X0 n).loop z
abbrev Z147A (a0:List D1) (a1:D1):List AV:=[.slice false K0 a0,.agg [.int .i64 a1.1,.int .i64 a1.2]]
noncomputable def Z147G (T:CT) (a0:List D1) (a1:D1):Option Int:=T 147 (.int .i64) (Z147A a0 a1)
noncomputable def Z147 (n:Nat) (a0:List D1) (a1:D1):Option Int:=Z147G (run X0 n).callT a0 a1
abbrev Z119A (a0:List D1) (a1:List D1) (a2:D4):List AV:=[.slice false K0 a0,.slice false K0 a1,.agg (lv3 a2)]
noncomputable def Z119G (T:CT) (a0:List D1) (a1:List D1) (a2:D4):Option Bool:=T 119 .bool (Z119A a0 a1 a2)
noncomputable def Z119 (n:Nat) (a0:List D1) (a1:List D1) (a2:D4):Option Bool:=Z119G (run X0 n).callT a0 a1 a2
noncomputable def Z89L8G (L:LT) (z:((D6×(D6×(Unit×D48)))×D23)):Option (((D6×(D6×(Unit×D9)))×D23) ⊕ ((Unit×(Bool×Unit))×D23)):=L (loopOf X0 89 8) sh89x8x0 { fn:=89,base:=0,nt:=36,loops:=[] } z
noncomputable def Z89L8 (n:Nat) (z:((D6×(D6×(Unit×D48)))×D23)):Option (((D6×(D6×(Unit×D9)))×D23) ⊕ ((Unit×(Bool×Unit))×D23)):=Z89L8G (run X0 n).loop z
noncomputable def Z89L5G (L:LT) (z:((D6×(D6×(Unit×D9)))×D23)):Option ((D47×D23) ⊕ ((Unit×(Bool×Unit))×D23)):=L (loopOf X0 89 5) sh89x5x0 { fn:=89,base:=0,nt:=36,loops:=[] } z
noncomputable def Z89L5 (n:Nat) (z:((D6×(D6×(Unit×D9)))×D23)):Option ((D47×D23) ⊕ ((Unit×(Bool×Unit))×D23)):=Z89L5G (run X0 n).loop z
noncomputable def Z89L2G (L:LT) (z:(D47×D23)):Option ((D8×D23) ⊕ ((Unit×(Bool×Unit))×D23)):=L (loopOf X0 89 2) sh89x2x0 { fn:=89,base:=0,nt:=36,loops:=[] } z
noncomputable def Z89L2 (n:Nat) (z:(D47×D23)):Option ((D8×D23) ⊕ ((Unit×(Bool×Unit))×D23)):=Z89L2G (run X0 n).loop z
abbrev Z89A (a0:List D1) (a1:List D1):List AV:=[.slice false K0 a0,.slice false K0 a1]
noncomputable def Z89G (T:CT) (a0:List D1) (a1:List D1):Option (D4×Bool):=T 89 (.pair K3 .bool) (Z89A a0 a1)
noncomputable def Z89 (n:Nat) (a0:List D1) (a1:List D1):Option (D4×Bool):=Z89G (run X0 n).callT a0 a1
noncomputable def Z63L12G (L:LT) (z:((Unit×(Unit×(D6×(D16×(Int×(D30×(D30×D9)))))))×D14)):Option (D41 ⊕ D27):=L (loopOf X0 63 12) sh63x12x0 { fn:=63,base:=0,nt:=95,loops:=[] } z
noncomputable def Z63L12 (n:Nat) (z:((Unit×(Unit×(D6×(D16×(Int×(D30×(D30×D9)))))))×D14)):Option (D41 ⊕ D27):=Z63L12G (run X0 n).loop z
noncomputable def Z63L9G (L:LT) (z:D41):Option (((Unit×(Unit×(D6×(D16×D5))))×D14) ⊕ D27):=L (loopOf X0 63 9) sh63x9x0 { fn:=63,base:=0,nt:=95,loops:=[] } z
noncomputable def Z63L9 (n:Nat) (z:D41):Option (((Unit×(Unit×(D6×(D16×D5))))×D14) ⊕ D27):=Z63L9G (run X0 n).loop z
noncomputable def Z63L4G (L:LT) (z:((Unit×(Unit×(D6×(D16×D5))))×D14)):Option (((Unit×D18)×(Unit×(Unit×(Unit×(((Int×(D4×(Int×(Int×(Int×D4)))))×Unit)×Unit))))) ⊕ D27):=L (loopOf X0 63 4) sh63x4x0 { fn:=63,base:=0,nt:=95,loops:=[] } z
noncomputable def Z63L4 (n:Nat) (z:((Unit×(Unit×(D6×(D16×D5))))×D14)):Option (((Unit×D18)×(Unit×(Unit×(Unit×(((Int×(D4×(Int×(Int×(Int×D4)))))×Unit)×Unit))))) ⊕ D27):=Z63L4G (run X0 n).loop z
abbrev Z63A (a0:D0) (a1:D2) (a2:D4):List AV:=[.agg (lv0 a0),.agg (lv1 a1),.agg (lv3 a2)]
noncomputable def Z63G (T:CT) (a0:D0) (a1:D2) (a2:D4):Option (D6×((Int×(D4×(Int×(Int×(Int×D4)))))×Bool)):=T 63 (.pair K5 (.pair K10 .bool)) (Z63A a0 a1 a2)
noncomputable def Z63 (n:Nat) (a0:D0) (a1:D2) (a2:D4):Option (D6×((Int×(D4×(Int×(Int×(Int×D4)))))×Bool)):=Z63G (run X0 n).callT a0 a1 a2
abbrev Z48A (a0:D0) (a1:D2) (a2:D4):List AV:=[.agg (lv0 a0),.agg (lv1 a1),.agg (lv3 a2)]
noncomputable def Z48G (T:CT) (a0:D0) (a1:D2) (a2:D4):Option (D6×Bool):=T 48 (.pair K5 .bool) (Z48A a0 a1 a2)
noncomputable def Z48 (n:Nat) (a0:D0) (a1:D2) (a2:D4):Option (D6×Bool):=Z48G (run X0 n).callT a0 a1 a2
abbrev Z33A (a0:D0) (a1:D2) (a2:D4):List AV:=[.agg (lv0 a0),.agg (lv1 a1),.agg (lv3 a2)]
noncomputable def Z33G (T:CT) (a0:D0) (a1:D2) (a2:D4):Option Bool:=T 33 .bool (Z33A a0 a1 a2)
noncomputable def Z33 (n:Nat) (a0:D0) (a1:D2) (a2:D4):Option Bool:=Z33G (run X0 n).callT a0 a1 a2
noncomputable def Z13L7G (L:LT) (z:D54):Option (D42 ⊕ ((D13×(Bool×Unit))×Unit)):=L (loopOf X0 13 7) sh13x7x0 { fn:=13,base:=0,nt:=93,loops:=[] } z
noncomputable def Z13L7 (n:Nat) (z:D54):Option (D42 ⊕ ((D13×(Bool×Unit))×Unit)):=Z13L7G (run X0 n).loop z
noncomputable def Z13L4G (L:LT) (z:D42):Option (((D13×Unit)×Unit) ⊕ ((D13×(Bool×Unit))×Unit)):=L (loopOf X0 13 4) sh13x4x0 { fn:=13,base:=0,nt:=93,loops:=[] } z
noncomputable def Z13L4 (n:Nat) (z:D42):Option (((D13×Unit)×Unit) ⊕ ((D13×(Bool×Unit))×Unit)):=Z13L4G (run X0 n).loop z
abbrev Z13A (a0:D0) (a1:D2) (a2:Int) (a3:Int):List AV:=[.agg (lv0 a0),.agg (lv1 a1),.int .i64 a2,.int .i64 a3]
noncomputable def Z13G (T:CT) (a0:D0) (a1:D2) (a2:Int) (a3:Int):Option (D13×Bool):=T 13 (.pair K6 .bool) (Z13A a0 a1 a2 a3)
noncomputable def Z13 (n:Nat) (a0:D0) (a1:D2) (a2:Int) (a3:Int):Option (D13×Bool):=Z13G (run X0 n).callT a0 a1 a2 a3
noncomputable def Z14L4G (L:LT) (z:((D13×(D13×D5))×Unit)):Option (D8 ⊕ D15):=L (loopOf X0 14 4) sh14x4x0 { fn:=14,base:=0,nt:=26,loops:=[] } z
noncomputable def Z14L4 (n:Nat) (z:((D13×(D13×D5))×Unit)):Option (D8 ⊕ D15):=Z14L4G (run X0 n).loop z
abbrev Z14A (a0:List D34) (a1:List D34):List AV:=[.slice false K11 a0,.slice false K11 a1]
noncomputable def Z14G (T:CT) (a0:List D34) (a1:List D34):Option Bool:=T 14 .bool (Z14A a0 a1)
noncomputable def Z14 (n:Nat) (a0:List D34) (a1:List D34):Option Bool:=Z14G (run X0 n).callT a0 a1
noncomputable def Z17L2G (L:LT) (z:((D13×(Int×((List D4)×Unit)))×Unit)):Option (((List D4)×Unit)×Unit):=L (loopOf X0 17 2) sh17x2x0 { fn:=17,base:=0,nt:=28,loops:=[] } z
noncomputable def Z17L2 (n:Nat) (z:((D13×(Int×((List D4)×Unit)))×Unit)):Option (((List D4)×Unit)×Unit):=Z17L2G (run X0 n).loop z
abbrev Z17A (a0:List D34) (a1:Int):List AV:=[.slice false K11 a0,.int .i64 a1]
noncomputable def Z17G (T:CT) (a0:List D34) (a1:Int):Option (List D4):=T 17 (.slice K3) (Z17A a0 a1)
noncomputable def Z17 (n:Nat) (a0:List D34) (a1:Int):Option (List D4):=Z17G (run X0 n).callT a0 a1
noncomputable def Z3L12G (L:LT) (z:((Bool×(D13×D5))×Unit)):Option (D15 ⊕ D15):=L (loopOf X0 3 12) sh3x12x0 { fn:=3,base:=0,nt:=119,loops:=[] } z
noncomputable def Z3L12 (n:Nat) (z:((Bool×(D13×D5))×Unit)):Option (D15 ⊕ D15):=Z3L12G (run X0 n).loop z
abbrev Z3A (a0:Int) (a1:Int) (a2:Int) (a3:Int) (a4:Int) (a5:Int) (a6:Int) (a7:Int) (a8:Int) (a9:Int) (a10:Int) (a11:Int) (a12:Int) (a13:Int) (a14:Int) (a15:Int) (a16:Int) (a17:Int) (a18:Int) (a19:Int) (a20:Int) (a21:Int) (a22:Int) (a23:Int) (a24:Int) (a25:Int) (a26:Int) (a27:Int) (a28:Int) (a29:Int) (a30:List D6) (a31:List D46) (a32:List D24) (a33:List Int) (a34:Int) (a35:Int) (a36:Int) (a37:Int) (a38:Int) (a39:Int) (a40:Int) (a41:List D6) (a42:Int) (a43:Int) (a44:Int) (a45:Int) (a46:Int) (a47:Int) (a48:Int) (a49:Int) (a50:Int) (a51:Int) (a52:List Int) (a53:Int) (a54:Int) (a55:Int):List AV:=[.agg [.int .i64 a0,.int .i64 a1,.int .i64 a2,.int .i64 a3,.int .i64 a4,.int .i64 a5,.int .i64 a6,.int .i64 a7,.int .i64 a8,.int .i64 a9,.int .i64 a10,.int .i64 a11,.int .i64 a12,.int .i64 a13,.int .i64 a14,.int .i64 a15,.int .i64 a16,.int .i64 a17,.int .i64 a18,.int .i64 a19,.int .i64 a20,.int .i64 a21,.int .i64 a22,.int .i64 a23,.int .i64 a24,.int .i64 a25,.int .i64 a26,.int .i64 a27,.int .i64 a28,.int .i64 a29,.slice false K5 a30,.slice false K9 a31,.slice false K7 a32,.slice false (.int .i64) a33,.int .i64 a34,.int .i64 a35,.int .i64 a36,.int .i64 a37,.int .i64 a38,.int .i64 a39,.int .i64 a40,.slice false K5 a41,.int .i64 a42,.int .i64 a43],.agg [.int .i64 a44,.int .i64 a45,.int .i64 a46,.int .i64 a47,.int .i64 a48,.int .i64 a49,.int .i64 a50,.int .i64 a51,.slice false (.int .i64) a52],.int .u8 a53,.int .u8 a54,.int .u8 a55]
noncomputable def Z3G (T:CT) (a0:Int) (a1:Int) (a2:Int) (a3:Int) (a4:Int) (a5:Int) (a6:Int) (a7:Int) (a8:Int) (a9:Int) (a10:Int) (a11:Int) (a12:Int) (a13:Int) (a14:Int) (a15:Int) (a16:Int) (a17:Int) (a18:Int) (a19:Int) (a20:Int) (a21:Int) (a22:Int) (a23:Int) (a24:Int) (a25:Int) (a26:Int) (a27:Int) (a28:Int) (a29:Int) (a30:List D6) (a31:List D46) (a32:List D24) (a33:List Int) (a34:Int) (a35:Int) (a36:Int) (a37:Int) (a38:Int) (a39:Int) (a40:Int) (a41:List D6) (a42:Int) (a43:Int) (a44:Int) (a45:Int) (a46:Int) (a47:Int) (a48:Int) (a49:Int) (a50:Int) (a51:Int) (a52:List Int) (a53:Int) (a54:Int) (a55:Int):Option Bool:=T 3 .bool (Z3A a0 a1 a2 a3 a4 a5 a6 a7 a8 a9 a10 a11 a12 a13 a14 a15 a16 a17 a18 a19 a20 a21 a22 a23 a24 a25 a26 a27 a28 a29 a30 a31 a32 a33 a34 a35 a36 a37 a38 a39 a40 a41 a42 a43 a44 a45 a46 a47 a48 a49 a50 a51 a52 a53 a54 a55)
noncomputable def Z3 (n:Nat) (a0:Int) (a1:Int) (a2:Int) (a3:Int) (a4:Int) (a5:Int) (a6:Int) (a7:Int) (a8:Int) (a9:Int) (a10:Int) (a11:Int) (a12:Int) (a13:Int) (a14:Int) (a15:Int) (a16:Int) (a17:Int) (a18:Int) (a19:Int) (a20:Int) (a21:Int) (a22:Int) (a23:Int) (a24:Int) (a25:Int) (a26:Int) (a27:Int) (a28:Int) (a29:Int) (a30:List D6) (a31:List D46) (a32:List D24) (a33:List Int) (a34:Int) (a35:Int) (a36:Int) (a37:Int) (a38:Int) (a39:Int) (a40:Int) (a41:List D6) (a42:Int) (a43:Int) (a44:Int) (a45:Int) (a46:Int) (a47:Int) (a48:Int) (a49:Int) (a50:Int) (a51:Int) (a52:List Int) (a53:Int) (a54:Int) (a55:Int):Option Bool:=Z3G (run X0 n).callT a0 a1 a2 a3 a4 a5 a6 a7 a8 a9 a10 a11 a12 a13 a14 a15 a16 a17 a18 a19 a20 a21 a22 a23 a24 a25 a26 a27 a28 a29 a30 a31 a32 a33 a34 a35 a36 a37 a38 a39 a40 a41 a42 a43 a44 a45 a46 a47 a48 a49 a50 a51 a52 a53 a54 a55
end Go.Rm
