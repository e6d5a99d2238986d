import Derived.Test.YtipafalnnbojkaaGreatProg
import Derived.KernelRfl
import Derived.Test.YtipafalnnbojkaaGreatPA
import Derived.Test.YtipafalnnbojkaaGreatPC
set_option linter.unusedVariables false
set_option linter.unusedSimpArgs false
set_option linter.unnecessarySimpa false
set_option linter.unusedSectionVars false
set_option maxRecDepth 100000
set_option linter.unusedVariables false
namespace Go.Jm
open Go Go.Am Go.Proofs
abbrev K0:Ty:=(.pair (.int .i64) (.int .i64))
abbrev K3:Ty:=(.pair (.int .i64) K0)
abbrev K5:Ty:=(.slice K0)
abbrev K11:Ty:=(.slice K5)
abbrev K9:Ty:=(.pair .str (.pair K0 K3))
abbrev K7:Ty:=(.pair .str (.pair K5 (.int .i64)))
abbrev K1:Ty:=(.pair (.pair (.pair K0 (.pair K3 (.pair (.int .i64) (.pair K3 K3)))) (.pair K0 (.pair K3 (.pair (.int .i64) (.pair K3 K3))))) (.pair (.pair K3 K3) (.pair K11 (.pair (.slice K9) (.pair (.slice K7) (.pair (.slice (.int .i64)) (.pair (.int .i64) (.pair K3 (.pair K3 (.pair K11 K0))))))))))
abbrev K2:Ty:=(.pair (.int .i64) (.pair (.int .i64) (.pair (.int .i64) K5)))
abbrev K4:Ty:=(.pair (.pair K3 K3) (.pair K0 (.slice (.int .i64))))
abbrev K6:Ty:=(.pair (.int .i64) (.pair K3 (.pair (.int .i64) (.pair (.int .i64) (.pair (.int .i64) K3)))))
abbrev K8:Ty:=(.slice (.pair K2 K2))
abbrev K10:Ty:=(.slice K2)
abbrev D1:Type:=(Int×Int)
abbrev D5:Type:=(Int×D1)
abbrev D11:Type:=(D1×(D5×(Int×(D5×D5))))
abbrev D6:Type:=(List D1)
abbrev D44:Type:=(List D6)
abbrev D52:Type:=(ByteArray×(D1×D5))
abbrev D28:Type:=(ByteArray×(D6×Int))
abbrev D0:Type:=((D11×D11)×((D5×D5)×(D44×((List D52)×((List D28)×((List Int)×(Int×(D5×(D5×(D44×D1))))))))))
abbrev D2:Type:=((D5×D5)×(D1×(List Int)))
abbrev D3:Type:=(Int×(Int×(Int×D6)))
abbrev D4:Type:=(Int×Unit)
abbrev D24:Type:=(D0×Unit)
abbrev D26:Type:=(D2×Unit)
abbrev D12:Type:=(Bool×Unit)
abbrev D59:Type:=(D3×D3)
abbrev D14:Type:=(List D59)
abbrev D7:Type:=(D24×(D26×((D5×Unit)×(((Int×(D5×(Int×(Int×(Int×D5)))))×Unit)×(D12×((D14×Unit)×Unit))))))
abbrev D13:Type:=(D6×Unit)
abbrev D8:Type:=(D24×(D26×((D5×Unit)×(D13×(D12×(D26×(D13×((D14×Unit)×Unit))))))))
abbrev D9:Type:=(Unit×Unit)
abbrev D10:Type:=(Int×D4)
abbrev D15:Type:=(D24×(D26×Unit))
abbrev D16:Type:=(Unit×(Unit×((D5×Unit)×(((Int×(D5×(Int×(Int×(Int×D5)))))×Unit)×Unit))))
abbrev D17:Type:=(D1×Unit)
abbrev D18:Type:=(Unit×D9)
abbrev D19:Type:=(D9×(Int×(D44×(Int×(D6×(D14×(Int×(Int×(D44×(Int×(Int×(D44×D10))))))))))))
abbrev D20:Type:=(D12×Unit)
abbrev D21:Type:=(D9×(Int×(D44×(D14×(Int×(Int×(D44×D10)))))))
abbrev D22:Type:=(List D3)
abbrev D38:Type:=(D13×Unit)
abbrev D23:Type:=(D13×(D4×(((D1×D1)×Unit)×D38)))
abbrev D25:Type:=((D5×Unit)×Unit)
abbrev D27:Type:=(D9×(Unit×(D6×D10)))
abbrev D29:Type:=(Unit×(Unit×(Unit×(((Int×(D5×(Int×(Int×(Int×D5)))))×Unit)×Unit))))
abbrev D30:Type:=(((Unit×D18)×(D18×(D14×(D14×D10))))×(Unit×(Unit×(Unit×(Unit×(D17×((D22×Unit)×D25)))))))
abbrev D61:Type:=(D6×D4)
abbrev D45:Type:=(D10×Unit)
abbrev D31:Type:=((D6×(D6×(Unit×D61)))×D45)
abbrev D32:Type:=(D6×(D4×((D18×Unit)×(Unit×(D4×(D4×(Unit×(Unit×D13))))))))
abbrev D33:Type:=(Int×D10)
abbrev D34:Type:=((D6×(Unit×(Unit×(Unit×D10))))×(D13×((D5×Unit)×D20)))
abbrev D35:Type:=(Unit×(Unit×D4))
abbrev D36:Type:=((((D5×D5)×D1)×((List Int)×Unit))×((((D5×D5)×D1)×((List Int)×Unit))×Unit))
abbrev D37:Type:=(D9×(Unit×(D22×(Unit×(D22×(Int×(Int×(D22×D10))))))))
abbrev D39:Type:=((D9×(Unit×(D22×(D22×D10))))×(D24×(D26×((D14×Unit)×(D24×(D26×D9))))))
abbrev D40:Type:=(D17×Unit)
abbrev D41:Type:=((Unit×(Unit×(Unit×(D14×(Unit×(D14×D4))))))×(D24×(D26×((D5×Unit)×(D26×Unit)))))
abbrev D42:Type:=(D24×(D26×((D22×Unit)×D15)))
abbrev D43:Type:=((D9×(Unit×(D22×(D22×D10))))×(D24×(D26×(D12×(D24×(D26×D9))))))
abbrev D46:Type:=((D9×(Unit×(Unit×(D6×D10))))×(D17×D40))
abbrev D47:Type:=((Unit×(Unit×(Unit×(D22×D4))))×(Unit×(Unit×(Unit×(Unit×((D3×Unit)×((D5×D13)×D40)))))))
abbrev D48:Type:=((D6×D33)×Unit)
abbrev D49:Type:=((Unit×(Unit×(D6×(D14×(Int×(D44×(D44×D4)))))))×D16)
abbrev D50:Type:=(D6×(D4×((D18×Unit)×(Unit×(D4×(D4×(D6×D45)))))))
abbrev D51:Type:=((Unit×(Unit×(Unit×(D22×D10))))×(D17×((D22×Unit)×((D3×Unit)×((D5×D13)×Unit)))))
abbrev D53:Type:=(D24×(D26×(Unit×((D3×Unit)×Unit))))
abbrev D54:Type:=((D6×D10)×Unit)
abbrev D55:Type:=(D6×(D6×(Unit×D4)))
abbrev D56:Type:=(List ByteArray)
abbrev D57:Type:=(D6×(D4×((D18×Unit)×(D6×(D4×(D4×Unit))))))
abbrev D58:Type:=(D6×(D4×((D18×Unit)×(D6×(D4×(D4×D45))))))
abbrev D60:Type:=((D6×(Bool×(Int×(Unit×(Unit×D33)))))×(D6×(D4×((D18×Unit)×D13))))
abbrev D62:Type:=((Int×(D5×(Int×(Int×(Int×D5)))))×Bool)
abbrev D63:Type:=(Int×(Int×(Int×(Int×D33))))
abbrev D64:Type:=(D13×((D5×Unit)×(D12×D23)))
abbrev D65:Type:=(D13×((D5×Unit)×(D12×D38)))
abbrev lv0 (x:D0):List AV:=[.int .i64 x.1.1.1.1,.int .i64 x.1.1.1.2,.int .i64 x.1.1.2.1.1,.int .i64 x.1.1.2.1.2.1,.int .i64 x.1.1.2.1.2.2,.int .i64 x.1.1.2.2.1,.int .i64 x.1.1.2.2.2.1.1,.int .i64 x.1.1.2.2.2.1.2.1,.int .i64 x.1.1.2.2.2.1.2.2,.int .i64 x.1.1.2.2.2.2.1,.int .i64 x.1.1.2.2.2.2.2.1,.int .i64 x.1.1.2.2.2.2.2.2,.int .i64 x.1.2.1.1,.int .i64 x.1.2.1.2,.int .i64 x.1.2.2.1.1,.int .i64 x.1.2.2.1.2.1,.int .i64 x.1.2.2.1.2.2,.int .i64 x.1.2.2.2.1,.int .i64 x.1.2.2.2.2.1.1,.int .i64 x.1.2.2.2.2.1.2.1,.int .i64 x.1.2.2.2.2.1.2.2,.int .i64 x.1.2.2.2.2.2.1,.int .i64 x.1.2.2.2.2.2.2.1,.int .i64 x.1.2.2.2.2.2.2.2,.int .i64 x.2.1.1.1,.int .i64 x.2.1.1.2.1,.int .i64 x.2.1.1.2.2,.int .i64 x.2.1.2.1,.int .i64 x.2.1.2.2.1,.int .i64 x.2.1.2.2.2,.slice false K5 x.2.2.1,.slice false K9 x.2.2.2.1,.slice false K7 x.2.2.2.2.1,.slice false (.int .i64) x.2.2.2.2.2.1,.int .i64 x.2.2.2.2.2.2.1,.int .i64 x.2.2.2.2.2.2.2.1.1,.int .i64 x.2.2.2.2.2.2.2.1.2.1,.int .i64 x.2.2.2.2.2.2.2.1.2.2,.int .i64 x.2.2.2.2.2.2.2.2.1.1,.int .i64 x.2.2.2.2.2.2.2.2.1.2.1,.int .i64 x.2.2.2.2.2.2.2.2.1.2.2,.slice false K5 x.2.2.2.2.2.2.2.2.2.1,.int .i64 x.2.2.2.2.2.2.2.2.2.2.1,.int .i64 x.2.2.2.2.2.2.2.2.2.2.2]
abbrev lv1 (x:D2):List AV:=[.int .i64 x.1.1.1,.int .i64 x.1.1.2.1,.int .i64 x.1.1.2.2,.int .i64 x.1.2.1,.int .i64 x.1.2.2.1,.int .i64 x.1.2.2.2,.int .i64 x.2.1.1,.int .i64 x.2.1.2,.slice false (.int .i64) x.2.2]
abbrev lv2 (x:D11):List AV:=[.int .i64 x.1.1,.int .i64 x.1.2,.int .i64 x.2.1.1,.int .i64 x.2.1.2.1,.int .i64 x.2.1.2.2,.int .i64 x.2.2.1,.int .i64 x.2.2.2.1.1,.int .i64 x.2.2.2.1.2.1,.int .i64 x.2.2.2.1.2.2,.int .i64 x.2.2.2.2.1,.int .i64 x.2.2.2.2.2.1,.int .i64 x.2.2.2.2.2.2]
abbrev lv3 (x:D5):List AV:=[.int .i64 x.1,.int .i64 x.2.1,.int .i64 x.2.2]
abbrev lv4 (x:D3):List AV:=[.int .i64 x.1,.int .i64 x.2.1,.int .i64 x.2.2.1,.slice false K0 x.2.2.2]
abbrev dd (t:Ty):AT:=.base (.data false t)
abbrev di:AT:=dd (.int .i64)
abbrev db:AT:=dd .bool
abbrev pt (c:Nat):AT:=.base (.ptr c 0)
abbrev tp (l:List (Tmp×AT)):Tpl:={ tmps:=l,heap:=[] }
abbrev CT:Type:=(g:FuncId)→(t:Ty)→List AV→Option t.den
abbrev LT:Type:=Code→(sh:Shape)→Amb→sh.head.ty.den→Option (exitsTy sh.exits).den
def sh17x4x0:Shape:={ head:={ tmps:=[(2,(pt 0)),(3,(pt 1)),(5,di)],heap:=[.pre K4 [],.pre K4 []] },exits:=[(.exit 0,(tp [])),(.ret,(tp [(4,db)]))] }
def sh18x4x0:Shape:={ head:=(tp [(0,(dd K5)),(1,(dd K5)),(5,di)]),exits:=[(.exit 0,(tp [])),(.ret,(tp [(4,db)]))] }
def sh19x4x0:Shape:={ head:=(tp [(0,(dd K8)),(1,(dd K8)),(5,di)]),exits:=[(.exit 0,(tp [])),(.ret,(tp [(4,db)]))] }
def sh20x10x0:Shape:={ head:={ tmps:=[(11,.func (.func 45) [] [.ptr 5 0,.ptr 4 0]),(12,.func (.func 91) [] [.ptr 6 0]),(13,.base (.data true K8)),(47,(dd K8)),(48,di),(49,di)],heap:=[.empty,.empty,.empty,.empty,.pre K0 [],.var [(dd K10)],.pre K3 []] },exits:=[(.exit 0,(tp [(13,.base (.data true K8))]))] }
def sh21x7x0:Shape:={ head:={ tmps:=[(3,(pt 0)),(4,(pt 1)),(5,(pt 2)),(7,.base (.data true K8)),(8,(pt 3)),(10,(dd K8)),(11,di)],heap:=[.pre K1 [],.pre K4 [],.pre K3 [],.pre K4 []] },exits:=[(.exit 0,(tp [(7,.base (.data true K8))]))] }
def sh23x5x0:Shape:={ head:=(tp [(5,(dd K10)),(6,di)]),exits:=[(.exit 0,(tp [])),(.ret,(tp [(4,db)]))] }
def sh23x8x0:Shape:={ head:=(tp [(5,(dd K10)),(6,di),(7,di)]),exits:=[(.exit 2,(tp [(5,(dd K10)),(6,di)])),(.ret,(tp [(4,db)]))] }
def sh31x6x0:Shape:={ head:=(tp [(4,.base (.data true K11)),(5,(dd K5))]),exits:=[(.exit 0,(tp [(4,.base (.data true K11)),(5,(dd K5))])),(.ret,(tp [(2,.base (.data true K11))]))] }
def sh31x8x0:Shape:={ head:=(tp [(4,.base (.data true K11)),(5,(dd K5)),(6,di)]),exits:=[(.exit 2,(tp [(4,.base (.data true K11)),(5,(dd K5)),(6,di)]))] }
def sh36x3x0:Shape:={ head:={ tmps:=[(1,(pt 0)),(2,(pt 1)),(3,(pt 2)),(4,di)],heap:=[.pre K1 [],.pre (.pair (.pair K3 K3) K0) [.base (.data true (.slice (.int .i64)))],.pre (.pair (.pair K3 K3) K0) [.base (.data true (.slice (.int .i64)))]] },exits:=[(.exit 0,{ tmps:=[(2,(pt 1)),(3,(pt 2))],heap:=[.empty,.pre (.pair (.pair K3 K3) K0) [.base (.data true (.slice (.int .i64)))],.pre (.pair (.pair K3 K3) K0) [.base (.data true (.slice (.int .i64)))]] })] }
def sh37x2x0:Shape:={ head:={ tmps:=[(1,(pt 0)),(3,di)],heap:=[.pre K1 []] },exits:=[(.exit 0,{ tmps:=[(1,(pt 0))],heap:=[.pre K1 []] }),(.ret,(tp [(2,db)]))] }
def sh41x2x0:Shape:={ head:={ tmps:=[(0,(dd K5)),(1,(dd K5)),(4,(pt 0)),(5,(pt 1)),(13,.base (.agg (.pair K5 K5))),(14,di)],heap:=[.pre K0 [],.var [db]] },exits:=[(.exit 0,{ tmps:=[(4,(pt 0)),(5,(pt 1))],heap:=[.pre K0 [],.var [db]] }),(.ret,{ tmps:=[(4,(pt 0)),(5,(pt 1))],heap:=[.pre K0 [],.var [db]] })] }
def sh42x4x0:Shape:={ head:={ tmps:=[(5,(pt 2)),(7,(pt 3)),(9,.base (.data true K5)),(10,(dd K8)),(11,di)],heap:=[.empty,.empty,.pre K3 [],.pre K6 []] },exits:=[(.exit 0,{ tmps:=[(7,(pt 3)),(9,.base (.data true K5))],heap:=[.empty,.empty,.empty,.pre K6 []] }),(.ret,{ tmps:=[(6,.base (.data true K5)),(7,(pt 3)),(8,db)],heap:=[.empty,.empty,.empty,.pre K6 []] })] }
def sh42x9x0:Shape:={ head:={ tmps:=[(5,(pt 2)),(7,(pt 3)),(9,.base (.data true K5)),(10,(dd K8)),(11,di),(12,.base (.data true K11)),(13,.base (.data true K11)),(14,di)],heap:=[.empty,.empty,.pre K3 [],.pre K6 []] },exits:=[(.exit 2,{ tmps:=[(5,(pt 2)),(7,(pt 3)),(9,.base (.data true K5)),(10,(dd K8)),(11,di)],heap:=[.empty,.empty,.pre K3 [],.pre K6 []] }),(.ret,{ tmps:=[(6,.base (.data true K5)),(7,(pt 3)),(8,db)],heap:=[.empty,.empty,.empty,.pre K6 []] })] }
def sh42x12x0:Shape:={ head:={ tmps:=[(5,(pt 2)),(7,(pt 3)),(9,.base (.data true K5)),(10,(dd K8)),(11,di),(12,.base (.data true K11)),(13,.base (.data true K11)),(14,di),(15,di)],heap:=[.empty,.empty,.pre K3 [],.pre K6 []] },exits:=[(.exit 4,{ tmps:=[(5,(pt 2)),(7,(pt 3)),(9,.base (.data true K5)),(10,(dd K8)),(11,di),(12,.base (.data true K11)),(13,.base (.data true K11)),(14,di)],heap:=[.empty,.empty,.pre K3 [],.pre K6 []] }),(.ret,{ tmps:=[(6,.base (.data true K5)),(7,(pt 3)),(8,db)],heap:=[.empty,.empty,.empty,.pre K6 []] })] }
def sh43x10x0:Shape:={ head:={ tmps:=[(0,(dd K5)),(3,(pt 0)),(4,(pt 1)),(5,(pt 2)),(33,di),(34,di)],heap:=[.var [(dd K5)],.pre K3 [],.var [db]] },exits:=[(.exit 4,{ tmps:=[(0,(dd K5)),(3,(pt 0)),(4,(pt 1)),(5,(pt 2))],heap:=[.var [(dd K5)],.pre K3 [],.var [db]] }),(.ret,{ tmps:=[(4,(pt 1)),(5,(pt 2))],heap:=[.empty,.pre K3 [],.var [db]] })] }
def sh43x16x0:Shape:={ head:={ tmps:=[(0,(dd K5)),(3,(pt 0)),(4,(pt 1)),(5,(pt 2)),(45,di),(46,di)],heap:=[.var [(dd K5)],.pre K3 [],.var [db]] },exits:=[(.exit 6,{ tmps:=[(4,(pt 1)),(5,(pt 2))],heap:=[.empty,.pre K3 [],.var [db]] }),(.ret,{ tmps:=[(4,(pt 1)),(5,(pt 2))],heap:=[.empty,.pre K3 [],.var [db]] })] }
def sh45x2x0:Shape:={ head:={ tmps:=[(2,(pt 0)),(3,(pt 2)),(4,(pt 3)),(7,(dd K10)),(8,di),(9,di)],heap:=[.pre K0 [],.var [(dd K10)],.pre K2 [],.pre K3 [.base (.data true K5)]] },exits:=[(.exit 0,{ tmps:=[(3,(pt 2)),(4,(pt 3))],heap:=[.pre K0 [],.var [(dd K10)],.pre K2 [],.pre K3 [.base (.data true K5)]] })] }
def sh47x6x0:Shape:={ head:={ tmps:=[(1,(dd K5)),(2,(dd K5)),(8,.func (.func 88) [.agg K0] []),(9,.base (.data true K5)),(24,di),(25,di)],heap:=[] },exits:=[(.exit 0,(tp [(1,(dd K5)),(2,(dd K5)),(9,.base (.data true K5))]))] }
def sh50x4x0:Shape:={ head:=(tp [(5,.base (.data true K8)),(6,(dd K10)),(7,di)]),exits:=[(.exit 0,(tp [(5,.base (.data true K8))]))] }
def sh50x7x0:Shape:={ head:=(tp [(5,.base (.data true K8)),(6,(dd K10)),(7,di),(8,di)]),exits:=[(.exit 2,(tp [(5,.base (.data true K8)),(6,(dd K10)),(7,di)]))] }
def sh51x4x0:Shape:={ head:={ tmps:=[(9,(pt 4)),(10,(pt 5)),(11,(pt 6)),(12,(dd K10)),(13,di)],heap:=[.empty,.empty,.empty,.empty,.pre K2 [],.pre K3 [.base (.data true K5)],.pre K0 []] },exits:=[(.exit 0,{ tmps:=[(9,(pt 4)),(10,(pt 5))],heap:=[.empty,.empty,.empty,.empty,.pre K2 [],.pre K3 [.base (.data true K5)]] }),(.ret,{ tmps:=[(10,(pt 5))],heap:=[.empty,.empty,.empty,.empty,.empty,.pre K2 []] })] }
def sh53x4x0:Shape:={ head:={ tmps:=[(2,(pt 0)),(3,(pt 1)),(5,di)],heap:=[.pre K1 [],.pre K4 []] },exits:=[(.exit 0,{ tmps:=[(2,(pt 0)),(3,(pt 1))],heap:=[.pre K1 [],.pre K4 []] }),(.ret,(tp [(4,db)]))] }
def sh53x10x0:Shape:={ head:={ tmps:=[(2,(pt 0)),(3,(pt 1)),(7,di)],heap:=[.pre K1 [],.pre K4 []] },exits:=[(.exit 2,(tp [])),(.ret,(tp [(4,db)]))] }
def sh53x15x0:Shape:={ head:={ tmps:=[(2,(pt 0)),(3,(pt 1)),(7,di),(8,di)],heap:=[.pre K1 [],.pre K4 []] },exits:=[(.exit 4,{ tmps:=[(2,(pt 0)),(3,(pt 1)),(7,di)],heap:=[.pre K1 [],.pre K4 []] }),(.ret,(tp [(4,db)]))] }
def sh54x18x0:Shape:={ head:={ tmps:=[(2,(pt 0)),(3,(pt 1)),(5,.base (.data true K10)),(12,di)],heap:=[.pre K1 [],.pre K4 []] },exits:=[(.exit 6,{ tmps:=[(2,(pt 0)),(5,.base (.data true K10))],heap:=[.pre K1 []] })] }
def sh54x24x0:Shape:={ head:={ tmps:=[(2,(pt 0)),(5,.base (.data true K10)),(14,di)],heap:=[.pre K1 []] },exits:=[(.exit 8,(tp [(5,.base (.data true K10))]))] }
def sh64x4x0:Shape:={ head:=(tp [(0,(dd K5)),(1,(dd K5)),(5,di)]),exits:=[(.exit 0,(tp [])),(.ret,(tp [(4,db)]))] }
def sh65x2x0:Shape:={ head:=(tp [(0,(dd K5)),(3,di)]),exits:=[(.exit 0,(tp [(0,(dd K5))])),(.ret,(tp [(2,db)]))] }
def sh65x8x0:Shape:={ head:=(tp [(0,(dd K5)),(3,di),(4,di),(5,di)]),exits:=[(.exit 2,(tp [(0,(dd K5)),(3,di)])),(.ret,(tp [(2,db)]))] }
def sh66x8x0:Shape:={ head:=(tp [(0,(dd K5)),(1,di),(5,di),(6,di),(7,di),(9,di)]),exits:=[(.exit 0,(tp [])),(.ret,(tp [(4,db)]))] }
def sh73x4x0:Shape:={ head:=(tp [(0,(dd K11)),(3,di)]),exits:=[(.exit 0,(tp [])),(.ret,(tp [(2,db)]))] }
def sh74x3x0:Shape:={ head:={ tmps:=[(1,(pt 0)),(3,.base (.data true K11)),(4,di)],heap:=[.pre K1 []] },exits:=[(.exit 0,(tp [(3,.base (.data true K11))]))] }
def sh75x3x0:Shape:={ head:=(tp [(0,(dd (.slice K9))),(3,.base (.data true (.slice .str))),(4,di)]),exits:=[(.exit 0,(tp [(0,(dd (.slice K9))),(3,.base (.data true (.slice .str)))])),(.ret,(tp [(2,db)]))] }
def sh76x4x0:Shape:={ head:=(tp [(0,(dd (.slice K7))),(1,di),(5,.base (.data true (.slice .str))),(6,.base (.data true (.slice (.int .i64)))),(7,di)]),exits:=[(.exit 0,(tp [(0,(dd (.slice K7))),(1,di),(5,.base (.data true (.slice .str))),(6,.base (.data true (.slice (.int .i64))))])),(.ret,(tp [(4,db)]))] }
def sh77x2x0:Shape:={ head:=(tp [(0,(dd (.slice (.int .i64)))),(1,di),(5,di)]),exits:=[(.exit 0,(tp [])),(.ret,(tp [(4,db)]))] }
def sh77x7x0:Shape:={ head:=(tp [(0,(dd (.slice (.int .i64)))),(1,di),(5,di),(6,di)]),exits:=[(.exit 2,(tp [(0,(dd (.slice (.int .i64)))),(1,di),(5,di)])),(.ret,(tp [(4,db)]))] }
def sh79x1x0:Shape:={ head:={ tmps:=[(0,.func (.yield 0) [] []),(10,(dd K8)),(11,di),(12,di)],heap:=[.pre K1 [],.pre K4 [],.pre K3 [],.pre K6 [],.var [db],.var [(dd K8)]],pend:=[none] },exits:=[(.exit 0,{ tmps:=[],heap:=[.pre K1 [],.pre K4 [],.pre K3 [],.pre K6 [],.var [db],.var [(dd K8)]],pend:=[none] }),(.ret,{ tmps:=[],heap:=[.pre K1 [],.pre K4 [],.pre K3 [],.pre K6 [],.var [db],.var [(dd K8)]],pend:=[some .ret] })] }
def sh79x1x1:Shape:={ head:={ tmps:=[(0,.func (.yield 0) [] []),(10,(dd K8)),(11,di),(12,di)],heap:=[.pre K1 [],.pre K4 [],.pre K3 [],.var [.base (.data true K5)],.var [db],.pre K4 [],.var [.base (.data true K5)],.var [(dd K8)]],pend:=[none] },exits:=[(.exit 0,{ tmps:=[],heap:=[.pre K1 [],.pre K4 [],.pre K3 [],.var [.base (.data true K5)],.var [db],.pre K4 [],.var [.base (.data true K5)],.var [(dd K8)]],pend:=[none] }),(.ret,{ tmps:=[],heap:=[.pre K1 [],.pre K4 [],.pre K3 [],.var [.base (.data true K5)],.var [db],.pre K4 [],.var [.base (.data true K5)],.var [(dd K8)]],pend:=[some .ret] })] }
def sh79x5x0:Shape:={ head:={ tmps:=[(0,.func (.yield 0) [] []),(3,di),(5,.base (.data true K11)),(10,(dd K8)),(11,di),(12,di),(24,.base (.data true K11)),(25,di),(26,di)],heap:=[.pre K1 [],.pre K4 [],.pre K3 [],.pre K6 [],.var [db],.var [(dd K8)]],pend:=[none] },exits:=[(.exit 2,{ tmps:=[(0,.func (.yield 0) [] []),(10,(dd K8)),(11,di),(12,di)],heap:=[.pre K1 [],.pre K4 [],.pre K3 [],.pre K6 [],.var [db],.var [(dd K8)]],pend:=[none] }),(.ret,{ tmps:=[],heap:=[.pre K1 [],.pre K4 [],.pre K3 [],.pre K6 [],.var [db],.var [(dd K8)]],pend:=[some .ret] })] }
def sh79x5x1:Shape:={ head:={ tmps:=[(0,.func (.yield 0) [] []),(3,di),(5,.base (.data true K11)),(10,(dd K8)),(11,di),(12,di),(24,.base (.data true K11)),(25,di),(26,di)],heap:=[.pre K1 [],.pre K4 [],.pre K3 [],.var [.base (.data true K5)],.var [db],.pre K4 [],.var [.base (.data true K5)],.var [(dd K8)]],pend:=[none] },exits:=[(.exit 2,{ tmps:=[(0,.func (.yield 0) [] []),(10,(dd K8)),(11,di),(12,di)],heap:=[.pre K1 [],.pre K4 [],.pre K3 [],.var [.base (.data true K5)],.var [db],.pre K4 [],.var [.base (.data true K5)],.var [(dd K8)]],pend:=[none] }),(.ret,{ tmps:=[],heap:=[.pre K1 [],.pre K4 [],.pre K3 [],.var [.base (.data true K5)],.var [db],.pre K4 [],.var [.base (.data true K5)],.var [(dd K8)]],pend:=[some .ret] })] }
def sh79x8x0:Shape:={ head:={ tmps:=[(0,.func (.yield 0) [] []),(3,di),(5,.base (.data true K11)),(6,di),(7,(dd K5)),(10,(dd K8)),(11,di),(12,di),(24,.base (.data true K11)),(25,di),(26,di),(31,(dd K11)),(32,di),(33,di)],heap:=[.pre K1 [],.pre K4 [],.pre K3 [],.pre K6 [],.var [db],.var [(dd K8)]],pend:=[none] },exits:=[(.exit 4,{ tmps:=[(0,.func (.yield 0) [] []),(3,di),(5,.base (.data true K11)),(10,(dd K8)),(11,di),(12,di),(24,.base (.data true K11)),(25,di),(26,di)],heap:=[.pre K1 [],.pre K4 [],.pre K3 [],.pre K6 [],.var [db],.var [(dd K8)]],pend:=[none] }),(.ret,{ tmps:=[],heap:=[.pre K1 [],.pre K4 [],.pre K3 [],.pre K6 [],.var [db],.var [(dd K8)]],pend:=[some .ret] })] }
def sh79x8x1:Shape:={ head:={ tmps:=[(0,.func (.yield 0) [] []),(3,di),(5,.base (.data true K11)),(6,di),(7,(dd K5)),(10,(dd K8)),(11,di),(12,di),(24,.base (.data true K11)),(25,di),(26,di),(31,(dd K11)),(32,di),(33,di)],heap:=[.pre K1 [],.pre K4 [],.pre K3 [],.var [.base (.data true K5)],.var [db],.pre K4 [],.var [.base (.data true K5)],.var [(dd K8)]],pend:=[none] },exits:=[(.exit 4,{ tmps:=[(0,.func (.yield 0) [] []),(3,di),(5,.base (.data true K11)),(10,(dd K8)),(11,di),(12,di),(24,.base (.data true K11)),(25,di),(26,di)],heap:=[.pre K1 [],.pre K4 [],.pre K3 [],.var [.base (.data true K5)],.var [db],.pre K4 [],.var [.base (.data true K5)],.var [(dd K8)]],pend:=[none] }),(.ret,{ tmps:=[],heap:=[.pre K1 [],.pre K4 [],.pre K3 [],.var [.base (.data true K5)],.var [db],.pre K4 [],.var [.base (.data true K5)],.var [(dd K8)]],pend:=[some .ret] })] }
def sh80x5x0:Shape:={ head:={ tmps:=[(3,.base (.hs 0 K0)),(4,.base (.data true K11))],heap:=[.row K0] },exits:=[(.exit 0,{ tmps:=[(3,.base (.hs 0 K0)),(4,.base (.data true K11))],heap:=[.row K0] }),(.ret,(tp [(2,.base (.data true K11))]))] }
def sh82x2x0:Shape:={ head:={ tmps:=[(0,(dd K5)),(1,(dd K5)),(4,(pt 0)),(6,di)],heap:=[.pre K0 []] },exits:=[(.exit 0,{ tmps:=[(0,(dd K5)),(1,(dd K5)),(4,(pt 0))],heap:=[.pre K0 []] }),(.ret,{ tmps:=[(4,(pt 0)),(5,db)],heap:=[.pre K0 []] })] }
def sh82x7x0:Shape:={ head:={ tmps:=[(0,(dd K5)),(1,(dd K5)),(4,(pt 0)),(7,di)],heap:=[.pre K0 []] },exits:=[(.exit 2,{ tmps:=[(4,(pt 0))],heap:=[.pre K0 []] }),(.ret,{ tmps:=[(4,(pt 0)),(5,db)],heap:=[.pre K0 []] })] }
def sh83x2x0:Shape:={ head:={ tmps:=[(0,(dd K5)),(1,(dd K5)),(4,(pt 0)),(6,di)],heap:=[.pre K3 []] },exits:=[(.exit 0,{ tmps:=[(4,(pt 0))],heap:=[.pre K3 []] }),(.ret,{ tmps:=[(4,(pt 0)),(5,db)],heap:=[.pre K3 []] })] }
def sh83x5x0:Shape:={ head:={ tmps:=[(0,(dd K5)),(1,(dd K5)),(4,(pt 0)),(6,di),(7,di)],heap:=[.pre K3 []] },exits:=[(.exit 2,{ tmps:=[(0,(dd K5)),(1,(dd K5)),(4,(pt 0)),(6,di)],heap:=[.pre K3 []] }),(.ret,{ tmps:=[(4,(pt 0)),(5,db)],heap:=[.pre K3 []] })] }
def sh83x8x0:Shape:={ head:={ tmps:=[(0,(dd K5)),(1,(dd K5)),(4,(pt 0)),(6,di),(7,di),(8,di)],heap:=[.pre K3 []] },exits:=[(.exit 4,{ tmps:=[(0,(dd K5)),(1,(dd K5)),(4,(pt 0)),(6,di),(7,di)],heap:=[.pre K3 []] }),(.ret,{ tmps:=[(4,(pt 0)),(5,db)],heap:=[.pre K3 []] })] }
def sh89x9x0:Shape:={ head:={ tmps:=[(2,.base (.data true K5)),(3,db),(4,.base (.hs 0 K0)),(5,(pt 1)),(6,(pt 2)),(22,.base (.hs 0 K0)),(23,di),(24,di)],heap:=[.row K0,.var [.base (.hs 3 K0)],.var [.func (.func 135) [] [.ptr 1 0]],.row K0] },exits:=[(.exit 0,{ tmps:=[(2,.base (.data true K5)),(3,db),(4,.base (.hs 0 K0)),(5,(pt 1)),(6,(pt 2))],heap:=[.row K0,.var [.base (.hs 3 K0)],.var [.func (.func 135) [] [.ptr 1 0]],.row K0] })] }
def sh90x3x0:Shape:={ head:=(tp [(3,.base (.data true K5)),(6,(dd K11)),(7,di),(8,di)]),exits:=[(.exit 0,(tp [(3,.base (.data true K5))]))] }
def sh97x3x0:Shape:={ head:={ tmps:=[(3,(pt 0)),(4,(pt 1)),(5,(pt 2)),(7,.base (.data true K5)),(8,di)],heap:=[.pre K7 [],.pre K0 [],.pre K3 []] },exits:=[(.exit 0,(tp [(7,.base (.data true K5))]))] }
def sh98x3x0:Shape:={ head:={ tmps:=[(0,.func (.yield 0) [] []),(4,.base (.map 5)),(5,(dd K10)),(16,(dd K10)),(17,di),(18,di)],heap:=[.pre K1 [],.pre K4 [],.var [.base (.data true K8)],.pre K1 [],.pre K4 [],.mapv K0 true [(((1:Int),(1:Int)),[.func (.func 143) [] []]),(((1:Int),(2:Int)),[.func (.func 144) [] []]),(((1:Int),(3:Int)),[.func (.func 145) [] []]),(((1:Int),(4:Int)),[.func (.func 146) [] []]),(((2:Int),(2:Int)),[.func (.func 146) [] []]),(((2:Int),(3:Int)),[.func (.func 146) [] []]),(((2:Int),(4:Int)),[.func (.func 146) [] []])]],pend:=[none] },exits:=[(.exit 0,{ tmps:=[],heap:=[.pre K1 [],.pre K4 [],.var [.base (.data true K8)],.pre K1 [],.pre K4 []],pend:=[none] })] }
def sh98x3x1:Shape:={ head:={ tmps:=[(0,.func (.yield 0) [] []),(4,.base (.map 5)),(5,(dd K10)),(16,(dd K10)),(17,di),(18,di)],heap:=[.pre K1 [],.pre K4 [],.var [db],.pre K1 [],.pre K4 [],.mapv K0 true [(((1:Int),(1:Int)),[.func (.func 143) [] []]),(((1:Int),(2:Int)),[.func (.func 144) [] []]),(((1:Int),(3:Int)),[.func (.func 145) [] []]),(((1:Int),(4:Int)),[.func (.func 146) [] []]),(((2:Int),(2:Int)),[.func (.func 146) [] []]),(((2:Int),(3:Int)),[.func (.func 146) [] []]),(((2:Int),(4:Int)),[.func (.func 146) [] []])]],pend:=[none] },exits:=[(.exit 0,{ tmps:=[],heap:=[.pre K1 [],.pre K4 [],.var [db],.pre K1 [],.pre K4 []],pend:=[none] }),(.ret,{ tmps:=[],heap:=[.pre K1 [],.pre K4 [],.var [db],.pre K1 [],.pre K4 []],pend:=[some .ret] })] }
def sh98x6x0:Shape:={ head:={ tmps:=[(0,.func (.yield 0) [] []),(4,.base (.map 5)),(5,(dd K10)),(7,(pt 6)),(16,(dd K10)),(17,di),(18,di),(26,(dd K10)),(27,di),(28,di)],heap:=[.pre K1 [],.pre K4 [],.var [.base (.data true K8)],.pre K1 [],.pre K4 [],.mapv K0 true [(((1:Int),(1:Int)),[.func (.func 143) [] []]),(((1:Int),(2:Int)),[.func (.func 144) [] []]),(((1:Int),(3:Int)),[.func (.func 145) [] []]),(((1:Int),(4:Int)),[.func (.func 146) [] []]),(((2:Int),(2:Int)),[.func (.func 146) [] []]),(((2:Int),(3:Int)),[.func (.func 146) [] []]),(((2:Int),(4:Int)),[.func (.func 146) [] []])],.pre K2 []],pend:=[none] },exits:=[(.exit 2,{ tmps:=[(0,.func (.yield 0) [] []),(4,.base (.map 5)),(5,(dd K10)),(16,(dd K10)),(17,di),(18,di)],heap:=[.pre K1 [],.pre K4 [],.var [.base (.data true K8)],.pre K1 [],.pre K4 [],.mapv K0 true [(((1:Int),(1:Int)),[.func (.func 143) [] []]),(((1:Int),(2:Int)),[.func (.func 144) [] []]),(((1:Int),(3:Int)),[.func (.func 145) [] []]),(((1:Int),(4:Int)),[.func (.func 146) [] []]),(((2:Int),(2:Int)),[.func (.func 146) [] []]),(((2:Int),(3:Int)),[.func (.func 146) [] []]),(((2:Int),(4:Int)),[.func (.func 146) [] []])]],pend:=[none] })] }
def sh98x6x1:Shape:={ head:={ tmps:=[(0,.func (.yield 0) [] []),(4,.base (.map 5)),(5,(dd K10)),(7,(pt 6)),(16,(dd K10)),(17,di),(18,di),(26,(dd K10)),(27,di),(28,di)],heap:=[.pre K1 [],.pre K4 [],.var [db],.pre K1 [],.pre K4 [],.mapv K0 true [(((1:Int),(1:Int)),[.func (.func 143) [] []]),(((1:Int),(2:Int)),[.func (.func 144) [] []]),(((1:Int),(3:Int)),[.func (.func 145) [] []]),(((1:Int),(4:Int)),[.func (.func 146) [] []]),(((2:Int),(2:Int)),[.func (.func 146) [] []]),(((2:Int),(3:Int)),[.func (.func 146) [] []]),(((2:Int),(4:Int)),[.func (.func 146) [] []])],.pre K2 []],pend:=[none] },exits:=[(.exit 2,{ tmps:=[(0,.func (.yield 0) [] []),(4,.base (.map 5)),(5,(dd K10)),(16,(dd K10)),(17,di),(18,di)],heap:=[.pre K1 [],.pre K4 [],.var [db],.pre K1 [],.pre K4 [],.mapv K0 true [(((1:Int),(1:Int)),[.func (.func 143) [] []]),(((1:Int),(2:Int)),[.func (.func 144) [] []]),(((1:Int),(3:Int)),[.func (.func 145) [] []]),(((1:Int),(4:Int)),[.func (.func 146) [] []]),(((2:Int),(2:Int)),[.func (.func 146) [] []]),(((2:Int),(3:Int)),[.func (.func 146) [] []]),(((2:Int),(4:Int)),[.func (.func 146) [] []])]],pend:=[none] }),(.ret,{ tmps:=[],heap:=[.pre K1 [],.pre K4 [],.var [db],.pre K1 [],.pre K4 []],pend:=[some .ret] })] }
def sh100x17x0:Shape:={ head:={ tmps:=[(0,.func (.yield 0) [] []),(1,(pt 3)),(82,(dd (.slice (.int .i64)))),(83,di),(84,di)],heap:=[.pre K1 [],.pre K4 [],.var [.base (.data true K10)],.pre K1 [],.pre K4 []],pend:=[none] },exits:=[(.exit 6,{ tmps:=[(0,.func (.yield 0) [] []),(1,(pt 3))],heap:=[.pre K1 [],.pre K4 [],.var [.base (.data true K10)],.pre K1 [],.pre K4 []],pend:=[none] })] }
def sh100x22x0:Shape:={ head:={ tmps:=[(0,.func (.yield 0) [] []),(118,(dd K11)),(119,di),(120,di)],heap:=[.pre K1 [],.pre K4 [],.var [.base (.data true K10)],.pre K1 [],.pre K4 []],pend:=[none] },exits:=[(.exit 8,{ tmps:=[],heap:=[.pre K1 [],.pre K4 [],.var [.base (.data true K10)],.pre K1 [],.pre K4 []],pend:=[none] })] }
def sh103x2x0:Shape:={ head:={ tmps:=[(0,(dd K5)),(1,.func (.func 59) [] []),(7,di),(8,di)],heap:=[] },exits:=[(.exit 0,(tp [])),(.ret,(tp [(4,di)]))] }
def sh109x2x0:Shape:={ head:={ tmps:=[(1,.func (.func 110) [] [.ptr 0 0]),(7,(dd K5)),(8,di),(9,di)],heap:=[.pre (.pair K0 K0) []] },exits:=[(.exit 0,{ tmps:=[],heap:=[.pre (.pair K0 K0) []] }),(.ret,{ tmps:=[(4,db)],heap:=[.pre (.pair K0 K0) []] })] }
def sh115x5x0:Shape:={ head:=(tp [(0,(dd K5)),(3,di),(4,di)]),exits:=[(.exit 0,(tp [(0,(dd K5)),(3,di)])),(.ret,(tp [(2,db)]))] }
def sh115x10x0:Shape:={ head:=(tp [(0,(dd K5)),(3,di),(5,di)]),exits:=[(.exit 2,(tp [(0,(dd K5))])),(.ret,(tp [(2,db)]))] }
def sh115x15x0:Shape:={ head:=(tp [(0,(dd K5)),(3,di),(5,di),(6,di)]),exits:=[(.exit 4,(tp [(0,(dd K5)),(3,di),(5,di)])),(.ret,(tp [(2,db)]))] }
def sh117x2x0:Shape:={ head:=(tp [(0,(dd (.slice .str))),(3,di)]),exits:=[(.exit 0,(tp [])),(.ret,(tp [(2,db)]))] }
def sh117x7x0:Shape:={ head:=(tp [(0,(dd (.slice .str))),(3,di),(4,di)]),exits:=[(.exit 2,(tp [(0,(dd (.slice .str))),(3,di)])),(.ret,(tp [(2,db)]))] }
def sh118x4x0:Shape:={ head:=(tp [(0,(dd K5)),(3,di)]),exits:=[(.exit 0,(tp [])),(.ret,(tp [(2,db)]))] }
def sh118x9x0:Shape:={ head:=(tp [(0,(dd K5)),(3,di),(4,di)]),exits:=[(.exit 2,(tp [(0,(dd K5)),(3,di)])),(.ret,(tp [(2,db)]))] }
def sh120x5x0:Shape:={ head:=(tp [(0,(dd K5)),(3,di),(11,di),(12,di)]),exits:=[(.exit 0,(tp [])),(.ret,(tp [(2,db)]))] }
def sh120x9x0:Shape:={ head:=(tp [(0,(dd K5)),(3,di),(4,di),(5,di),(11,di),(12,di),(19,di),(20,di)]),exits:=[(.exit 2,(tp [(0,(dd K5)),(3,di),(11,di),(12,di)])),(.ret,(tp [(2,db)]))] }
def sh121x3x0:Shape:={ head:=(tp [(0,(dd K5)),(5,di),(12,di),(13,di)]),exits:=[(.exit 0,(tp [])),(.ret,(tp [(2,di),(3,di),(4,di)]))] }
def sh121x8x0:Shape:={ head:=(tp [(0,(dd K5)),(5,di),(6,di),(7,di),(8,di),(12,di),(13,di),(40,di),(41,di)]),exits:=[(.exit 1,(tp [(0,(dd K5)),(5,di),(12,di),(13,di)])),(.exit 2,(tp [(6,di),(7,di),(8,di)]))] }
def sh123x1x0:Shape:={ head:={ tmps:=[(0,.func (.yield 0) [] []),(1,(pt 4)),(5,(dd K5)),(6,di),(7,di)],heap:=[.pre K0 [],.var [db],.var [di],.var [(dd K5)],.var [(dd K5)]],pend:=[none] },exits:=[(.exit 0,{ tmps:=[],heap:=[.pre K0 [],.var [db],.var [di],.var [(dd K5)],.var [(dd K5)]],pend:=[none] }),(.ret,{ tmps:=[],heap:=[.pre K0 [],.var [db],.var [di],.var [(dd K5)],.var [(dd K5)]],pend:=[some .ret] })] }
def sh123x1x1:Shape:={ head:={ tmps:=[(0,.func (.yield 0) [] []),(1,(pt 3)),(5,(dd K5)),(6,di),(7,di)],heap:=[.var [(dd K5)],.pre K3 [],.var [db],.var [(dd K5)]],pend:=[none] },exits:=[(.exit 0,{ tmps:=[],heap:=[.var [(dd K5)],.pre K3 [],.var [db],.var [(dd K5)]],pend:=[none] }),(.ret,{ tmps:=[],heap:=[.var [(dd K5)],.pre K3 [],.var [db],.var [(dd K5)]],pend:=[some .ret] })] }
def sh123x1x2:Shape:={ head:={ tmps:=[(0,.func (.yield 1) [] []),(1,(pt 6)),(5,(dd K5)),(6,di),(7,di)],heap:=[.var [(dd K5)],.pre K3 [],.var [db],.var [(dd K5)],.var [di],.pre (.pair K0 K0) [],.var [(dd K5)]],pend:=[some .normal,none] },exits:=[(.exit 0,{ tmps:=[],heap:=[.var [(dd K5)],.pre K3 [],.var [db],.var [(dd K5)],.var [di],.pre (.pair K0 K0) [],.var [(dd K5)]],pend:=[some .normal,none] }),(.ret,{ tmps:=[],heap:=[.var [(dd K5)],.pre K3 [],.var [db],.var [(dd K5)],.var [di],.pre (.pair K0 K0) [],.var [(dd K5)]],pend:=[some .normal,some .ret] })] }
def sh124x2x0:Shape:={ head:=(tp [(0,(dd K5)),(1,di),(2,(dd K5)),(7,di)]),exits:=[(.exit 0,(tp [])),(.ret,(tp [(6,db)]))] }
def sh127x3x0:Shape:={ head:=(tp [(3,di),(4,di),(5,di)]),exits:=[(.exit 0,(tp [(3,di)]))] }
def sh134x4x0:Shape:={ head:={ tmps:=[(0,.base (.hs 0 K0)),(3,di)],heap:=[.row K0] },exits:=[(.exit 0,{ tmps:=[(0,.base (.hs 0 K0))],heap:=[.row K0] }),(.ret,{ tmps:=[(2,.base (.hs 0 K0))],heap:=[.row K0] })] }
def sh134x9x0:Shape:={ head:={ tmps:=[(0,.base (.hs 0 K0)),(3,di),(4,.base (.hw 0 K0)),(5,di)],heap:=[.row K0] },exits:=[(.exit 2,{ tmps:=[(0,.base (.hs 0 K0)),(3,di)],heap:=[.row K0] })] }
def sh135x1x0:Shape:={ head:={ tmps:=[(1,di),(2,(pt 0)),(3,(pt 2))],heap:=[.var [.base (.hs 1 K0)],.row K0,.var [di,di]] },exits:=[(.exit 0,{ tmps:=[(2,(pt 0)),(3,(pt 2))],heap:=[.var [.base (.hs 1 K0)],.row K0,.var [di,di]] })] }
def sh135x1x1:Shape:={ head:={ tmps:=[(1,di),(2,(pt 1)),(3,(pt 6))],heap:=[.row K0,.var [.base (.hs 3 K0)],.var [.func (.func 135) [] [.ptr 1 0]],.row K0,.var [di],.var [.base (.hs 0 K0)],.var [di,di]],pend:=[some .normal] },exits:=[(.exit 0,{ tmps:=[(2,(pt 1)),(3,(pt 6))],heap:=[.row K0,.var [.base (.hs 3 K0)],.var [.func (.func 135) [] [.ptr 1 0]],.row K0,.var [di],.var [.base (.hs 0 K0)],.var [di,di]],pend:=[some .normal] })] }
def sh135x1x2:Shape:={ head:={ tmps:=[(1,di),(2,(pt 1)),(3,(pt 7))],heap:=[.row K0,.var [.base (.hs 6 K0)],.var [.func (.func 135) [] [.ptr 1 0]],.gone,.var [di],.var [.base (.hs 0 K0)],.row K0,.var [di,di]],pend:=[some .normal] },exits:=[(.exit 0,{ tmps:=[(2,(pt 1)),(3,(pt 7))],heap:=[.row K0,.var [.base (.hs 6 K0)],.var [.func (.func 135) [] [.ptr 1 0]],.gone,.var [di],.var [.base (.hs 0 K0)],.row K0,.var [di,di]],pend:=[some .normal] })] }
def sh140x6x0:Shape:={ head:={ tmps:=[(0,(dd K5)),(4,(pt 0)),(5,.base (.data true K5)),(6,di)],heap:=[.var [di,di]] },exits:=[(.exit 0,(tp [(5,.base (.data true K5))]))] }
def sh141x3x0:Shape:={ head:={ tmps:=[(1,(dd K5)),(2,(dd K5)),(3,(pt 0)),(7,.base (.data true K5)),(8,di)],heap:=[.var [di,di]] },exits:=[(.exit 0,{ tmps:=[(1,(dd K5)),(2,(dd K5)),(3,(pt 0)),(7,.base (.data true K5))],heap:=[.var [di,di]] })] }
def sh141x7x0:Shape:={ head:={ tmps:=[(1,(dd K5)),(2,(dd K5)),(3,(pt 0)),(7,.base (.data true K5)),(9,di)],heap:=[.var [di,di]] },exits:=[(.exit 2,{ tmps:=[(1,(dd K5)),(2,(dd K5)),(3,(pt 0)),(7,.base (.data true K5))],heap:=[.var [di,di]] })] }
def sh141x11x0:Shape:={ head:={ tmps:=[(1,(dd K5)),(2,(dd K5)),(3,(pt 0)),(7,.base (.data true K5)),(10,di)],heap:=[.var [di,di]] },exits:=[(.exit 4,(tp [(7,.base (.data true K5))]))] }
def sh148x3x0:Shape:={ head:={ tmps:=[(1,.func (.func 149) [] [.ptr 0 0,.ptr 1 0]),(5,.base (.data true K5)),(11,(dd K5)),(12,di),(13,di)],heap:=[.pre K0 [],.pre K3 []] },exits:=[(.exit 0,{ tmps:=[(5,.base (.data true K5))],heap:=[.pre K0 [],.pre K3 []] })] }
def sh150x1x0:Shape:={ head:={ tmps:=[(0,.func (.yield 0) [] []),(1,(pt 3)),(5,(dd K5)),(6,di),(7,di)],heap:=[.pre K0 [],.var [di],.var [db],.var [(dd K5)]],pend:=[none] },exits:=[(.exit 0,{ tmps:=[],heap:=[.pre K0 [],.var [di],.var [db],.var [(dd K5)]],pend:=[none] }),(.ret,{ tmps:=[],heap:=[.pre K0 [],.var [di],.var [db],.var [(dd K5)]],pend:=[some .ret] })] }
def sh150x1x1:Shape:={ head:={ tmps:=[(0,.func (.yield 0) [] []),(1,(pt 3)),(5,(dd K5)),(6,di),(7,di)],heap:=[.var [(dd K5)],.var [db],.var [di],.var [(dd K5)]],pend:=[none] },exits:=[(.exit 0,{ tmps:=[],heap:=[.var [(dd K5)],.var [db],.var [di],.var [(dd K5)]],pend:=[none] }),(.ret,{ tmps:=[],heap:=[.var [(dd K5)],.var [db],.var [di],.var [(dd K5)]],pend:=[some .ret] })] }
def sh150x1x2:Shape:={ head:={ tmps:=[(0,.func (.yield 1) [] []),(1,(pt 6)),(5,(dd K5)),(6,di),(7,di)],heap:=[.var [(dd K5)],.var [db],.var [di],.var [(dd K5)],.var [di],.pre (.pair K0 K0) [],.var [(dd K5)]],pend:=[some .normal,none] },exits:=[(.exit 0,{ tmps:=[],heap:=[.var [(dd K5)],.var [db],.var [di],.var [(dd K5)],.var [di],.pre (.pair K0 K0) [],.var [(dd K5)]],pend:=[some .normal,none] }),(.ret,{ tmps:=[],heap:=[.var [(dd K5)],.var [db],.var [di],.var [(dd K5)],.var [di],.pre (.pair K0 K0) [],.var [(dd K5)]],pend:=[some .normal,some .ret] })] }
def sh150x1x3:Shape:={ head:={ tmps:=[(0,.func (.yield 0) [] []),(1,(pt 1)),(5,(dd K5)),(6,di),(7,di)],heap:=[.var [di],.var [(dd K5)]],pend:=[none] },exits:=[(.exit 0,{ tmps:=[],heap:=[.var [di],.var [(dd K5)]],pend:=[none] })] }
def sh157x3x0:Shape:={ head:=(tp [(0,(dd K5)),(3,di),(4,di)]),exits:=[(.exit 0,(tp [(3,di)]))] }
def sh158x3x0:Shape:={ head:=(tp [(0,di),(3,di),(4,di)]),exits:=[(.exit 0,(tp [(3,di)]))] }
def sh159x4x0:Shape:={ head:=(tp [(0,(dd .str)),(3,di)]),exits:=[(.exit 0,(tp [])),(.ret,(tp [(2,db)]))] }
def sh164x3x0:Shape:={ head:={ tmps:=[(0,(dd K5)),(3,(pt 0)),(5,di),(6,di)],heap:=[.pre K0 []] },exits:=[(.exit 0,(tp [(5,di)])),(.ret,(tp [(4,di)]))] }
def sh170x1x0:Shape:={ head:={ tmps:=[(0,.func (.yield 0) [] []),(1,(pt 5)),(3,di)],heap:=[.row K0,.var [.base (.hs 3 K0)],.var [.func (.func 135) [] [.ptr 1 0]],.row K0,.var [di],.var [.base (.hs 0 K0)]],pend:=[none] },exits:=[(.exit 0,{ tmps:=[],heap:=[.row K0,.var [.base (.hs 8 K0)],.var [.func (.func 135) [] [.ptr 1 0]],.gone,.var [di],.var [.base (.hs 0 K0)],.empty,.empty,.row K0],pend:=[none] }),(.exit 0,{ tmps:=[],heap:=[.row K0,.var [.base (.hs 3 K0)],.var [.func (.func 135) [] [.ptr 1 0]],.row K0,.var [di],.var [.base (.hs 0 K0)]],pend:=[none] })] }
def sh170x1x1:Shape:={ head:={ tmps:=[(0,.func (.yield 0) [] []),(1,(pt 5)),(3,di)],heap:=[.row K0,.var [.base (.hs 8 K0)],.var [.func (.func 135) [] [.ptr 1 0]],.gone,.var [di],.var [.base (.hs 0 K0)],.empty,.empty,.row K0],pend:=[none] },exits:=[(.exit 0,{ tmps:=[],heap:=[.row K0,.var [.base (.hs 8 K0)],.var [.func (.func 135) [] [.ptr 1 0]],.gone,.var [di],.var [.base (.hs 0 K0)],.empty,.empty,.row K0],pend:=[none] })] }
def sh171x3x0:Shape:={ head:={ tmps:=[(0,(dd K5)),(2,(pt 0)),(3,(pt 1)),(4,di)],heap:=[.var [di,di],.var [di,di]] },exits:=[(.exit 0,{ tmps:=[(2,(pt 0)),(3,(pt 1))],heap:=[.var [di,di],.var [di,di]] })] }
def sh172x3x0:Shape:={ head:={ tmps:=[(0,(dd K5)),(3,(pt 0)),(4,(pt 1)),(5,(pt 2)),(6,di)],heap:=[.var [di,di],.var [di,di],.var [di,di]] },exits:=[(.exit 0,{ tmps:=[(4,(pt 1)),(5,(pt 2))],heap:=[.empty,.var [di,di],.var [di,di]] })] }
def sh174x7x0:Shape:={ head:=(tp [(6,di),(7,di),(8,di),(9,di)]),exits:=[(.exit 0,(tp [(7,di),(8,di)]))] }
def sh176x2x0:Shape:={ head:={ tmps:=[(2,.func (.func 177) [] []),(4,(pt 0)),(6,(pt 1)),(9,(dd K5)),(10,di),(11,di)],heap:=[.pre K0 [],.pre K0 []] },exits:=[(.exit 0,{ tmps:=[(4,(pt 0)),(6,(pt 1))],heap:=[.pre K0 [],.pre K0 []] })] }
def sh176x2x1:Shape:={ head:={ tmps:=[(2,.func (.func 178) [] []),(4,(pt 0)),(6,(pt 1)),(9,(dd K5)),(10,di),(11,di)],heap:=[.pre K0 [],.pre K0 []] },exits:=[(.exit 0,{ tmps:=[(4,(pt 0)),(6,(pt 1))],heap:=[.pre K0 [],.pre K0 []] })] }
def sh185x6x0:Shape:={ head:={ tmps:=[(6,(pt 1)),(7,.func (.func 198) [] []),(20,di),(21,di)],heap:=[.empty,.pre K0 []] },exits:=[(.exit 0,{ tmps:=[(6,(pt 1))],heap:=[.empty,.pre K0 []] })] }
def shapeTab:List ((Nat×Nat)×List Shape):=[((17,4),[sh17x4x0]),
 ((18,4),[sh18x4x0]),
 ((19,4),[sh19x4x0]),
 ((20,10),[sh20x10x0]),
 ((21,7),[sh21x7x0]),
 ((23,5),[sh23x5x0]),
 ((23,8),[sh23x8x0]),
 ((31,6),[sh31x6x0]),
 ((31,8),[sh31x8x0]),
 ((36,3),[sh36x3x0]),
 ((37,2),[sh37x2x0]),
 ((41,2),[sh41x2x0]),
 ((42,4),[sh42x4x0]),
 ((42,9),[sh42x9x0]),
 ((42,12),[sh42x12x0]),
 ((43,10),[sh43x10x0]),
 ((43,16),[sh43x16x0]),
 ((45,2),[sh45x2x0]),
 ((47,6),[sh47x6x0]),
 ((50,4),[sh50x4x0]),
 ((50,7),[sh50x7x0]),
 ((51,4),[sh51x4x0]),
 ((53,4),[sh53x4x0]),
 ((53,10),[sh53x10x0]),
 ((53,15),[sh53x15x0]),
 ((54,18),[sh54x18x0]),
 ((54,24),[sh54x24x0]),
 ((64,4),[sh64x4x0]),
 ((65,2),[sh65x2x0]),
 ((65,8),[sh65x8x0]),
 ((66,8),[sh66x8x0]),
 ((73,4),[sh73x4x0]),
 ((74,3),[sh74x3x0]),
 ((75,3),[sh75x3x0]),
 ((76,4),[sh76x4x0]),
 ((77,2),[sh77x2x0]),
 ((77,7),[sh77x7x0]),
 ((79,1),[sh79x1x0,sh79x1x1]),
 ((79,5),[sh79x5x0,sh79x5x1]),
 ((79,8),[sh79x8x0,sh79x8x1]),
 ((80,5),[sh80x5x0]),
 ((82,2),[sh82x2x0]),
 ((82,7),[sh82x7x0]),
 ((83,2),[sh83x2x0]),
 ((83,5),[sh83x5x0]),
 ((83,8),[sh83x8x0]),
 ((89,9),[sh89x9x0]),
 ((90,3),[sh90x3x0]),
 ((97,3),[sh97x3x0]),
 ((98,3),[sh98x3x0,sh98x3x1]),
 ((98,6),[sh98x6x0,sh98x6x1]),
 ((100,17),[sh100x17x0]),
 ((100,22),[sh100x22x0]),
 ((103,2),[sh103x2x0]),
 ((109,2),[sh109x2x0]),
 ((115,5),[sh115x5x0]),
 ((115,10),[sh115x10x0]),
 ((115,15),[sh115x15x0]),
 ((117,2),[sh117x2x0]),
 ((117,7),[sh117x7x0]),
 ((118,4),[sh118x4x0]),
 ((118,9),[sh118x9x0]),
 ((120,5),[sh120x5x0]),
 ((120,9),[sh120x9x0]),
 ((121,3),[sh121x3x0]),
 ((121,8),[sh121x8x0]),
 ((123,1),[sh123x1x0,sh123x1x1,sh123x1x2]),
 ((124,2),[sh124x2x0]),
 ((127,3),[sh127x3x0]),
 ((134,4),[sh134x4x0]),
 ((134,9),[sh134x9x0]),
 ((135,1),[sh135x1x0,sh135x1x1,sh135x1x2]),
 ((140,6),[sh140x6x0]),
 ((141,3),[sh141x3x0]),
 ((141,7),[sh141x7x0]),
 ((141,11),[sh141x11x0]),
 ((148,3),[sh148x3x0]),
 ((150,1),[sh150x1x0,sh150x1x1,sh150x1x2,sh150x1x3]),
 ((157,3),[sh157x3x0]),
 ((158,3),[sh158x3x0]),
 ((159,4),[sh159x4x0]),
 ((164,3),[sh164x3x0]),
 ((170,1),[sh170x1x0,sh170x1x1]),
 ((171,3),[sh171x3x0]),
 ((172,3),[sh172x3x0]),
 ((174,7),[sh174x7x0]),
 ((176,2),[sh176x2x0,sh176x2x1]),
 ((185,6),[sh185x6x0])]
def cutTab:List ((Nat×Nat)×List (AE×Tpl)):=[((20,16),[(.normal,{ tmps:=[(11,.func (.func 45) [] [.ptr 5 0,.ptr 4 0]),(12,.func (.func 91) [] [.ptr 6 0]),(13,.base (.data true K8)),(15,(pt 7)),(47,(dd K8)),(48,di),(49,di)],heap:=[.empty,.empty,.empty,.empty,.pre K0 [],.var [(dd K10)],.pre K3 [],.pre (.pair K2 K2) []] }),(.exit 1,{ tmps:=[(11,.func (.func 45) [] [.ptr 5 0,.ptr 4 0]),(12,.func (.func 91) [] [.ptr 6 0]),(13,.base (.data true K8)),(47,(dd K8)),(48,di),(49,di)],heap:=[.empty,.empty,.empty,.empty,.pre K0 [],.var [(dd K10)],.pre K3 []] })]),
 ((20,17),[(.normal,{ tmps:=[(11,.func (.func 45) [] [.ptr 5 0,.ptr 4 0]),(12,.func (.func 91) [] [.ptr 6 0]),(13,.base (.data true K8)),(47,(dd K8)),(48,di),(49,di)],heap:=[.empty,.empty,.empty,.empty,.pre K0 [],.var [(dd K10)],.pre K3 []] })]),
 ((21,8),[(.normal,{ tmps:=[(3,(pt 0)),(4,(pt 1)),(5,(pt 2)),(7,.base (.data true K8)),(8,(pt 3)),(10,(dd K8)),(11,di)],heap:=[.pre K1 [],.pre K4 [],.pre K3 [],.pre K4 []] })]),
 ((21,13),[(.normal,{ tmps:=[(3,(pt 0)),(4,(pt 1)),(5,(pt 2)),(7,.base (.data true K8)),(8,(pt 3)),(10,(dd K8)),(11,di),(12,db),(13,db)],heap:=[.pre K1 [],.pre K4 [],.pre K3 [],.pre K4 []] })]),
 ((37,13),[(.normal,{ tmps:=[(1,(pt 0)),(6,db)],heap:=[.pre K1 []] })]),
 ((50,8),[(.normal,(tp [(5,.base (.data true K8)),(6,(dd K10)),(7,di),(8,di)]))]),
 ((54,17),[(.normal,{ tmps:=[(2,(pt 0)),(3,(pt 1)),(5,.base (.data true K10))],heap:=[.pre K1 [],.pre K4 []] })]),
 ((54,19),[(.normal,{ tmps:=[(2,(pt 0)),(3,(pt 1)),(5,.base (.data true K10)),(12,di)],heap:=[.pre K1 [],.pre K4 []] })]),
 ((65,3),[(.normal,(tp [(0,(dd K5)),(3,di)])),(.ret,(tp [(2,db)]))]),
 ((65,7),[(.normal,(tp [(0,(dd K5)),(3,di),(4,di)]))]),
 ((89,4),[(.normal,{ tmps:=[(2,.base (.data true K5)),(3,db),(4,.base (.hs 0 K0))],heap:=[.row K0] })]),
 ((89,17),[(.normal,{ tmps:=[(5,(pt 1))],heap:=[.empty,.var [.base (.hs 8 K0)],.empty,.empty,.empty,.empty,.empty,.empty,.row K0] })]),
 ((100,16),[(.normal,{ tmps:=[(0,.func (.yield 0) [] []),(1,(pt 3)),(2,(pt 4))],heap:=[.pre K1 [],.pre K4 [],.var [.base (.data true K10)],.pre K1 [],.pre K4 []],pend:=[none] })]),
 ((121,13),[(.normal,(tp [(0,(dd K5)),(5,di),(12,di),(13,di)])),(.ret,(tp [(2,di),(3,di),(4,di)]))]),
 ((134,10),[(.normal,{ tmps:=[(0,.base (.hs 0 K0)),(3,di),(4,.base (.hw 0 K0)),(5,di)],heap:=[.row K0] })]),
 ((164,4),[(.normal,{ tmps:=[(0,(dd K5)),(3,(pt 0)),(5,di),(6,di)],heap:=[.pre K0 []] }),(.ret,(tp [(4,di)]))]),
 ((164,11),[(.normal,{ tmps:=[(0,(dd K5)),(3,(pt 0)),(5,di),(6,di),(7,(pt 1)),(8,(pt 2))],heap:=[.pre K0 [],.pre K0 [],.pre K0 []] })]),
 ((171,4),[(.normal,{ tmps:=[(0,(dd K5)),(2,(pt 0)),(3,(pt 1)),(4,di)],heap:=[.var [di,di],.var [di,di]] })]),
 ((172,4),[(.normal,{ tmps:=[(0,(dd K5)),(3,(pt 0)),(4,(pt 1)),(5,(pt 2)),(6,di)],heap:=[.var [di,di],.var [di,di],.var [di,di]] })]),
 ((201,4),[(.normal,(tp [(0,di)]))])]
def retTab:List (Nat×Ty):=[(3,.bool),(9,.bool),(10,.bool),(11,(.pair K4 .bool)),(12,(.pair K4 .bool)),(13,(.pair K5 .bool)),(14,(.pair K5 .bool)),(15,(.pair K6 .bool)),(16,(.pair K6 .bool)),(17,.bool),(18,.bool),(19,.bool),(20,K8),(21,K8),(22,.bool),(23,.bool),(24,.bool),(25,K10),(26,.bool),(28,.bool),(30,.bool),(31,K11),(34,.bool),(35,K1),(36,K4),(37,.bool),(38,(.pair K3 .bool)),(39,(.pair K3 .bool)),(41,(.pair K0 .bool)),(42,(.pair K5 (.pair K6 .bool))),(43,(.pair K3 .bool)),(44,(.pair K0 (.pair K0 (.pair K0 K0)))),(46,.bool),(47,(.pair K5 .bool)),(49,K8),(50,K8),(51,K2),(52,.bool),(53,.bool),(54,K10),(55,.bool),(58,.bool),(59,.bool),(60,.bool),(61,.bool),(62,(.int .i64)),(63,(.int .i64)),(64,.bool),(65,.bool),(66,.bool),(68,.bool),(69,.bool),(70,.bool),(71,.bool),(72,.bool),(73,.bool),(74,K11),(75,.bool),(76,.bool),(77,.bool),(78,.bool),(80,K11),(82,(.pair K0 .bool)),(83,(.pair K3 .bool)),(85,K0),(86,(.pair K3 (.pair K3 K3))),(87,K0),(88,K0),(89,(.pair K5 .bool)),(90,K5),(92,.bool),(93,(.pair K0 (.pair K0 (.pair K0 K0)))),(94,(.pair K5 .bool)),(95,(.pair K5 (.pair K5 K5))),(96,(.pair K3 (.pair K3 K3))),(97,K5),(101,(.pair K5 (.pair K5 K5))),(102,K5),(103,(.int .i64)),(105,(.int .i64)),(106,.bool),(107,(.int .i64)),(108,.bool),(111,(.pair .bool .bool)),(112,.bool),(113,.bool),(114,(.int .i64)),(115,.bool),(116,.bool),(117,.bool),(118,.bool),(120,.bool),(121,K3),(124,.bool),(125,.bool),(126,K3),(127,(.int .i64)),(128,(.int .i64)),(136,(.int .i64)),(138,K0),(139,K0),(140,(.pair K5 .bool)),(141,K5),(142,K3),(143,.bool),(144,.bool),(145,.bool),(146,.bool),(147,K5),(151,K0),(152,(.pair K0 K0)),(153,.bool),(154,(.int .i64)),(155,K0),(156,.bool),(157,(.int .i64)),(158,(.int .i64)),(159,.bool),(160,(.int .i64)),(161,.bool),(162,(.int .i64)),(163,.bool),(164,(.int .i64)),(165,.bool),(166,K0),(171,K0),(172,K0),(173,K0),(174,K0),(175,K0),(176,K0),(177,K0),(178,K0),(179,.bool),(180,(.int .i64)),(181,.bool),(182,(.int .i64)),(183,.bool),(185,K0),(196,(.int .i64)),(197,(.int .i64)),(198,K0),(199,.bool),(200,.bool),(201,(.int .i64)),(202,(.pair K0 (.pair K0 (.pair K0 (.pair K0 (.pair K0 (.pair K0 (.pair K0 (.pair K0 K0)))))))))]
def freshTab:List Nat:=[31,80,147]
def markTab:List (Nat×Nat):=[(7,51),(7,54),(13,43),(122,26),(122,31),(135,34)]
def unrollTab:List ((Nat×Nat)×Nat):=[((44,5),40),((52,2),40),((54,3),40),((54,7),40),((54,11),40),((71,5),40),((78,2),40),((86,4),40),((93,4),40),((95,5),40),((100,1),40),((100,4),40),((100,10),40),((101,5),40)]
noncomputable def X0:Ext:={ P:=Tryz.prog,shapes:=fun g r=>(shapeTab.lookup (g,r)).getD [],cuts:=fun g r=>cutTab.lookup (g,r),fresh:=fun g=>freshTab.contains g,retTy:=fun g=>retTab.lookup g,mark:=fun g t=>markTab.contains (g,t),specH:=specHTab,unroll:=fun g r=>(unrollTab.lookup (g,r)).getD 0 }
noncomputable def Z35G (T:CT):Option D0:=T 35 K1 []
noncomputable def Z35 (n:Nat):Option D0:=Z35G (run X0 n).callT
noncomputable def Z36L3G (L:LT) (z:((Unit×D35)×(D24×D36))):Option (D18×(Unit×D36)):=L (loopOf X0 36 3) sh36x3x0 { fn:=36,base:=0,nt:=28,loops:=[] } z
noncomputable def Z36L3 (n:Nat) (z:((Unit×D35)×(D24×D36))):Option (D18×(Unit×D36)):=Z36L3G (run X0 n).loop z
abbrev Z36A (a0:D0):List AV:=[.agg (lv0 a0)]
noncomputable def Z36G (T:CT) (a0:D0):Option D2:=T 36 K4 (Z36A a0)
noncomputable def Z36 (n:Nat) (a0:D0):Option D2:=Z36G (run X0 n).callT a0
abbrev Z78A (a0:D11) (a1:D5):List AV:=[.agg (lv2 a0),.agg (lv3 a1)]
noncomputable def Z78G (T:CT) (a0:D11) (a1:D5):Option Bool:=T 78 .bool (Z78A a0 a1)
noncomputable def Z78 (n:Nat) (a0:D11) (a1:D5):Option Bool:=Z78G (run X0 n).callT a0 a1
abbrev Z38A (a0:D11) (a1:D5) (a2:Int) (a3:Int):List AV:=[.agg (lv2 a0),.agg (lv3 a1),.int .i64 a2,.int .i64 a3]
noncomputable def Z38G (T:CT) (a0:D11) (a1:D5) (a2:Int) (a3:Int):Option (D5×Bool):=T 38 (.pair K3 .bool) (Z38A a0 a1 a2 a3)
noncomputable def Z38 (n:Nat) (a0:D11) (a1:D5) (a2:Int) (a3:Int):Option (D5×Bool):=Z38G (run X0 n).callT a0 a1 a2 a3
abbrev Z11A (a0:D0) (a1:D2) (a2:D5):List AV:=[.agg (lv0 a0),.agg (lv1 a1),.agg (lv3 a2)]
noncomputable def Z11G (T:CT) (a0:D0) (a1:D2) (a2:D5):Option (D2×Bool):=T 11 (.pair K4 .bool) (Z11A a0 a1 a2)
noncomputable def Z11 (n:Nat) (a0:D0) (a1:D2) (a2:D5):Option (D2×Bool):=Z11G (run X0 n).callT a0 a1 a2
theorem Z11F (n:Nat) (a0:D0) (a1:D2) (a2:D5):Z11G (run X0 n).callT a0 a1 a2=Z11 n a0 a1 a2:=Eq.trans (Eq.refl _) (Eq.refl _)
noncomputable def Z127L3G (L:LT) (z:(D33×Unit)):Option (D4×Unit):=L (loopOf X0 127 3) sh127x3x0 { fn:=127,base:=0,nt:=11,loops:=[] } z
noncomputable def Z127L3 (n:Nat) (z:(D33×Unit)):Option (D4×Unit):=Z127L3G (run X0 n).loop z
noncomputable def Z127G (T:CT) (a0:Int):Option Int:=T 127 (.int .i64) [.int .i64 a0]
noncomputable def Z127 (n:Nat) (a0:Int):Option Int:=Z127G (run X0 n).callT a0
theorem Z127F (n:Nat) (a0:Int):Z127G (run X0 n).callT a0=Z127 n a0:=Eq.trans (Eq.refl _) (Eq.refl _)
noncomputable def Z165G (T:CT) (a0:D5):Option Bool:=T 165 .bool [.agg (lv3 a0)]
noncomputable def Z165 (n:Nat) (a0:D5):Option Bool:=Z165G (run X0 n).callT a0
noncomputable def Z201G (T:CT) (a0:Int):Option Int:=T 201 (.int .i64) [.int .i64 a0]
noncomputable def Z201 (n:Nat) (a0:Int):Option Int:=Z201G (run X0 n).callT a0
noncomputable def Z202G (T:CT):Option (D1×(D1×(D1×(D1×(D1×(D1×(D1×(D1×D1)))))))):=T 202 (.pair K0 (.pair K0 (.pair K0 (.pair K0 (.pair K0 (.pair K0 (.pair K0 (.pair K0 K0)))))))) []
noncomputable def Z202 (n:Nat):Option (D1×(D1×(D1×(D1×(D1×(D1×(D1×(D1×D1)))))))):=Z202G (run X0 n).callT
noncomputable def Z198G (T:CT) (a0:D1):Option D1:=T 198 K0 [.agg [.int .i64 a0.1,.int .i64 a0.2]]
noncomputable def Z198 (n:Nat) (a0:D1):Option D1:=Z198G (run X0 n).callT a0
noncomputable def Z185L6G (L:LT) (z:((Unit×(D9×D10))×(Unit×D40))):Option (D9×(Unit×D40)):=L (loopOf X0 185 6) sh185x6x0 { fn:=185,base:=0,nt:=31,loops:=[] } z
noncomputable def Z185L6 (n:Nat) (z:((Unit×(D9×D10))×(Unit×D40))):Option (D9×(Unit×D40)):=Z185L6G (run X0 n).loop z
noncomputable def Z185G (T:CT) (a0:Int):Option D1:=T 185 K0 [.int .i64 a0]
noncomputable def Z185 (n:Nat) (a0:Int):Option D1:=Z185G (run X0 n).callT a0
noncomputable def Z166G (T:CT) (a0:D1) (a1:Int):Option D1:=T 166 K0 [.agg [.int .i64 a0.1,.int .i64 a0.2],.int .i64 a1]
noncomputable def Z166 (n:Nat) (a0:D1) (a1:Int):Option D1:=Z166G (run X0 n).callT a0 a1
abbrev Z126A (a0:D5) (a1:Int):List AV:=[.agg (lv3 a0),.int .i64 a1]
noncomputable def Z126G (T:CT) (a0:D5) (a1:Int):Option D5:=T 126 K3 (Z126A a0 a1)
noncomputable def Z126 (n:Nat) (a0:D5) (a1:Int):Option D5:=Z126G (run X0 n).callT a0 a1
abbrev Z86A (a0:D11) (a1:D5):List AV:=[.agg (lv2 a0),.agg (lv3 a1)]
noncomputable def Z86G (T:CT) (a0:D11) (a1:D5):Option (D5×(D5×D5)):=T 86 (.pair K3 (.pair K3 K3)) (Z86A a0 a1)
noncomputable def Z86 (n:Nat) (a0:D11) (a1:D5):Option (D5×(D5×D5)):=Z86G (run X0 n).callT a0 a1
theorem Z86F (n:Nat) (a0:D11) (a1:D5):Z86G (run X0 n).callT a0 a1=Z86 n a0 a1:=Eq.trans (Eq.refl _) (Eq.refl _)
abbrev Z87A (a0:D5) (a1:Int):List AV:=[.agg (lv3 a0),.int .i64 a1]
noncomputable def Z87G (T:CT) (a0:D5) (a1:Int):Option D1:=T 87 K0 (Z87A a0 a1)
noncomputable def Z87 (n:Nat) (a0:D5) (a1:Int):Option D1:=Z87G (run X0 n).callT a0 a1
theorem Z87F (n:Nat) (a0:D5) (a1:Int):Z87G (run X0 n).callT a0 a1=Z87 n a0 a1:=Eq.trans (Eq.refl _) (Eq.refl _)
abbrev Z85A (a0:D1) (a1:D1):List AV:=[.agg [.int .i64 a0.1,.int .i64 a0.2],.agg [.int .i64 a1.1,.int .i64 a1.2]]
noncomputable def Z85G (T:CT) (a0:D1) (a1:D1):Option D1:=T 85 K0 (Z85A a0 a1)
noncomputable def Z85 (n:Nat) (a0:D1) (a1:D1):Option D1:=Z85G (run X0 n).callT a0 a1
theorem Z85F (n:Nat) (a0:D1) (a1:D1):Z85G (run X0 n).callT a0 a1=Z85 n a0 a1:=Eq.trans (Eq.refl _) (Eq.refl _)
abbrev Z44A (a0:D11) (a1:D5):List AV:=[.agg (lv2 a0),.agg (lv3 a1)]
noncomputable def Z44G (T:CT) (a0:D11) (a1:D5):Option (D1×(D1×(D1×D1))):=T 44 (.pair K0 (.pair K0 (.pair K0 K0))) (Z44A a0 a1)
noncomputable def Z44 (n:Nat) (a0:D11) (a1:D5):Option (D1×(D1×(D1×D1))):=Z44G (run X0 n).callT a0 a1
theorem Z44F (n:Nat) (a0:D11) (a1:D5):Z44G (run X0 n).callT a0 a1=Z44 n a0 a1:=Eq.trans (Eq.refl _) (Eq.refl _)
noncomputable def Z175G (T:CT) (a0:D1):Option D1:=T 175 K0 [.agg [.int .i64 a0.1,.int .i64 a0.2]]
noncomputable def Z175 (n:Nat) (a0:D1):Option D1:=Z175G (run X0 n).callT a0
abbrev Z151A (a0:D1) (a1:D1):List AV:=[.agg [.int .i64 a0.1,.int .i64 a0.2],.agg [.int .i64 a1.1,.int .i64 a1.2]]
noncomputable def Z151G (T:CT) (a0:D1) (a1:D1):Option D1:=T 151 K0 (Z151A a0 a1)
noncomputable def Z151 (n:Nat) (a0:D1) (a1:D1):Option D1:=Z151G (run X0 n).callT a0 a1
abbrev Z147A (a0:(D11×D5)) (a1:D5) (a2:D1) (a3:D1):List AV:=[.agg [.int .i64 a0.1.1.1,.int .i64 a0.1.1.2,.int .i64 a0.1.2.1.1,.int .i64 a0.1.2.1.2.1,.int .i64 a0.1.2.1.2.2,.int .i64 a0.1.2.2.1,.int .i64 a0.1.2.2.2.1.1,.int .i64 a0.1.2.2.2.1.2.1,.int .i64 a0.1.2.2.2.1.2.2,.int .i64 a0.1.2.2.2.2.1,.int .i64 a0.1.2.2.2.2.2.1,.int .i64 a0.1.2.2.2.2.2.2,.int .i64 a0.2.1,.int .i64 a0.2.2.1,.int .i64 a0.2.2.2],.agg (lv3 a1),.agg [.int .i64 a2.1,.int .i64 a2.2],.agg [.int .i64 a3.1,.int .i64 a3.2]]
noncomputable def Z147G (T:CT) (a0:(D11×D5)) (a1:D5) (a2:D1) (a3:D1):Option D6:=T 147 K5 (Z147A a0 a1 a2 a3)
noncomputable def Z147 (n:Nat) (a0:(D11×D5)) (a1:D5) (a2:D1) (a3:D1):Option D6:=Z147G (run X0 n).callT a0 a1 a2 a3
abbrev Z101A (a0:D11) (a1:D5):List AV:=[.agg (lv2 a0),.agg (lv3 a1)]
noncomputable def Z101G (T:CT) (a0:D11) (a1:D5):Option (D6×(D6×D6)):=T 101 (.pair K5 (.pair K5 K5)) (Z101A a0 a1)
noncomputable def Z101 (n:Nat) (a0:D11) (a1:D5):Option (D6×(D6×D6)):=Z101G (run X0 n).callT a0 a1
theorem Z101F (n:Nat) (a0:D11) (a1:D5):Z101G (run X0 n).callT a0 a1=Z101 n a0 a1:=Eq.trans (Eq.refl _) (Eq.refl _)
noncomputable def Z148L3G (L:LT) (z:(((Unit×D18)×(D6×(D6×D10)))×(D17×D25))):Option (D13×(D17×D25)):=L (loopOf X0 148 3) sh148x3x0 { fn:=148,base:=2,nt:=25,loops:=[] } z
noncomputable def Z148L3 (n:Nat) (z:(((Unit×D18)×(D6×(D6×D10)))×(D17×D25))):Option (D13×(D17×D25)):=Z148L3G (run X0 n).loop z
theorem Z148L3F (n:Nat) (z:(((Unit×D18)×(D6×(D6×D10)))×(D17×D25))):Z148L3G (run X0 n).loop z=Z148L3 n z:=Eq.trans (Eq.refl _) (Eq.refl _)
abbrev Z102A (a0:D28) (a1:D1) (a2:D5):List AV:=[.agg [.str a0.1,.slice false K0 a0.2.1,.int .i64 a0.2.2],.agg [.int .i64 a1.1,.int .i64 a1.2],.agg (lv3 a2)]
noncomputable def Z102G (T:CT) (a0:D28) (a1:D1) (a2:D5):Option D6:=T 102 K5 (Z102A a0 a1 a2)
noncomputable def Z102 (n:Nat) (a0:D28) (a1:D1) (a2:D5):Option D6:=Z102G (run X0 n).callT a0 a1 a2
theorem Z102F (n:Nat) (a0:D28) (a1:D1) (a2:D5):Z102G (run X0 n).callT a0 a1 a2=Z102 n a0 a1 a2:=Eq.trans (Eq.refl _) (Eq.refl _)
noncomputable abbrev Z100L17M (c0:D0) (c1:D2) (c2:D0) (c3:D2):Amb:={ fn:=100,base:=5,nt:=132,loops:=[{ fn:=25,tmps:=[.agg (lv0 c0),.agg (lv1 c1),.ptr 0 0,.ptr 1 0,.nil,.ptr 2 0,.top,.agg (lv0 c2),.agg (lv1 c3),.func (.func 100) [] [.ptr 3 0,.ptr 4 0],.top,.top,.top,.top,.top,.top],params:=[10],assign:=rfAssign X0 25 0,body:=rfBody X0 25 0 }] }
noncomputable def Z100L17G (L:LT) (c0:D0) (c1:D2) (c2:D0) (c3:D2) (z:((D9×(Unit×((List Int)×D10)))×D42)):Option ((D9×D9)×D42):=L (loopOf X0 100 17) sh100x17x0 (Z100L17M c0 c1 c2 c3) z
noncomputable def Z100L17 (n:Nat) (c0:D0) (c1:D2) (c2:D0) (c3:D2) (z:((D9×(Unit×((List Int)×D10)))×D42)):Option ((D9×D9)×D42):=Z100L17G (run X0 n).loop c0 c1 c2 c3 z
theorem Z100L17F (n:Nat) (c0:D0) (c1:D2) (c2:D0) (c3:D2) (z:((D9×(Unit×((List Int)×D10)))×D42)):Z100L17G (run X0 n).loop c0 c1 c2 c3 z=Z100L17 n c0 c1 c2 c3 z:=Eq.trans (Eq.refl _) (Eq.refl _)
noncomputable abbrev Z100L22M (c0:D0) (c1:D2) (c2:D0) (c3:D2):Amb:={ fn:=100,base:=5,nt:=132,loops:=[{ fn:=25,tmps:=[.agg (lv0 c0),.agg (lv1 c1),.ptr 0 0,.ptr 1 0,.nil,.ptr 2 0,.top,.agg (lv0 c2),.agg (lv1 c3),.func (.func 100) [] [.ptr 3 0,.ptr 4 0],.top,.top,.top,.top,.top,.top],params:=[10],assign:=rfAssign X0 25 0,body:=rfBody X0 25 0 }] }
noncomputable def Z100L22G (L:LT) (c0:D0) (c1:D2) (c2:D0) (c3:D2) (z:((D9×(D44×D10))×D42)):Option (Unit×D42):=L (loopOf X0 100 22) sh100x22x0 (Z100L22M c0 c1 c2 c3) z
noncomputable def Z100L22 (n:Nat) (c0:D0) (c1:D2) (c2:D0) (c3:D2) (z:((D9×(D44×D10))×D42)):Option (Unit×D42):=Z100L22G (run X0 n).loop c0 c1 c2 c3 z
theorem Z100L22F (n:Nat) (c0:D0) (c1:D2) (c2:D0) (c3:D2) (z:((D9×(D44×D10))×D42)):Z100L22G (run X0 n).loop c0 c1 c2 c3 z=Z100L22 n c0 c1 c2 c3 z:=Eq.trans (Eq.refl _) (Eq.refl _)
abbrev Z25A (a0:D0) (a1:D2):List AV:=[.agg (lv0 a0),.agg (lv1 a1)]
noncomputable def Z25G (T:CT) (a0:D0) (a1:D2):Option D22:=T 25 K10 (Z25A a0 a1)
noncomputable def Z25 (n:Nat) (a0:D0) (a1:D2):Option D22:=Z25G (run X0 n).callT a0 a1
theorem Z25F (n:Nat) (a0:D0) (a1:D2):Z25G (run X0 n).callT a0 a1=Z25 n a0 a1:=Eq.trans (Eq.refl _) (Eq.refl _)
abbrev Z143A (a0:D3) (a1:D3):List AV:=[.agg (lv4 a0),.agg (lv4 a1)]
noncomputable def Z143G (T:CT) (a0:D3) (a1:D3):Option Bool:=T 143 .bool (Z143A a0 a1)
noncomputable def Z143 (n:Nat) (a0:D3) (a1:D3):Option Bool:=Z143G (run X0 n).callT a0 a1
theorem Z143F (n:Nat) (a0:D3) (a1:D3):Z143G (run X0 n).callT a0 a1=Z143 n a0 a1:=Eq.trans (Eq.refl _) (Eq.refl _)
abbrev Z144A (a0:D3) (a1:D3):List AV:=[.agg (lv4 a0),.agg (lv4 a1)]
noncomputable def Z144G (T:CT) (a0:D3) (a1:D3):Option Bool:=T 144 .bool (Z144A a0 a1)
noncomputable def Z144 (n:Nat) (a0:D3) (a1:D3):Option Bool:=Z144G (run X0 n).callT a0 a1
theorem Z144F (n:Nat) (a0:D3) (a1:D3):Z144G (run X0 n).callT a0 a1=Z144 n a0 a1:=Eq.trans (Eq.refl _) (Eq.refl _)
abbrev Z145A (a0:D3) (a1:D3):List AV:=[.agg (lv4 a0),.agg (lv4 a1)]
noncomputable def Z145G (T:CT) (a0:D3) (a1:D3):Option Bool:=T 145 .bool (Z145A a0 a1)
noncomputable def Z145 (n:Nat) (a0:D3) (a1:D3):Option Bool:=Z145G (run X0 n).callT a0 a1
theorem Z145F (n:Nat) (a0:D3) (a1:D3):Z145G (run X0 n).callT a0 a1=Z145 n a0 a1:=Eq.trans (Eq.refl _) (Eq.refl _)
abbrev Z146A (a0:D3) (a1:D3):List AV:=[.agg (lv4 a0),.agg (lv4 a1)]
noncomputable def Z146G (T:CT) (a0:D3) (a1:D3):Option Bool:=T 146 .bool (Z146A a0 a1)
noncomputable def Z146 (n:Nat) (a0:D3) (a1:D3):Option Bool:=Z146G (run X0 n).callT a0 a1
theorem Z146F (n:Nat) (a0:D3) (a1:D3):Z146G (run X0 n).callT a0 a1=Z146 n a0 a1:=Eq.trans (Eq.refl _) (Eq.refl _)
noncomputable abbrev Z98L6M (c0:D0) (c1:D2) (c2:D0) (c3:D2):Amb:={ fn:=98,base:=5,nt:=60,loops:=[{ fn:=49,tmps:=[.agg (lv0 c0),.agg (lv1 c1),.ptr 0 0,.ptr 1 0,.nil,.ptr 2 0,.top,.agg (lv0 c2),.agg (lv1 c3),.func (.func 98) [] [.ptr 3 0,.ptr 4 0],.top,.top,.top,.top,.top,.top],params:=[10],assign:=rfAssign X0 49 0,body:=rfBody X0 49 0 }] }
noncomputable def Z98L6G (L:LT) (c0:D0) (c1:D2) (c2:D0) (c3:D2) (z:(D37×(D24×(D26×((D14×Unit)×D53))))):Option D39:=L (loopOf X0 98 6) sh98x6x0 (Z98L6M c0 c1 c2 c3) z
noncomputable def Z98L6 (n:Nat) (c0:D0) (c1:D2) (c2:D0) (c3:D2) (z:(D37×(D24×(D26×((D14×Unit)×D53))))):Option D39:=Z98L6G (run X0 n).loop c0 c1 c2 c3 z
theorem Z98L6F (n:Nat) (c0:D0) (c1:D2) (c2:D0) (c3:D2) (z:(D37×(D24×(D26×((D14×Unit)×D53))))):Z98L6G (run X0 n).loop c0 c1 c2 c3 z=Z98L6 n c0 c1 c2 c3 z:=Eq.trans (Eq.refl _) (Eq.refl _)
noncomputable abbrev Z98L3M (c0:D0) (c1:D2) (c2:D0) (c3:D2):Amb:={ fn:=98,base:=5,nt:=60,loops:=[{ fn:=49,tmps:=[.agg (lv0 c0),.agg (lv1 c1),.ptr 0 0,.ptr 1 0,.nil,.ptr 2 0,.top,.agg (lv0 c2),.agg (lv1 c3),.func (.func 98) [] [.ptr 3 0,.ptr 4 0],.top,.top,.top,.top,.top,.top],params:=[10],assign:=rfAssign X0 49 0,body:=rfBody X0 49 0 }] }
noncomputable def Z98L3G (L:LT) (c0:D0) (c1:D2) (c2:D0) (c3:D2) (z:D39):Option (Unit×(D24×(D26×((D14×Unit)×D15)))):=L (loopOf X0 98 3) sh98x3x0 (Z98L3M c0 c1 c2 c3) z
noncomputable def Z98L3 (n:Nat) (c0:D0) (c1:D2) (c2:D0) (c3:D2) (z:D39):Option (Unit×(D24×(D26×((D14×Unit)×D15)))):=Z98L3G (run X0 n).loop c0 c1 c2 c3 z
theorem Z98L3F (n:Nat) (c0:D0) (c1:D2) (c2:D0) (c3:D2) (z:D39):Z98L3G (run X0 n).loop c0 c1 c2 c3 z=Z98L3 n c0 c1 c2 c3 z:=Eq.trans (Eq.refl _) (Eq.refl _)
abbrev Z49A (a0:D0) (a1:D2):List AV:=[.agg (lv0 a0),.agg (lv1 a1)]
noncomputable def Z49G (T:CT) (a0:D0) (a1:D2):Option D14:=T 49 K8 (Z49A a0 a1)
noncomputable def Z49 (n:Nat) (a0:D0) (a1:D2):Option D14:=Z49G (run X0 n).callT a0 a1
theorem Z49F (n:Nat) (a0:D0) (a1:D2):Z49G (run X0 n).callT a0 a1=Z49 n a0 a1:=Eq.trans (Eq.refl _) (Eq.refl _)
abbrev Z46A (a0:D3) (a1:D3):List AV:=[.agg (lv4 a0),.agg (lv4 a1)]
noncomputable def Z46G (T:CT) (a0:D3) (a1:D3):Option Bool:=T 46 .bool (Z46A a0 a1)
noncomputable def Z46 (n:Nat) (a0:D3) (a1:D3):Option Bool:=Z46G (run X0 n).callT a0 a1
noncomputable def Z128G (T:CT) (a0:Int) (a1:Int) (a2:Int):Option Int:=T 128 (.int .i64) [.int .i64 a0,.int .i64 a1,.int .i64 a2]
noncomputable def Z128 (n:Nat) (a0:Int) (a1:Int) (a2:Int):Option Int:=Z128G (run X0 n).callT a0 a1 a2
abbrev Z88A (a0:D1) (a1:D1) (a2:D1):List AV:=[.agg [.int .i64 a0.1,.int .i64 a0.2],.agg [.int .i64 a1.1,.int .i64 a1.2],.agg [.int .i64 a2.1,.int .i64 a2.2]]
noncomputable def Z88G (T:CT) (a0:D1) (a1:D1) (a2:D1):Option D1:=T 88 K0 (Z88A a0 a1 a2)
noncomputable def Z88 (n:Nat) (a0:D1) (a1:D1) (a2:D1):Option D1:=Z88G (run X0 n).callT a0 a1 a2
noncomputable def Z47L6G (L:LT) (z:((D6×(D6×(D40×(D6×D10))))×Unit)):Option ((D6×(D6×D13))×Unit):=L (loopOf X0 47 6) sh47x6x0 { fn:=47,base:=0,nt:=50,loops:=[] } z
noncomputable def Z47L6 (n:Nat) (z:((D6×(D6×(D40×(D6×D10))))×Unit)):Option ((D6×(D6×D13))×Unit):=Z47L6G (run X0 n).loop z
noncomputable def Z90L3G (L:LT) (z:((D6×(D44×D10))×Unit)):Option D38:=L (loopOf X0 90 3) sh90x3x0 { fn:=90,base:=0,nt:=17,loops:=[] } z
noncomputable def Z90L3 (n:Nat) (z:((D6×(D44×D10))×Unit)):Option D38:=Z90L3G (run X0 n).loop z
noncomputable def Z90G (T:CT) (a0:List D6):Option D6:=T 90 K5 [.slice false K5 a0]
noncomputable def Z90 (n:Nat) (a0:List D6):Option D6:=Z90G (run X0 n).callT a0
noncomputable def Z134L9G (L:LT) (z:((Int×(Int×(D1×D4)))×D13)):Option (D10×D13):=L (loopOf X0 134 9) sh134x9x0 { fn:=134,base:=1,nt:=61,loops:=[] } z
noncomputable def Z134L9 (n:Nat) (z:((Int×(Int×(D1×D4)))×D13)):Option (D10×D13):=Z134L9G (run X0 n).loop z
noncomputable def Z134L4G (L:LT) (z:(D10×D13)):Option ((D4×D13) ⊕ (D4×D13)):=L (loopOf X0 134 4) sh134x4x0 { fn:=134,base:=1,nt:=61,loops:=[] } z
noncomputable def Z134L4 (n:Nat) (z:(D10×D13)):Option ((D4×D13) ⊕ (D4×D13)):=Z134L4G (run X0 n).loop z
theorem Z134L4F (n:Nat) (z:(D10×D13)):Z134L4G (run X0 n).loop z=Z134L4 n z:=Eq.trans (Eq.refl _) (Eq.refl _)
abbrev Z136A (a0:D1) (a1:D1) (a2:D1):List AV:=[.agg [.int .i64 a0.1,.int .i64 a0.2],.agg [.int .i64 a1.1,.int .i64 a1.2],.agg [.int .i64 a2.1,.int .i64 a2.2]]
noncomputable def Z136G (T:CT) (a0:D1) (a1:D1) (a2:D1):Option Int:=T 136 (.int .i64) (Z136A a0 a1 a2)
noncomputable def Z136 (n:Nat) (a0:D1) (a1:D1) (a2:D1):Option Int:=Z136G (run X0 n).callT a0 a1 a2
noncomputable def Z135L1G (L:LT) (z:((Int×D18)×(D4×(D6×D45)))):Option (D18×(D4×(D6×D45))):=L (loopOf X0 135 1) sh135x1x0 { fn:=135,base:=2,nt:=35,loops:=[] } z
noncomputable def Z135L1 (n:Nat) (z:((Int×D18)×(D4×(D6×D45)))):Option (D18×(D4×(D6×D45))):=Z135L1G (run X0 n).loop z
theorem Z135L1F (n:Nat) (z:((Int×D18)×(D4×(D6×D45)))):Z135L1G (run X0 n).loop z=Z135L1 n z:=Eq.trans (Eq.refl _) (Eq.refl _)
noncomputable def Z89L9G (L:LT) (z:D60):Option ((D6×(Bool×(Int×D18)))×(D6×(D4×((D18×Unit)×D13)))):=L (loopOf X0 89 9) sh89x9x0 { fn:=89,base:=0,nt:=55,loops:=[] } z
noncomputable def Z89L9 (n:Nat) (z:D60):Option ((D6×(Bool×(Int×D18)))×(D6×(D4×((D18×Unit)×D13)))):=Z89L9G (run X0 n).loop z
theorem Z89L9F (n:Nat) (z:D60):Z89L9G (run X0 n).loop z=Z89L9 n z:=Eq.trans (Eq.refl _) (Eq.refl _)
noncomputable abbrev Z135L1v1M (c0:List D1) (c1:Bool) (c2:Nat) (c3:Nat) (c4:Nat) (c5:Nat) (c6:Int) (c7:Nat) (c8:Nat) (c9:Nat) (c10:Nat) (c11:Int) (c12:Int) (c13:Nat) (c14:Nat):Amb:={ fn:=135,base:=6,nt:=35,loops:=[{ fn:=89,tmps:=[.top,.top,.slice false K0 c0,.bool c1,.hs 0 K0 c2 c3,.ptr 1 0,.ptr 2 0,.top,.top,.ptr 4 0,.top,.top,.top,.top,.top,.top,.top,.top,.top,.top,.top,.top,.top,.top,.top,.top,.top,.top,.top,.top,.top,.top,.hs 3 K0 c4 c5,.int .i64 c6,.hs 0 K0 c7 c8,.hs 0 K0 c9 c10,.int .i64 c11,.int .i64 c12,.hs 0 K0 c13 c14,.func (.func 170) [] [.ptr 5 0],.top,.top,.top,.top,.top,.top,.top,.top,.top,.top,.top,.top,.top,.top,.top],params:=[40,41],assign:=rfAssign X0 89 0,body:=rfBody X0 89 0 }] }
noncomputable def Z135L1v1G (L:LT) (c0:List D1) (c1:Bool) (c2:Nat) (c3:Nat) (c4:Nat) (c5:Nat) (c6:Int) (c7:Nat) (c8:Nat) (c9:Nat) (c10:Nat) (c11:Int) (c12:Int) (c13:Nat) (c14:Nat) (z:((Int×D18)×D58)):Option (D18×D58):=L (loopOf X0 135 1) sh135x1x1 (Z135L1v1M c0 c1 c2 c3 c4 c5 c6 c7 c8 c9 c10 c11 c12 c13 c14) z
noncomputable def Z135L1v1 (n:Nat) (c0:List D1) (c1:Bool) (c2:Nat) (c3:Nat) (c4:Nat) (c5:Nat) (c6:Int) (c7:Nat) (c8:Nat) (c9:Nat) (c10:Nat) (c11:Int) (c12:Int) (c13:Nat) (c14:Nat) (z:((Int×D18)×D58)):Option (D18×D58):=Z135L1v1G (run X0 n).loop c0 c1 c2 c3 c4 c5 c6 c7 c8 c9 c10 c11 c12 c13 c14 z
theorem Z135L1v1F (n:Nat) (c0:List D1) (c1:Bool) (c2:Nat) (c3:Nat) (c4:Nat) (c5:Nat) (c6:Int) (c7:Nat) (c8:Nat) (c9:Nat) (c10:Nat) (c11:Int) (c12:Int) (c13:Nat) (c14:Nat) (z:((Int×D18)×D58)):Z135L1v1G (run X0 n).loop c0 c1 c2 c3 c4 c5 c6 c7 c8 c9 c10 c11 c12 c13 c14 z=Z135L1v1 n c0 c1 c2 c3 c4 c5 c6 c7 c8 c9 c10 c11 c12 c13 c14 z:=Eq.trans (Eq.refl _) (Eq.refl _)
noncomputable abbrev Z135L1v2M (c0:List D1) (c1:Bool) (c2:Nat) (c3:Nat) (c4:Nat) (c5:Nat) (c6:Int) (c7:Nat) (c8:Nat) (c9:Nat) (c10:Nat) (c11:Int) (c12:Int) (c13:Nat) (c14:Nat):Amb:={ fn:=135,base:=7,nt:=35,loops:=[{ fn:=89,tmps:=[.top,.top,.slice false K0 c0,.bool c1,.hs 0 K0 c2 c3,.ptr 1 0,.ptr 2 0,.top,.top,.ptr 4 0,.top,.top,.top,.top,.top,.top,.top,.top,.top,.top,.top,.top,.top,.top,.top,.top,.top,.top,.top,.top,.top,.top,.hs 3 K0 c4 c5,.int .i64 c6,.hs 0 K0 c7 c8,.hs 0 K0 c9 c10,.int .i64 c11,.int .i64 c12,.hs 0 K0 c13 c14,.func (.func 170) [] [.ptr 5 0],.top,.top,.top,.top,.top,.top,.top,.top,.top,.top,.top,.top,.top,.top,.top],params:=[40,41],assign:=rfAssign X0 89 0,body:=rfBody X0 89 0 }] }
noncomputable def Z135L1v2G (L:LT) (c0:List D1) (c1:Bool) (c2:Nat) (c3:Nat) (c4:Nat) (c5:Nat) (c6:Int) (c7:Nat) (c8:Nat) (c9:Nat) (c10:Nat) (c11:Int) (c12:Int) (c13:Nat) (c14:Nat) (z:((Int×D18)×D50)):Option (D18×D50):=L (loopOf X0 135 1) sh135x1x2 (Z135L1v2M c0 c1 c2 c3 c4 c5 c6 c7 c8 c9 c10 c11 c12 c13 c14) z
noncomputable def Z135L1v2 (n:Nat) (c0:List D1) (c1:Bool) (c2:Nat) (c3:Nat) (c4:Nat) (c5:Nat) (c6:Int) (c7:Nat) (c8:Nat) (c9:Nat) (c10:Nat) (c11:Int) (c12:Int) (c13:Nat) (c14:Nat) (z:((Int×D18)×D50)):Option (D18×D50):=Z135L1v2G (run X0 n).loop c0 c1 c2 c3 c4 c5 c6 c7 c8 c9 c10 c11 c12 c13 c14 z
theorem Z135L1v2F (n:Nat) (c0:List D1) (c1:Bool) (c2:Nat) (c3:Nat) (c4:Nat) (c5:Nat) (c6:Int) (c7:Nat) (c8:Nat) (c9:Nat) (c10:Nat) (c11:Int) (c12:Int) (c13:Nat) (c14:Nat) (z:((Int×D18)×D50)):Z135L1v2G (run X0 n).loop c0 c1 c2 c3 c4 c5 c6 c7 c8 c9 c10 c11 c12 c13 c14 z=Z135L1v2 n c0 c1 c2 c3 c4 c5 c6 c7 c8 c9 c10 c11 c12 c13 c14 z:=Eq.trans (Eq.refl _) (Eq.refl _)
noncomputable abbrev Z170L1v1M (c0:List D1) (c1:Bool) (c2:Nat) (c3:Nat) (c4:Nat) (c5:Nat) (c6:Int) (c7:Nat) (c8:Nat) (c9:Nat) (c10:Nat) (c11:Int) (c12:Int) (c13:Nat) (c14:Nat):Amb:={ fn:=170,base:=6,nt:=19,loops:=[{ fn:=89,tmps:=[.top,.top,.slice false K0 c0,.bool c1,.hs 0 K0 c2 c3,.ptr 1 0,.ptr 2 0,.top,.top,.ptr 4 0,.top,.top,.top,.top,.top,.top,.top,.top,.top,.top,.top,.top,.top,.top,.top,.top,.top,.top,.top,.top,.top,.top,.hs 3 K0 c4 c5,.int .i64 c6,.hs 0 K0 c7 c8,.hs 0 K0 c9 c10,.int .i64 c11,.int .i64 c12,.hs 0 K0 c13 c14,.func (.func 170) [] [.ptr 5 0],.top,.top,.top,.top,.top,.top,.top,.top,.top,.top,.top,.top,.top,.top,.top],params:=[40,41],assign:=rfAssign X0 89 0,body:=rfBody X0 89 0 }] }
noncomputable def Z170L1v1G (L:LT) (c0:List D1) (c1:Bool) (c2:Nat) (c3:Nat) (c4:Nat) (c5:Nat) (c6:Int) (c7:Nat) (c8:Nat) (c9:Nat) (c10:Nat) (c11:Int) (c12:Int) (c13:Nat) (c14:Nat) (z:((D9×(Unit×D4))×D32)):Option (Unit×D32):=L (loopOf X0 170 1) sh170x1x1 (Z170L1v1M c0 c1 c2 c3 c4 c5 c6 c7 c8 c9 c10 c11 c12 c13 c14) z
noncomputable def Z170L1v1 (n:Nat) (c0:List D1) (c1:Bool) (c2:Nat) (c3:Nat) (c4:Nat) (c5:Nat) (c6:Int) (c7:Nat) (c8:Nat) (c9:Nat) (c10:Nat) (c11:Int) (c12:Int) (c13:Nat) (c14:Nat) (z:((D9×(Unit×D4))×D32)):Option (Unit×D32):=Z170L1v1G (run X0 n).loop c0 c1 c2 c3 c4 c5 c6 c7 c8 c9 c10 c11 c12 c13 c14 z
theorem Z170L1v1F (n:Nat) (c0:List D1) (c1:Bool) (c2:Nat) (c3:Nat) (c4:Nat) (c5:Nat) (c6:Int) (c7:Nat) (c8:Nat) (c9:Nat) (c10:Nat) (c11:Int) (c12:Int) (c13:Nat) (c14:Nat) (z:((D9×(Unit×D4))×D32)):Z170L1v1G (run X0 n).loop c0 c1 c2 c3 c4 c5 c6 c7 c8 c9 c10 c11 c12 c13 c14 z=Z170L1v1 n c0 c1 c2 c3 c4 c5 c6 c7 c8 c9 c10 c11 c12 c13 c14 z:=Eq.trans (Eq.refl _) (Eq.refl _)
noncomputable abbrev Z170L1M (c0:List D1) (c1:Bool) (c2:Nat) (c3:Nat) (c4:Nat) (c5:Nat) (c6:Int) (c7:Nat) (c8:Nat) (c9:Nat) (c10:Nat) (c11:Int) (c12:Int) (c13:Nat) (c14:Nat):Amb:={ fn:=170,base:=6,nt:=19,loops:=[{ fn:=89,tmps:=[.top,.top,.slice false K0 c0,.bool c1,.hs 0 K0 c2 c3,.ptr 1 0,.ptr 2 0,.top,.top,.ptr 4 0,.top,.top,.top,.top,.top,.top,.top,.top,.top,.top,.top,.top,.top,.top,.top,.top,.top,.top,.top,.top,.top,.top,.hs 3 K0 c4 c5,.int .i64 c6,.hs 0 K0 c7 c8,.hs 0 K0 c9 c10,.int .i64 c11,.int .i64 c12,.hs 0 K0 c13 c14,.func (.func 170) [] [.ptr 5 0],.top,.top,.top,.top,.top,.top,.top,.top,.top,.top,.top,.top,.top,.top,.top],params:=[40,41],assign:=rfAssign X0 89 0,body:=rfBody X0 89 0 }] }
noncomputable def Z170L1G (L:LT) (c0:List D1) (c1:Bool) (c2:Nat) (c3:Nat) (c4:Nat) (c5:Nat) (c6:Int) (c7:Nat) (c8:Nat) (c9:Nat) (c10:Nat) (c11:Int) (c12:Int) (c13:Nat) (c14:Nat) (z:((D9×(Unit×D4))×D57)):Option ((Unit×D32) ⊕ (Unit×D57)):=L (loopOf X0 170 1) sh170x1x0 (Z170L1M c0 c1 c2 c3 c4 c5 c6 c7 c8 c9 c10 c11 c12 c13 c14) z
noncomputable def Z170L1 (n:Nat) (c0:List D1) (c1:Bool) (c2:Nat) (c3:Nat) (c4:Nat) (c5:Nat) (c6:Int) (c7:Nat) (c8:Nat) (c9:Nat) (c10:Nat) (c11:Int) (c12:Int) (c13:Nat) (c14:Nat) (z:((D9×(Unit×D4))×D57)):Option ((Unit×D32) ⊕ (Unit×D57)):=Z170L1G (run X0 n).loop c0 c1 c2 c3 c4 c5 c6 c7 c8 c9 c10 c11 c12 c13 c14 z
theorem Z170L1F (n:Nat) (c0:List D1) (c1:Bool) (c2:Nat) (c3:Nat) (c4:Nat) (c5:Nat) (c6:Int) (c7:Nat) (c8:Nat) (c9:Nat) (c10:Nat) (c11:Int) (c12:Int) (c13:Nat) (c14:Nat) (z:((D9×(Unit×D4))×D57)):Z170L1G (run X0 n).loop c0 c1 c2 c3 c4 c5 c6 c7 c8 c9 c10 c11 c12 c13 c14 z=Z170L1 n c0 c1 c2 c3 c4 c5 c6 c7 c8 c9 c10 c11 c12 c13 c14 z:=Eq.trans (Eq.refl _) (Eq.refl _)
noncomputable def hullOfG (T:CT) (a0:List D1):Option (D6×Bool):=T 89 (.pair K5 .bool) [.slice false K0 a0]
noncomputable def hullOf (n:Nat) (a0:List D1):Option (D6×Bool):=hullOfG (run X0 n).callT a0
abbrev Z47A (a0:D1) (a1:List D1) (a2:List D1):List AV:=[.agg [.int .i64 a0.1,.int .i64 a0.2],.slice false K0 a1,.slice false K0 a2]
noncomputable def Z47G (T:CT) (a0:D1) (a1:List D1) (a2:List D1):Option (D6×Bool):=T 47 (.pair K5 .bool) (Z47A a0 a1 a2)
noncomputable def Z47 (n:Nat) (a0:D1) (a1:List D1) (a2:List D1):Option (D6×Bool):=Z47G (run X0 n).callT a0 a1 a2
noncomputable def Z45L2G (L:LT) (z:D51):Option (D18×(D17×((D22×Unit)×((D3×Unit)×((D5×D13)×Unit))))):=L (loopOf X0 45 2) sh45x2x0 { fn:=45,base:=2,nt:=28,loops:=[] } z
noncomputable def Z45L2 (n:Nat) (z:D51):Option (D18×(D17×((D22×Unit)×((D3×Unit)×((D5×D13)×Unit))))):=Z45L2G (run X0 n).loop z
theorem Z45L2F (n:Nat) (z:D51):Z45L2G (run X0 n).loop z=Z45L2 n z:=Eq.trans (Eq.refl _) (Eq.refl _)
noncomputable def Z20L10G (L:LT) (z:D30):Option ((D14×Unit)×Unit):=L (loopOf X0 20 10) sh20x10x0 { fn:=20,base:=0,nt:=93,loops:=[] } z
noncomputable def Z20L10 (n:Nat) (z:D30):Option ((D14×Unit)×Unit):=Z20L10G (run X0 n).loop z
theorem Z20L10F (n:Nat) (z:D30):Z20L10G (run X0 n).loop z=Z20L10 n z:=Eq.trans (Eq.refl _) (Eq.refl _)
abbrev Z20A (a0:D0) (a1:D2) (a2:D5):List AV:=[.agg (lv0 a0),.agg (lv1 a1),.agg (lv3 a2)]
noncomputable def Z20G (T:CT) (a0:D0) (a1:D2) (a2:D5):Option D14:=T 20 K8 (Z20A a0 a1 a2)
noncomputable def Z20 (n:Nat) (a0:D0) (a1:D2) (a2:D5):Option D14:=Z20G (run X0 n).callT a0 a1 a2
theorem Z20F (n:Nat) (a0:D0) (a1:D2) (a2:D5):Z20G (run X0 n).callT a0 a1 a2=Z20 n a0 a1 a2:=Eq.trans (Eq.refl _) (Eq.refl _)
noncomputable def Z120L9G (L:LT) (z:((D6×D63)×Unit)):Option (D48 ⊕ D20):=L (loopOf X0 120 9) sh120x9x0 { fn:=120,base:=0,nt:=49,loops:=[] } z
noncomputable def Z120L9 (n:Nat) (z:((D6×D63)×Unit)):Option (D48 ⊕ D20):=Z120L9G (run X0 n).loop z
noncomputable def Z120L5G (L:LT) (z:D48):Option (D9 ⊕ D20):=L (loopOf X0 120 5) sh120x5x0 { fn:=120,base:=0,nt:=49,loops:=[] } z
noncomputable def Z120L5 (n:Nat) (z:D48):Option (D9 ⊕ D20):=Z120L5G (run X0 n).loop z
noncomputable def Z120G (T:CT) (a0:List D1):Option Bool:=T 120 .bool [.slice false K0 a0]
noncomputable def Z120 (n:Nat) (a0:List D1):Option Bool:=Z120G (run X0 n).callT a0
theorem Z120F (n:Nat) (a0:List D1):Z120G (run X0 n).callT a0=Z120 n a0:=Eq.trans (Eq.refl _) (Eq.refl _)
abbrev Z161A (a0:D1) (a1:D1) (a2:D1) (a3:D1):List AV:=[.agg [.int .i64 a0.1,.int .i64 a0.2],.agg [.int .i64 a1.1,.int .i64 a1.2],.agg [.int .i64 a2.1,.int .i64 a2.2],.agg [.int .i64 a3.1,.int .i64 a3.2]]
noncomputable def Z161G (T:CT) (a0:D1) (a1:D1) (a2:D1) (a3:D1):Option Bool:=T 161 .bool (Z161A a0 a1 a2 a3)
noncomputable def Z161 (n:Nat) (a0:D1) (a1:D1) (a2:D1) (a3:D1):Option Bool:=Z161G (run X0 n).callT a0 a1 a2 a3
noncomputable def Z121L8G (L:LT) (z:((D6×(Int×D63))×Unit)):Option (D48 ⊕ (D33×Unit)):=L (loopOf X0 121 8) sh121x8x0 { fn:=121,base:=0,nt:=81,loops:=[] } z
noncomputable def Z121L8 (n:Nat) (z:((D6×(Int×D63))×Unit)):Option (D48 ⊕ (D33×Unit)):=Z121L8G (run X0 n).loop z
noncomputable def Z121L3G (L:LT) (z:D48):Option (D9 ⊕ (D33×Unit)):=L (loopOf X0 121 3) sh121x3x0 { fn:=121,base:=0,nt:=81,loops:=[] } z
noncomputable def Z121L3 (n:Nat) (z:D48):Option (D9 ⊕ (D33×Unit)):=Z121L3G (run X0 n).loop z
noncomputable def Z121G (T:CT) (a0:List D1):Option D5:=T 121 K3 [.slice false K0 a0]
noncomputable def Z121 (n:Nat) (a0:List D1):Option D5:=Z121G (run X0 n).callT a0
theorem Z121F (n:Nat) (a0:List D1):Z121G (run X0 n).callT a0=Z121 n a0:=Eq.trans (Eq.refl _) (Eq.refl _)
noncomputable def Z80L5G (L:LT) (z:((Int×(D44×Unit))×D13)):Option (((Int×(D44×Unit))×D13) ⊕ ((D44×Unit)×Unit)):=L (loopOf X0 80 5) sh80x5x0 { fn:=80,base:=0,nt:=50,loops:=[] } z
noncomputable def Z80L5 (n:Nat) (z:((Int×(D44×Unit))×D13)):Option (((Int×(D44×Unit))×D13) ⊕ ((D44×Unit)×Unit)):=Z80L5G (run X0 n).loop z
theorem Z80L5F (n:Nat) (z:((Int×(D44×Unit))×D13)):Z80L5G (run X0 n).loop z=Z80L5 n z:=Eq.trans (Eq.refl _) (Eq.refl _)
noncomputable def Z80G (T:CT) (a0:List D1):Option D44:=T 80 K11 [.slice false K0 a0]
noncomputable def Z80 (n:Nat) (a0:List D1):Option D44:=Z80G (run X0 n).callT a0
abbrev Z105A (a0:D1) (a1:D1) (a2:D1):List AV:=[.agg [.int .i64 a0.1,.int .i64 a0.2],.agg [.int .i64 a1.1,.int .i64 a1.2],.agg [.int .i64 a2.1,.int .i64 a2.2]]
noncomputable def Z105G (T:CT) (a0:D1) (a1:D1) (a2:D1):Option Int:=T 105 (.int .i64) (Z105A a0 a1 a2)
noncomputable def Z105 (n:Nat) (a0:D1) (a1:D1) (a2:D1):Option Int:=Z105G (run X0 n).callT a0 a1 a2
theorem Z105F (n:Nat) (a0:D1) (a1:D1) (a2:D1):Z105G (run X0 n).callT a0 a1 a2=Z105 n a0 a1 a2:=Eq.trans (Eq.refl _) (Eq.refl _)
noncomputable def Z109L2G (L:LT) (z:((D18×(D6×D10))×(((D1×D1)×Unit)×Unit))):Option ((Unit×(((D1×D1)×Unit)×Unit)) ⊕ (D12×(((D1×D1)×Unit)×Unit))):=L (loopOf X0 109 2) sh109x2x0 { fn:=109,base:=1,nt:=18,loops:=[] } z
noncomputable def Z109L2 (n:Nat) (z:((D18×(D6×D10))×(((D1×D1)×Unit)×Unit))):Option ((Unit×(((D1×D1)×Unit)×Unit)) ⊕ (D12×(((D1×D1)×Unit)×Unit))):=Z109L2G (run X0 n).loop z
theorem Z109L2F (n:Nat) (z:((D18×(D6×D10))×(((D1×D1)×Unit)×Unit))):Z109L2G (run X0 n).loop z=Z109L2 n z:=Eq.trans (Eq.refl _) (Eq.refl _)
abbrev Z68A (a0:(D1×D1)) (a1:List D1):List AV:=[.agg [.int .i64 a0.1.1,.int .i64 a0.1.2,.int .i64 a0.2.1,.int .i64 a0.2.2],.slice false K0 a1]
noncomputable def Z68G (T:CT) (a0:(D1×D1)) (a1:List D1):Option Bool:=T 68 .bool (Z68A a0 a1)
noncomputable def Z68 (n:Nat) (a0:(D1×D1)) (a1:List D1):Option Bool:=Z68G (run X0 n).callT a0 a1
theorem Z68F (n:Nat) (a0:(D1×D1)) (a1:List D1):Z68G (run X0 n).callT a0 a1=Z68 n a0 a1:=Eq.trans (Eq.refl _) (Eq.refl _)
noncomputable abbrev Z123L1M (c0:List D1) (c1:List D1) (c2:List D1) (c3:(D6×D6)) (c4:Int) (c5:Bool) (c6:Int) (c7:List D1) (c8:List D1) (c9:List D1) (c10:(D6×D6)) (c11:Int) (c12:List D1) (c13:List D1):Amb:={ fn:=123,base:=5,nt:=27,loops:=[{ fn:=41,tmps:=[.slice false K0 c0,.slice false K0 c1,.top,.top,.ptr 0 0,.ptr 1 0,.ptr 2 0,.slice false K0 c2,.ptr 3 0,.top,.top,.top,.top,.agg [.slice false K0 c3.1,.slice false K0 c3.2],.int .i64 c4,.bool c5,.int .i64 c6,.slice false K0 c7,.slice false K0 c8,.slice false K0 c9,.agg [.slice false K0 c10.1,.slice false K0 c10.2],.int .i64 c11,.slice false K0 c12,.slice false K0 c13,.func (.func 123) [] [.ptr 4 0],.top,.top,.top,.top,.top,.top,.top,.top,.top,.top],params:=[25,26],assign:=rfAssign X0 41 0,body:=rfBody X0 41 0 }] }
noncomputable def Z123L1G (L:LT) (c0:List D1) (c1:List D1) (c2:List D1) (c3:(D6×D6)) (c4:Int) (c5:Bool) (c6:Int) (c7:List D1) (c8:List D1) (c9:List D1) (c10:(D6×D6)) (c11:Int) (c12:List D1) (c13:List D1) (z:(D27×(D17×(D12×(D4×(D13×D38)))))):Option ((Unit×(D17×(D12×(D4×(D13×D38))))) ⊕ (Unit×(D17×(D12×(D4×(D13×D38)))))):=L (loopOf X0 123 1) sh123x1x0 (Z123L1M c0 c1 c2 c3 c4 c5 c6 c7 c8 c9 c10 c11 c12 c13) z
noncomputable def Z123L1 (n:Nat) (c0:List D1) (c1:List D1) (c2:List D1) (c3:(D6×D6)) (c4:Int) (c5:Bool) (c6:Int) (c7:List D1) (c8:List D1) (c9:List D1) (c10:(D6×D6)) (c11:Int) (c12:List D1) (c13:List D1) (z:(D27×(D17×(D12×(D4×(D13×D38)))))):Option ((Unit×(D17×(D12×(D4×(D13×D38))))) ⊕ (Unit×(D17×(D12×(D4×(D13×D38)))))):=Z123L1G (run X0 n).loop c0 c1 c2 c3 c4 c5 c6 c7 c8 c9 c10 c11 c12 c13 z
theorem Z123L1F (n:Nat) (c0:List D1) (c1:List D1) (c2:List D1) (c3:(D6×D6)) (c4:Int) (c5:Bool) (c6:Int) (c7:List D1) (c8:List D1) (c9:List D1) (c10:(D6×D6)) (c11:Int) (c12:List D1) (c13:List D1) (z:(D27×(D17×(D12×(D4×(D13×D38)))))):Z123L1G (run X0 n).loop c0 c1 c2 c3 c4 c5 c6 c7 c8 c9 c10 c11 c12 c13 z=Z123L1 n c0 c1 c2 c3 c4 c5 c6 c7 c8 c9 c10 c11 c12 c13 z:=Eq.trans (Eq.refl _) (Eq.refl _)
noncomputable def Z41L2G (L:LT) (z:((D6×(D6×(Unit×(Unit×((D6×D6)×D4)))))×(D17×D20))):Option ((D18×(D17×D20)) ⊕ (D18×(D17×D20))):=L (loopOf X0 41 2) sh41x2x0 { fn:=41,base:=0,nt:=35,loops:=[] } z
noncomputable def Z41L2 (n:Nat) (z:((D6×(D6×(Unit×(Unit×((D6×D6)×D4)))))×(D17×D20))):Option ((D18×(D17×D20)) ⊕ (D18×(D17×D20))):=Z41L2G (run X0 n).loop z
theorem Z41L2F (n:Nat) (z:((D6×(D6×(Unit×(Unit×((D6×D6)×D4)))))×(D17×D20))):Z41L2G (run X0 n).loop z=Z41L2 n z:=Eq.trans (Eq.refl _) (Eq.refl _)
abbrev Z41A (a0:List D1) (a1:List D1):List AV:=[.slice false K0 a0,.slice false K0 a1]
noncomputable def Z41G (T:CT) (a0:List D1) (a1:List D1):Option (D1×Bool):=T 41 (.pair K0 .bool) (Z41A a0 a1)
noncomputable def Z41 (n:Nat) (a0:List D1) (a1:List D1):Option (D1×Bool):=Z41G (run X0 n).callT a0 a1
theorem Z41F (n:Nat) (a0:List D1) (a1:List D1):Z41G (run X0 n).callT a0 a1=Z41 n a0 a1:=Eq.trans (Eq.refl _) (Eq.refl _)
abbrev Z177A (a0:D1) (a1:D1):List AV:=[.agg [.int .i64 a0.1,.int .i64 a0.2],.agg [.int .i64 a1.1,.int .i64 a1.2]]
noncomputable def Z177G (T:CT) (a0:D1) (a1:D1):Option D1:=T 177 K0 (Z177A a0 a1)
noncomputable def Z177 (n:Nat) (a0:D1) (a1:D1):Option D1:=Z177G (run X0 n).callT a0 a1
noncomputable def Z176L2G (L:LT) (z:D46):Option (D18×(D17×D40)):=L (loopOf X0 176 2) sh176x2x0 { fn:=176,base:=0,nt:=21,loops:=[] } z
noncomputable def Z176L2 (n:Nat) (z:D46):Option (D18×(D17×D40)):=Z176L2G (run X0 n).loop z
abbrev Z176c1A (a0:List D1) (a1:D1):List AV:=[.slice false K0 a0,.agg [.int .i64 a1.1,.int .i64 a1.2],.func (.func 177) [] []]
noncomputable def Z176c1G (T:CT) (a0:List D1) (a1:D1):Option D1:=T 176 K0 (Z176c1A a0 a1)
noncomputable def Z176c1 (n:Nat) (a0:List D1) (a1:D1):Option D1:=Z176c1G (run X0 n).callT a0 a1
abbrev Z178A (a0:D1) (a1:D1):List AV:=[.agg [.int .i64 a0.1,.int .i64 a0.2],.agg [.int .i64 a1.1,.int .i64 a1.2]]
noncomputable def Z178G (T:CT) (a0:D1) (a1:D1):Option D1:=T 178 K0 (Z178A a0 a1)
noncomputable def Z178 (n:Nat) (a0:D1) (a1:D1):Option D1:=Z178G (run X0 n).callT a0 a1
noncomputable def Z176L2v1G (L:LT) (z:D46):Option (D18×(D17×D40)):=L (loopOf X0 176 2) sh176x2x1 { fn:=176,base:=0,nt:=21,loops:=[] } z
noncomputable def Z176L2v1 (n:Nat) (z:D46):Option (D18×(D17×D40)):=Z176L2v1G (run X0 n).loop z
abbrev Z176c2A (a0:List D1) (a1:D1):List AV:=[.slice false K0 a0,.agg [.int .i64 a1.1,.int .i64 a1.2],.func (.func 178) [] []]
noncomputable def Z176c2G (T:CT) (a0:List D1) (a1:D1):Option D1:=T 176 K0 (Z176c2A a0 a1)
noncomputable def Z176c2 (n:Nat) (a0:List D1) (a1:D1):Option D1:=Z176c2G (run X0 n).callT a0 a1
noncomputable def Z152G (T:CT) (a0:List D1):Option (D1×D1):=T 152 (.pair K0 K0) [.slice false K0 a0]
noncomputable def Z152 (n:Nat) (a0:List D1):Option (D1×D1):=Z152G (run X0 n).callT a0
abbrev Z112A (a0:D1) (a1:D1) (a2:D1):List AV:=[.agg [.int .i64 a0.1,.int .i64 a0.2],.agg [.int .i64 a1.1,.int .i64 a1.2],.agg [.int .i64 a2.1,.int .i64 a2.2]]
noncomputable def Z112G (T:CT) (a0:D1) (a1:D1) (a2:D1):Option Bool:=T 112 .bool (Z112A a0 a1 a2)
noncomputable def Z112 (n:Nat) (a0:D1) (a1:D1) (a2:D1):Option Bool:=Z112G (run X0 n).callT a0 a1 a2
abbrev Z111A (a0:D1) (a1:D1) (a2:D1) (a3:D1):List AV:=[.agg [.int .i64 a0.1,.int .i64 a0.2],.agg [.int .i64 a1.1,.int .i64 a1.2],.agg [.int .i64 a2.1,.int .i64 a2.2],.agg [.int .i64 a3.1,.int .i64 a3.2]]
noncomputable def Z111G (T:CT) (a0:D1) (a1:D1) (a2:D1) (a3:D1):Option (Bool×Bool):=T 111 (.pair .bool .bool) (Z111A a0 a1 a2 a3)
noncomputable def Z111 (n:Nat) (a0:D1) (a1:D1) (a2:D1) (a3:D1):Option (Bool×Bool):=Z111G (run X0 n).callT a0 a1 a2 a3
abbrev Z69A (a0:D1) (a1:D1) (a2:D1) (a3:D1):List AV:=[.agg [.int .i64 a0.1,.int .i64 a0.2],.agg [.int .i64 a1.1,.int .i64 a1.2],.agg [.int .i64 a2.1,.int .i64 a2.2],.agg [.int .i64 a3.1,.int .i64 a3.2]]
noncomputable def Z69G (T:CT) (a0:D1) (a1:D1) (a2:D1) (a3:D1):Option Bool:=T 69 .bool (Z69A a0 a1 a2 a3)
noncomputable def Z69 (n:Nat) (a0:D1) (a1:D1) (a2:D1) (a3:D1):Option Bool:=Z69G (run X0 n).callT a0 a1 a2 a3
theorem Z69F (n:Nat) (a0:D1) (a1:D1) (a2:D1) (a3:D1):Z69G (run X0 n).callT a0 a1 a2 a3=Z69 n a0 a1 a2 a3:=Eq.trans (Eq.refl _) (Eq.refl _)
noncomputable abbrev Z123L1v2M (c0:List D1) (c1:List D1) (c2:List D1) (c3:List D1) (c4:List D1) (c5:List D1) (c6:Int) (c7:Int) (c8:Int) (c9:Int) (c10:Int) (c11:List D1):Amb:={ fn:=123,base:=7,nt:=27,loops:=[{ fn:=43,tmps:=[.slice false K0 c0,.slice false K0 c1,.top,.ptr 0 0,.ptr 1 0,.ptr 2 0,.top,.top,.top,.top,.top,.top,.slice false K0 c2,.func (.func 123) [] [.ptr 3 0],.top,.top,.top,.top,.top,.top,.top,.top,.top,.top,.top,.top,.top,.top,.top,.top,.top,.top,.top,.top,.top,.top,.top,.top,.top,.top,.top,.top,.top,.top,.top,.top,.top,.top,.top,.top,.top,.top,.top,.top,.top,.top,.top],params:=[14,15],assign:=rfAssign X0 43 0,body:=rfBody X0 43 0 },{ fn:=43,tmps:=[.slice false K0 c3,.slice false K0 c4,.top,.ptr 0 0,.ptr 1 0,.ptr 2 0,.ptr 4 0,.ptr 5 0,.top,.top,.top,.top,.slice false K0 c5,.func (.func 123) [] [.ptr 3 0],.int .i64 c6,.agg [.int .i64 c7,.int .i64 c8,.int .i64 c9,.int .i64 c10],.slice false K0 c11,.func (.func 123) [] [.ptr 6 0],.top,.top,.top,.top,.top,.top,.top,.top,.top,.top,.top,.top,.top,.top,.top,.top,.top,.top,.top,.top,.top,.top,.top,.top,.top,.top,.top,.top,.top,.top,.top,.top,.top,.top,.top,.top,.top,.top,.top],params:=[18,19],assign:=rfAssign X0 43 1,body:=rfBody X0 43 1 }] }
noncomputable def Z123L1v2G (L:LT) (c0:List D1) (c1:List D1) (c2:List D1) (c3:List D1) (c4:List D1) (c5:List D1) (c6:Int) (c7:Int) (c8:Int) (c9:Int) (c10:Int) (c11:List D1) (z:(D27×D64)):Option ((Unit×D64) ⊕ (Unit×D64)):=L (loopOf X0 123 1) sh123x1x2 (Z123L1v2M c0 c1 c2 c3 c4 c5 c6 c7 c8 c9 c10 c11) z
noncomputable def Z123L1v2 (n:Nat) (c0:List D1) (c1:List D1) (c2:List D1) (c3:List D1) (c4:List D1) (c5:List D1) (c6:Int) (c7:Int) (c8:Int) (c9:Int) (c10:Int) (c11:List D1) (z:(D27×D64)):Option ((Unit×D64) ⊕ (Unit×D64)):=Z123L1v2G (run X0 n).loop c0 c1 c2 c3 c4 c5 c6 c7 c8 c9 c10 c11 z
theorem Z123L1v2F (n:Nat) (c0:List D1) (c1:List D1) (c2:List D1) (c3:List D1) (c4:List D1) (c5:List D1) (c6:Int) (c7:Int) (c8:Int) (c9:Int) (c10:Int) (c11:List D1) (z:(D27×D64)):Z123L1v2G (run X0 n).loop c0 c1 c2 c3 c4 c5 c6 c7 c8 c9 c10 c11 z=Z123L1v2 n c0 c1 c2 c3 c4 c5 c6 c7 c8 c9 c10 c11 z:=Eq.trans (Eq.refl _) (Eq.refl _)
noncomputable abbrev Z123L1v1M (c0:List D1) (c1:List D1) (c2:List D1):Amb:={ fn:=123,base:=4,nt:=27,loops:=[{ fn:=43,tmps:=[.slice false K0 c0,.slice false K0 c1,.top,.ptr 0 0,.ptr 1 0,.ptr 2 0,.top,.top,.top,.top,.top,.top,.slice false K0 c2,.func (.func 123) [] [.ptr 3 0],.top,.top,.top,.top,.top,.top,.top,.top,.top,.top,.top,.top,.top,.top,.top,.top,.top,.top,.top,.top,.top,.top,.top,.top,.top,.top,.top,.top,.top,.top,.top,.top,.top,.top,.top,.top,.top,.top,.top,.top,.top,.top,.top],params:=[14,15],assign:=rfAssign X0 43 0,body:=rfBody X0 43 0 }] }
noncomputable def Z123L1v1G (L:LT) (c0:List D1) (c1:List D1) (c2:List D1) (z:(D27×D65)):Option ((Unit×D65) ⊕ (Unit×D65)):=L (loopOf X0 123 1) sh123x1x1 (Z123L1v1M c0 c1 c2) z
noncomputable def Z123L1v1 (n:Nat) (c0:List D1) (c1:List D1) (c2:List D1) (z:(D27×D65)):Option ((Unit×D65) ⊕ (Unit×D65)):=Z123L1v1G (run X0 n).loop c0 c1 c2 z
theorem Z123L1v1F (n:Nat) (c0:List D1) (c1:List D1) (c2:List D1) (z:(D27×D65)):Z123L1v1G (run X0 n).loop c0 c1 c2 z=Z123L1v1 n c0 c1 c2 z:=Eq.trans (Eq.refl _) (Eq.refl _)
abbrev Z106A (a0:D1) (a1:D1) (a2:D1):List AV:=[.agg [.int .i64 a0.1,.int .i64 a0.2],.agg [.int .i64 a1.1,.int .i64 a1.2],.agg [.int .i64 a2.1,.int .i64 a2.2]]
noncomputable def Z106G (T:CT) (a0:D1) (a1:D1) (a2:D1):Option Bool:=T 106 .bool (Z106A a0 a1 a2)
noncomputable def Z106 (n:Nat) (a0:D1) (a1:D1) (a2:D1):Option Bool:=Z106G (run X0 n).callT a0 a1 a2
theorem Z106F (n:Nat) (a0:D1) (a1:D1) (a2:D1):Z106G (run X0 n).callT a0 a1 a2=Z106 n a0 a1 a2:=Eq.trans (Eq.refl _) (Eq.refl _)
noncomputable abbrev Z150L1M (c0:List D1) (c1:D1) (c2:List D1):Amb:={ fn:=150,base:=4,nt:=27,loops:=[{ fn:=63,tmps:=[.slice false K0 c0,.agg [.int .i64 c1.1,.int .i64 c1.2],.top,.ptr 0 0,.ptr 1 0,.ptr 2 0,.top,.top,.top,.top,.slice false K0 c2,.func (.func 150) [] [.ptr 3 0],.top,.top,.top,.top,.top,.top,.top,.top,.top,.top,.top,.top,.top,.top,.top,.top,.top,.top,.top,.top,.top,.top,.top,.top,.top,.top,.top,.top,.top,.top,.top,.top,.top,.top,.top],params:=[12,13],assign:=rfAssign X0 63 0,body:=rfBody X0 63 0 }] }
noncomputable def Z150L1G (L:LT) (c0:List D1) (c1:D1) (c2:List D1) (z:(D27×(D17×(D4×(D12×D38))))):Option ((Unit×(D17×(D4×(D12×D38)))) ⊕ (Unit×(D17×(D4×(D12×D38))))):=L (loopOf X0 150 1) sh150x1x0 (Z150L1M c0 c1 c2) z
noncomputable def Z150L1 (n:Nat) (c0:List D1) (c1:D1) (c2:List D1) (z:(D27×(D17×(D4×(D12×D38))))):Option ((Unit×(D17×(D4×(D12×D38)))) ⊕ (Unit×(D17×(D4×(D12×D38))))):=Z150L1G (run X0 n).loop c0 c1 c2 z
theorem Z150L1F (n:Nat) (c0:List D1) (c1:D1) (c2:List D1) (z:(D27×(D17×(D4×(D12×D38))))):Z150L1G (run X0 n).loop c0 c1 c2 z=Z150L1 n c0 c1 c2 z:=Eq.trans (Eq.refl _) (Eq.refl _)
abbrev Z63A (a0:List D1) (a1:D1):List AV:=[.slice false K0 a0,.agg [.int .i64 a1.1,.int .i64 a1.2]]
noncomputable def Z63G (T:CT) (a0:List D1) (a1:D1):Option Int:=T 63 (.int .i64) (Z63A a0 a1)
noncomputable def Z63 (n:Nat) (a0:List D1) (a1:D1):Option Int:=Z63G (run X0 n).callT a0 a1
abbrev Z70A (a0:List D1) (a1:Int) (a2:List D1):List AV:=[.slice false K0 a0,.int .i64 a1,.slice false K0 a2]
noncomputable def Z70G (T:CT) (a0:List D1) (a1:Int) (a2:List D1):Option Bool:=T 70 .bool (Z70A a0 a1 a2)
noncomputable def Z70 (n:Nat) (a0:List D1) (a1:Int) (a2:List D1):Option Bool:=Z70G (run X0 n).callT a0 a1 a2
noncomputable def Z43L10G (L:LT) (z:D34):Option (((D6×(Unit×D18))×(D13×((D5×Unit)×D20))) ⊕ (D18×(Unit×((D5×Unit)×D20)))):=L (loopOf X0 43 10) sh43x10x0 { fn:=43,base:=0,nt:=57,loops:=[] } z
noncomputable def Z43L10 (n:Nat) (z:D34):Option (((D6×(Unit×D18))×(D13×((D5×Unit)×D20))) ⊕ (D18×(Unit×((D5×Unit)×D20)))):=Z43L10G (run X0 n).loop z
theorem Z43L10F (n:Nat) (z:D34):Z43L10G (run X0 n).loop z=Z43L10 n z:=Eq.trans (Eq.refl _) (Eq.refl _)
noncomputable def Z43L16G (L:LT) (z:D34):Option ((D18×(Unit×((D5×Unit)×D20))) ⊕ (D18×(Unit×((D5×Unit)×D20)))):=L (loopOf X0 43 16) sh43x16x0 { fn:=43,base:=0,nt:=57,loops:=[] } z
noncomputable def Z43L16 (n:Nat) (z:D34):Option ((D18×(Unit×((D5×Unit)×D20))) ⊕ (D18×(Unit×((D5×Unit)×D20)))):=Z43L16G (run X0 n).loop z
theorem Z43L16F (n:Nat) (z:D34):Z43L16G (run X0 n).loop z=Z43L16 n z:=Eq.trans (Eq.refl _) (Eq.refl _)
abbrev Z43A (a0:List D1) (a1:List D1):List AV:=[.slice false K0 a0,.slice false K0 a1]
noncomputable def Z43G (T:CT) (a0:List D1) (a1:List D1):Option (D5×Bool):=T 43 (.pair K3 .bool) (Z43A a0 a1)
noncomputable def Z43 (n:Nat) (a0:List D1) (a1:List D1):Option (D5×Bool):=Z43G (run X0 n).callT a0 a1
theorem Z43F (n:Nat) (a0:List D1) (a1:List D1):Z43G (run X0 n).callT a0 a1=Z43 n a0 a1:=Eq.trans (Eq.refl _) (Eq.refl _)
noncomputable abbrev Z79L8M (c0:D0) (c1:D2) (c2:D5) (c3:D0) (c4:D2) (c5:D5) (c6:List D59):Amb:={ fn:=79,base:=6,nt:=50,loops:=[{ fn:=15,tmps:=[.agg (lv0 c0),.agg (lv1 c1),.agg (lv3 c2),.ptr 0 0,.ptr 1 0,.ptr 2 0,.ptr 3 0,.ptr 4 0,.top,.top,.top,.top,.top,.agg (lv0 c3),.agg (lv1 c4),.agg (lv3 c5),.slice false (.pair K2 K2) c6,.func (.func 79) [] [.ptr 5 0],.top,.top,.top,.top,.top,.top,.top,.top,.top,.top,.top,.top,.top,.top,.top,.top,.top,.top,.top,.top,.top,.top,.top,.top,.top,.top,.top,.top,.top],params:=[18],assign:=rfAssign X0 15 0,body:=rfBody X0 15 0 }] }
noncomputable def Z79L8G (L:LT) (c0:D0) (c1:D2) (c2:D5) (c3:D0) (c4:D2) (c5:D5) (c6:List D59) (z:(D19×D7)):Option ((D21×D7) ⊕ (Unit×D7)):=L (loopOf X0 79 8) sh79x8x0 (Z79L8M c0 c1 c2 c3 c4 c5 c6) z
noncomputable def Z79L8 (n:Nat) (c0:D0) (c1:D2) (c2:D5) (c3:D0) (c4:D2) (c5:D5) (c6:List D59) (z:(D19×D7)):Option ((D21×D7) ⊕ (Unit×D7)):=Z79L8G (run X0 n).loop c0 c1 c2 c3 c4 c5 c6 z
theorem Z79L8F (n:Nat) (c0:D0) (c1:D2) (c2:D5) (c3:D0) (c4:D2) (c5:D5) (c6:List D59) (z:(D19×D7)):Z79L8G (run X0 n).loop c0 c1 c2 c3 c4 c5 c6 z=Z79L8 n c0 c1 c2 c3 c4 c5 c6 z:=Eq.trans (Eq.refl _) (Eq.refl _)
noncomputable abbrev Z79L5M (c0:D0) (c1:D2) (c2:D5) (c3:D0) (c4:D2) (c5:D5) (c6:List D59):Amb:={ fn:=79,base:=6,nt:=50,loops:=[{ fn:=15,tmps:=[.agg (lv0 c0),.agg (lv1 c1),.agg (lv3 c2),.ptr 0 0,.ptr 1 0,.ptr 2 0,.ptr 3 0,.ptr 4 0,.top,.top,.top,.top,.top,.agg (lv0 c3),.agg (lv1 c4),.agg (lv3 c5),.slice false (.pair K2 K2) c6,.func (.func 79) [] [.ptr 5 0],.top,.top,.top,.top,.top,.top,.top,.top,.top,.top,.top,.top,.top,.top,.top,.top,.top,.top,.top,.top,.top,.top,.top,.top,.top,.top,.top,.top,.top],params:=[18],assign:=rfAssign X0 15 0,body:=rfBody X0 15 0 }] }
noncomputable def Z79L5G (L:LT) (c0:D0) (c1:D2) (c2:D5) (c3:D0) (c4:D2) (c5:D5) (c6:List D59) (z:(D21×D7)):Option (((D9×(D14×D10))×D7) ⊕ (Unit×D7)):=L (loopOf X0 79 5) sh79x5x0 (Z79L5M c0 c1 c2 c3 c4 c5 c6) z
noncomputable def Z79L5 (n:Nat) (c0:D0) (c1:D2) (c2:D5) (c3:D0) (c4:D2) (c5:D5) (c6:List D59) (z:(D21×D7)):Option (((D9×(D14×D10))×D7) ⊕ (Unit×D7)):=Z79L5G (run X0 n).loop c0 c1 c2 c3 c4 c5 c6 z
noncomputable abbrev Z79L1M (c0:D0) (c1:D2) (c2:D5) (c3:D0) (c4:D2) (c5:D5) (c6:List D59):Amb:={ fn:=79,base:=6,nt:=50,loops:=[{ fn:=15,tmps:=[.agg (lv0 c0),.agg (lv1 c1),.agg (lv3 c2),.ptr 0 0,.ptr 1 0,.ptr 2 0,.ptr 3 0,.ptr 4 0,.top,.top,.top,.top,.top,.agg (lv0 c3),.agg (lv1 c4),.agg (lv3 c5),.slice false (.pair K2 K2) c6,.func (.func 79) [] [.ptr 5 0],.top,.top,.top,.top,.top,.top,.top,.top,.top,.top,.top,.top,.top,.top,.top,.top,.top,.top,.top,.top,.top,.top,.top,.top,.top,.top,.top,.top,.top],params:=[18],assign:=rfAssign X0 15 0,body:=rfBody X0 15 0 }] }
noncomputable def Z79L1G (L:LT) (c0:D0) (c1:D2) (c2:D5) (c3:D0) (c4:D2) (c5:D5) (c6:List D59) (z:((D9×(D14×D10))×D7)):Option ((Unit×D7) ⊕ (Unit×D7)):=L (loopOf X0 79 1) sh79x1x0 (Z79L1M c0 c1 c2 c3 c4 c5 c6) z
noncomputable def Z79L1 (n:Nat) (c0:D0) (c1:D2) (c2:D5) (c3:D0) (c4:D2) (c5:D5) (c6:List D59) (z:((D9×(D14×D10))×D7)):Option ((Unit×D7) ⊕ (Unit×D7)):=Z79L1G (run X0 n).loop c0 c1 c2 c3 c4 c5 c6 z
theorem Z79L1F (n:Nat) (c0:D0) (c1:D2) (c2:D5) (c3:D0) (c4:D2) (c5:D5) (c6:List D59) (z:((D9×(D14×D10))×D7)):Z79L1G (run X0 n).loop c0 c1 c2 c3 c4 c5 c6 z=Z79L1 n c0 c1 c2 c3 c4 c5 c6 z:=Eq.trans (Eq.refl _) (Eq.refl _)
abbrev Z15A (a0:D0) (a1:D2) (a2:D5):List AV:=[.agg (lv0 a0),.agg (lv1 a1),.agg (lv3 a2)]
noncomputable def Z15G (T:CT) (a0:D0) (a1:D2) (a2:D5):Option D62:=T 15 (.pair K6 .bool) (Z15A a0 a1 a2)
noncomputable def Z15 (n:Nat) (a0:D0) (a1:D2) (a2:D5):Option D62:=Z15G (run X0 n).callT a0 a1 a2
noncomputable abbrev Z79L8v1M (c0:D0) (c1:D2) (c2:D5) (c3:Bool) (c4:Int) (c5:Int) (c6:Int) (c7:Int) (c8:Int) (c9:Int) (c10:Int) (c11:Int) (c12:List Int) (c13:Bool) (c14:D0) (c15:D2) (c16:D5) (c17:Int) (c18:Int) (c19:Int) (c20:Int) (c21:Int) (c22:Int) (c23:Int) (c24:Int) (c25:List Int) (c26:Bool) (c27:D2) (c28:Bool) (c29:Bool) (c30:Bool) (c31:D0) (c32:D2) (c33:D5) (c34:List D59):Amb:={ fn:=79,base:=8,nt:=50,loops:=[{ fn:=13,tmps:=[.agg (lv0 c0),.agg (lv1 c1),.agg (lv3 c2),.ptr 0 0,.ptr 1 0,.ptr 2 0,.ptr 3 0,.ptr 4 0,.ptr 5 0,.bool c3,.ptr 6 0,.top,.top,.top,.tuple [.agg [.int .i64 c4,.int .i64 c5,.int .i64 c6,.int .i64 c7,.int .i64 c8,.int .i64 c9,.int .i64 c10,.int .i64 c11,.slice false (.int .i64) c12],.bool c13],.agg (lv0 c14),.agg (lv1 c15),.agg (lv3 c16),.tuple [.agg [.int .i64 c17,.int .i64 c18,.int .i64 c19,.int .i64 c20,.int .i64 c21,.int .i64 c22,.int .i64 c23,.int .i64 c24,.slice false (.int .i64) c25],.bool c26],.agg (lv1 c27),.bool c28,.bool c29,.bool c30,.agg (lv0 c31),.agg (lv1 c32),.agg (lv3 c33),.slice false (.pair K2 K2) c34,.func (.func 79) [] [.ptr 7 0],.top,.top,.top,.top,.top,.top,.top,.top,.top,.top,.top,.top,.top,.top,.top,.top],params:=[28],assign:=rfAssign X0 13 0,body:=rfBody X0 13 0 }] }
noncomputable def Z79L8v1G (L:LT) (c0:D0) (c1:D2) (c2:D5) (c3:Bool) (c4:Int) (c5:Int) (c6:Int) (c7:Int) (c8:Int) (c9:Int) (c10:Int) (c11:Int) (c12:List Int) (c13:Bool) (c14:D0) (c15:D2) (c16:D5) (c17:Int) (c18:Int) (c19:Int) (c20:Int) (c21:Int) (c22:Int) (c23:Int) (c24:Int) (c25:List Int) (c26:Bool) (c27:D2) (c28:Bool) (c29:Bool) (c30:Bool) (c31:D0) (c32:D2) (c33:D5) (c34:List D59) (z:(D19×D8)):Option ((D21×D8) ⊕ (Unit×D8)):=L (loopOf X0 79 8) sh79x8x1 (Z79L8v1M c0 c1 c2 c3 c4 c5 c6 c7 c8 c9 c10 c11 c12 c13 c14 c15 c16 c17 c18 c19 c20 c21 c22 c23 c24 c25 c26 c27 c28 c29 c30 c31 c32 c33 c34) z
noncomputable def Z79L8v1 (n:Nat) (c0:D0) (c1:D2) (c2:D5) (c3:Bool) (c4:Int) (c5:Int) (c6:Int) (c7:Int) (c8:Int) (c9:Int) (c10:Int) (c11:Int) (c12:List Int) (c13:Bool) (c14:D0) (c15:D2) (c16:D5) (c17:Int) (c18:Int) (c19:Int) (c20:Int) (c21:Int) (c22:Int) (c23:Int) (c24:Int) (c25:List Int) (c26:Bool) (c27:D2) (c28:Bool) (c29:Bool) (c30:Bool) (c31:D0) (c32:D2) (c33:D5) (c34:List D59) (z:(D19×D8)):Option ((D21×D8) ⊕ (Unit×D8)):=Z79L8v1G (run X0 n).loop c0 c1 c2 c3 c4 c5 c6 c7 c8 c9 c10 c11 c12 c13 c14 c15 c16 c17 c18 c19 c20 c21 c22 c23 c24 c25 c26 c27 c28 c29 c30 c31 c32 c33 c34 z
theorem Z79L8v1F (n:Nat) (c0:D0) (c1:D2) (c2:D5) (c3:Bool) (c4:Int) (c5:Int) (c6:Int) (c7:Int) (c8:Int) (c9:Int) (c10:Int) (c11:Int) (c12:List Int) (c13:Bool) (c14:D0) (c15:D2) (c16:D5) (c17:Int) (c18:Int) (c19:Int) (c20:Int) (c21:Int) (c22:Int) (c23:Int) (c24:Int) (c25:List Int) (c26:Bool) (c27:D2) (c28:Bool) (c29:Bool) (c30:Bool) (c31:D0) (c32:D2) (c33:D5) (c34:List D59) (z:(D19×D8)):Z79L8v1G (run X0 n).loop c0 c1 c2 c3 c4 c5 c6 c7 c8 c9 c10 c11 c12 c13 c14 c15 c16 c17 c18 c19 c20 c21 c22 c23 c24 c25 c26 c27 c28 c29 c30 c31 c32 c33 c34 z=Z79L8v1 n c0 c1 c2 c3 c4 c5 c6 c7 c8 c9 c10 c11 c12 c13 c14 c15 c16 c17 c18 c19 c20 c21 c22 c23 c24 c25 c26 c27 c28 c29 c30 c31 c32 c33 c34 z:=Eq.trans (Eq.refl _) (Eq.refl _)
noncomputable abbrev Z79L5v1M (c0:D0) (c1:D2) (c2:D5) (c3:Bool) (c4:Int) (c5:Int) (c6:Int) (c7:Int) (c8:Int) (c9:Int) (c10:Int) (c11:Int) (c12:List Int) (c13:Bool) (c14:D0) (c15:D2) (c16:D5) (c17:Int) (c18:Int) (c19:Int) (c20:Int) (c21:Int) (c22:Int) (c23:Int) (c24:Int) (c25:List Int) (c26:Bool) (c27:D2) (c28:Bool) (c29:Bool) (c30:Bool) (c31:D0) (c32:D2) (c33:D5) (c34:List D59):Amb:={ fn:=79,base:=8,nt:=50,loops:=[{ fn:=13,tmps:=[.agg (lv0 c0),.agg (lv1 c1),.agg (lv3 c2),.ptr 0 0,.ptr 1 0,.ptr 2 0,.ptr 3 0,.ptr 4 0,.ptr 5 0,.bool c3,.ptr 6 0,.top,.top,.top,.tuple [.agg [.int .i64 c4,.int .i64 c5,.int .i64 c6,.int .i64 c7,.int .i64 c8,.int .i64 c9,.int .i64 c10,.int .i64 c11,.slice false (.int .i64) c12],.bool c13],.agg (lv0 c14),.agg (lv1 c15),.agg (lv3 c16),.tuple [.agg [.int .i64 c17,.int .i64 c18,.int .i64 c19,.int .i64 c20,.int .i64 c21,.int .i64 c22,.int .i64 c23,.int .i64 c24,.slice false (.int .i64) c25],.bool c26],.agg (lv1 c27),.bool c28,.bool c29,.bool c30,.agg (lv0 c31),.agg (lv1 c32),.agg (lv3 c33),.slice false (.pair K2 K2) c34,.func (.func 79) [] [.ptr 7 0],.top,.top,.top,.top,.top,.top,.top,.top,.top,.top,.top,.top,.top,.top,.top,.top],params:=[28],assign:=rfAssign X0 13 0,body:=rfBody X0 13 0 }] }
noncomputable def Z79L5v1G (L:LT) (c0:D0) (c1:D2) (c2:D5) (c3:Bool) (c4:Int) (c5:Int) (c6:Int) (c7:Int) (c8:Int) (c9:Int) (c10:Int) (c11:Int) (c12:List Int) (c13:Bool) (c14:D0) (c15:D2) (c16:D5) (c17:Int) (c18:Int) (c19:Int) (c20:Int) (c21:Int) (c22:Int) (c23:Int) (c24:Int) (c25:List Int) (c26:Bool) (c27:D2) (c28:Bool) (c29:Bool) (c30:Bool) (c31:D0) (c32:D2) (c33:D5) (c34:List D59) (z:(D21×D8)):Option (((D9×(D14×D10))×D8) ⊕ (Unit×D8)):=L (loopOf X0 79 5) sh79x5x1 (Z79L5v1M c0 c1 c2 c3 c4 c5 c6 c7 c8 c9 c10 c11 c12 c13 c14 c15 c16 c17 c18 c19 c20 c21 c22 c23 c24 c25 c26 c27 c28 c29 c30 c31 c32 c33 c34) z
noncomputable def Z79L5v1 (n:Nat) (c0:D0) (c1:D2) (c2:D5) (c3:Bool) (c4:Int) (c5:Int) (c6:Int) (c7:Int) (c8:Int) (c9:Int) (c10:Int) (c11:Int) (c12:List Int) (c13:Bool) (c14:D0) (c15:D2) (c16:D5) (c17:Int) (c18:Int) (c19:Int) (c20:Int) (c21:Int) (c22:Int) (c23:Int) (c24:Int) (c25:List Int) (c26:Bool) (c27:D2) (c28:Bool) (c29:Bool) (c30:Bool) (c31:D0) (c32:D2) (c33:D5) (c34:List D59) (z:(D21×D8)):Option (((D9×(D14×D10))×D8) ⊕ (Unit×D8)):=Z79L5v1G (run X0 n).loop c0 c1 c2 c3 c4 c5 c6 c7 c8 c9 c10 c11 c12 c13 c14 c15 c16 c17 c18 c19 c20 c21 c22 c23 c24 c25 c26 c27 c28 c29 c30 c31 c32 c33 c34 z
noncomputable abbrev Z79L1v1M (c0:D0) (c1:D2) (c2:D5) (c3:Bool) (c4:Int) (c5:Int) (c6:Int) (c7:Int) (c8:Int) (c9:Int) (c10:Int) (c11:Int) (c12:List Int) (c13:Bool) (c14:D0) (c15:D2) (c16:D5) (c17:Int) (c18:Int) (c19:Int) (c20:Int) (c21:Int) (c22:Int) (c23:Int) (c24:Int) (c25:List Int) (c26:Bool) (c27:D2) (c28:Bool) (c29:Bool) (c30:Bool) (c31:D0) (c32:D2) (c33:D5) (c34:List D59):Amb:={ fn:=79,base:=8,nt:=50,loops:=[{ fn:=13,tmps:=[.agg (lv0 c0),.agg (lv1 c1),.agg (lv3 c2),.ptr 0 0,.ptr 1 0,.ptr 2 0,.ptr 3 0,.ptr 4 0,.ptr 5 0,.bool c3,.ptr 6 0,.top,.top,.top,.tuple [.agg [.int .i64 c4,.int .i64 c5,.int .i64 c6,.int .i64 c7,.int .i64 c8,.int .i64 c9,.int .i64 c10,.int .i64 c11,.slice false (.int .i64) c12],.bool c13],.agg (lv0 c14),.agg (lv1 c15),.agg (lv3 c16),.tuple [.agg [.int .i64 c17,.int .i64 c18,.int .i64 c19,.int .i64 c20,.int .i64 c21,.int .i64 c22,.int .i64 c23,.int .i64 c24,.slice false (.int .i64) c25],.bool c26],.agg (lv1 c27),.bool c28,.bool c29,.bool c30,.agg (lv0 c31),.agg (lv1 c32),.agg (lv3 c33),.slice false (.pair K2 K2) c34,.func (.func 79) [] [.ptr 7 0],.top,.top,.top,.top,.top,.top,.top,.top,.top,.top,.top,.top,.top,.top,.top,.top],params:=[28],assign:=rfAssign X0 13 0,body:=rfBody X0 13 0 }] }
noncomputable def Z79L1v1G (L:LT) (c0:D0) (c1:D2) (c2:D5) (c3:Bool) (c4:Int) (c5:Int) (c6:Int) (c7:Int) (c8:Int) (c9:Int) (c10:Int) (c11:Int) (c12:List Int) (c13:Bool) (c14:D0) (c15:D2) (c16:D5) (c17:Int) (c18:Int) (c19:Int) (c20:Int) (c21:Int) (c22:Int) (c23:Int) (c24:Int) (c25:List Int) (c26:Bool) (c27:D2) (c28:Bool) (c29:Bool) (c30:Bool) (c31:D0) (c32:D2) (c33:D5) (c34:List D59) (z:((D9×(D14×D10))×D8)):Option ((Unit×D8) ⊕ (Unit×D8)):=L (loopOf X0 79 1) sh79x1x1 (Z79L1v1M c0 c1 c2 c3 c4 c5 c6 c7 c8 c9 c10 c11 c12 c13 c14 c15 c16 c17 c18 c19 c20 c21 c22 c23 c24 c25 c26 c27 c28 c29 c30 c31 c32 c33 c34) z
noncomputable def Z79L1v1 (n:Nat) (c0:D0) (c1:D2) (c2:D5) (c3:Bool) (c4:Int) (c5:Int) (c6:Int) (c7:Int) (c8:Int) (c9:Int) (c10:Int) (c11:Int) (c12:List Int) (c13:Bool) (c14:D0) (c15:D2) (c16:D5) (c17:Int) (c18:Int) (c19:Int) (c20:Int) (c21:Int) (c22:Int) (c23:Int) (c24:Int) (c25:List Int) (c26:Bool) (c27:D2) (c28:Bool) (c29:Bool) (c30:Bool) (c31:D0) (c32:D2) (c33:D5) (c34:List D59) (z:((D9×(D14×D10))×D8)):Option ((Unit×D8) ⊕ (Unit×D8)):=Z79L1v1G (run X0 n).loop c0 c1 c2 c3 c4 c5 c6 c7 c8 c9 c10 c11 c12 c13 c14 c15 c16 c17 c18 c19 c20 c21 c22 c23 c24 c25 c26 c27 c28 c29 c30 c31 c32 c33 c34 z
theorem Z79L1v1F (n:Nat) (c0:D0) (c1:D2) (c2:D5) (c3:Bool) (c4:Int) (c5:Int) (c6:Int) (c7:Int) (c8:Int) (c9:Int) (c10:Int) (c11:Int) (c12:List Int) (c13:Bool) (c14:D0) (c15:D2) (c16:D5) (c17:Int) (c18:Int) (c19:Int) (c20:Int) (c21:Int) (c22:Int) (c23:Int) (c24:Int) (c25:List Int) (c26:Bool) (c27:D2) (c28:Bool) (c29:Bool) (c30:Bool) (c31:D0) (c32:D2) (c33:D5) (c34:List D59) (z:((D9×(D14×D10))×D8)):Z79L1v1G (run X0 n).loop c0 c1 c2 c3 c4 c5 c6 c7 c8 c9 c10 c11 c12 c13 c14 c15 c16 c17 c18 c19 c20 c21 c22 c23 c24 c25 c26 c27 c28 c29 c30 c31 c32 c33 c34 z=Z79L1v1 n c0 c1 c2 c3 c4 c5 c6 c7 c8 c9 c10 c11 c12 c13 c14 c15 c16 c17 c18 c19 c20 c21 c22 c23 c24 c25 c26 c27 c28 c29 c30 c31 c32 c33 c34 z:=Eq.trans (Eq.refl _) (Eq.refl _)
abbrev Z13A (a0:D0) (a1:D2) (a2:D5):List AV:=[.agg (lv0 a0),.agg (lv1 a1),.agg (lv3 a2)]
noncomputable def Z13G (T:CT) (a0:D0) (a1:D2) (a2:D5):Option (D6×Bool):=T 13 (.pair K5 .bool) (Z13A a0 a1 a2)
noncomputable def Z13 (n:Nat) (a0:D0) (a1:D2) (a2:D5):Option (D6×Bool):=Z13G (run X0 n).callT a0 a1 a2
abbrev Z34A (a0:List D1) (a1:List D1):List AV:=[.slice false K0 a0,.slice false K0 a1]
noncomputable def Z34G (T:CT) (a0:List D1) (a1:List D1):Option Bool:=T 34 .bool (Z34A a0 a1)
noncomputable def Z34 (n:Nat) (a0:List D1) (a1:List D1):Option Bool:=Z34G (run X0 n).callT a0 a1
theorem Z34F (n:Nat) (a0:List D1) (a1:List D1):Z34G (run X0 n).callT a0 a1=Z34 n a0 a1:=Eq.trans (Eq.refl _) (Eq.refl _)
noncomputable abbrev Z98L6v1M (c0:D0) (c1:D2) (c2:D0) (c3:D2):Amb:={ fn:=98,base:=5,nt:=60,loops:=[{ fn:=24,tmps:=[.agg (lv0 c0),.agg (lv1 c1),.ptr 0 0,.ptr 1 0,.ptr 2 0,.top,.agg (lv0 c2),.agg (lv1 c3),.func (.func 98) [] [.ptr 3 0,.ptr 4 0],.top,.top,.top,.top,.top,.top,.top,.top],params:=[9],assign:=rfAssign X0 24 0,body:=rfBody X0 24 0 }] }
noncomputable def Z98L6v1G (L:LT) (c0:D0) (c1:D2) (c2:D0) (c3:D2) (z:(D37×(D24×(D26×(D12×D53))))):Option (D43 ⊕ (Unit×(D24×(D26×(D12×D15))))):=L (loopOf X0 98 6) sh98x6x1 (Z98L6v1M c0 c1 c2 c3) z
noncomputable def Z98L6v1 (n:Nat) (c0:D0) (c1:D2) (c2:D0) (c3:D2) (z:(D37×(D24×(D26×(D12×D53))))):Option (D43 ⊕ (Unit×(D24×(D26×(D12×D15))))):=Z98L6v1G (run X0 n).loop c0 c1 c2 c3 z
theorem Z98L6v1F (n:Nat) (c0:D0) (c1:D2) (c2:D0) (c3:D2) (z:(D37×(D24×(D26×(D12×D53))))):Z98L6v1G (run X0 n).loop c0 c1 c2 c3 z=Z98L6v1 n c0 c1 c2 c3 z:=Eq.trans (Eq.refl _) (Eq.refl _)
noncomputable abbrev Z98L3v1M (c0:D0) (c1:D2) (c2:D0) (c3:D2):Amb:={ fn:=98,base:=5,nt:=60,loops:=[{ fn:=24,tmps:=[.agg (lv0 c0),.agg (lv1 c1),.ptr 0 0,.ptr 1 0,.ptr 2 0,.top,.agg (lv0 c2),.agg (lv1 c3),.func (.func 98) [] [.ptr 3 0,.ptr 4 0],.top,.top,.top,.top,.top,.top,.top,.top],params:=[9],assign:=rfAssign X0 24 0,body:=rfBody X0 24 0 }] }
noncomputable def Z98L3v1G (L:LT) (c0:D0) (c1:D2) (c2:D0) (c3:D2) (z:D43):Option ((Unit×(D24×(D26×(D12×D15)))) ⊕ (Unit×(D24×(D26×(D12×D15))))):=L (loopOf X0 98 3) sh98x3x1 (Z98L3v1M c0 c1 c2 c3) z
noncomputable def Z98L3v1 (n:Nat) (c0:D0) (c1:D2) (c2:D0) (c3:D2) (z:D43):Option ((Unit×(D24×(D26×(D12×D15)))) ⊕ (Unit×(D24×(D26×(D12×D15))))):=Z98L3v1G (run X0 n).loop c0 c1 c2 c3 z
theorem Z98L3v1F (n:Nat) (c0:D0) (c1:D2) (c2:D0) (c3:D2) (z:D43):Z98L3v1G (run X0 n).loop c0 c1 c2 c3 z=Z98L3v1 n c0 c1 c2 c3 z:=Eq.trans (Eq.refl _) (Eq.refl _)
abbrev Z24A (a0:D0) (a1:D2):List AV:=[.agg (lv0 a0),.agg (lv1 a1)]
noncomputable def Z24G (T:CT) (a0:D0) (a1:D2):Option Bool:=T 24 .bool (Z24A a0 a1)
noncomputable def Z24 (n:Nat) (a0:D0) (a1:D2):Option Bool:=Z24G (run X0 n).callT a0 a1
abbrev Z22A (a0:D0) (a1:D2) (a2:D5):List AV:=[.agg (lv0 a0),.agg (lv1 a1),.agg (lv3 a2)]
noncomputable def Z22G (T:CT) (a0:D0) (a1:D2) (a2:D5):Option Bool:=T 22 .bool (Z22A a0 a1 a2)
noncomputable def Z22 (n:Nat) (a0:D0) (a1:D2) (a2:D5):Option Bool:=Z22G (run X0 n).callT a0 a1 a2
noncomputable def Z60G (T:CT) (a0:D1):Option Bool:=T 60 .bool [.agg [.int .i64 a0.1,.int .i64 a0.2]]
noncomputable def Z60 (n:Nat) (a0:D1):Option Bool:=Z60G (run X0 n).callT a0
noncomputable def Z59G (T:CT) (a0:D1):Option Bool:=T 59 .bool [.agg [.int .i64 a0.1,.int .i64 a0.2]]
noncomputable def Z59 (n:Nat) (a0:D1):Option Bool:=Z59G (run X0 n).callT a0
noncomputable def Z103L2G (L:LT) (z:((D6×(D9×D10))×Unit)):Option (D9 ⊕ (D4×Unit)):=L (loopOf X0 103 2) sh103x2x0 { fn:=103,base:=0,nt:=19,loops:=[] } z
noncomputable def Z103L2 (n:Nat) (z:((D6×(D9×D10))×Unit)):Option (D9 ⊕ (D4×Unit)):=Z103L2G (run X0 n).loop z
abbrev Z103A (a0:List D1):List AV:=[.slice false K0 a0,.func (.func 59) [] []]
noncomputable def Z103G (T:CT) (a0:List D1):Option Int:=T 103 (.int .i64) (Z103A a0)
noncomputable def Z103 (n:Nat) (a0:List D1):Option Int:=Z103G (run X0 n).callT a0
abbrev Z58A (a0:List D1):List AV:=[.slice false K0 a0,.func (.func 59) [] []]
noncomputable def Z58G (T:CT) (a0:List D1):Option Bool:=T 58 .bool (Z58A a0)
noncomputable def Z58 (n:Nat) (a0:List D1):Option Bool:=Z58G (run X0 n).callT a0
noncomputable abbrev Z150L1v2M (c0:List D1) (c1:List D1) (c2:Int) (c3:List D1) (c4:List D1) (c5:List D1) (c6:Int) (c7:List D1) (c8:Int) (c9:Int) (c10:Int) (c11:Int) (c12:Int) (c13:D1) (c14:D1) (c15:List D1) (c16:Int) (c17:Int) (c18:Int) (c19:Int) (c20:Int) (c21:Int) (c22:D1) (c23:Int) (c24:Bool) (c25:List D1):Amb:={ fn:=150,base:=7,nt:=27,loops:=[{ fn:=61,tmps:=[.slice false K0 c0,.ptr 0 0,.ptr 1 0,.ptr 2 0,.top,.top,.top,.top,.slice false K0 c1,.int .i64 c2,.slice false K0 c3,.func (.func 150) [] [.ptr 3 0],.top,.top,.top,.top,.top,.top,.top,.top,.top,.top,.top,.top,.top,.top,.top,.top,.top,.top,.top,.top,.top,.top,.top,.top,.top,.top,.top,.top,.top,.top,.top,.top,.top,.top,.top,.top,.top,.top,.top,.top,.top,.top,.top,.top,.top,.top,.top],params:=[12,13],assign:=rfAssign X0 61 0,body:=rfBody X0 61 0 },{ fn:=61,tmps:=[.slice false K0 c4,.ptr 0 0,.ptr 1 0,.ptr 2 0,.ptr 4 0,.ptr 5 0,.top,.top,.slice false K0 c5,.int .i64 c6,.slice false K0 c7,.func (.func 150) [] [.ptr 3 0],.int .i64 c8,.agg [.int .i64 c9,.int .i64 c10,.int .i64 c11,.int .i64 c12],.ptr 5 0,.agg [.int .i64 c13.1,.int .i64 c13.2],.ptr 5 2,.agg [.int .i64 c14.1,.int .i64 c14.2],.slice false K0 c15,.int .i64 c16,.int .i64 c17,.int .i64 c18,.int .i64 c19,.cptr [.int .i64 c20,.int .i64 c21],.agg [.int .i64 c22.1,.int .i64 c22.2],.int .i64 c23,.bool c24,.slice false K0 c25,.func (.func 150) [] [.ptr 6 0],.top,.top,.top,.top,.top,.top,.top,.top,.top,.top,.top,.top,.top,.top,.top,.top,.top,.top,.top,.top,.top,.top,.top,.top,.top,.top,.top,.top,.top,.top],params:=[29,30],assign:=rfAssign X0 61 1,body:=rfBody X0 61 1 }] }
noncomputable def Z150L1v2G (L:LT) (c0:List D1) (c1:List D1) (c2:Int) (c3:List D1) (c4:List D1) (c5:List D1) (c6:Int) (c7:List D1) (c8:Int) (c9:Int) (c10:Int) (c11:Int) (c12:Int) (c13:D1) (c14:D1) (c15:List D1) (c16:Int) (c17:Int) (c18:Int) (c19:Int) (c20:Int) (c21:Int) (c22:D1) (c23:Int) (c24:Bool) (c25:List D1) (z:(D27×(D13×(D12×(D4×D23))))):Option ((Unit×(D13×(D12×(D4×D23)))) ⊕ (Unit×(D13×(D12×(D4×D23))))):=L (loopOf X0 150 1) sh150x1x2 (Z150L1v2M c0 c1 c2 c3 c4 c5 c6 c7 c8 c9 c10 c11 c12 c13 c14 c15 c16 c17 c18 c19 c20 c21 c22 c23 c24 c25) z
noncomputable def Z150L1v2 (n:Nat) (c0:List D1) (c1:List D1) (c2:Int) (c3:List D1) (c4:List D1) (c5:List D1) (c6:Int) (c7:List D1) (c8:Int) (c9:Int) (c10:Int) (c11:Int) (c12:Int) (c13:D1) (c14:D1) (c15:List D1) (c16:Int) (c17:Int) (c18:Int) (c19:Int) (c20:Int) (c21:Int) (c22:D1) (c23:Int) (c24:Bool) (c25:List D1) (z:(D27×(D13×(D12×(D4×D23))))):Option ((Unit×(D13×(D12×(D4×D23)))) ⊕ (Unit×(D13×(D12×(D4×D23))))):=Z150L1v2G (run X0 n).loop c0 c1 c2 c3 c4 c5 c6 c7 c8 c9 c10 c11 c12 c13 c14 c15 c16 c17 c18 c19 c20 c21 c22 c23 c24 c25 z
theorem Z150L1v2F (n:Nat) (c0:List D1) (c1:List D1) (c2:Int) (c3:List D1) (c4:List D1) (c5:List D1) (c6:Int) (c7:List D1) (c8:Int) (c9:Int) (c10:Int) (c11:Int) (c12:Int) (c13:D1) (c14:D1) (c15:List D1) (c16:Int) (c17:Int) (c18:Int) (c19:Int) (c20:Int) (c21:Int) (c22:D1) (c23:Int) (c24:Bool) (c25:List D1) (z:(D27×(D13×(D12×(D4×D23))))):Z150L1v2G (run X0 n).loop c0 c1 c2 c3 c4 c5 c6 c7 c8 c9 c10 c11 c12 c13 c14 c15 c16 c17 c18 c19 c20 c21 c22 c23 c24 c25 z=Z150L1v2 n c0 c1 c2 c3 c4 c5 c6 c7 c8 c9 c10 c11 c12 c13 c14 c15 c16 c17 c18 c19 c20 c21 c22 c23 c24 c25 z:=Eq.trans (Eq.refl _) (Eq.refl _)
noncomputable abbrev Z150L1v1M (c0:List D1) (c1:List D1) (c2:Int) (c3:List D1):Amb:={ fn:=150,base:=4,nt:=27,loops:=[{ fn:=61,tmps:=[.slice false K0 c0,.ptr 0 0,.ptr 1 0,.ptr 2 0,.top,.top,.top,.top,.slice false K0 c1,.int .i64 c2,.slice false K0 c3,.func (.func 150) [] [.ptr 3 0],.top,.top,.top,.top,.top,.top,.top,.top,.top,.top,.top,.top,.top,.top,.top,.top,.top,.top,.top,.top,.top,.top,.top,.top,.top,.top,.top,.top,.top,.top,.top,.top,.top,.top,.top,.top,.top,.top,.top,.top,.top,.top,.top,.top,.top,.top,.top],params:=[12,13],assign:=rfAssign X0 61 0,body:=rfBody X0 61 0 }] }
noncomputable def Z150L1v1G (L:LT) (c0:List D1) (c1:List D1) (c2:Int) (c3:List D1) (z:(D27×(D13×(D12×(D4×D38))))):Option ((Unit×(D13×(D12×(D4×D38)))) ⊕ (Unit×(D13×(D12×(D4×D38))))):=L (loopOf X0 150 1) sh150x1x1 (Z150L1v1M c0 c1 c2 c3) z
noncomputable def Z150L1v1 (n:Nat) (c0:List D1) (c1:List D1) (c2:Int) (c3:List D1) (z:(D27×(D13×(D12×(D4×D38))))):Option ((Unit×(D13×(D12×(D4×D38)))) ⊕ (Unit×(D13×(D12×(D4×D38))))):=Z150L1v1G (run X0 n).loop c0 c1 c2 c3 z
theorem Z150L1v1F (n:Nat) (c0:List D1) (c1:List D1) (c2:Int) (c3:List D1) (z:(D27×(D13×(D12×(D4×D38))))):Z150L1v1G (run X0 n).loop c0 c1 c2 c3 z=Z150L1v1 n c0 c1 c2 c3 z:=Eq.trans (Eq.refl _) (Eq.refl _)
noncomputable def Z61G (T:CT) (a0:List D1):Option Bool:=T 61 .bool [.slice false K0 a0]
noncomputable def Z61 (n:Nat) (a0:List D1):Option Bool:=Z61G (run X0 n).callT a0
noncomputable abbrev Z150L1v3M (c0:List D1) (c1:Int) (c2:List D1):Amb:={ fn:=150,base:=2,nt:=27,loops:=[{ fn:=62,tmps:=[.slice false K0 c0,.top,.int .i64 c1,.ptr 0 0,.top,.top,.slice false K0 c2,.func (.func 150) [] [.ptr 1 0],.top,.top,.top,.top,.top,.top,.top,.top,.top,.top,.top,.top,.top,.top,.top,.top,.top,.top,.top,.top],params:=[8,9],assign:=rfAssign X0 62 0,body:=rfBody X0 62 0 }] }
noncomputable def Z150L1v3G (L:LT) (c0:List D1) (c1:Int) (c2:List D1) (z:(D27×(D4×D38))):Option (Unit×(D4×D38)):=L (loopOf X0 150 1) sh150x1x3 (Z150L1v3M c0 c1 c2) z
noncomputable def Z150L1v3 (n:Nat) (c0:List D1) (c1:Int) (c2:List D1) (z:(D27×(D4×D38))):Option (Unit×(D4×D38)):=Z150L1v3G (run X0 n).loop c0 c1 c2 z
theorem Z150L1v3F (n:Nat) (c0:List D1) (c1:Int) (c2:List D1) (z:(D27×(D4×D38))):Z150L1v3G (run X0 n).loop c0 c1 c2 z=Z150L1v3 n c0 c1 c2 z:=Eq.trans (Eq.refl _) (Eq.refl _)
noncomputable def Z62G (T:CT) (a0:List D1):Option Int:=T 62 (.int .i64) [.slice false K0 a0]
noncomputable def Z62 (n:Nat) (a0:List D1):Option Int:=Z62G (run X0 n).callT a0
noncomputable def Z28G (T:CT) (a0:List D1):Option Bool:=T 28 .bool [.slice false K0 a0]
noncomputable def Z28 (n:Nat) (a0:List D1):Option Bool:=Z28G (run X0 n).callT a0
noncomputable def Z9G (T:CT):Option Bool:=T 9 .bool []
noncomputable def Z9 (n:Nat):Option Bool:=Z9G (run X0 n).callT
abbrev Z113A (a0:D11):List AV:=[.agg (lv2 a0)]
noncomputable def Z113G (T:CT) (a0:D11):Option Bool:=T 113 .bool (Z113A a0)
noncomputable def Z113 (n:Nat) (a0:D11):Option Bool:=Z113G (run X0 n).callT a0
noncomputable def Z114G (T:CT) (a0:Int):Option Int:=T 114 (.int .i64) [.int .i64 a0]
noncomputable def Z114 (n:Nat) (a0:Int):Option Int:=Z114G (run X0 n).callT a0
abbrev Z71A (a0:D11):List AV:=[.agg (lv2 a0)]
noncomputable def Z71G (T:CT) (a0:D11):Option Bool:=T 71 .bool (Z71A a0)
noncomputable def Z71 (n:Nat) (a0:D11):Option Bool:=Z71G (run X0 n).callT a0
abbrev Z52A (a0:D11) (a1:D5):List AV:=[.agg (lv2 a0),.agg (lv3 a1)]
noncomputable def Z52G (T:CT) (a0:D11) (a1:D5):Option Bool:=T 52 .bool (Z52A a0 a1)
noncomputable def Z52 (n:Nat) (a0:D11) (a1:D5):Option Bool:=Z52G (run X0 n).callT a0 a1
noncomputable def Z37L2G (L:LT) (z:((Unit×D4)×(D24×Unit))):Option ((D9×(D24×Unit)) ⊕ D20):=L (loopOf X0 37 2) sh37x2x0 { fn:=37,base:=0,nt:=179,loops:=[] } z
noncomputable def Z37L2 (n:Nat) (z:((Unit×D4)×(D24×Unit))):Option ((D9×(D24×Unit)) ⊕ D20):=Z37L2G (run X0 n).loop z
noncomputable def Z72G (T:CT) (a0:D5):Option Bool:=T 72 .bool [.agg (lv3 a0)]
noncomputable def Z72 (n:Nat) (a0:D5):Option Bool:=Z72G (run X0 n).callT a0
noncomputable def Z153G (T:CT) (a0:D1):Option Bool:=T 153 .bool [.agg [.int .i64 a0.1,.int .i64 a0.2]]
noncomputable def Z153 (n:Nat) (a0:D1):Option Bool:=Z153G (run X0 n).callT a0
noncomputable def Z115L5G (L:LT) (z:D54):Option ((D61×Unit) ⊕ D20):=L (loopOf X0 115 5) sh115x5x0 { fn:=115,base:=0,nt:=79,loops:=[] } z
noncomputable def Z115L5 (n:Nat) (z:D54):Option ((D61×Unit) ⊕ D20):=Z115L5G (run X0 n).loop z
abbrev Z155A (a0:List D1) (a1:Int):List AV:=[.slice false K0 a0,.int .i64 a1]
noncomputable def Z155G (T:CT) (a0:List D1) (a1:Int):Option D1:=T 155 K0 (Z155A a0 a1)
noncomputable def Z155 (n:Nat) (a0:List D1) (a1:Int):Option D1:=Z155G (run X0 n).callT a0 a1
abbrev Z154A (a0:D1) (a1:D1) (a2:D1):List AV:=[.agg [.int .i64 a0.1,.int .i64 a0.2],.agg [.int .i64 a1.1,.int .i64 a1.2],.agg [.int .i64 a2.1,.int .i64 a2.2]]
noncomputable def Z154G (T:CT) (a0:D1) (a1:D1) (a2:D1):Option Int:=T 154 (.int .i64) (Z154A a0 a1 a2)
noncomputable def Z154 (n:Nat) (a0:D1) (a1:D1) (a2:D1):Option Int:=Z154G (run X0 n).callT a0 a1 a2
noncomputable def Z199G (T:CT) (a0:Int) (a1:Int) (a2:Int):Option Bool:=T 199 .bool [.int .i64 a0,.int .i64 a1,.int .i64 a2]
noncomputable def Z199 (n:Nat) (a0:Int) (a1:Int) (a2:Int):Option Bool:=Z199G (run X0 n).callT a0 a1 a2
abbrev Z179A (a0:D1) (a1:D1) (a2:D1):List AV:=[.agg [.int .i64 a0.1,.int .i64 a0.2],.agg [.int .i64 a1.1,.int .i64 a1.2],.agg [.int .i64 a2.1,.int .i64 a2.2]]
noncomputable def Z179G (T:CT) (a0:D1) (a1:D1) (a2:D1):Option Bool:=T 179 .bool (Z179A a0 a1 a2)
noncomputable def Z179 (n:Nat) (a0:D1) (a1:D1) (a2:D1):Option Bool:=Z179G (run X0 n).callT a0 a1 a2
noncomputable def Z180G (T:CT) (a0:Int):Option Int:=T 180 (.int .i64) [.int .i64 a0]
noncomputable def Z180 (n:Nat) (a0:Int):Option Int:=Z180G (run X0 n).callT a0
abbrev Z156A (a0:D1) (a1:D1) (a2:D1) (a3:D1):List AV:=[.agg [.int .i64 a0.1,.int .i64 a0.2],.agg [.int .i64 a1.1,.int .i64 a1.2],.agg [.int .i64 a2.1,.int .i64 a2.2],.agg [.int .i64 a3.1,.int .i64 a3.2]]
noncomputable def Z156G (T:CT) (a0:D1) (a1:D1) (a2:D1) (a3:D1):Option Bool:=T 156 .bool (Z156A a0 a1 a2 a3)
noncomputable def Z156 (n:Nat) (a0:D1) (a1:D1) (a2:D1) (a3:D1):Option Bool:=Z156G (run X0 n).callT a0 a1 a2 a3
noncomputable def Z115L15G (L:LT) (z:D48):Option (D54 ⊕ D20):=L (loopOf X0 115 15) sh115x15x0 { fn:=115,base:=0,nt:=79,loops:=[] } z
noncomputable def Z115L15 (n:Nat) (z:D48):Option (D54 ⊕ D20):=Z115L15G (run X0 n).loop z
noncomputable def Z115L10G (L:LT) (z:D54):Option (D38 ⊕ D20):=L (loopOf X0 115 10) sh115x10x0 { fn:=115,base:=0,nt:=79,loops:=[] } z
noncomputable def Z115L10 (n:Nat) (z:D54):Option (D38 ⊕ D20):=Z115L10G (run X0 n).loop z
noncomputable def Z157L3G (L:LT) (z:D54):Option (D4×Unit):=L (loopOf X0 157 3) sh157x3x0 { fn:=157,base:=0,nt:=34,loops:=[] } z
noncomputable def Z157L3 (n:Nat) (z:D54):Option (D4×Unit):=Z157L3G (run X0 n).loop z
noncomputable def Z157G (T:CT) (a0:List D1):Option Int:=T 157 (.int .i64) [.slice false K0 a0]
noncomputable def Z157 (n:Nat) (a0:List D1):Option Int:=Z157G (run X0 n).callT a0
noncomputable def Z115G (T:CT) (a0:List D1):Option Bool:=T 115 .bool [.slice false K0 a0]
noncomputable def Z115 (n:Nat) (a0:List D1):Option Bool:=Z115G (run X0 n).callT a0
noncomputable def Z73L4G (L:LT) (z:((D44×D4)×Unit)):Option (D9 ⊕ D20):=L (loopOf X0 73 4) sh73x4x0 { fn:=73,base:=0,nt:=19,loops:=[] } z
noncomputable def Z73L4 (n:Nat) (z:((D44×D4)×Unit)):Option (D9 ⊕ D20):=Z73L4G (run X0 n).loop z
noncomputable def Z73G (T:CT) (a0:List D6):Option Bool:=T 73 .bool [.slice false K5 a0]
noncomputable def Z73 (n:Nat) (a0:List D6):Option Bool:=Z73G (run X0 n).callT a0
noncomputable def Z74L3G (L:LT) (z:((Unit×(D44×D4))×(D24×Unit))):Option ((D44×Unit)×Unit):=L (loopOf X0 74 3) sh74x3x0 { fn:=74,base:=0,nt:=22,loops:=[] } z
noncomputable def Z74L3 (n:Nat) (z:((Unit×(D44×D4))×(D24×Unit))):Option ((D44×Unit)×Unit):=Z74L3G (run X0 n).loop z
abbrev Z74A (a0:D0):List AV:=[.agg (lv0 a0)]
noncomputable def Z74G (T:CT) (a0:D0):Option D44:=T 74 K11 (Z74A a0)
noncomputable def Z74 (n:Nat) (a0:D0):Option D44:=Z74G (run X0 n).callT a0
noncomputable def Z158L3G (L:LT) (z:(D33×Unit)):Option (D4×Unit):=L (loopOf X0 158 3) sh158x3x0 { fn:=158,base:=0,nt:=13,loops:=[] } z
noncomputable def Z158L3 (n:Nat) (z:(D33×Unit)):Option (D4×Unit):=Z158L3G (run X0 n).loop z
noncomputable def Z158G (T:CT) (a0:Int):Option Int:=T 158 (.int .i64) [.int .i64 a0]
noncomputable def Z158 (n:Nat) (a0:Int):Option Int:=Z158G (run X0 n).callT a0
noncomputable def Z116G (T:CT) (a0:D5):Option Bool:=T 116 .bool [.agg (lv3 a0)]
noncomputable def Z116 (n:Nat) (a0:D5):Option Bool:=Z116G (run X0 n).callT a0
noncomputable def Z75L3G (L:LT) (z:(((List D52)×(D56×D4))×Unit)):Option ((((List D52)×(D56×Unit))×Unit) ⊕ D20):=L (loopOf X0 75 3) sh75x3x0 { fn:=75,base:=0,nt:=72,loops:=[] } z
noncomputable def Z75L3 (n:Nat) (z:(((List D52)×(D56×D4))×Unit)):Option ((((List D52)×(D56×Unit))×Unit) ⊕ D20):=Z75L3G (run X0 n).loop z
noncomputable def Z181G (T:CT) (a0:Int):Option Bool:=T 181 .bool [.int .u8 a0]
noncomputable def Z181 (n:Nat) (a0:Int):Option Bool:=Z181G (run X0 n).callT a0
noncomputable def Z159L4G (L:LT) (z:((ByteArray×D4)×Unit)):Option (D9 ⊕ D20):=L (loopOf X0 159 4) sh159x4x0 { fn:=159,base:=0,nt:=47,loops:=[] } z
noncomputable def Z159L4 (n:Nat) (z:((ByteArray×D4)×Unit)):Option (D9 ⊕ D20):=Z159L4G (run X0 n).loop z
noncomputable def Z159G (T:CT) (a0:ByteArray):Option Bool:=T 159 .bool [.str a0]
noncomputable def Z159 (n:Nat) (a0:ByteArray):Option Bool:=Z159G (run X0 n).callT a0
noncomputable def Z117L7G (L:LT) (z:((D56×D10)×Unit)):Option (((D56×D4)×Unit) ⊕ D20):=L (loopOf X0 117 7) sh117x7x0 { fn:=117,base:=0,nt:=31,loops:=[] } z
noncomputable def Z117L7 (n:Nat) (z:((D56×D10)×Unit)):Option (((D56×D4)×Unit) ⊕ D20):=Z117L7G (run X0 n).loop z
noncomputable def Z117L2G (L:LT) (z:((D56×D4)×Unit)):Option (D9 ⊕ D20):=L (loopOf X0 117 2) sh117x2x0 { fn:=117,base:=0,nt:=31,loops:=[] } z
noncomputable def Z117L2 (n:Nat) (z:((D56×D4)×Unit)):Option (D9 ⊕ D20):=Z117L2G (run X0 n).loop z
noncomputable def Z117G (T:CT) (a0:List ByteArray):Option Bool:=T 117 .bool [.slice false .str a0]
noncomputable def Z117 (n:Nat) (a0:List ByteArray):Option Bool:=Z117G (run X0 n).callT a0
abbrev Z75A (a0:List D52):List AV:=[.slice false K9 a0]
noncomputable def Z75G (T:CT) (a0:List D52):Option Bool:=T 75 .bool (Z75A a0)
noncomputable def Z75 (n:Nat) (a0:List D52):Option Bool:=Z75G (run X0 n).callT a0
abbrev Z182A (a0:D1) (a1:D1) (a2:D1):List AV:=[.agg [.int .i64 a0.1,.int .i64 a0.2],.agg [.int .i64 a1.1,.int .i64 a1.2],.agg [.int .i64 a2.1,.int .i64 a2.2]]
noncomputable def Z182G (T:CT) (a0:D1) (a1:D1) (a2:D1):Option Int:=T 182 (.int .i64) (Z182A a0 a1 a2)
noncomputable def Z182 (n:Nat) (a0:D1) (a1:D1) (a2:D1):Option Int:=Z182G (run X0 n).callT a0 a1 a2
abbrev Z160A (a0:D1) (a1:D1) (a2:D1):List AV:=[.agg [.int .i64 a0.1,.int .i64 a0.2],.agg [.int .i64 a1.1,.int .i64 a1.2],.agg [.int .i64 a2.1,.int .i64 a2.2]]
noncomputable def Z160G (T:CT) (a0:D1) (a1:D1) (a2:D1):Option Int:=T 160 (.int .i64) (Z160A a0 a1 a2)
noncomputable def Z160 (n:Nat) (a0:D1) (a1:D1) (a2:D1):Option Int:=Z160G (run X0 n).callT a0 a1 a2
noncomputable def Z118L9G (L:LT) (z:D54):Option ((D61×Unit) ⊕ D20):=L (loopOf X0 118 9) sh118x9x0 { fn:=118,base:=0,nt:=73,loops:=[] } z
noncomputable def Z118L9 (n:Nat) (z:D54):Option ((D61×Unit) ⊕ D20):=Z118L9G (run X0 n).loop z
noncomputable def Z118L4G (L:LT) (z:(D61×Unit)):Option (D9 ⊕ D20):=L (loopOf X0 118 4) sh118x4x0 { fn:=118,base:=0,nt:=73,loops:=[] } z
noncomputable def Z118L4 (n:Nat) (z:(D61×Unit)):Option (D9 ⊕ D20):=Z118L4G (run X0 n).loop z
noncomputable def Z118G (T:CT) (a0:List D1):Option Bool:=T 118 .bool [.slice false K0 a0]
noncomputable def Z118 (n:Nat) (a0:List D1):Option Bool:=Z118G (run X0 n).callT a0
noncomputable def Z76L4G (L:LT) (z:(((List D28)×(Int×(D56×((List Int)×D4))))×Unit)):Option ((((List D28)×(Int×(D56×((List Int)×Unit))))×Unit) ⊕ D20):=L (loopOf X0 76 4) sh76x4x0 { fn:=76,base:=0,nt:=49,loops:=[] } z
noncomputable def Z76L4 (n:Nat) (z:(((List D28)×(Int×(D56×((List Int)×D4))))×Unit)):Option ((((List D28)×(Int×(D56×((List Int)×Unit))))×Unit) ⊕ D20):=Z76L4G (run X0 n).loop z
noncomputable def Z77L7G (L:LT) (z:(((List Int)×D33)×Unit)):Option ((((List Int)×D10)×Unit) ⊕ D20):=L (loopOf X0 77 7) sh77x7x0 { fn:=77,base:=0,nt:=40,loops:=[] } z
noncomputable def Z77L7 (n:Nat) (z:(((List Int)×D33)×Unit)):Option ((((List Int)×D10)×Unit) ⊕ D20):=Z77L7G (run X0 n).loop z
noncomputable def Z77L2G (L:LT) (z:(((List Int)×D10)×Unit)):Option (D9 ⊕ D20):=L (loopOf X0 77 2) sh77x2x0 { fn:=77,base:=0,nt:=40,loops:=[] } z
noncomputable def Z77L2 (n:Nat) (z:(((List Int)×D10)×Unit)):Option (D9 ⊕ D20):=Z77L2G (run X0 n).loop z
noncomputable def Z77G (T:CT) (a0:List Int) (a1:Int):Option Bool:=T 77 .bool [.slice false (.int .i64) a0,.int .i64 a1]
noncomputable def Z77 (n:Nat) (a0:List Int) (a1:Int):Option Bool:=Z77G (run X0 n).callT a0 a1
abbrev Z76A (a0:List D28) (a1:Int):List AV:=[.slice false K7 a0,.int .i64 a1]
noncomputable def Z76G (T:CT) (a0:List D28) (a1:Int):Option Bool:=T 76 .bool (Z76A a0 a1)
noncomputable def Z76 (n:Nat) (a0:List D28) (a1:Int):Option Bool:=Z76G (run X0 n).callT a0 a1
abbrev Z37A (a0:D0):List AV:=[.agg (lv0 a0)]
noncomputable def Z37G (T:CT) (a0:D0):Option Bool:=T 37 .bool (Z37A a0)
noncomputable def Z37 (n:Nat) (a0:D0):Option Bool:=Z37G (run X0 n).callT a0
noncomputable def Z53L4G (L:LT) (z:(D35×D15)):Option ((D18×D15) ⊕ D20):=L (loopOf X0 53 4) sh53x4x0 { fn:=53,base:=0,nt:=108,loops:=[] } z
noncomputable def Z53L4 (n:Nat) (z:(D35×D15)):Option ((D18×D15) ⊕ D20):=Z53L4G (run X0 n).loop z
noncomputable def Z53L15G (L:LT) (z:((Unit×(Unit×D10))×D15)):Option ((D35×D15) ⊕ D20):=L (loopOf X0 53 15) sh53x15x0 { fn:=53,base:=0,nt:=108,loops:=[] } z
noncomputable def Z53L15 (n:Nat) (z:((Unit×(Unit×D10))×D15)):Option ((D35×D15) ⊕ D20):=Z53L15G (run X0 n).loop z
noncomputable def Z53L10G (L:LT) (z:(D35×D15)):Option (D9 ⊕ D20):=L (loopOf X0 53 10) sh53x10x0 { fn:=53,base:=0,nt:=108,loops:=[] } z
noncomputable def Z53L10 (n:Nat) (z:(D35×D15)):Option (D9 ⊕ D20):=Z53L10G (run X0 n).loop z
abbrev Z53A (a0:D0) (a1:D2):List AV:=[.agg (lv0 a0),.agg (lv1 a1)]
noncomputable def Z53G (T:CT) (a0:D0) (a1:D2):Option Bool:=T 53 .bool (Z53A a0 a1)
noncomputable def Z53 (n:Nat) (a0:D0) (a1:D2):Option Bool:=Z53G (run X0 n).callT a0 a1
noncomputable def Z197G (T:CT) (a0:Int):Option Int:=T 197 (.int .i64) [.int .i64 a0]
noncomputable def Z197 (n:Nat) (a0:Int):Option Int:=Z197G (run X0 n).callT a0
noncomputable def Z174L7G (L:LT) (z:((Int×D33)×Unit)):Option D45:=L (loopOf X0 174 7) sh174x7x0 { fn:=174,base:=0,nt:=35,loops:=[] } z
noncomputable def Z174L7 (n:Nat) (z:((Int×D33)×Unit)):Option D45:=Z174L7G (run X0 n).loop z
noncomputable def Z174G (T:CT) (a0:Int):Option D1:=T 174 K0 [.int .i64 a0]
noncomputable def Z174 (n:Nat) (a0:Int):Option D1:=Z174G (run X0 n).callT a0
abbrev Z142A (a0:D5) (a1:Int):List AV:=[.agg (lv3 a0),.int .i64 a1]
noncomputable def Z142G (T:CT) (a0:D5) (a1:Int):Option D5:=T 142 K3 (Z142A a0 a1)
noncomputable def Z142 (n:Nat) (a0:D5) (a1:Int):Option D5:=Z142G (run X0 n).callT a0 a1
abbrev Z96A (a0:D11) (a1:D5):List AV:=[.agg (lv2 a0),.agg (lv3 a1)]
noncomputable def Z96G (T:CT) (a0:D11) (a1:D5):Option (D5×(D5×D5)):=T 96 (.pair K3 (.pair K3 K3)) (Z96A a0 a1)
noncomputable def Z96 (n:Nat) (a0:D11) (a1:D5):Option (D5×(D5×D5)):=Z96G (run X0 n).callT a0 a1
abbrev Z139A (a0:D5) (a1:Int):List AV:=[.agg (lv3 a0),.int .i64 a1]
noncomputable def Z139G (T:CT) (a0:D5) (a1:Int):Option D1:=T 139 K0 (Z139A a0 a1)
noncomputable def Z139 (n:Nat) (a0:D5) (a1:Int):Option D1:=Z139G (run X0 n).callT a0 a1
abbrev Z138A (a0:D1) (a1:D1):List AV:=[.agg [.int .i64 a0.1,.int .i64 a0.2],.agg [.int .i64 a1.1,.int .i64 a1.2]]
noncomputable def Z138G (T:CT) (a0:D1) (a1:D1):Option D1:=T 138 K0 (Z138A a0 a1)
noncomputable def Z138 (n:Nat) (a0:D1) (a1:D1):Option D1:=Z138G (run X0 n).callT a0 a1
abbrev Z93A (a0:D11) (a1:D5):List AV:=[.agg (lv2 a0),.agg (lv3 a1)]
noncomputable def Z93G (T:CT) (a0:D11) (a1:D5):Option (D1×(D1×(D1×D1))):=T 93 (.pair K0 (.pair K0 (.pair K0 K0))) (Z93A a0 a1)
noncomputable def Z93 (n:Nat) (a0:D11) (a1:D5):Option (D1×(D1×(D1×D1))):=Z93G (run X0 n).callT a0 a1
abbrev Z95A (a0:D11) (a1:D5):List AV:=[.agg (lv2 a0),.agg (lv3 a1)]
noncomputable def Z95G (T:CT) (a0:D11) (a1:D5):Option (D6×(D6×D6)):=T 95 (.pair K5 (.pair K5 K5)) (Z95A a0 a1)
noncomputable def Z95 (n:Nat) (a0:D11) (a1:D5):Option (D6×(D6×D6)):=Z95G (run X0 n).callT a0 a1
noncomputable def Z97L3G (L:LT) (z:((Unit×(Unit×(Unit×D61)))×((D28×Unit)×(D17×D25)))):Option D38:=L (loopOf X0 97 3) sh97x3x0 { fn:=97,base:=0,nt:=61,loops:=[] } z
noncomputable def Z97L3 (n:Nat) (z:((Unit×(Unit×(Unit×D61)))×((D28×Unit)×(D17×D25)))):Option D38:=Z97L3G (run X0 n).loop z
abbrev Z97A (a0:D28) (a1:D1) (a2:D5):List AV:=[.agg [.str a0.1,.slice false K0 a0.2.1,.int .i64 a0.2.2],.agg [.int .i64 a1.1,.int .i64 a1.2],.agg (lv3 a2)]
noncomputable def Z97G (T:CT) (a0:D28) (a1:D1) (a2:D5):Option D6:=T 97 K5 (Z97A a0 a1 a2)
noncomputable def Z97 (n:Nat) (a0:D28) (a1:D1) (a2:D5):Option D6:=Z97G (run X0 n).callT a0 a1 a2
noncomputable def Z54L18G (L:LT) (z:((Unit×(Unit×(D22×D4)))×D15)):Option ((Unit×(D22×Unit))×(D24×Unit)):=L (loopOf X0 54 18) sh54x18x0 { fn:=54,base:=0,nt:=142,loops:=[] } z
noncomputable def Z54L18 (n:Nat) (z:((Unit×(Unit×(D22×D4)))×D15)):Option ((Unit×(D22×Unit))×(D24×Unit)):=Z54L18G (run X0 n).loop z
noncomputable def Z54L24G (L:LT) (z:((Unit×(D22×D4))×(D24×Unit))):Option ((D22×Unit)×Unit):=L (loopOf X0 54 24) sh54x24x0 { fn:=54,base:=0,nt:=142,loops:=[] } z
noncomputable def Z54L24 (n:Nat) (z:((Unit×(D22×D4))×(D24×Unit))):Option ((D22×Unit)×Unit):=Z54L24G (run X0 n).loop z
abbrev Z54A (a0:D0) (a1:D2):List AV:=[.agg (lv0 a0),.agg (lv1 a1)]
noncomputable def Z54G (T:CT) (a0:D0) (a1:D2):Option D22:=T 54 K10 (Z54A a0 a1)
noncomputable def Z54 (n:Nat) (a0:D0) (a1:D2):Option D22:=Z54G (run X0 n).callT a0 a1
noncomputable def Z55G (T:CT) (a0:D1):Option Bool:=T 55 .bool [.agg [.int .i64 a0.1,.int .i64 a0.2]]
noncomputable def Z55 (n:Nat) (a0:D1):Option Bool:=Z55G (run X0 n).callT a0
noncomputable def Z23L8G (L:LT) (z:((D22×D10)×Unit)):Option (((D22×D4)×Unit) ⊕ D20):=L (loopOf X0 23 8) sh23x8x0 { fn:=23,base:=0,nt:=61,loops:=[] } z
noncomputable def Z23L8 (n:Nat) (z:((D22×D10)×Unit)):Option (((D22×D4)×Unit) ⊕ D20):=Z23L8G (run X0 n).loop z
noncomputable def Z23L5G (L:LT) (z:((D22×D4)×Unit)):Option (D9 ⊕ D20):=L (loopOf X0 23 5) sh23x5x0 { fn:=23,base:=0,nt:=61,loops:=[] } z
noncomputable def Z23L5 (n:Nat) (z:((D22×D4)×Unit)):Option (D9 ⊕ D20):=Z23L5G (run X0 n).loop z
abbrev Z23A (a0:D0) (a1:D2):List AV:=[.agg (lv0 a0),.agg (lv1 a1)]
noncomputable def Z23G (T:CT) (a0:D0) (a1:D2):Option Bool:=T 23 .bool (Z23A a0 a1)
noncomputable def Z23 (n:Nat) (a0:D0) (a1:D2):Option Bool:=Z23G (run X0 n).callT a0 a1
abbrev Z10A (a0:D0) (a1:D2):List AV:=[.agg (lv0 a0),.agg (lv1 a1)]
noncomputable def Z10G (T:CT) (a0:D0) (a1:D2):Option Bool:=T 10 .bool (Z10A a0 a1)
noncomputable def Z10 (n:Nat) (a0:D0) (a1:D2):Option Bool:=Z10G (run X0 n).callT a0 a1
abbrev Z39A (a0:D11) (a1:D5) (a2:Int) (a3:Int):List AV:=[.agg (lv2 a0),.agg (lv3 a1),.int .i64 a2,.int .i64 a3]
noncomputable def Z39G (T:CT) (a0:D11) (a1:D5) (a2:Int) (a3:Int):Option (D5×Bool):=T 39 (.pair K3 .bool) (Z39A a0 a1 a2 a3)
noncomputable def Z39 (n:Nat) (a0:D11) (a1:D5) (a2:Int) (a3:Int):Option (D5×Bool):=Z39G (run X0 n).callT a0 a1 a2 a3
abbrev Z12A (a0:D0) (a1:D2) (a2:D5):List AV:=[.agg (lv0 a0),.agg (lv1 a1),.agg (lv3 a2)]
noncomputable def Z12G (T:CT) (a0:D0) (a1:D2) (a2:D5):Option (D2×Bool):=T 12 (.pair K4 .bool) (Z12A a0 a1 a2)
noncomputable def Z12 (n:Nat) (a0:D0) (a1:D2) (a2:D5):Option (D2×Bool):=Z12G (run X0 n).callT a0 a1 a2
abbrev Z92A (a0:D3) (a1:D3):List AV:=[.agg (lv4 a0),.agg (lv4 a1)]
noncomputable def Z92G (T:CT) (a0:D3) (a1:D3):Option Bool:=T 92 .bool (Z92A a0 a1)
noncomputable def Z92 (n:Nat) (a0:D3) (a1:D3):Option Bool:=Z92G (run X0 n).callT a0 a1
noncomputable def Z50L7G (L:LT) (z:((D14×(D22×D10))×Unit)):Option ((D14×(D22×D4))×Unit):=L (loopOf X0 50 7) sh50x7x0 { fn:=50,base:=0,nt:=49,loops:=[] } z
noncomputable def Z50L7 (n:Nat) (z:((D14×(D22×D10))×Unit)):Option ((D14×(D22×D4))×Unit):=Z50L7G (run X0 n).loop z
noncomputable def Z50L4G (L:LT) (z:((D14×(D22×D4))×Unit)):Option ((D14×Unit)×Unit):=L (loopOf X0 50 4) sh50x4x0 { fn:=50,base:=0,nt:=49,loops:=[] } z
noncomputable def Z50L4 (n:Nat) (z:((D14×(D22×D4))×Unit)):Option ((D14×Unit)×Unit):=Z50L4G (run X0 n).loop z
abbrev Z50A (a0:D0) (a1:D2):List AV:=[.agg (lv0 a0),.agg (lv1 a1)]
noncomputable def Z50G (T:CT) (a0:D0) (a1:D2):Option D14:=T 50 K8 (Z50A a0 a1)
noncomputable def Z50 (n:Nat) (a0:D0) (a1:D2):Option D14:=Z50G (run X0 n).callT a0 a1
abbrev Z26A (a0:D5) (a1:D3):List AV:=[.agg (lv3 a0),.agg (lv4 a1)]
noncomputable def Z26G (T:CT) (a0:D5) (a1:D3):Option Bool:=T 26 .bool (Z26A a0 a1)
noncomputable def Z26 (n:Nat) (a0:D5) (a1:D3):Option Bool:=Z26G (run X0 n).callT a0 a1
noncomputable def Z141L3G (L:LT) (z:D31):Option ((D6×(D6×(Unit×D13)))×D45):=L (loopOf X0 141 3) sh141x3x0 { fn:=141,base:=0,nt:=64,loops:=[] } z
noncomputable def Z141L3 (n:Nat) (z:D31):Option ((D6×(D6×(Unit×D13)))×D45):=Z141L3G (run X0 n).loop z
noncomputable def Z141L7G (L:LT) (z:D31):Option ((D6×(D6×(Unit×D13)))×D45):=L (loopOf X0 141 7) sh141x7x0 { fn:=141,base:=0,nt:=64,loops:=[] } z
noncomputable def Z141L7 (n:Nat) (z:D31):Option ((D6×(D6×(Unit×D13)))×D45):=Z141L7G (run X0 n).loop z
abbrev Z173A (a0:D1) (a1:D1) (a2:D1):List AV:=[.agg [.int .i64 a0.1,.int .i64 a0.2],.agg [.int .i64 a1.1,.int .i64 a1.2],.agg [.int .i64 a2.1,.int .i64 a2.2]]
noncomputable def Z173G (T:CT) (a0:D1) (a1:D1) (a2:D1):Option D1:=T 173 K0 (Z173A a0 a1 a2)
noncomputable def Z173 (n:Nat) (a0:D1) (a1:D1) (a2:D1):Option D1:=Z173G (run X0 n).callT a0 a1 a2
noncomputable def Z141L11G (L:LT) (z:D31):Option D38:=L (loopOf X0 141 11) sh141x11x0 { fn:=141,base:=0,nt:=64,loops:=[] } z
noncomputable def Z141L11 (n:Nat) (z:D31):Option D38:=Z141L11G (run X0 n).loop z
abbrev Z141A (a0:D1) (a1:List D1) (a2:List D1):List AV:=[.agg [.int .i64 a0.1,.int .i64 a0.2],.slice false K0 a1,.slice false K0 a2]
noncomputable def Z141G (T:CT) (a0:D1) (a1:List D1) (a2:List D1):Option D6:=T 141 K5 (Z141A a0 a1 a2)
noncomputable def Z141 (n:Nat) (a0:D1) (a1:List D1) (a2:List D1):Option D6:=Z141G (run X0 n).callT a0 a1 a2
noncomputable def Z171L3G (L:LT) (z:((D6×D35)×(D10×D45))):Option (D18×(D10×D45)):=L (loopOf X0 171 3) sh171x3x0 { fn:=171,base:=0,nt:=47,loops:=[] } z
noncomputable def Z171L3 (n:Nat) (z:((D6×D35)×(D10×D45))):Option (D18×(D10×D45)):=Z171L3G (run X0 n).loop z
noncomputable def Z171G (T:CT) (a0:List D1):Option D1:=T 171 K0 [.slice false K0 a0]
noncomputable def Z171 (n:Nat) (a0:List D1):Option D1:=Z171G (run X0 n).callT a0
abbrev Z107A (a0:D1) (a1:D1) (a2:D1):List AV:=[.agg [.int .i64 a0.1,.int .i64 a0.2],.agg [.int .i64 a1.1,.int .i64 a1.2],.agg [.int .i64 a2.1,.int .i64 a2.2]]
noncomputable def Z107G (T:CT) (a0:D1) (a1:D1) (a2:D1):Option Int:=T 107 (.int .i64) (Z107A a0 a1 a2)
noncomputable def Z107 (n:Nat) (a0:D1) (a1:D1) (a2:D1):Option Int:=Z107G (run X0 n).callT a0 a1 a2
abbrev Z196A (a0:D1) (a1:D1):List AV:=[.agg [.int .i64 a0.1,.int .i64 a0.2],.agg [.int .i64 a1.1,.int .i64 a1.2]]
noncomputable def Z196G (T:CT) (a0:D1) (a1:D1):Option Int:=T 196 (.int .i64) (Z196A a0 a1)
noncomputable def Z196 (n:Nat) (a0:D1) (a1:D1):Option Int:=Z196G (run X0 n).callT a0 a1
noncomputable def Z172L3G (L:LT) (z:((D6×(Unit×D35))×(D10×(D10×D45)))):Option (D18×(Unit×(D10×D45))):=L (loopOf X0 172 3) sh172x3x0 { fn:=172,base:=0,nt:=62,loops:=[] } z
noncomputable def Z172L3 (n:Nat) (z:((D6×(Unit×D35))×(D10×(D10×D45)))):Option (D18×(Unit×(D10×D45))):=Z172L3G (run X0 n).loop z
abbrev Z172A (a0:List D1) (a1:D1):List AV:=[.slice false K0 a0,.agg [.int .i64 a1.1,.int .i64 a1.2]]
noncomputable def Z172G (T:CT) (a0:List D1) (a1:D1):Option D1:=T 172 K0 (Z172A a0 a1)
noncomputable def Z172 (n:Nat) (a0:List D1) (a1:D1):Option D1:=Z172G (run X0 n).callT a0 a1
noncomputable def Z140L6G (L:LT) (z:((D6×(Unit×D61))×D45)):Option D38:=L (loopOf X0 140 6) sh140x6x0 { fn:=140,base:=0,nt:=38,loops:=[] } z
noncomputable def Z140L6 (n:Nat) (z:((D6×(Unit×D61))×D45)):Option D38:=Z140L6G (run X0 n).loop z
noncomputable def Z65L8G (L:LT) (z:D48):Option ((D61×Unit) ⊕ D20):=L (loopOf X0 65 8) sh65x8x0 { fn:=65,base:=0,nt:=54,loops:=[] } z
noncomputable def Z65L8 (n:Nat) (z:D48):Option ((D61×Unit) ⊕ D20):=Z65L8G (run X0 n).loop z
noncomputable def Z65L2G (L:LT) (z:(D61×Unit)):Option (D38 ⊕ D20):=L (loopOf X0 65 2) sh65x2x0 { fn:=65,base:=0,nt:=54,loops:=[] } z
noncomputable def Z65L2 (n:Nat) (z:(D61×Unit)):Option (D38 ⊕ D20):=Z65L2G (run X0 n).loop z
noncomputable def Z65G (T:CT) (a0:List D1):Option Bool:=T 65 .bool [.slice false K0 a0]
noncomputable def Z65 (n:Nat) (a0:List D1):Option Bool:=Z65G (run X0 n).callT a0
noncomputable def Z140G (T:CT) (a0:List D1):Option (D6×Bool):=T 140 (.pair K5 .bool) [.slice false K0 a0]
noncomputable def Z140 (n:Nat) (a0:List D1):Option (D6×Bool):=Z140G (run X0 n).callT a0
abbrev Z94A (a0:D1) (a1:List D1) (a2:List D1):List AV:=[.agg [.int .i64 a0.1,.int .i64 a0.2],.slice false K0 a1,.slice false K0 a2]
noncomputable def Z94G (T:CT) (a0:D1) (a1:List D1) (a2:List D1):Option (D6×Bool):=T 94 (.pair K5 .bool) (Z94A a0 a1 a2)
noncomputable def Z94 (n:Nat) (a0:D1) (a1:List D1) (a2:List D1):Option (D6×Bool):=Z94G (run X0 n).callT a0 a1 a2
noncomputable def Z51L4G (L:LT) (z:D47):Option ((D18×(Unit×(Unit×(Unit×(Unit×((D3×Unit)×((D5×D13)×Unit))))))) ⊕ (D9×(Unit×(Unit×(Unit×(Unit×(Unit×((D3×Unit)×Unit)))))))):=L (loopOf X0 51 4) sh51x4x0 { fn:=51,base:=0,nt:=88,loops:=[] } z
noncomputable def Z51L4 (n:Nat) (z:D47):Option ((D18×(Unit×(Unit×(Unit×(Unit×((D3×Unit)×((D5×D13)×Unit))))))) ⊕ (D9×(Unit×(Unit×(Unit×(Unit×(Unit×((D3×Unit)×Unit)))))))):=Z51L4G (run X0 n).loop z
abbrev Z51A (a0:D0) (a1:D2) (a2:D2) (a3:D5) (a4:D3):List AV:=[.agg (lv0 a0),.agg (lv1 a1),.agg (lv1 a2),.agg (lv3 a3),.agg (lv4 a4)]
noncomputable def Z51G (T:CT) (a0:D0) (a1:D2) (a2:D2) (a3:D5) (a4:D3):Option D3:=T 51 K2 (Z51A a0 a1 a2 a3 a4)
noncomputable def Z51 (n:Nat) (a0:D0) (a1:D2) (a2:D2) (a3:D5) (a4:D3):Option D3:=Z51G (run X0 n).callT a0 a1 a2 a3 a4
noncomputable def Z21L7G (L:LT) (z:D41):Option ((D14×Unit)×Unit):=L (loopOf X0 21 7) sh21x7x0 { fn:=21,base:=0,nt:=97,loops:=[] } z
noncomputable def Z21L7 (n:Nat) (z:D41):Option ((D14×Unit)×Unit):=Z21L7G (run X0 n).loop z
abbrev Z21A (a0:D0) (a1:D2) (a2:D5):List AV:=[.agg (lv0 a0),.agg (lv1 a1),.agg (lv3 a2)]
noncomputable def Z21G (T:CT) (a0:D0) (a1:D2) (a2:D5):Option D14:=T 21 K8 (Z21A a0 a1 a2)
noncomputable def Z21 (n:Nat) (a0:D0) (a1:D2) (a2:D5):Option D14:=Z21G (run X0 n).callT a0 a1 a2
abbrev Z108A (a0:D1) (a1:D1) (a2:D1) (a3:D1):List AV:=[.agg [.int .i64 a0.1,.int .i64 a0.2],.agg [.int .i64 a1.1,.int .i64 a1.2],.agg [.int .i64 a2.1,.int .i64 a2.2],.agg [.int .i64 a3.1,.int .i64 a3.2]]
noncomputable def Z108G (T:CT) (a0:D1) (a1:D1) (a2:D1) (a3:D1):Option Bool:=T 108 .bool (Z108A a0 a1 a2 a3)
noncomputable def Z108 (n:Nat) (a0:D1) (a1:D1) (a2:D1) (a3:D1):Option Bool:=Z108G (run X0 n).callT a0 a1 a2 a3
noncomputable def Z66L8G (L:LT) (z:((D6×(Int×(Int×D33)))×Unit)):Option (D9 ⊕ D20):=L (loopOf X0 66 8) sh66x8x0 { fn:=66,base:=0,nt:=76,loops:=[] } z
noncomputable def Z66L8 (n:Nat) (z:((D6×(Int×(Int×D33)))×Unit)):Option (D9 ⊕ D20):=Z66L8G (run X0 n).loop z
abbrev Z66A (a0:List D1) (a1:Int):List AV:=[.slice false K0 a0,.int .i64 a1]
noncomputable def Z66G (T:CT) (a0:List D1) (a1:Int):Option Bool:=T 66 .bool (Z66A a0 a1)
noncomputable def Z66 (n:Nat) (a0:List D1) (a1:Int):Option Bool:=Z66G (run X0 n).callT a0 a1
noncomputable def Z31L8G (L:LT) (z:((D44×D61)×Unit)):Option ((D44×D61)×Unit):=L (loopOf X0 31 8) sh31x8x0 { fn:=31,base:=0,nt:=75,loops:=[] } z
noncomputable def Z31L8 (n:Nat) (z:((D44×D61)×Unit)):Option ((D44×D61)×Unit):=Z31L8G (run X0 n).loop z
noncomputable def Z31L6G (L:LT) (z:((D44×D13)×Unit)):Option (((D44×D13)×Unit) ⊕ ((D44×Unit)×Unit)):=L (loopOf X0 31 6) sh31x6x0 { fn:=31,base:=0,nt:=75,loops:=[] } z
noncomputable def Z31L6 (n:Nat) (z:((D44×D13)×Unit)):Option (((D44×D13)×Unit) ⊕ ((D44×Unit)×Unit)):=Z31L6G (run X0 n).loop z
noncomputable def Z31G (T:CT) (a0:List D1):Option D44:=T 31 K11 [.slice false K0 a0]
noncomputable def Z31 (n:Nat) (a0:List D1):Option D44:=Z31G (run X0 n).callT a0
abbrev Z162A (a0:List D1) (a1:Int):List AV:=[.slice false K0 a0,.int .i64 a1]
noncomputable def Z162G (T:CT) (a0:List D1) (a1:Int):Option Int:=T 162 (.int .i64) (Z162A a0 a1)
noncomputable def Z162 (n:Nat) (a0:List D1) (a1:Int):Option Int:=Z162G (run X0 n).callT a0 a1
noncomputable def Z124L2G (L:LT) (z:((D6×(Int×D61))×Unit)):Option (D9 ⊕ D20):=L (loopOf X0 124 2) sh124x2x0 { fn:=124,base:=0,nt:=30,loops:=[] } z
noncomputable def Z124L2 (n:Nat) (z:((D6×(Int×D61))×Unit)):Option (D9 ⊕ D20):=Z124L2G (run X0 n).loop z
abbrev Z124A (a0:List D1) (a1:Int) (a2:List D1):List AV:=[.slice false K0 a0,.int .i64 a1,.slice false K0 a2]
noncomputable def Z124G (T:CT) (a0:List D1) (a1:Int) (a2:List D1):Option Bool:=T 124 .bool (Z124A a0 a1 a2)
noncomputable def Z124 (n:Nat) (a0:List D1) (a1:Int) (a2:List D1):Option Bool:=Z124G (run X0 n).callT a0 a1 a2
noncomputable def Z82L2G (L:LT) (z:(D55×D40)):Option (((D6×(D6×D9))×D40) ⊕ ((Unit×D12)×D40)):=L (loopOf X0 82 2) sh82x2x0 { fn:=82,base:=0,nt:=33,loops:=[] } z
noncomputable def Z82L2 (n:Nat) (z:(D55×D40)):Option (((D6×(D6×D9))×D40) ⊕ ((Unit×D12)×D40)):=Z82L2G (run X0 n).loop z
noncomputable def Z82L7G (L:LT) (z:(D55×D40)):Option ((D9×D40) ⊕ ((Unit×D12)×D40)):=L (loopOf X0 82 7) sh82x7x0 { fn:=82,base:=0,nt:=33,loops:=[] } z
noncomputable def Z82L7 (n:Nat) (z:(D55×D40)):Option ((D9×D40) ⊕ ((Unit×D12)×D40)):=Z82L7G (run X0 n).loop z
abbrev Z82A (a0:List D1) (a1:List D1):List AV:=[.slice false K0 a0,.slice false K0 a1]
noncomputable def Z82G (T:CT) (a0:List D1) (a1:List D1):Option (D1×Bool):=T 82 (.pair K0 .bool) (Z82A a0 a1)
noncomputable def Z82 (n:Nat) (a0:List D1) (a1:List D1):Option (D1×Bool):=Z82G (run X0 n).callT a0 a1
noncomputable def Z200G (T:CT) (a0:Int) (a1:Int) (a2:Int):Option Bool:=T 200 .bool [.int .i64 a0,.int .i64 a1,.int .i64 a2]
noncomputable def Z200 (n:Nat) (a0:Int) (a1:Int) (a2:Int):Option Bool:=Z200G (run X0 n).callT a0 a1 a2
abbrev Z183A (a0:D1) (a1:D1) (a2:D1):List AV:=[.agg [.int .i64 a0.1,.int .i64 a0.2],.agg [.int .i64 a1.1,.int .i64 a1.2],.agg [.int .i64 a2.1,.int .i64 a2.2]]
noncomputable def Z183G (T:CT) (a0:D1) (a1:D1) (a2:D1):Option Bool:=T 183 .bool (Z183A a0 a1 a2)
noncomputable def Z183 (n:Nat) (a0:D1) (a1:D1) (a2:D1):Option Bool:=Z183G (run X0 n).callT a0 a1 a2
abbrev Z163A (a0:D1) (a1:D1) (a2:D1) (a3:D1):List AV:=[.agg [.int .i64 a0.1,.int .i64 a0.2],.agg [.int .i64 a1.1,.int .i64 a1.2],.agg [.int .i64 a2.1,.int .i64 a2.2],.agg [.int .i64 a3.1,.int .i64 a3.2]]
noncomputable def Z163G (T:CT) (a0:D1) (a1:D1) (a2:D1) (a3:D1):Option Bool:=T 163 .bool (Z163A a0 a1 a2 a3)
noncomputable def Z163 (n:Nat) (a0:D1) (a1:D1) (a2:D1) (a3:D1):Option Bool:=Z163G (run X0 n).callT a0 a1 a2 a3
noncomputable def Z164L3G (L:LT) (z:((D6×(Unit×D10))×D40)):Option ((D4×Unit) ⊕ (D4×Unit)):=L (loopOf X0 164 3) sh164x3x0 { fn:=164,base:=0,nt:=71,loops:=[] } z
noncomputable def Z164L3 (n:Nat) (z:((D6×(Unit×D10))×D40)):Option ((D4×Unit) ⊕ (D4×Unit)):=Z164L3G (run X0 n).loop z
abbrev Z164A (a0:List D1) (a1:D1):List AV:=[.slice false K0 a0,.agg [.int .i64 a1.1,.int .i64 a1.2]]
noncomputable def Z164G (T:CT) (a0:List D1) (a1:D1):Option Int:=T 164 (.int .i64) (Z164A a0 a1)
noncomputable def Z164 (n:Nat) (a0:List D1) (a1:D1):Option Int:=Z164G (run X0 n).callT a0 a1
abbrev Z125A (a0:List D1) (a1:List D1) (a2:D5):List AV:=[.slice false K0 a0,.slice false K0 a1,.agg (lv3 a2)]
noncomputable def Z125G (T:CT) (a0:List D1) (a1:List D1) (a2:D5):Option Bool:=T 125 .bool (Z125A a0 a1 a2)
noncomputable def Z125 (n:Nat) (a0:List D1) (a1:List D1) (a2:D5):Option Bool:=Z125G (run X0 n).callT a0 a1 a2
noncomputable def Z83L8G (L:LT) (z:((D6×(D6×(Unit×D33)))×D25)):Option (((D6×(D6×(Unit×D10)))×D25) ⊕ ((Unit×D12)×D25)):=L (loopOf X0 83 8) sh83x8x0 { fn:=83,base:=0,nt:=36,loops:=[] } z
noncomputable def Z83L8 (n:Nat) (z:((D6×(D6×(Unit×D33)))×D25)):Option (((D6×(D6×(Unit×D10)))×D25) ⊕ ((Unit×D12)×D25)):=Z83L8G (run X0 n).loop z
noncomputable def Z83L5G (L:LT) (z:((D6×(D6×(Unit×D10)))×D25)):Option ((D55×D25) ⊕ ((Unit×D12)×D25)):=L (loopOf X0 83 5) sh83x5x0 { fn:=83,base:=0,nt:=36,loops:=[] } z
noncomputable def Z83L5 (n:Nat) (z:((D6×(D6×(Unit×D10)))×D25)):Option ((D55×D25) ⊕ ((Unit×D12)×D25)):=Z83L5G (run X0 n).loop z
noncomputable def Z83L2G (L:LT) (z:(D55×D25)):Option ((D9×D25) ⊕ ((Unit×D12)×D25)):=L (loopOf X0 83 2) sh83x2x0 { fn:=83,base:=0,nt:=36,loops:=[] } z
noncomputable def Z83L2 (n:Nat) (z:(D55×D25)):Option ((D9×D25) ⊕ ((Unit×D12)×D25)):=Z83L2G (run X0 n).loop z
abbrev Z83A (a0:List D1) (a1:List D1):List AV:=[.slice false K0 a0,.slice false K0 a1]
noncomputable def Z83G (T:CT) (a0:List D1) (a1:List D1):Option (D5×Bool):=T 83 (.pair K3 .bool) (Z83A a0 a1)
noncomputable def Z83 (n:Nat) (a0:List D1) (a1:List D1):Option (D5×Bool):=Z83G (run X0 n).callT a0 a1
noncomputable def Z42L12G (L:LT) (z:((Unit×(Unit×(D6×(D14×(Int×(D44×(D44×D10)))))))×D16)):Option (D49 ⊕ ((D6×(Unit×D12))×D29)):=L (loopOf X0 42 12) sh42x12x0 { fn:=42,base:=0,nt:=95,loops:=[] } z
noncomputable def Z42L12 (n:Nat) (z:((Unit×(Unit×(D6×(D14×(Int×(D44×(D44×D10)))))))×D16)):Option (D49 ⊕ ((D6×(Unit×D12))×D29)):=Z42L12G (run X0 n).loop z
noncomputable def Z42L9G (L:LT) (z:D49):Option (((Unit×(Unit×(D6×(D14×D4))))×D16) ⊕ ((D6×(Unit×D12))×D29)):=L (loopOf X0 42 9) sh42x9x0 { fn:=42,base:=0,nt:=95,loops:=[] } z
noncomputable def Z42L9 (n:Nat) (z:D49):Option (((Unit×(Unit×(D6×(D14×D4))))×D16) ⊕ ((D6×(Unit×D12))×D29)):=Z42L9G (run X0 n).loop z
noncomputable def Z42L4G (L:LT) (z:((Unit×(Unit×(D6×(D14×D4))))×D16)):Option (((Unit×D13)×D29) ⊕ ((D6×(Unit×D12))×D29)):=L (loopOf X0 42 4) sh42x4x0 { fn:=42,base:=0,nt:=95,loops:=[] } z
noncomputable def Z42L4 (n:Nat) (z:((Unit×(Unit×(D6×(D14×D4))))×D16)):Option (((Unit×D13)×D29) ⊕ ((D6×(Unit×D12))×D29)):=Z42L4G (run X0 n).loop z
abbrev Z42A (a0:D0) (a1:D2) (a2:D5):List AV:=[.agg (lv0 a0),.agg (lv1 a1),.agg (lv3 a2)]
noncomputable def Z42G (T:CT) (a0:D0) (a1:D2) (a2:D5):Option (D6×D62):=T 42 (.pair K5 (.pair K6 .bool)) (Z42A a0 a1 a2)
noncomputable def Z42 (n:Nat) (a0:D0) (a1:D2) (a2:D5):Option (D6×D62):=Z42G (run X0 n).callT a0 a1 a2
abbrev Z14A (a0:D0) (a1:D2) (a2:D5):List AV:=[.agg (lv0 a0),.agg (lv1 a1),.agg (lv3 a2)]
noncomputable def Z14G (T:CT) (a0:D0) (a1:D2) (a2:D5):Option (D6×Bool):=T 14 (.pair K5 .bool) (Z14A a0 a1 a2)
noncomputable def Z14 (n:Nat) (a0:D0) (a1:D2) (a2:D5):Option (D6×Bool):=Z14G (run X0 n).callT a0 a1 a2
abbrev Z16A (a0:D0) (a1:D2) (a2:D5):List AV:=[.agg (lv0 a0),.agg (lv1 a1),.agg (lv3 a2)]
noncomputable def Z16G (T:CT) (a0:D0) (a1:D2) (a2:D5):Option D62:=T 16 (.pair K6 .bool) (Z16A a0 a1 a2)
noncomputable def Z16 (n:Nat) (a0:D0) (a1:D2) (a2:D5):Option D62:=Z16G (run X0 n).callT a0 a1 a2
noncomputable def Z17L4G (L:LT) (z:(D35×(D26×(D26×Unit)))):Option (D9 ⊕ D20):=L (loopOf X0 17 4) sh17x4x0 { fn:=17,base:=0,nt:=45,loops:=[] } z
noncomputable def Z17L4 (n:Nat) (z:(D35×(D26×(D26×Unit)))):Option (D9 ⊕ D20):=Z17L4G (run X0 n).loop z
abbrev Z17A (a0:D2) (a1:D2):List AV:=[.agg (lv1 a0),.agg (lv1 a1)]
noncomputable def Z17G (T:CT) (a0:D2) (a1:D2):Option Bool:=T 17 .bool (Z17A a0 a1)
noncomputable def Z17 (n:Nat) (a0:D2) (a1:D2):Option Bool:=Z17G (run X0 n).callT a0 a1
noncomputable def Z18L4G (L:LT) (z:((D6×D61)×Unit)):Option (D9 ⊕ D20):=L (loopOf X0 18 4) sh18x4x0 { fn:=18,base:=0,nt:=26,loops:=[] } z
noncomputable def Z18L4 (n:Nat) (z:((D6×D61)×Unit)):Option (D9 ⊕ D20):=Z18L4G (run X0 n).loop z
abbrev Z18A (a0:List D1) (a1:List D1):List AV:=[.slice false K0 a0,.slice false K0 a1]
noncomputable def Z18G (T:CT) (a0:List D1) (a1:List D1):Option Bool:=T 18 .bool (Z18A a0 a1)
noncomputable def Z18 (n:Nat) (a0:List D1) (a1:List D1):Option Bool:=Z18G (run X0 n).callT a0 a1
noncomputable def Z64L4G (L:LT) (z:((D6×D61)×Unit)):Option (D9 ⊕ D20):=L (loopOf X0 64 4) sh64x4x0 { fn:=64,base:=0,nt:=26,loops:=[] } z
noncomputable def Z64L4 (n:Nat) (z:((D6×D61)×Unit)):Option (D9 ⊕ D20):=Z64L4G (run X0 n).loop z
abbrev Z64A (a0:List D1) (a1:List D1):List AV:=[.slice false K0 a0,.slice false K0 a1]
noncomputable def Z64G (T:CT) (a0:List D1) (a1:List D1):Option Bool:=T 64 .bool (Z64A a0 a1)
noncomputable def Z64 (n:Nat) (a0:List D1) (a1:List D1):Option Bool:=Z64G (run X0 n).callT a0 a1
abbrev Z30A (a0:D3) (a1:D3):List AV:=[.agg (lv4 a0),.agg (lv4 a1)]
noncomputable def Z30G (T:CT) (a0:D3) (a1:D3):Option Bool:=T 30 .bool (Z30A a0 a1)
noncomputable def Z30 (n:Nat) (a0:D3) (a1:D3):Option Bool:=Z30G (run X0 n).callT a0 a1
noncomputable def Z19L4G (L:LT) (z:((D14×(D14×D4))×Unit)):Option (D9 ⊕ D20):=L (loopOf X0 19 4) sh19x4x0 { fn:=19,base:=0,nt:=43,loops:=[] } z
noncomputable def Z19L4 (n:Nat) (z:((D14×(D14×D4))×Unit)):Option (D9 ⊕ D20):=Z19L4G (run X0 n).loop z
abbrev Z19A (a0:List D59) (a1:List D59):List AV:=[.slice false (.pair K2 K2) a0,.slice false (.pair K2 K2) a1]
noncomputable def Z19G (T:CT) (a0:List D59) (a1:List D59):Option Bool:=T 19 .bool (Z19A a0 a1)
noncomputable def Z19 (n:Nat) (a0:List D59) (a1:List D59):Option Bool:=Z19G (run X0 n).callT a0 a1
abbrev Z3A (a0:Int) (a1:Int) (a2:Int) (a3:Int) (a4:Int) (a5:Int) (a6:Int) (a7:Int) (a8:Int) (a9:Int) (a10:Int) (a11:Int) (a12:Int) (a13:Int) (a14:Int) (a15:Int) (a16:Int) (a17:Int) (a18:Int) (a19:Int) (a20:Int) (a21:Int) (a22:Int) (a23:Int) (a24:Int) (a25:Int) (a26:Int) (a27:Int) (a28:Int) (a29:Int) (a30:List D6) (a31:List D52) (a32:List D28) (a33:List Int) (a34:Int) (a35:Int) (a36:Int) (a37:Int) (a38:Int) (a39:Int) (a40:Int) (a41:List D6) (a42:Int) (a43:Int) (a44:Int) (a45:Int) (a46:Int) (a47:Int) (a48:Int) (a49:Int) (a50:Int) (a51:Int) (a52:List Int) (a53:Int) (a54:Int) (a55:Int):List AV:=[.agg [.int .i64 a0,.int .i64 a1,.int .i64 a2,.int .i64 a3,.int .i64 a4,.int .i64 a5,.int .i64 a6,.int .i64 a7,.int .i64 a8,.int .i64 a9,.int .i64 a10,.int .i64 a11,.int .i64 a12,.int .i64 a13,.int .i64 a14,.int .i64 a15,.int .i64 a16,.int .i64 a17,.int .i64 a18,.int .i64 a19,.int .i64 a20,.int .i64 a21,.int .i64 a22,.int .i64 a23,.int .i64 a24,.int .i64 a25,.int .i64 a26,.int .i64 a27,.int .i64 a28,.int .i64 a29,.slice false K5 a30,.slice false K9 a31,.slice false K7 a32,.slice false (.int .i64) a33,.int .i64 a34,.int .i64 a35,.int .i64 a36,.int .i64 a37,.int .i64 a38,.int .i64 a39,.int .i64 a40,.slice false K5 a41,.int .i64 a42,.int .i64 a43],.agg [.int .i64 a44,.int .i64 a45,.int .i64 a46,.int .i64 a47,.int .i64 a48,.int .i64 a49,.int .i64 a50,.int .i64 a51,.slice false (.int .i64) a52],.agg [.int .i64 a53,.int .i64 a54,.int .i64 a55]]
noncomputable def Z3G (T:CT) (a0:Int) (a1:Int) (a2:Int) (a3:Int) (a4:Int) (a5:Int) (a6:Int) (a7:Int) (a8:Int) (a9:Int) (a10:Int) (a11:Int) (a12:Int) (a13:Int) (a14:Int) (a15:Int) (a16:Int) (a17:Int) (a18:Int) (a19:Int) (a20:Int) (a21:Int) (a22:Int) (a23:Int) (a24:Int) (a25:Int) (a26:Int) (a27:Int) (a28:Int) (a29:Int) (a30:List D6) (a31:List D52) (a32:List D28) (a33:List Int) (a34:Int) (a35:Int) (a36:Int) (a37:Int) (a38:Int) (a39:Int) (a40:Int) (a41:List D6) (a42:Int) (a43:Int) (a44:Int) (a45:Int) (a46:Int) (a47:Int) (a48:Int) (a49:Int) (a50:Int) (a51:Int) (a52:List Int) (a53:Int) (a54:Int) (a55:Int):Option Bool:=T 3 .bool (Z3A a0 a1 a2 a3 a4 a5 a6 a7 a8 a9 a10 a11 a12 a13 a14 a15 a16 a17 a18 a19 a20 a21 a22 a23 a24 a25 a26 a27 a28 a29 a30 a31 a32 a33 a34 a35 a36 a37 a38 a39 a40 a41 a42 a43 a44 a45 a46 a47 a48 a49 a50 a51 a52 a53 a54 a55)
noncomputable def Z3 (n:Nat) (a0:Int) (a1:Int) (a2:Int) (a3:Int) (a4:Int) (a5:Int) (a6:Int) (a7:Int) (a8:Int) (a9:Int) (a10:Int) (a11:Int) (a12:Int) (a13:Int) (a14:Int) (a15:Int) (a16:Int) (a17:Int) (a18:Int) (a19:Int) (a20:Int) (a21:Int) (a22:Int) (a23:Int) (a24:Int) (a25:Int) (a26:Int) (a27:Int) (a28:Int) (a29:Int) (a30:List D6) (a31:List D52) (a32:List D28) (a33:List Int) (a34:Int) (a35:Int) (a36:Int) (a37:Int) (a38:Int) (a39:Int) (a40:Int) (a41:List D6) (a42:Int) (a43:Int) (a44:Int) (a45:Int) (a46:Int) (a47:Int) (a48:Int) (a49:Int) (a50:Int) (a51:Int) (a52:List Int) (a53:Int) (a54:Int) (a55:Int):Option Bool:=Z3G (run X0 n).callT a0 a1 a2 a3 a4 a5 a6 a7 a8 a9 a10 a11 a12 a13 a14 a15 a16 a17 a18 a19 a20 a21 a22 a23 a24 a25 a26 a27 a28 a29 a30 a31 a32 a33 a34 a35 a36 a37 a38 a39 a40 a41 a42 a43 a44 a45 a46 a47 a48 a49 a50 a51 a52 a53 a54 a55
end Go.Jm
