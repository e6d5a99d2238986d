import Derived.Test.YtlhjnochednegaaGreatProg
import Derived.KernelRfl
import Derived.Test.YtlhjnochednegaaGreatAPA
import Derived.Test.YtlhjnochednegaaGreatAPC
set_option linter.unusedVariables false
set_option linter.unusedSimpArgs false
set_option linter.unnecessarySimpa false
set_option linter.unusedSectionVars false
set_option maxRecDepth 100000
set_option linter.unusedVariables false
namespace Go.Pf
open Go Go.Am Go.Proofs
abbrev K1:Ty:=(.pair (.int .i64) (.int .i64))
abbrev K2:Ty:=(.pair (.int .i64) K1)
abbrev K5:Ty:=(.slice K1)
abbrev K16:Ty:=(.slice K5)
abbrev K8:Ty:=(.pair .str (.pair K1 K2))
abbrev K6:Ty:=(.pair .str (.pair K5 (.int .i64)))
abbrev K13:Ty:=(.slice (.int .i64))
abbrev K0:Ty:=(.pair (.pair (.pair K1 (.pair K2 (.pair (.int .i64) (.pair K2 K2)))) (.pair K1 (.pair K2 (.pair (.int .i64) (.pair K2 K2))))) (.pair (.pair K2 K2) (.pair K16 (.pair (.slice K8) (.pair (.slice K6) (.pair K13 (.pair (.int .i64) (.pair K2 (.pair K2 (.pair K16 K1))))))))))
abbrev K3:Ty:=(.pair (.int .i64) (.pair (.int .i64) (.pair (.int .i64) K5)))
abbrev K4:Ty:=(.pair (.pair K2 K2) (.pair K1 K13))
abbrev K7:Ty:=(.slice (.pair K2 (.pair (.int .i64) K2)))
abbrev K9:Ty:=(.slice (.pair K3 K3))
abbrev K10:Ty:=(.pair (.pair (.pair K1 (.pair K2 (.pair (.int .i64) (.pair K2 K2)))) (.pair K1 (.pair K2 (.pair (.int .i64) (.pair K2 K2))))) (.pair K2 K2))
abbrev K11:Ty:=(.slice (.pair (.int .i64) (.pair K2 (.pair (.int .i64) (.pair (.int .i64) (.pair (.int .i64) K2))))))
abbrev K12:Ty:=(.pair (.pair K2 K2) K1)
abbrev K14:Ty:=(.pair K0 (.pair K4 (.int .i64)))
abbrev K15:Ty:=(.slice K3)
abbrev D1:Type:=(Int×Int)
abbrev D4:Type:=(Int×D1)
abbrev D9:Type:=(D1×(D4×(Int×(D4×D4))))
abbrev D7:Type:=(List D1)
abbrev D42:Type:=(ByteArray×(D1×D4))
abbrev D25:Type:=(ByteArray×(D7×Int))
abbrev D50:Type:=(List Int)
abbrev D0:Type:=((D9×D9)×((D4×D4)×((List D7)×((List D42)×((List D25)×(D50×(Int×(D4×(D4×((List D7)×D1))))))))))
abbrev D2:Type:=((D4×D4)×(D1×D50))
abbrev D3:Type:=(Int×(Int×(Int×D7)))
abbrev D5:Type:=(Int×Unit)
abbrev D17:Type:=(D0×Unit)
abbrev D41:Type:=(D7×Unit)
abbrev D6:Type:=(D17×((D2×Unit)×((D4×Unit)×(D41×((Bool×Unit)×((D2×Unit)×(D41×(((List (D3×D3))×Unit)×Unit))))))))
abbrev D8:Type:=(Unit×Unit)
abbrev D15:Type:=(List (D4×(Int×D4)))
abbrev D10:Type:=(D5×((D15×Unit)×((Bool×Unit)×((List (D4×Bool))×(((D0×(D2×Int))×(Unit×(D15×Unit)))×(D8×(D8×(D5×((D4×Unit)×((D2×Unit)×Unit))))))))))
abbrev D12:Type:=(Int×D5)
abbrev D11:Type:=((((D9×D9)×(D4×D4))×((List D7)×((List D42)×((List D25)×(D50×(Int×(Int×(Int×(Int×(Int×(Int×(Int×((List D7)×D12)))))))))))))×Unit)
abbrev D13:Type:=(D17×((D2×Unit)×Unit))
abbrev D14:Type:=((Bool×Unit)×Unit)
abbrev D19:Type:=(Unit×D8)
abbrev D16:Type:=(((Unit×D19)×(D19×((List (D3×D3))×((List (D3×D3))×D12))))×(Unit×(Unit×(Unit×(Unit×((D1×Unit)×(((List D3)×Unit)×((D4×Unit)×Unit))))))))
abbrev D18:Type:=(((D4×D4)×D1)×(D50×Unit))
abbrev D20:Type:=(Unit×(D5×((D15×Unit)×((Bool×Unit)×((List (D4×Bool))×(((D0×(D2×Int))×(Unit×(D15×Unit)))×(D8×(D8×(D5×Unit)))))))))
abbrev D21:Type:=(D17×(Unit×((D1×Unit)×((((D4×D4)×D1)×D5)×((((D4×D4)×D1)×D5)×((List Bool)×(D50×(D50×Unit))))))))
abbrev D22:Type:=((D8×(Unit×((List D3)×((List D3)×D12))))×(D17×((D2×Unit)×(((List (D3×D3))×Unit)×(D17×((D2×Unit)×D8))))))
abbrev D23:Type:=((D50×(Bool×(Unit×(Unit×(Int×(Unit×(Int×((List D4)×D5))))))))×(Unit×(Unit×(D17×((D2×Unit)×(Unit×((D2×Unit)×Unit)))))))
abbrev D24:Type:=((List D4)×((List (Int×(D4×(Int×(Int×(Int×D4))))))×Unit))
abbrev D26:Type:=((D8×(Unit×((List D3)×(Unit×((List D3)×(Int×(Int×((List D3)×D12))))))))×(D17×((D2×Unit)×(((List (D3×D3))×Unit)×(D17×((D2×Unit)×(Unit×((D3×Unit)×Unit))))))))
abbrev D27:Type:=((D15×Unit)×((Bool×Unit)×((List (D4×Bool))×(((D0×(D2×Int))×(Unit×(D15×Unit)))×(D8×Unit)))))
abbrev D28:Type:=(D17×((D2×Unit)×(((List D3)×Unit)×D13)))
abbrev D29:Type:=(D7×(D5×((D19×Unit)×(Unit×(D5×(D5×(Unit×(Unit×D41))))))))
abbrev D30:Type:=((D1×Unit)×((Bool×Unit)×(D5×(D41×(D41×Unit)))))
abbrev D31:Type:=(Int×D12)
abbrev D32:Type:=((Unit×D5)×(D17×Unit))
abbrev D33:Type:=((D8×(Int×((List D7)×((List (D3×D3))×(Int×(Int×((List D7)×D12)))))))×D6)
abbrev D34:Type:=((D8×(Int×((List D7)×(Int×(D7×((List (D3×D3))×(Int×(Int×((List D7)×(Int×(Int×((List D7)×D12))))))))))))×D6)
abbrev D35:Type:=((D1×Unit)×(((List D3)×Unit)×((D3×Unit)×((D4×D41)×Unit))))
abbrev D36:Type:=(Unit×(Unit×D5))
abbrev D37:Type:=((Unit×(Unit×(Unit×(Bool×((List D4)×D12)))))×(D17×((D2×Unit)×(D18×Unit))))
abbrev D38:Type:=(D7×(D5×((D19×Unit)×(Unit×(D5×(D5×(D7×(D12×Unit))))))))
abbrev D39:Type:=((Unit×(Unit×(Unit×((Unit×(Unit×(Unit×(Unit×D19))))×(D15×D12)))))×(D17×((D2×Unit)×(D5×(Unit×(D24×((D15×Unit)×(D24×Unit))))))))
abbrev D40:Type:=(D7×(D5×((D19×Unit)×(D7×(D5×(D5×(D12×Unit)))))))
abbrev D43:Type:=((D1×Unit)×((D4×Unit)×Unit))
abbrev D44:Type:=(List ByteArray)
abbrev D45:Type:=((D7×D12)×Unit)
abbrev D46:Type:=((Int×(Unit×(Unit×(Unit×D12))))×(D17×((D2×Unit)×D11)))
abbrev D47:Type:=(D7×(D5×((D19×Unit)×(D7×(D5×(D5×Unit))))))
abbrev D48:Type:=((D7×D31)×Unit)
abbrev D49:Type:=((D7×(Bool×(Int×(Unit×(Unit×D31)))))×(D7×(D5×((D19×Unit)×D41))))
abbrev D51:Type:=(Int×(Int×(Int×(Int×D31))))
abbrev lv0 (x:D0):List AV:=[.int .i64 x.1.1.1.1,.int .i64 x.1.1.1.2,.int .i64 x.1.1.2.1.1,.int .i64 x.1.1.2.1.2.1,.int .i64 x.1.1.2.1.2.2,.int .i64 x.1.1.2.2.1,.int .i64 x.1.1.2.2.2.1.1,.int .i64 x.1.1.2.2.2.1.2.1,.int .i64 x.1.1.2.2.2.1.2.2,.int .i64 x.1.1.2.2.2.2.1,.int .i64 x.1.1.2.2.2.2.2.1,.int .i64 x.1.1.2.2.2.2.2.2,.int .i64 x.1.2.1.1,.int .i64 x.1.2.1.2,.int .i64 x.1.2.2.1.1,.int .i64 x.1.2.2.1.2.1,.int .i64 x.1.2.2.1.2.2,.int .i64 x.1.2.2.2.1,.int .i64 x.1.2.2.2.2.1.1,.int .i64 x.1.2.2.2.2.1.2.1,.int .i64 x.1.2.2.2.2.1.2.2,.int .i64 x.1.2.2.2.2.2.1,.int .i64 x.1.2.2.2.2.2.2.1,.int .i64 x.1.2.2.2.2.2.2.2,.int .i64 x.2.1.1.1,.int .i64 x.2.1.1.2.1,.int .i64 x.2.1.1.2.2,.int .i64 x.2.1.2.1,.int .i64 x.2.1.2.2.1,.int .i64 x.2.1.2.2.2,.slice false K5 x.2.2.1,.slice false K8 x.2.2.2.1,.slice false K6 x.2.2.2.2.1,.slice false (.int .i64) x.2.2.2.2.2.1,.int .i64 x.2.2.2.2.2.2.1,.int .i64 x.2.2.2.2.2.2.2.1.1,.int .i64 x.2.2.2.2.2.2.2.1.2.1,.int .i64 x.2.2.2.2.2.2.2.1.2.2,.int .i64 x.2.2.2.2.2.2.2.2.1.1,.int .i64 x.2.2.2.2.2.2.2.2.1.2.1,.int .i64 x.2.2.2.2.2.2.2.2.1.2.2,.slice false K5 x.2.2.2.2.2.2.2.2.2.1,.int .i64 x.2.2.2.2.2.2.2.2.2.2.1,.int .i64 x.2.2.2.2.2.2.2.2.2.2.2]
abbrev lv1 (x:D2):List AV:=[.int .i64 x.1.1.1,.int .i64 x.1.1.2.1,.int .i64 x.1.1.2.2,.int .i64 x.1.2.1,.int .i64 x.1.2.2.1,.int .i64 x.1.2.2.2,.int .i64 x.2.1.1,.int .i64 x.2.1.2,.slice false (.int .i64) x.2.2]
abbrev lv2 (x:D9):List AV:=[.int .i64 x.1.1,.int .i64 x.1.2,.int .i64 x.2.1.1,.int .i64 x.2.1.2.1,.int .i64 x.2.1.2.2,.int .i64 x.2.2.1,.int .i64 x.2.2.2.1.1,.int .i64 x.2.2.2.1.2.1,.int .i64 x.2.2.2.1.2.2,.int .i64 x.2.2.2.2.1,.int .i64 x.2.2.2.2.2.1,.int .i64 x.2.2.2.2.2.2]
abbrev lv3 (x:D4):List AV:=[.int .i64 x.1,.int .i64 x.2.1,.int .i64 x.2.2]
abbrev lv4 (x:D3):List AV:=[.int .i64 x.1,.int .i64 x.2.1,.int .i64 x.2.2.1,.slice false K1 x.2.2.2]
abbrev dd (t:Ty):AT:=.base (.data false t)
abbrev di:AT:=dd (.int .i64)
abbrev db:AT:=dd .bool
abbrev pt (c:Nat):AT:=.base (.ptr c 0)
abbrev tp (l:List (Tmp×AT)):Tpl:={ tmps:=l,heap:=[] }
abbrev CT:Type:=(g:FuncId)→(t:Ty)→List AV→Option t.den
abbrev LT:Type:=Code→(sh:Shape)→Amb→sh.head.ty.den→Option (exitsTy sh.exits).den
def sh5x9x0:Shape:={ head:={ tmps:=[(2,(dd (.slice (.int .u8)))),(7,db),(8,(pt 2)),(9,(pt 3)),(10,di),(13,(pt 5)),(14,di),(15,(dd (.slice K2))),(16,di)],heap:=[.empty,.empty,.pre K0 [],.pre K4 [],.empty,.pre K4 []] },exits:=[(.exit 0,{ tmps:=[(7,db),(8,(pt 2)),(9,(pt 3)),(10,di),(13,(pt 5)),(14,di)],heap:=[.empty,.empty,.pre K0 [],.pre K4 [],.empty,.pre K4 []] })] }
def sh14x7x0:Shape:={ head:={ tmps:=[(6,(pt 2)),(8,(pt 4)),(13,(pt 6)),(14,.func (.func 39) [] [.ptr 1 0,.ptr 2 0,.ptr 5 0,.ptr 0 0,.ptr 6 0]),(31,(dd K7)),(32,di),(33,di)],heap:=[.pre K0 [],.pre K4 [],.var [di],.empty,.var [.base (.data true (.slice K2)),.base (.data true K11)],.var [(dd K7)],.var [.base (.data true (.slice K2)),.base (.data true K11)]] },exits:=[(.exit 0,{ tmps:=[(8,(pt 4)),(13,(pt 6))],heap:=[.empty,.empty,.empty,.empty,.var [.base (.data true (.slice K2)),.base (.data true K11)],.empty,.var [.base (.data true (.slice K2)),.base (.data true K11)]] })] }
def sh16x3x0:Shape:={ head:={ tmps:=[(3,(pt 0)),(4,(pt 1)),(6,(pt 2)),(8,db),(13,(dd (.slice K2))),(14,di),(15,di)],heap:=[.pre K0 [],.pre K4 [],.pre K12 [.base (.data true K13)]] },exits:=[(.exit 0,{ tmps:=[(4,(pt 1)),(6,(pt 2)),(8,db)],heap:=[.empty,.pre K4 [],.pre K12 [.base (.data true K13)]] })] }
def sh26x5x0:Shape:={ head:=(tp [(5,(dd K15)),(6,di)]),exits:=[(.exit 0,(tp [])),(.ret,(tp [(4,db)]))] }
def sh26x8x0:Shape:={ head:=(tp [(5,(dd K15)),(6,di),(7,di)]),exits:=[(.exit 2,(tp [(5,(dd K15)),(6,di)])),(.ret,(tp [(4,db)]))] }
def sh28x4x0:Shape:={ head:={ tmps:=[(2,di),(4,(pt 0)),(5,(pt 1)),(8,(pt 2)),(9,di),(10,di)],heap:=[.pre K0 [],.pre K4 [],.pre K10 [.base (.data true K16),.base (.data true (.slice K8)),.base (.data true (.slice K6)),.base (.data true K13),di,di,di,di,di,di,di,.base (.data true K16),di,di]] },exits:=[(.exit 0,{ tmps:=[(4,(pt 0)),(8,(pt 2))],heap:=[.pre K0 [],.empty,.pre K10 [.base (.data true K16),.base (.data true (.slice K8)),.base (.data true (.slice K6)),.base (.data true K13),di,di,di,di,di,di,di,.base (.data true K16),di,di]] })] }
def sh30x3x0:Shape:={ head:={ tmps:=[(1,(pt 0)),(2,(pt 1)),(3,(pt 2)),(4,di)],heap:=[.pre K0 [],.pre K12 [.base (.data true K13)],.pre K12 [.base (.data true K13)]] },exits:=[(.exit 0,{ tmps:=[(2,(pt 1)),(3,(pt 2))],heap:=[.empty,.pre K12 [.base (.data true K13)],.pre K12 [.base (.data true K13)]] })] }
def sh33x2x0:Shape:={ head:={ tmps:=[(1,(pt 0)),(3,di)],heap:=[.pre K0 []] },exits:=[(.exit 0,{ tmps:=[(1,(pt 0))],heap:=[.pre K0 []] }),(.ret,(tp [(2,db)]))] }
def sh35x2x0:Shape:={ head:={ tmps:=[(0,(dd K7)),(1,di),(5,.base (.hs 0 K2))],heap:=[.row K2] },exits:=[(.exit 0,{ tmps:=[(5,.base (.hs 0 K2))],heap:=[.row K2] })] }
def sh50x4x0:Shape:={ head:={ tmps:=[(2,(pt 0)),(3,(pt 1)),(5,di)],heap:=[.pre K0 [],.pre K4 []] },exits:=[(.exit 0,{ tmps:=[(2,(pt 0)),(3,(pt 1))],heap:=[.pre K0 [],.pre K4 []] }),(.ret,(tp [(4,db)]))] }
def sh50x10x0:Shape:={ head:={ tmps:=[(2,(pt 0)),(3,(pt 1)),(7,di)],heap:=[.pre K0 [],.pre K4 []] },exits:=[(.exit 2,(tp [])),(.ret,(tp [(4,db)]))] }
def sh50x15x0:Shape:={ head:={ tmps:=[(2,(pt 0)),(3,(pt 1)),(7,di),(8,di)],heap:=[.pre K0 [],.pre K4 []] },exits:=[(.exit 4,{ tmps:=[(2,(pt 0)),(3,(pt 1)),(7,di)],heap:=[.pre K0 [],.pre K4 []] }),(.ret,(tp [(4,db)]))] }
def sh51x18x0:Shape:={ head:={ tmps:=[(2,(pt 0)),(3,(pt 1)),(5,.base (.data true K15)),(12,di)],heap:=[.pre K0 [],.pre K4 []] },exits:=[(.exit 6,{ tmps:=[(2,(pt 0)),(5,.base (.data true K15))],heap:=[.pre K0 []] })] }
def sh51x24x0:Shape:={ head:={ tmps:=[(2,(pt 0)),(5,.base (.data true K15)),(14,di)],heap:=[.pre K0 []] },exits:=[(.exit 8,(tp [(5,.base (.data true K15))]))] }
def sh53x4x0:Shape:={ head:={ tmps:=[(1,(pt 0)),(3,di)],heap:=[.pre K0 []] },exits:=[(.exit 0,{ tmps:=[(1,(pt 0))],heap:=[.pre K0 []] }),(.ret,(tp [(2,db)]))] }
def sh53x9x0:Shape:={ head:={ tmps:=[(1,(pt 0)),(4,di)],heap:=[.pre K0 []] },exits:=[(.exit 2,{ tmps:=[(1,(pt 0))],heap:=[.pre K0 []] }),(.ret,(tp [(2,db)]))] }
def sh53x14x0:Shape:={ head:={ tmps:=[(1,(pt 0)),(5,di)],heap:=[.pre K0 []] },exits:=[(.exit 4,{ tmps:=[(1,(pt 0))],heap:=[.pre K0 []] }),(.ret,(tp [(2,db)]))] }
def sh53x19x0:Shape:={ head:={ tmps:=[(1,(pt 0)),(6,di)],heap:=[.pre K0 []] },exits:=[(.exit 6,(tp [])),(.ret,(tp [(2,db)]))] }
def sh54x8x0:Shape:={ head:={ tmps:=[(3,(dd (.slice (.int .u8)))),(4,(pt 0)),(6,(pt 2)),(8,(pt 3)),(9,(pt 4)),(11,.base (.hs 5 .bool)),(12,di)],heap:=[.pre K0 [],.empty,.pre (.pair (.int .u8) (.int .u8)) [],.pre K12 [.base (.hs 6 (.int .i64))],.pre K12 [.base (.hs 7 (.int .i64))],.row .bool,.row (.int .i64),.row (.int .i64)] },exits:=[(.exit 2,{ tmps:=[(4,(pt 0)),(6,(pt 2)),(8,(pt 3)),(9,(pt 4))],heap:=[.pre K0 [],.empty,.pre (.pair (.int .u8) (.int .u8)) [],.pre K12 [.base (.hs 6 (.int .i64))],.pre K12 [.base (.hs 7 (.int .i64))],.empty,.row (.int .i64),.row (.int .i64)] })] }
def sh57x4x0:Shape:={ head:=(tp [(0,(dd K16)),(3,di)]),exits:=[(.exit 0,(tp [])),(.ret,(tp [(2,db)]))] }
def sh58x3x0:Shape:={ head:={ tmps:=[(1,(pt 0)),(3,.base (.data true K16)),(4,di)],heap:=[.pre K0 []] },exits:=[(.exit 0,(tp [(3,.base (.data true K16))]))] }
def sh59x3x0:Shape:={ head:=(tp [(0,(dd (.slice K8))),(3,.base (.data true (.slice .str))),(4,di)]),exits:=[(.exit 0,(tp [(0,(dd (.slice K8))),(3,.base (.data true (.slice .str)))])),(.ret,(tp [(2,db)]))] }
def sh60x4x0:Shape:={ head:=(tp [(0,(dd (.slice K6))),(1,di),(5,.base (.data true (.slice .str))),(6,.base (.data true K13)),(7,di)]),exits:=[(.exit 0,(tp [(0,(dd (.slice K6))),(1,di),(5,.base (.data true (.slice .str))),(6,.base (.data true K13))])),(.ret,(tp [(4,db)]))] }
def sh61x2x0:Shape:={ head:=(tp [(0,(dd K13)),(1,di),(5,di)]),exits:=[(.exit 0,(tp [])),(.ret,(tp [(4,db)]))] }
def sh61x7x0:Shape:={ head:=(tp [(0,(dd K13)),(1,di),(5,di),(6,di)]),exits:=[(.exit 2,(tp [(0,(dd K13)),(1,di),(5,di)])),(.ret,(tp [(4,db)]))] }
def sh63x4x0:Shape:={ head:={ tmps:=[(7,(pt 2)),(8,(pt 3)),(9,(pt 4)),(10,(pt 7)),(11,di)],heap:=[.empty,.empty,.var [di],.var [.base (.data true K7)],.var [db],.map K2 .bool,.pre K14 [.base (.map 5),.base (.data true K7)],.var [(pt 6)]] },exits:=[(.exit 0,{ tmps:=[(8,(pt 3)),(9,(pt 4)),(10,(pt 7))],heap:=[.empty,.empty,.empty,.var [.base (.data true K7)],.var [db],.map K2 .bool,.pre K14 [.base (.map 5),.base (.data true K7)],.var [(pt 6)]] }),(.ret,{ tmps:=[(8,(pt 3)),(9,(pt 4))],heap:=[.empty,.empty,.empty,.var [(dd K7)],.var [db]] })] }
def sh64x2x0:Shape:={ head:={ tmps:=[(0,(dd K7)),(1,.func (.func 65) [] [.ptr 0 0]),(7,di),(8,di)],heap:=[.var [di,di,di]] },exits:=[(.exit 0,{ tmps:=[],heap:=[.var [di,di,di]] }),(.ret,{ tmps:=[(4,di)],heap:=[.var [di,di,di]] })] }
def sh64x2x1:Shape:={ head:={ tmps:=[(0,(dd K7)),(1,.func (.func 42) [] [.ptr 1 0,.ptr 0 0]),(7,di),(8,di)],heap:=[.var [di],.pre K4 []] },exits:=[(.exit 0,{ tmps:=[],heap:=[.var [di],.pre K4 []] }),(.ret,{ tmps:=[(4,di)],heap:=[.var [di],.pre K4 []] })] }
def sh68x10x0:Shape:={ head:={ tmps:=[(11,.func (.func 89) [] [.ptr 5 0,.ptr 4 0]),(12,.func (.func 126) [] [.ptr 6 0]),(13,.base (.data true K9)),(47,(dd K9)),(48,di),(49,di)],heap:=[.empty,.empty,.empty,.empty,.pre K1 [],.var [(dd K15)],.pre K2 []] },exits:=[(.exit 0,(tp [(13,.base (.data true K9))]))] }
def sh69x2x0:Shape:={ head:={ tmps:=[(0,(dd K5)),(1,(dd K5)),(4,(pt 0)),(5,(pt 1)),(13,.base (.agg (.pair K5 K5))),(14,di)],heap:=[.pre K1 [],.var [db]] },exits:=[(.exit 0,{ tmps:=[(4,(pt 0)),(5,(pt 1))],heap:=[.pre K1 [],.var [db]] }),(.ret,{ tmps:=[(4,(pt 0)),(5,(pt 1))],heap:=[.pre K1 [],.var [db]] })] }
def sh76x3x0:Shape:={ head:={ tmps:=[(3,(pt 0)),(4,(pt 1)),(5,(pt 2)),(7,.base (.data true K5)),(8,di)],heap:=[.pre K6 [],.pre K1 [],.pre K2 []] },exits:=[(.exit 0,(tp [(7,.base (.data true K5))]))] }
def sh79x5x0:Shape:={ head:=(tp [(0,(dd K5)),(3,di),(4,di)]),exits:=[(.exit 0,(tp [(0,(dd K5)),(3,di)])),(.ret,(tp [(2,db)]))] }
def sh79x10x0:Shape:={ head:=(tp [(0,(dd K5)),(3,di),(5,di)]),exits:=[(.exit 2,(tp [(0,(dd K5))])),(.ret,(tp [(2,db)]))] }
def sh79x15x0:Shape:={ head:=(tp [(0,(dd K5)),(3,di),(5,di),(6,di)]),exits:=[(.exit 4,(tp [(0,(dd K5)),(3,di),(5,di)])),(.ret,(tp [(2,db)]))] }
def sh81x2x0:Shape:={ head:=(tp [(0,(dd (.slice .str))),(3,di)]),exits:=[(.exit 0,(tp [])),(.ret,(tp [(2,db)]))] }
def sh81x7x0:Shape:={ head:=(tp [(0,(dd (.slice .str))),(3,di),(4,di)]),exits:=[(.exit 2,(tp [(0,(dd (.slice .str))),(3,di)])),(.ret,(tp [(2,db)]))] }
def sh82x4x0:Shape:={ head:=(tp [(0,(dd K5)),(3,di)]),exits:=[(.exit 0,(tp [])),(.ret,(tp [(2,db)]))] }
def sh82x9x0:Shape:={ head:=(tp [(0,(dd K5)),(3,di),(4,di)]),exits:=[(.exit 2,(tp [(0,(dd K5)),(3,di)])),(.ret,(tp [(2,db)]))] }
def sh85x1x0:Shape:={ head:={ tmps:=[(0,.func (.yield 0) [] []),(10,(dd K9)),(11,di),(12,di)],heap:=[.pre K0 [],.pre K4 [],.pre K2 [],.var [.base (.data true K5)],.var [db],.pre K4 [],.var [.base (.data true K5)],.var [(dd K9)]],pend:=[none] },exits:=[(.exit 0,{ tmps:=[],heap:=[.pre K0 [],.pre K4 [],.pre K2 [],.var [.base (.data true K5)],.var [db],.pre K4 [],.var [.base (.data true K5)],.var [(dd K9)]],pend:=[none] }),(.ret,{ tmps:=[],heap:=[.pre K0 [],.pre K4 [],.pre K2 [],.var [.base (.data true K5)],.var [db],.pre K4 [],.var [.base (.data true K5)],.var [(dd K9)]],pend:=[some .ret] })] }
def sh85x5x0:Shape:={ head:={ tmps:=[(0,.func (.yield 0) [] []),(3,di),(5,.base (.data true K16)),(10,(dd K9)),(11,di),(12,di),(24,.base (.data true K16)),(25,di),(26,di)],heap:=[.pre K0 [],.pre K4 [],.pre K2 [],.var [.base (.data true K5)],.var [db],.pre K4 [],.var [.base (.data true K5)],.var [(dd K9)]],pend:=[none] },exits:=[(.exit 2,{ tmps:=[(0,.func (.yield 0) [] []),(10,(dd K9)),(11,di),(12,di)],heap:=[.pre K0 [],.pre K4 [],.pre K2 [],.var [.base (.data true K5)],.var [db],.pre K4 [],.var [.base (.data true K5)],.var [(dd K9)]],pend:=[none] }),(.ret,{ tmps:=[],heap:=[.pre K0 [],.pre K4 [],.pre K2 [],.var [.base (.data true K5)],.var [db],.pre K4 [],.var [.base (.data true K5)],.var [(dd K9)]],pend:=[some .ret] })] }
def sh85x8x0:Shape:={ head:={ tmps:=[(0,.func (.yield 0) [] []),(3,di),(5,.base (.data true K16)),(6,di),(7,(dd K5)),(10,(dd K9)),(11,di),(12,di),(24,.base (.data true K16)),(25,di),(26,di),(31,(dd K16)),(32,di),(33,di)],heap:=[.pre K0 [],.pre K4 [],.pre K2 [],.var [.base (.data true K5)],.var [db],.pre K4 [],.var [.base (.data true K5)],.var [(dd K9)]],pend:=[none] },exits:=[(.exit 4,{ tmps:=[(0,.func (.yield 0) [] []),(3,di),(5,.base (.data true K16)),(10,(dd K9)),(11,di),(12,di),(24,.base (.data true K16)),(25,di),(26,di)],heap:=[.pre K0 [],.pre K4 [],.pre K2 [],.var [.base (.data true K5)],.var [db],.pre K4 [],.var [.base (.data true K5)],.var [(dd K9)]],pend:=[none] }),(.ret,{ tmps:=[],heap:=[.pre K0 [],.pre K4 [],.pre K2 [],.var [.base (.data true K5)],.var [db],.pre K4 [],.var [.base (.data true K5)],.var [(dd K9)]],pend:=[some .ret] })] }
def sh86x5x0:Shape:={ head:={ tmps:=[(3,.base (.hs 0 K1)),(4,.base (.data true K16))],heap:=[.row K1] },exits:=[(.exit 0,{ tmps:=[(3,.base (.hs 0 K1)),(4,.base (.data true K16))],heap:=[.row K1] }),(.ret,(tp [(2,.base (.data true K16))]))] }
def sh89x2x0:Shape:={ head:={ tmps:=[(2,(pt 0)),(3,(pt 2)),(4,(pt 3)),(7,(dd K15)),(8,di),(9,di)],heap:=[.pre K1 [],.var [(dd K15)],.pre K3 [],.pre K2 [.base (.data true K5)]] },exits:=[(.exit 0,{ tmps:=[(3,(pt 2)),(4,(pt 3))],heap:=[.pre K1 [],.var [(dd K15)],.pre K3 [],.pre K2 [.base (.data true K5)]] })] }
def sh91x6x0:Shape:={ head:={ tmps:=[(1,(dd K5)),(2,(dd K5)),(8,.func (.func 123) [.agg K1] []),(9,.base (.data true K5)),(24,di),(25,di)],heap:=[] },exits:=[(.exit 0,(tp [(1,(dd K5)),(2,(dd K5)),(9,.base (.data true K5))]))] }
def sh109x3x0:Shape:={ head:=(tp [(0,(dd K5)),(3,di),(4,di)]),exits:=[(.exit 0,(tp [(3,di)]))] }
def sh110x3x0:Shape:={ head:=(tp [(0,di),(3,di),(4,di)]),exits:=[(.exit 0,(tp [(3,di)]))] }
def sh111x4x0:Shape:={ head:=(tp [(0,(dd .str)),(3,di)]),exits:=[(.exit 0,(tp [])),(.ret,(tp [(2,db)]))] }
def sh113x4x0:Shape:={ head:={ tmps:=[(0,.func (.yield 0) [] []),(1,(pt 6)),(2,(pt 7)),(4,(pt 8)),(5,(pt 9)),(31,di)],heap:=[.var [di],.var [.base (.data true K7)],.var [db],.map K2 .bool,.pre K14 [.base (.map 3),.base (.data true K7)],.var [(pt 4)],.var [(pt 4)],.var [di],.pre K2 [],.pre K4 []],pend:=[none] },exits:=[(.exit 0,{ tmps:=[],heap:=[.var [di],.var [.base (.data true K7)],.var [db],.map K2 .bool,.pre K14 [.base (.map 3),.base (.data true K7)],.var [(pt 4)],.var [(pt 4)],.var [di]],pend:=[none] }),(.ret,{ tmps:=[],heap:=[.var [di],.var [(dd K7)],.var [db],.map K2 .bool,.pre K14 [.base (.map 3),.base (.data true K7)],.var [(pt 4)],.var [(pt 4)],.var [di]],pend:=[some .ret] })] }
def sh113x7x0:Shape:={ head:={ tmps:=[(0,.func (.yield 0) [] []),(1,(pt 6)),(2,(pt 7)),(4,(pt 8)),(5,(pt 9)),(6,di),(31,di),(34,.base (.agg K1)),(35,di)],heap:=[.var [di],.var [.base (.data true K7)],.var [db],.map K2 .bool,.pre K14 [.base (.map 3),.base (.data true K7)],.var [(pt 4)],.var [(pt 4)],.var [di],.pre K2 [],.pre K4 []],pend:=[none] },exits:=[(.exit 2,{ tmps:=[(0,.func (.yield 0) [] []),(1,(pt 6)),(2,(pt 7)),(4,(pt 8)),(5,(pt 9)),(31,di)],heap:=[.var [di],.var [.base (.data true K7)],.var [db],.map K2 .bool,.pre K14 [.base (.map 3),.base (.data true K7)],.var [(pt 4)],.var [(pt 4)],.var [di],.pre K2 [],.pre K4 []],pend:=[none] }),(.ret,{ tmps:=[],heap:=[.var [di],.var [(dd K7)],.var [db],.map K2 .bool,.pre K14 [.base (.map 3),.base (.data true K7)],.var [(pt 4)],.var [(pt 4)],.var [di]],pend:=[some .ret] })] }
def sh115x5x0:Shape:={ head:=(tp [(0,(dd K5)),(3,di),(11,di),(12,di)]),exits:=[(.exit 0,(tp [])),(.ret,(tp [(2,db)]))] }
def sh115x9x0:Shape:={ head:=(tp [(0,(dd K5)),(3,di),(4,di),(5,di),(11,di),(12,di),(19,di),(20,di)]),exits:=[(.exit 2,(tp [(0,(dd K5)),(3,di),(11,di),(12,di)])),(.ret,(tp [(2,db)]))] }
def sh116x3x0:Shape:={ head:=(tp [(0,(dd K5)),(5,di),(12,di),(13,di)]),exits:=[(.exit 0,(tp [])),(.ret,(tp [(2,di),(3,di),(4,di)]))] }
def sh116x8x0:Shape:={ head:=(tp [(0,(dd K5)),(5,di),(6,di),(7,di),(8,di),(12,di),(13,di),(40,di),(41,di)]),exits:=[(.exit 1,(tp [(0,(dd K5)),(5,di),(12,di),(13,di)])),(.exit 2,(tp [(6,di),(7,di),(8,di)]))] }
def sh124x9x0:Shape:={ head:={ tmps:=[(2,.base (.data true K5)),(3,db),(4,.base (.hs 0 K1)),(5,(pt 1)),(6,(pt 2)),(22,.base (.hs 0 K1)),(23,di),(24,di)],heap:=[.row K1,.var [.base (.hs 3 K1)],.var [.func (.func 161) [] [.ptr 1 0]],.row K1] },exits:=[(.exit 0,{ tmps:=[(2,.base (.data true K5)),(3,db),(4,.base (.hs 0 K1)),(5,(pt 1)),(6,(pt 2))],heap:=[.row K1,.var [.base (.hs 3 K1)],.var [.func (.func 161) [] [.ptr 1 0]],.row K1] })] }
def sh125x3x0:Shape:={ head:=(tp [(3,.base (.data true K5)),(6,(dd K16)),(7,di),(8,di)]),exits:=[(.exit 0,(tp [(3,.base (.data true K5))]))] }
def sh128x1x0:Shape:={ head:={ tmps:=[(0,.func (.yield 0) [] []),(1,(pt 4)),(5,(dd K5)),(6,di),(7,di)],heap:=[.pre K1 [],.var [db],.var [di],.var [(dd K5)],.var [(dd K5)]],pend:=[none] },exits:=[(.exit 0,{ tmps:=[],heap:=[.pre K1 [],.var [db],.var [di],.var [(dd K5)],.var [(dd K5)]],pend:=[none] }),(.ret,{ tmps:=[],heap:=[.pre K1 [],.var [db],.var [di],.var [(dd K5)],.var [(dd K5)]],pend:=[some .ret] })] }
def sh129x2x0:Shape:={ head:={ tmps:=[(1,.func (.func 130) [] [.ptr 0 0]),(7,(dd K5)),(8,di),(9,di)],heap:=[.pre (.pair K1 K1) []] },exits:=[(.exit 0,{ tmps:=[],heap:=[.pre (.pair K1 K1) []] }),(.ret,{ tmps:=[(4,db)],heap:=[.pre (.pair K1 K1) []] })] }
def sh142x7x0:Shape:={ head:=(tp [(6,di),(7,di),(8,di),(9,di)]),exits:=[(.exit 0,(tp [(7,di),(8,di)]))] }
def sh150x3x0:Shape:={ head:=(tp [(3,di),(4,di),(5,di)]),exits:=[(.exit 0,(tp [(3,di)]))] }
def sh151x17x0:Shape:={ head:={ tmps:=[(0,.func (.yield 0) [] []),(1,(pt 3)),(82,(dd K13)),(83,di),(84,di)],heap:=[.pre K0 [],.pre K4 [],.var [.base (.data true K15)],.pre K0 [],.pre K4 []],pend:=[none] },exits:=[(.exit 6,{ tmps:=[(0,.func (.yield 0) [] []),(1,(pt 3))],heap:=[.pre K0 [],.pre K4 [],.var [.base (.data true K15)],.pre K0 [],.pre K4 []],pend:=[none] })] }
def sh151x22x0:Shape:={ head:={ tmps:=[(0,.func (.yield 0) [] []),(118,(dd K16)),(119,di),(120,di)],heap:=[.pre K0 [],.pre K4 [],.var [.base (.data true K15)],.pre K0 [],.pre K4 []],pend:=[none] },exits:=[(.exit 8,{ tmps:=[],heap:=[.pre K0 [],.pre K4 [],.var [.base (.data true K15)],.pre K0 [],.pre K4 []],pend:=[none] })] }
def sh160x4x0:Shape:={ head:={ tmps:=[(0,.base (.hs 0 K1)),(3,di)],heap:=[.row K1] },exits:=[(.exit 0,{ tmps:=[(0,.base (.hs 0 K1))],heap:=[.row K1] }),(.ret,{ tmps:=[(2,.base (.hs 0 K1))],heap:=[.row K1] })] }
def sh160x9x0:Shape:={ head:={ tmps:=[(0,.base (.hs 0 K1)),(3,di),(4,.base (.hw 0 K1)),(5,di)],heap:=[.row K1] },exits:=[(.exit 2,{ tmps:=[(0,.base (.hs 0 K1)),(3,di)],heap:=[.row K1] })] }
def sh161x1x0:Shape:={ head:={ tmps:=[(1,di),(2,(pt 0)),(3,(pt 2))],heap:=[.var [.base (.hs 1 K1)],.row K1,.var [di,di]] },exits:=[(.exit 0,{ tmps:=[(2,(pt 0)),(3,(pt 2))],heap:=[.var [.base (.hs 1 K1)],.row K1,.var [di,di]] })] }
def sh161x1x1:Shape:={ head:={ tmps:=[(1,di),(2,(pt 1)),(3,(pt 6))],heap:=[.row K1,.var [.base (.hs 3 K1)],.var [.func (.func 161) [] [.ptr 1 0]],.row K1,.var [di],.var [.base (.hs 0 K1)],.var [di,di]],pend:=[some .normal] },exits:=[(.exit 0,{ tmps:=[(2,(pt 1)),(3,(pt 6))],heap:=[.row K1,.var [.base (.hs 3 K1)],.var [.func (.func 161) [] [.ptr 1 0]],.row K1,.var [di],.var [.base (.hs 0 K1)],.var [di,di]],pend:=[some .normal] })] }
def sh161x1x2:Shape:={ head:={ tmps:=[(1,di),(2,(pt 1)),(3,(pt 7))],heap:=[.row K1,.var [.base (.hs 6 K1)],.var [.func (.func 161) [] [.ptr 1 0]],.gone,.var [di],.var [.base (.hs 0 K1)],.row K1,.var [di,di]],pend:=[some .normal] },exits:=[(.exit 0,{ tmps:=[(2,(pt 1)),(3,(pt 7))],heap:=[.row K1,.var [.base (.hs 6 K1)],.var [.func (.func 161) [] [.ptr 1 0]],.gone,.var [di],.var [.base (.hs 0 K1)],.row K1,.var [di,di]],pend:=[some .normal] })] }
def sh163x3x0:Shape:={ head:={ tmps:=[(0,.func (.yield 0) [] []),(4,.base (.map 5)),(5,(dd K15)),(16,(dd K15)),(17,di),(18,di)],heap:=[.pre K0 [],.pre K4 [],.var [.base (.data true K9)],.pre K0 [],.pre K4 [],.mapv K1 true [(((1:Int),(1:Int)),[.func (.func 187) [] []]),(((1:Int),(2:Int)),[.func (.func 188) [] []]),(((1:Int),(3:Int)),[.func (.func 189) [] []]),(((1:Int),(4:Int)),[.func (.func 190) [] []]),(((2:Int),(2:Int)),[.func (.func 190) [] []]),(((2:Int),(3:Int)),[.func (.func 190) [] []]),(((2:Int),(4:Int)),[.func (.func 190) [] []])]],pend:=[none] },exits:=[(.exit 0,{ tmps:=[],heap:=[.pre K0 [],.pre K4 [],.var [.base (.data true K9)],.pre K0 [],.pre K4 []],pend:=[none] })] }
def sh163x6x0:Shape:={ head:={ tmps:=[(0,.func (.yield 0) [] []),(4,.base (.map 5)),(5,(dd K15)),(7,(pt 6)),(16,(dd K15)),(17,di),(18,di),(26,(dd K15)),(27,di),(28,di)],heap:=[.pre K0 [],.pre K4 [],.var [.base (.data true K9)],.pre K0 [],.pre K4 [],.mapv K1 true [(((1:Int),(1:Int)),[.func (.func 187) [] []]),(((1:Int),(2:Int)),[.func (.func 188) [] []]),(((1:Int),(3:Int)),[.func (.func 189) [] []]),(((1:Int),(4:Int)),[.func (.func 190) [] []]),(((2:Int),(2:Int)),[.func (.func 190) [] []]),(((2:Int),(3:Int)),[.func (.func 190) [] []]),(((2:Int),(4:Int)),[.func (.func 190) [] []])],.pre K3 []],pend:=[none] },exits:=[(.exit 2,{ tmps:=[(0,.func (.yield 0) [] []),(4,.base (.map 5)),(5,(dd K15)),(16,(dd K15)),(17,di),(18,di)],heap:=[.pre K0 [],.pre K4 [],.var [.base (.data true K9)],.pre K0 [],.pre K4 [],.mapv K1 true [(((1:Int),(1:Int)),[.func (.func 187) [] []]),(((1:Int),(2:Int)),[.func (.func 188) [] []]),(((1:Int),(3:Int)),[.func (.func 189) [] []]),(((1:Int),(4:Int)),[.func (.func 190) [] []]),(((2:Int),(2:Int)),[.func (.func 190) [] []]),(((2:Int),(3:Int)),[.func (.func 190) [] []]),(((2:Int),(4:Int)),[.func (.func 190) [] []])]],pend:=[none] })] }
def sh181x3x0:Shape:={ head:={ tmps:=[(1,.func (.func 182) [] [.ptr 0 0,.ptr 1 0]),(5,.base (.data true K5)),(11,(dd K5)),(12,di),(13,di)],heap:=[.pre K1 [],.pre K2 []] },exits:=[(.exit 0,{ tmps:=[(5,.base (.data true K5))],heap:=[.pre K1 [],.pre K2 []] })] }
def sh186x1x0:Shape:={ head:={ tmps:=[(0,.func (.yield 0) [] []),(1,(pt 5)),(3,di)],heap:=[.row K1,.var [.base (.hs 3 K1)],.var [.func (.func 161) [] [.ptr 1 0]],.row K1,.var [di],.var [.base (.hs 0 K1)]],pend:=[none] },exits:=[(.exit 0,{ tmps:=[],heap:=[.row K1,.var [.base (.hs 8 K1)],.var [.func (.func 161) [] [.ptr 1 0]],.gone,.var [di],.var [.base (.hs 0 K1)],.empty,.empty,.row K1],pend:=[none] }),(.exit 0,{ tmps:=[],heap:=[.row K1,.var [.base (.hs 3 K1)],.var [.func (.func 161) [] [.ptr 1 0]],.row K1,.var [di],.var [.base (.hs 0 K1)]],pend:=[none] })] }
def sh186x1x1:Shape:={ head:={ tmps:=[(0,.func (.yield 0) [] []),(1,(pt 5)),(3,di)],heap:=[.row K1,.var [.base (.hs 8 K1)],.var [.func (.func 161) [] [.ptr 1 0]],.gone,.var [di],.var [.base (.hs 0 K1)],.empty,.empty,.row K1],pend:=[none] },exits:=[(.exit 0,{ tmps:=[],heap:=[.row K1,.var [.base (.hs 8 K1)],.var [.func (.func 161) [] [.ptr 1 0]],.gone,.var [di],.var [.base (.hs 0 K1)],.empty,.empty,.row K1],pend:=[none] })] }
def sh199x6x0:Shape:={ head:={ tmps:=[(6,(pt 1)),(7,.func (.func 217) [] []),(20,di),(21,di)],heap:=[.empty,.pre K1 []] },exits:=[(.exit 0,{ tmps:=[(6,(pt 1))],heap:=[.empty,.pre K1 []] })] }
def shapeTab:List ((Nat×Nat)×List Shape):=[((5,9),[sh5x9x0]),
 ((14,7),[sh14x7x0]),
 ((16,3),[sh16x3x0]),
 ((26,5),[sh26x5x0]),
 ((26,8),[sh26x8x0]),
 ((28,4),[sh28x4x0]),
 ((30,3),[sh30x3x0]),
 ((33,2),[sh33x2x0]),
 ((35,2),[sh35x2x0]),
 ((50,4),[sh50x4x0]),
 ((50,10),[sh50x10x0]),
 ((50,15),[sh50x15x0]),
 ((51,18),[sh51x18x0]),
 ((51,24),[sh51x24x0]),
 ((53,4),[sh53x4x0]),
 ((53,9),[sh53x9x0]),
 ((53,14),[sh53x14x0]),
 ((53,19),[sh53x19x0]),
 ((54,8),[sh54x8x0]),
 ((57,4),[sh57x4x0]),
 ((58,3),[sh58x3x0]),
 ((59,3),[sh59x3x0]),
 ((60,4),[sh60x4x0]),
 ((61,2),[sh61x2x0]),
 ((61,7),[sh61x7x0]),
 ((63,4),[sh63x4x0]),
 ((64,2),[sh64x2x0,sh64x2x1]),
 ((68,10),[sh68x10x0]),
 ((69,2),[sh69x2x0]),
 ((76,3),[sh76x3x0]),
 ((79,5),[sh79x5x0]),
 ((79,10),[sh79x10x0]),
 ((79,15),[sh79x15x0]),
 ((81,2),[sh81x2x0]),
 ((81,7),[sh81x7x0]),
 ((82,4),[sh82x4x0]),
 ((82,9),[sh82x9x0]),
 ((85,1),[sh85x1x0]),
 ((85,5),[sh85x5x0]),
 ((85,8),[sh85x8x0]),
 ((86,5),[sh86x5x0]),
 ((89,2),[sh89x2x0]),
 ((91,6),[sh91x6x0]),
 ((109,3),[sh109x3x0]),
 ((110,3),[sh110x3x0]),
 ((111,4),[sh111x4x0]),
 ((113,4),[sh113x4x0]),
 ((113,7),[sh113x7x0]),
 ((115,5),[sh115x5x0]),
 ((115,9),[sh115x9x0]),
 ((116,3),[sh116x3x0]),
 ((116,8),[sh116x8x0]),
 ((124,9),[sh124x9x0]),
 ((125,3),[sh125x3x0]),
 ((128,1),[sh128x1x0]),
 ((129,2),[sh129x2x0]),
 ((142,7),[sh142x7x0]),
 ((150,3),[sh150x3x0]),
 ((151,17),[sh151x17x0]),
 ((151,22),[sh151x22x0]),
 ((160,4),[sh160x4x0]),
 ((160,9),[sh160x9x0]),
 ((161,1),[sh161x1x0,sh161x1x1,sh161x1x2]),
 ((163,3),[sh163x3x0]),
 ((163,6),[sh163x6x0]),
 ((181,3),[sh181x3x0]),
 ((186,1),[sh186x1x0,sh186x1x1]),
 ((199,6),[sh199x6x0])]
def cutTab:List ((Nat×Nat)×List (AE×Tpl)):=[((5,10),[(.normal,{ tmps:=[(2,(dd (.slice (.int .u8)))),(7,db),(8,(pt 2)),(9,(pt 3)),(10,di),(13,(pt 5)),(14,di),(15,(dd (.slice K2))),(16,di)],heap:=[.empty,.empty,.pre K0 [],.pre K4 [],.empty,.pre K4 []] })]),
 ((16,9),[(.normal,{ tmps:=[(3,(pt 0)),(4,(pt 1)),(6,(pt 2)),(8,db),(11,(pt 4)),(13,(dd (.slice K2))),(14,di),(15,di)],heap:=[.pre K0 [],.pre K4 [],.pre K12 [.base (.data true K13)],.empty,.pre K4 []] }),(.exit 0,{ tmps:=[(4,(pt 1)),(6,(pt 2)),(8,db)],heap:=[.empty,.pre K4 [],.pre K12 [.base (.data true K13)]] })]),
 ((16,10),[(.normal,{ tmps:=[(3,(pt 0)),(4,(pt 1)),(6,(pt 2)),(8,db),(13,(dd (.slice K2))),(14,di),(15,di)],heap:=[.pre K0 [],.pre K4 [],.pre K12 [.base (.data true K13)]] }),(.exit 0,{ tmps:=[(4,(pt 1)),(6,(pt 2)),(8,db)],heap:=[.empty,.pre K4 [],.pre K12 [.base (.data true K13)]] })]),
 ((28,7),[(.normal,{ tmps:=[(2,di),(4,(pt 0)),(5,(pt 1)),(8,(pt 2)),(9,di),(10,di),(11,di)],heap:=[.pre K0 [],.pre K4 [],.pre K10 [.base (.data true K16),.base (.data true (.slice K8)),.base (.data true (.slice K6)),.base (.data true K13),di,di,di,di,di,di,di,.base (.data true K16),di,di]] })]),
 ((28,8),[(.normal,{ tmps:=[(2,di),(4,(pt 0)),(5,(pt 1)),(8,(pt 2)),(9,di),(10,di),(11,di)],heap:=[.pre K0 [],.pre K4 [],.pre K10 [.base (.data true K16),.base (.data true (.slice K8)),.base (.data true (.slice K6)),.base (.data true K13),di,di,di,di,di,di,di,.base (.data true K16),di,di]] })]),
 ((28,9),[(.normal,{ tmps:=[(2,di),(4,(pt 0)),(5,(pt 1)),(8,(pt 2)),(9,di),(10,di)],heap:=[.pre K0 [],.pre K4 [],.pre K10 [.base (.data true K16),.base (.data true (.slice K8)),.base (.data true (.slice K6)),.base (.data true K13),di,di,di,di,di,di,di,.base (.data true K16),di,di]] })]),
 ((33,13),[(.normal,{ tmps:=[(1,(pt 0)),(6,db)],heap:=[.pre K0 []] })]),
 ((51,17),[(.normal,{ tmps:=[(2,(pt 0)),(3,(pt 1)),(5,.base (.data true K15))],heap:=[.pre K0 [],.pre K4 []] })]),
 ((51,19),[(.normal,{ tmps:=[(2,(pt 0)),(3,(pt 1)),(5,.base (.data true K15)),(12,di)],heap:=[.pre K0 [],.pre K4 []] })]),
 ((54,9),[(.normal,{ tmps:=[(3,(dd (.slice (.int .u8)))),(4,(pt 0)),(6,(pt 2)),(8,(pt 3)),(9,(pt 4)),(11,.base (.hs 5 .bool)),(12,di)],heap:=[.pre K0 [],.empty,.pre (.pair (.int .u8) (.int .u8)) [],.pre K12 [.base (.hs 6 (.int .i64))],.pre K12 [.base (.hs 8 (.int .i64))],.row .bool,.row (.int .i64),.empty,.row (.int .i64)] })]),
 ((54,14),[(.normal,{ tmps:=[(3,(dd (.slice (.int .u8)))),(4,(pt 0)),(6,(pt 2)),(8,(pt 3)),(9,(pt 4)),(11,.base (.hs 5 .bool)),(12,di),(13,di),(14,di)],heap:=[.pre K0 [],.empty,.pre (.pair (.int .u8) (.int .u8)) [],.pre K12 [.base (.hs 6 (.int .i64))],.pre K12 [.base (.hs 7 (.int .i64))],.row .bool,.row (.int .i64),.row (.int .i64)] })]),
 ((54,17),[(.normal,{ tmps:=[(3,(dd (.slice (.int .u8)))),(4,(pt 0)),(6,(pt 2)),(8,(pt 3)),(9,(pt 4)),(11,.base (.hs 5 .bool)),(12,di),(13,di)],heap:=[.pre K0 [],.empty,.pre (.pair (.int .u8) (.int .u8)) [],.pre K12 [.base (.hs 6 (.int .i64))],.pre K12 [.base (.hs 7 (.int .i64))],.row .bool,.row (.int .i64),.row (.int .i64)] })]),
 ((54,25),[(.normal,{ tmps:=[(8,(pt 3)),(9,(pt 4))],heap:=[.empty,.empty,.empty,.pre K12 [.base (.hs 6 (.int .i64))],.pre K12 [.base (.hs 7 (.int .i64))],.empty,.row (.int .i64),.row (.int .i64)] })]),
 ((68,16),[(.normal,{ tmps:=[(11,.func (.func 89) [] [.ptr 5 0,.ptr 4 0]),(12,.func (.func 126) [] [.ptr 6 0]),(13,.base (.data true K9)),(15,(pt 7)),(47,(dd K9)),(48,di),(49,di)],heap:=[.empty,.empty,.empty,.empty,.pre K1 [],.var [(dd K15)],.pre K2 [],.pre (.pair K3 K3) []] }),(.exit 1,{ tmps:=[(11,.func (.func 89) [] [.ptr 5 0,.ptr 4 0]),(12,.func (.func 126) [] [.ptr 6 0]),(13,.base (.data true K9)),(47,(dd K9)),(48,di),(49,di)],heap:=[.empty,.empty,.empty,.empty,.pre K1 [],.var [(dd K15)],.pre K2 []] })]),
 ((68,17),[(.normal,{ tmps:=[(11,.func (.func 89) [] [.ptr 5 0,.ptr 4 0]),(12,.func (.func 126) [] [.ptr 6 0]),(13,.base (.data true K9)),(47,(dd K9)),(48,di),(49,di)],heap:=[.empty,.empty,.empty,.empty,.pre K1 [],.var [(dd K15)],.pre K2 []] })]),
 ((113,9),[(.normal,{ tmps:=[(0,.func (.yield 0) [] []),(1,(pt 6)),(2,(pt 7)),(4,(pt 8)),(5,(pt 9)),(6,di),(8,di),(31,di),(34,.base (.agg K1)),(35,di)],heap:=[.var [di],.var [.base (.data true K7)],.var [db],.map K2 .bool,.pre K14 [.base (.map 3),.base (.data true K7)],.var [(pt 4)],.var [(pt 4)],.var [di],.pre K2 [],.pre K4 []],pend:=[none] })]),
 ((113,11),[(.normal,{ tmps:=[(0,.func (.yield 0) [] []),(1,(pt 6)),(2,(pt 7)),(4,(pt 8)),(5,(pt 9)),(6,di),(9,(pt 10)),(10,(pt 11)),(11,db),(31,di),(34,.base (.agg K1)),(35,di)],heap:=[.var [di],.var [.base (.data true K7)],.var [db],.map K2 .bool,.pre K14 [.base (.map 3),.base (.data true K7)],.var [(pt 4)],.var [(pt 4)],.var [di],.pre K2 [],.pre K4 [],.pre K2 [],.pre K2 []],pend:=[none] })]),
 ((116,13),[(.normal,(tp [(0,(dd K5)),(5,di),(12,di),(13,di)])),(.ret,(tp [(2,di),(3,di),(4,di)]))]),
 ((124,4),[(.normal,{ tmps:=[(2,.base (.data true K5)),(3,db),(4,.base (.hs 0 K1))],heap:=[.row K1] })]),
 ((124,17),[(.normal,{ tmps:=[(5,(pt 1))],heap:=[.empty,.var [.base (.hs 8 K1)],.empty,.empty,.empty,.empty,.empty,.empty,.row K1] })]),
 ((151,16),[(.normal,{ tmps:=[(0,.func (.yield 0) [] []),(1,(pt 3)),(2,(pt 4))],heap:=[.pre K0 [],.pre K4 [],.var [.base (.data true K15)],.pre K0 [],.pre K4 []],pend:=[none] })]),
 ((160,10),[(.normal,{ tmps:=[(0,.base (.hs 0 K1)),(3,di),(4,.base (.hw 0 K1)),(5,di)],heap:=[.row K1] })]),
 ((215,4),[(.normal,(tp [(0,di)]))])]
def retTab:List (Nat×Ty):=[(5,.bool),(10,.bool),(11,(.pair K0 (.pair K4 (.pair (.int .i64) (.pair K2 .bool))))),(12,(.pair (.slice K2) (.int .i64))),(14,(.pair (.pair (.slice K2) K11) .bool)),(16,(.pair K4 .bool)),(21,.bool),(22,(.pair K4 .bool)),(23,.bool),(24,(.slice K2)),(26,.bool),(28,K0),(29,K0),(30,K4),(31,(.pair K4 .bool)),(32,K2),(33,.bool),(34,(.pair K7 K1)),(35,(.slice K2)),(40,K4),(48,(.pair K2 .bool)),(49,(.pair K5 .bool)),(50,.bool),(51,K15),(52,.bool),(53,.bool),(54,K4),(55,.bool),(56,.bool),(57,.bool),(58,K16),(59,.bool),(60,.bool),(61,.bool),(62,.bool),(63,(.pair K7 .bool)),(68,K9),(69,(.pair K1 .bool)),(73,(.pair K5 (.pair K5 K5))),(74,(.pair K1 (.pair K1 (.pair K1 K1)))),(75,(.pair K2 (.pair K2 K2))),(76,K5),(77,.bool),(78,(.int .i64)),(79,.bool),(80,.bool),(81,.bool),(82,.bool),(86,K16),(87,(.pair K1 (.pair K1 (.pair K1 K1)))),(88,K15),(90,.bool),(91,(.pair K5 .bool)),(93,K9),(95,.bool),(102,K1),(103,K1),(104,K2),(105,.bool),(106,(.int .i64)),(107,K1),(108,.bool),(109,(.int .i64)),(110,(.int .i64)),(111,.bool),(112,(.int .i64)),(115,.bool),(116,K2),(119,K1),(120,(.pair K2 (.pair K2 K2))),(121,K1),(123,K1),(124,(.pair K5 .bool)),(125,K5),(131,(.int .i64)),(142,K1),(143,.bool),(144,(.int .i64)),(145,.bool),(146,(.int .i64)),(147,(.int .i64)),(148,.bool),(149,K2),(150,(.int .i64)),(152,(.pair K5 (.pair K5 K5))),(153,K5),(154,(.int .i64)),(165,K1),(176,(.int .i64)),(177,.bool),(178,.bool),(179,K1),(180,K5),(187,.bool),(188,.bool),(189,.bool),(190,.bool),(199,K1),(200,K1),(215,(.int .i64)),(216,(.pair K1 (.pair K1 (.pair K1 (.pair K1 (.pair K1 (.pair K1 (.pair K1 (.pair K1 K1))))))))),(217,K1)]
def freshTab:List Nat:=[86,180]
def markTab:List (Nat×Nat):=[(35,21),(35,29),(49,43),(54,37),(54,79),(54,115),(117,26),(117,31),(161,34)]
def unrollTab:List ((Nat×Nat)×Nat):=[((14,11),40),((21,2),40),((24,3),40),((32,3),40),((51,3),40),((51,7),40),((51,11),40),((54,3),40),((54,19),40),((55,5),40),((62,2),40),((73,5),40),((74,4),40),((87,5),40),((120,4),40),((151,1),40),((151,4),40),((151,10),40),((152,5),40)]
noncomputable def X0:Ext:={ P:=Tryz.prog,shapes:=fun g r=>(shapeTab.lookup (g,r)).getD [],cuts:=fun g r=>cutTab.lookup (g,r),fresh:=fun g=>freshTab.contains g,retTy:=fun g=>retTab.lookup g,mark:=fun g t=>markTab.contains (g,t),specH:=specHTab,unroll:=fun g r=>(unrollTab.lookup (g,r)).getD 0 }
noncomputable def Z29G (T:CT):Option D0:=T 29 K0 []
noncomputable def Z29 (n:Nat):Option D0:=Z29G (run X0 n).callT
noncomputable def Z30L3G (L:LT) (z:((Unit×D36)×(D17×(D18×(D18×Unit))))):Option (D19×(Unit×(D18×(D18×Unit)))):=L (loopOf X0 30 3) sh30x3x0 { fn:=30,base:=0,nt:=28,loops:=[] } z
noncomputable def Z30L3 (n:Nat) (z:((Unit×D36)×(D17×(D18×(D18×Unit))))):Option (D19×(Unit×(D18×(D18×Unit)))):=Z30L3G (run X0 n).loop z
abbrev Z30A (a0:D0):List AV:=[.agg (lv0 a0)]
noncomputable def Z30G (T:CT) (a0:D0):Option D2:=T 30 K4 (Z30A a0)
noncomputable def Z30 (n:Nat) (a0:D0):Option D2:=Z30G (run X0 n).callT a0
noncomputable def Z28L4G (L:LT) (z:D46):Option (D19×(D17×(Unit×D11))):=L (loopOf X0 28 4) sh28x4x0 { fn:=28,base:=0,nt:=67,loops:=[] } z
noncomputable def Z28L4 (n:Nat) (z:D46):Option (D19×(D17×(Unit×D11))):=Z28L4G (run X0 n).loop z
abbrev Z28A (a0:D0) (a1:D2) (a2:Int) (a3:Int):List AV:=[.agg (lv0 a0),.agg (lv1 a1),.int .i64 a2,.int .u8 a3]
noncomputable def Z28G (T:CT) (a0:D0) (a1:D2) (a2:Int) (a3:Int):Option D0:=T 28 K0 (Z28A a0 a1 a2 a3)
noncomputable def Z28 (n:Nat) (a0:D0) (a1:D2) (a2:Int) (a3:Int):Option D0:=Z28G (run X0 n).callT a0 a1 a2 a3
abbrev Z62A (a0:D9) (a1:D4):List AV:=[.agg (lv2 a0),.agg (lv3 a1)]
noncomputable def Z62G (T:CT) (a0:D9) (a1:D4):Option Bool:=T 62 .bool (Z62A a0 a1)
noncomputable def Z62 (n:Nat) (a0:D9) (a1:D4):Option Bool:=Z62G (run X0 n).callT a0 a1
theorem Z62F (n:Nat) (a0:D9) (a1:D4):Z62G (run X0 n).callT a0 a1=Z62 n a0 a1:=Eq.trans (Eq.refl _) (Eq.refl _)
abbrev Z48A (a0:D9) (a1:D4) (a2:Int) (a3:Int):List AV:=[.agg (lv2 a0),.agg (lv3 a1),.int .i64 a2,.int .i64 a3]
noncomputable def Z48G (T:CT) (a0:D9) (a1:D4) (a2:Int) (a3:Int):Option (D4×Bool):=T 48 (.pair K2 .bool) (Z48A a0 a1 a2 a3)
noncomputable def Z48 (n:Nat) (a0:D9) (a1:D4) (a2:Int) (a3:Int):Option (D4×Bool):=Z48G (run X0 n).callT a0 a1 a2 a3
theorem Z48F (n:Nat) (a0:D9) (a1:D4) (a2:Int) (a3:Int):Z48G (run X0 n).callT a0 a1 a2 a3=Z48 n a0 a1 a2 a3:=Eq.trans (Eq.refl _) (Eq.refl _)
abbrev Z22A (a0:D0) (a1:D2) (a2:D4):List AV:=[.agg (lv0 a0),.agg (lv1 a1),.agg (lv3 a2)]
noncomputable def Z22G (T:CT) (a0:D0) (a1:D2) (a2:D4):Option (D2×Bool):=T 22 (.pair K4 .bool) (Z22A a0 a1 a2)
noncomputable def Z22 (n:Nat) (a0:D0) (a1:D2) (a2:D4):Option (D2×Bool):=Z22G (run X0 n).callT a0 a1 a2
theorem Z22F (n:Nat) (a0:D0) (a1:D2) (a2:D4):Z22G (run X0 n).callT a0 a1 a2=Z22 n a0 a1 a2:=Eq.trans (Eq.refl _) (Eq.refl _)
noncomputable def Z150L3G (L:LT) (z:(D31×Unit)):Option (D5×Unit):=L (loopOf X0 150 3) sh150x3x0 { fn:=150,base:=0,nt:=11,loops:=[] } z
noncomputable def Z150L3 (n:Nat) (z:(D31×Unit)):Option (D5×Unit):=Z150L3G (run X0 n).loop z
noncomputable def Z150G (T:CT) (a0:Int):Option Int:=T 150 (.int .i64) [.int .i64 a0]
noncomputable def Z150 (n:Nat) (a0:Int):Option Int:=Z150G (run X0 n).callT a0
theorem Z150F (n:Nat) (a0:Int):Z150G (run X0 n).callT a0=Z150 n a0:=Eq.trans (Eq.refl _) (Eq.refl _)
noncomputable def Z178G (T:CT) (a0:D4):Option Bool:=T 178 .bool [.agg (lv3 a0)]
noncomputable def Z178 (n:Nat) (a0:D4):Option Bool:=Z178G (run X0 n).callT a0
noncomputable def Z215G (T:CT) (a0:Int):Option Int:=T 215 (.int .i64) [.int .i64 a0]
noncomputable def Z215 (n:Nat) (a0:Int):Option Int:=Z215G (run X0 n).callT a0
noncomputable def Z216G (T:CT):Option (D1×(D1×(D1×(D1×(D1×(D1×(D1×(D1×D1)))))))):=T 216 (.pair K1 (.pair K1 (.pair K1 (.pair K1 (.pair K1 (.pair K1 (.pair K1 (.pair K1 K1)))))))) []
noncomputable def Z216 (n:Nat):Option (D1×(D1×(D1×(D1×(D1×(D1×(D1×(D1×D1)))))))):=Z216G (run X0 n).callT
noncomputable def Z217G (T:CT) (a0:D1):Option D1:=T 217 K1 [.agg [.int .i64 a0.1,.int .i64 a0.2]]
noncomputable def Z217 (n:Nat) (a0:D1):Option D1:=Z217G (run X0 n).callT a0
noncomputable def Z199L6G (L:LT) (z:((Unit×(D8×D12))×(Unit×((D1×Unit)×Unit)))):Option (D8×(Unit×((D1×Unit)×Unit))):=L (loopOf X0 199 6) sh199x6x0 { fn:=199,base:=0,nt:=31,loops:=[] } z
noncomputable def Z199L6 (n:Nat) (z:((Unit×(D8×D12))×(Unit×((D1×Unit)×Unit)))):Option (D8×(Unit×((D1×Unit)×Unit))):=Z199L6G (run X0 n).loop z
noncomputable def Z199G (T:CT) (a0:Int):Option D1:=T 199 K1 [.int .i64 a0]
noncomputable def Z199 (n:Nat) (a0:Int):Option D1:=Z199G (run X0 n).callT a0
noncomputable def Z179G (T:CT) (a0:D1) (a1:Int):Option D1:=T 179 K1 [.agg [.int .i64 a0.1,.int .i64 a0.2],.int .i64 a1]
noncomputable def Z179 (n:Nat) (a0:D1) (a1:Int):Option D1:=Z179G (run X0 n).callT a0 a1
abbrev Z149A (a0:D4) (a1:Int):List AV:=[.agg (lv3 a0),.int .i64 a1]
noncomputable def Z149G (T:CT) (a0:D4) (a1:Int):Option D4:=T 149 K2 (Z149A a0 a1)
noncomputable def Z149 (n:Nat) (a0:D4) (a1:Int):Option D4:=Z149G (run X0 n).callT a0 a1
abbrev Z120A (a0:D9) (a1:D4):List AV:=[.agg (lv2 a0),.agg (lv3 a1)]
noncomputable def Z120G (T:CT) (a0:D9) (a1:D4):Option (D4×(D4×D4)):=T 120 (.pair K2 (.pair K2 K2)) (Z120A a0 a1)
noncomputable def Z120 (n:Nat) (a0:D9) (a1:D4):Option (D4×(D4×D4)):=Z120G (run X0 n).callT a0 a1
theorem Z120F (n:Nat) (a0:D9) (a1:D4):Z120G (run X0 n).callT a0 a1=Z120 n a0 a1:=Eq.trans (Eq.refl _) (Eq.refl _)
abbrev Z121A (a0:D4) (a1:Int):List AV:=[.agg (lv3 a0),.int .i64 a1]
noncomputable def Z121G (T:CT) (a0:D4) (a1:Int):Option D1:=T 121 K1 (Z121A a0 a1)
noncomputable def Z121 (n:Nat) (a0:D4) (a1:Int):Option D1:=Z121G (run X0 n).callT a0 a1
theorem Z121F (n:Nat) (a0:D4) (a1:Int):Z121G (run X0 n).callT a0 a1=Z121 n a0 a1:=Eq.trans (Eq.refl _) (Eq.refl _)
abbrev Z119A (a0:D1) (a1:D1):List AV:=[.agg [.int .i64 a0.1,.int .i64 a0.2],.agg [.int .i64 a1.1,.int .i64 a1.2]]
noncomputable def Z119G (T:CT) (a0:D1) (a1:D1):Option D1:=T 119 K1 (Z119A a0 a1)
noncomputable def Z119 (n:Nat) (a0:D1) (a1:D1):Option D1:=Z119G (run X0 n).callT a0 a1
theorem Z119F (n:Nat) (a0:D1) (a1:D1):Z119G (run X0 n).callT a0 a1=Z119 n a0 a1:=Eq.trans (Eq.refl _) (Eq.refl _)
abbrev Z87A (a0:D9) (a1:D4):List AV:=[.agg (lv2 a0),.agg (lv3 a1)]
noncomputable def Z87G (T:CT) (a0:D9) (a1:D4):Option (D1×(D1×(D1×D1))):=T 87 (.pair K1 (.pair K1 (.pair K1 K1))) (Z87A a0 a1)
noncomputable def Z87 (n:Nat) (a0:D9) (a1:D4):Option (D1×(D1×(D1×D1))):=Z87G (run X0 n).callT a0 a1
theorem Z87F (n:Nat) (a0:D9) (a1:D4):Z87G (run X0 n).callT a0 a1=Z87 n a0 a1:=Eq.trans (Eq.refl _) (Eq.refl _)
noncomputable def Z200G (T:CT) (a0:D1):Option D1:=T 200 K1 [.agg [.int .i64 a0.1,.int .i64 a0.2]]
noncomputable def Z200 (n:Nat) (a0:D1):Option D1:=Z200G (run X0 n).callT a0
abbrev Z165A (a0:D1) (a1:D1):List AV:=[.agg [.int .i64 a0.1,.int .i64 a0.2],.agg [.int .i64 a1.1,.int .i64 a1.2]]
noncomputable def Z165G (T:CT) (a0:D1) (a1:D1):Option D1:=T 165 K1 (Z165A a0 a1)
noncomputable def Z165 (n:Nat) (a0:D1) (a1:D1):Option D1:=Z165G (run X0 n).callT a0 a1
abbrev Z180A (a0:(D9×D4)) (a1:D4) (a2:D1) (a3:D1):List AV:=[.agg [.int .i64 a0.1.1.1,.int .i64 a0.1.1.2,.int .i64 a0.1.2.1.1,.int .i64 a0.1.2.1.2.1,.int .i64 a0.1.2.1.2.2,.int .i64 a0.1.2.2.1,.int .i64 a0.1.2.2.2.1.1,.int .i64 a0.1.2.2.2.1.2.1,.int .i64 a0.1.2.2.2.1.2.2,.int .i64 a0.1.2.2.2.2.1,.int .i64 a0.1.2.2.2.2.2.1,.int .i64 a0.1.2.2.2.2.2.2,.int .i64 a0.2.1,.int .i64 a0.2.2.1,.int .i64 a0.2.2.2],.agg (lv3 a1),.agg [.int .i64 a2.1,.int .i64 a2.2],.agg [.int .i64 a3.1,.int .i64 a3.2]]
noncomputable def Z180G (T:CT) (a0:(D9×D4)) (a1:D4) (a2:D1) (a3:D1):Option D7:=T 180 K5 (Z180A a0 a1 a2 a3)
noncomputable def Z180 (n:Nat) (a0:(D9×D4)) (a1:D4) (a2:D1) (a3:D1):Option D7:=Z180G (run X0 n).callT a0 a1 a2 a3
abbrev Z152A (a0:D9) (a1:D4):List AV:=[.agg (lv2 a0),.agg (lv3 a1)]
noncomputable def Z152G (T:CT) (a0:D9) (a1:D4):Option (D7×(D7×D7)):=T 152 (.pair K5 (.pair K5 K5)) (Z152A a0 a1)
noncomputable def Z152 (n:Nat) (a0:D9) (a1:D4):Option (D7×(D7×D7)):=Z152G (run X0 n).callT a0 a1
theorem Z152F (n:Nat) (a0:D9) (a1:D4):Z152G (run X0 n).callT a0 a1=Z152 n a0 a1:=Eq.trans (Eq.refl _) (Eq.refl _)
noncomputable def Z181L3G (L:LT) (z:(((Unit×D19)×(D7×(D7×D12)))×D43)):Option (D41×D43):=L (loopOf X0 181 3) sh181x3x0 { fn:=181,base:=2,nt:=25,loops:=[] } z
noncomputable def Z181L3 (n:Nat) (z:(((Unit×D19)×(D7×(D7×D12)))×D43)):Option (D41×D43):=Z181L3G (run X0 n).loop z
theorem Z181L3F (n:Nat) (z:(((Unit×D19)×(D7×(D7×D12)))×D43)):Z181L3G (run X0 n).loop z=Z181L3 n z:=Eq.trans (Eq.refl _) (Eq.refl _)
abbrev Z153A (a0:D25) (a1:D1) (a2:D4):List AV:=[.agg [.str a0.1,.slice false K1 a0.2.1,.int .i64 a0.2.2],.agg [.int .i64 a1.1,.int .i64 a1.2],.agg (lv3 a2)]
noncomputable def Z153G (T:CT) (a0:D25) (a1:D1) (a2:D4):Option D7:=T 153 K5 (Z153A a0 a1 a2)
noncomputable def Z153 (n:Nat) (a0:D25) (a1:D1) (a2:D4):Option D7:=Z153G (run X0 n).callT a0 a1 a2
theorem Z153F (n:Nat) (a0:D25) (a1:D1) (a2:D4):Z153G (run X0 n).callT a0 a1 a2=Z153 n a0 a1 a2:=Eq.trans (Eq.refl _) (Eq.refl _)
noncomputable abbrev Z151L17M (c0:D0) (c1:D2) (c2:D0) (c3:D2):Amb:={ fn:=151,base:=5,nt:=132,loops:=[{ fn:=88,tmps:=[.agg (lv0 c0),.agg (lv1 c1),.ptr 0 0,.ptr 1 0,.nil,.ptr 2 0,.top,.agg (lv0 c2),.agg (lv1 c3),.func (.func 151) [] [.ptr 3 0,.ptr 4 0],.top,.top,.top,.top,.top,.top],params:=[10],assign:=rfAssign X0 88 0,body:=rfBody X0 88 0 }] }
noncomputable def Z151L17G (L:LT) (c0:D0) (c1:D2) (c2:D0) (c3:D2) (z:((D8×(Unit×(D50×D12)))×D28)):Option ((D8×D8)×D28):=L (loopOf X0 151 17) sh151x17x0 (Z151L17M c0 c1 c2 c3) z
noncomputable def Z151L17 (n:Nat) (c0:D0) (c1:D2) (c2:D0) (c3:D2) (z:((D8×(Unit×(D50×D12)))×D28)):Option ((D8×D8)×D28):=Z151L17G (run X0 n).loop c0 c1 c2 c3 z
theorem Z151L17F (n:Nat) (c0:D0) (c1:D2) (c2:D0) (c3:D2) (z:((D8×(Unit×(D50×D12)))×D28)):Z151L17G (run X0 n).loop c0 c1 c2 c3 z=Z151L17 n c0 c1 c2 c3 z:=Eq.trans (Eq.refl _) (Eq.refl _)
noncomputable abbrev Z151L22M (c0:D0) (c1:D2) (c2:D0) (c3:D2):Amb:={ fn:=151,base:=5,nt:=132,loops:=[{ fn:=88,tmps:=[.agg (lv0 c0),.agg (lv1 c1),.ptr 0 0,.ptr 1 0,.nil,.ptr 2 0,.top,.agg (lv0 c2),.agg (lv1 c3),.func (.func 151) [] [.ptr 3 0,.ptr 4 0],.top,.top,.top,.top,.top,.top],params:=[10],assign:=rfAssign X0 88 0,body:=rfBody X0 88 0 }] }
noncomputable def Z151L22G (L:LT) (c0:D0) (c1:D2) (c2:D0) (c3:D2) (z:((D8×((List D7)×D12))×D28)):Option (Unit×D28):=L (loopOf X0 151 22) sh151x22x0 (Z151L22M c0 c1 c2 c3) z
noncomputable def Z151L22 (n:Nat) (c0:D0) (c1:D2) (c2:D0) (c3:D2) (z:((D8×((List D7)×D12))×D28)):Option (Unit×D28):=Z151L22G (run X0 n).loop c0 c1 c2 c3 z
theorem Z151L22F (n:Nat) (c0:D0) (c1:D2) (c2:D0) (c3:D2) (z:((D8×((List D7)×D12))×D28)):Z151L22G (run X0 n).loop c0 c1 c2 c3 z=Z151L22 n c0 c1 c2 c3 z:=Eq.trans (Eq.refl _) (Eq.refl _)
abbrev Z88A (a0:D0) (a1:D2):List AV:=[.agg (lv0 a0),.agg (lv1 a1)]
noncomputable def Z88G (T:CT) (a0:D0) (a1:D2):Option (List D3):=T 88 K15 (Z88A a0 a1)
noncomputable def Z88 (n:Nat) (a0:D0) (a1:D2):Option (List D3):=Z88G (run X0 n).callT a0 a1
theorem Z88F (n:Nat) (a0:D0) (a1:D2):Z88G (run X0 n).callT a0 a1=Z88 n a0 a1:=Eq.trans (Eq.refl _) (Eq.refl _)
abbrev Z187A (a0:D3) (a1:D3):List AV:=[.agg (lv4 a0),.agg (lv4 a1)]
noncomputable def Z187G (T:CT) (a0:D3) (a1:D3):Option Bool:=T 187 .bool (Z187A a0 a1)
noncomputable def Z187 (n:Nat) (a0:D3) (a1:D3):Option Bool:=Z187G (run X0 n).callT a0 a1
theorem Z187F (n:Nat) (a0:D3) (a1:D3):Z187G (run X0 n).callT a0 a1=Z187 n a0 a1:=Eq.trans (Eq.refl _) (Eq.refl _)
abbrev Z188A (a0:D3) (a1:D3):List AV:=[.agg (lv4 a0),.agg (lv4 a1)]
noncomputable def Z188G (T:CT) (a0:D3) (a1:D3):Option Bool:=T 188 .bool (Z188A a0 a1)
noncomputable def Z188 (n:Nat) (a0:D3) (a1:D3):Option Bool:=Z188G (run X0 n).callT a0 a1
theorem Z188F (n:Nat) (a0:D3) (a1:D3):Z188G (run X0 n).callT a0 a1=Z188 n a0 a1:=Eq.trans (Eq.refl _) (Eq.refl _)
abbrev Z189A (a0:D3) (a1:D3):List AV:=[.agg (lv4 a0),.agg (lv4 a1)]
noncomputable def Z189G (T:CT) (a0:D3) (a1:D3):Option Bool:=T 189 .bool (Z189A a0 a1)
noncomputable def Z189 (n:Nat) (a0:D3) (a1:D3):Option Bool:=Z189G (run X0 n).callT a0 a1
theorem Z189F (n:Nat) (a0:D3) (a1:D3):Z189G (run X0 n).callT a0 a1=Z189 n a0 a1:=Eq.trans (Eq.refl _) (Eq.refl _)
abbrev Z190A (a0:D3) (a1:D3):List AV:=[.agg (lv4 a0),.agg (lv4 a1)]
noncomputable def Z190G (T:CT) (a0:D3) (a1:D3):Option Bool:=T 190 .bool (Z190A a0 a1)
noncomputable def Z190 (n:Nat) (a0:D3) (a1:D3):Option Bool:=Z190G (run X0 n).callT a0 a1
theorem Z190F (n:Nat) (a0:D3) (a1:D3):Z190G (run X0 n).callT a0 a1=Z190 n a0 a1:=Eq.trans (Eq.refl _) (Eq.refl _)
noncomputable abbrev Z163L6M (c0:D0) (c1:D2) (c2:D0) (c3:D2):Amb:={ fn:=163,base:=5,nt:=60,loops:=[{ fn:=93,tmps:=[.agg (lv0 c0),.agg (lv1 c1),.ptr 0 0,.ptr 1 0,.nil,.ptr 2 0,.top,.agg (lv0 c2),.agg (lv1 c3),.func (.func 163) [] [.ptr 3 0,.ptr 4 0],.top,.top,.top,.top,.top,.top],params:=[10],assign:=rfAssign X0 93 0,body:=rfBody X0 93 0 }] }
noncomputable def Z163L6G (L:LT) (c0:D0) (c1:D2) (c2:D0) (c3:D2) (z:D26):Option D22:=L (loopOf X0 163 6) sh163x6x0 (Z163L6M c0 c1 c2 c3) z
noncomputable def Z163L6 (n:Nat) (c0:D0) (c1:D2) (c2:D0) (c3:D2) (z:D26):Option D22:=Z163L6G (run X0 n).loop c0 c1 c2 c3 z
theorem Z163L6F (n:Nat) (c0:D0) (c1:D2) (c2:D0) (c3:D2) (z:D26):Z163L6G (run X0 n).loop c0 c1 c2 c3 z=Z163L6 n c0 c1 c2 c3 z:=Eq.trans (Eq.refl _) (Eq.refl _)
noncomputable abbrev Z163L3M (c0:D0) (c1:D2) (c2:D0) (c3:D2):Amb:={ fn:=163,base:=5,nt:=60,loops:=[{ fn:=93,tmps:=[.agg (lv0 c0),.agg (lv1 c1),.ptr 0 0,.ptr 1 0,.nil,.ptr 2 0,.top,.agg (lv0 c2),.agg (lv1 c3),.func (.func 163) [] [.ptr 3 0,.ptr 4 0],.top,.top,.top,.top,.top,.top],params:=[10],assign:=rfAssign X0 93 0,body:=rfBody X0 93 0 }] }
noncomputable def Z163L3G (L:LT) (c0:D0) (c1:D2) (c2:D0) (c3:D2) (z:D22):Option (Unit×(D17×((D2×Unit)×(((List (D3×D3))×Unit)×D13)))):=L (loopOf X0 163 3) sh163x3x0 (Z163L3M c0 c1 c2 c3) z
noncomputable def Z163L3 (n:Nat) (c0:D0) (c1:D2) (c2:D0) (c3:D2) (z:D22):Option (Unit×(D17×((D2×Unit)×(((List (D3×D3))×Unit)×D13)))):=Z163L3G (run X0 n).loop c0 c1 c2 c3 z
theorem Z163L3F (n:Nat) (c0:D0) (c1:D2) (c2:D0) (c3:D2) (z:D22):Z163L3G (run X0 n).loop c0 c1 c2 c3 z=Z163L3 n c0 c1 c2 c3 z:=Eq.trans (Eq.refl _) (Eq.refl _)
abbrev Z93A (a0:D0) (a1:D2):List AV:=[.agg (lv0 a0),.agg (lv1 a1)]
noncomputable def Z93G (T:CT) (a0:D0) (a1:D2):Option (List (D3×D3)):=T 93 K9 (Z93A a0 a1)
noncomputable def Z93 (n:Nat) (a0:D0) (a1:D2):Option (List (D3×D3)):=Z93G (run X0 n).callT a0 a1
theorem Z93F (n:Nat) (a0:D0) (a1:D2):Z93G (run X0 n).callT a0 a1=Z93 n a0 a1:=Eq.trans (Eq.refl _) (Eq.refl _)
abbrev Z90A (a0:D3) (a1:D3):List AV:=[.agg (lv4 a0),.agg (lv4 a1)]
noncomputable def Z90G (T:CT) (a0:D3) (a1:D3):Option Bool:=T 90 .bool (Z90A a0 a1)
noncomputable def Z90 (n:Nat) (a0:D3) (a1:D3):Option Bool:=Z90G (run X0 n).callT a0 a1
noncomputable def Z154G (T:CT) (a0:Int) (a1:Int) (a2:Int):Option Int:=T 154 (.int .i64) [.int .i64 a0,.int .i64 a1,.int .i64 a2]
noncomputable def Z154 (n:Nat) (a0:Int) (a1:Int) (a2:Int):Option Int:=Z154G (run X0 n).callT a0 a1 a2
abbrev Z123A (a0:D1) (a1:D1) (a2:D1):List AV:=[.agg [.int .i64 a0.1,.int .i64 a0.2],.agg [.int .i64 a1.1,.int .i64 a1.2],.agg [.int .i64 a2.1,.int .i64 a2.2]]
noncomputable def Z123G (T:CT) (a0:D1) (a1:D1) (a2:D1):Option D1:=T 123 K1 (Z123A a0 a1 a2)
noncomputable def Z123 (n:Nat) (a0:D1) (a1:D1) (a2:D1):Option D1:=Z123G (run X0 n).callT a0 a1 a2
noncomputable def Z91L6G (L:LT) (z:((D7×(D7×(((D1×Unit)×Unit)×(D7×D12))))×Unit)):Option ((D7×(D7×D41))×Unit):=L (loopOf X0 91 6) sh91x6x0 { fn:=91,base:=0,nt:=50,loops:=[] } z
noncomputable def Z91L6 (n:Nat) (z:((D7×(D7×(((D1×Unit)×Unit)×(D7×D12))))×Unit)):Option ((D7×(D7×D41))×Unit):=Z91L6G (run X0 n).loop z
noncomputable def Z125L3G (L:LT) (z:((D7×((List D7)×D12))×Unit)):Option (D41×Unit):=L (loopOf X0 125 3) sh125x3x0 { fn:=125,base:=0,nt:=17,loops:=[] } z
noncomputable def Z125L3 (n:Nat) (z:((D7×((List D7)×D12))×Unit)):Option (D41×Unit):=Z125L3G (run X0 n).loop z
noncomputable def Z125G (T:CT) (a0:List D7):Option D7:=T 125 K5 [.slice false K5 a0]
noncomputable def Z125 (n:Nat) (a0:List D7):Option D7:=Z125G (run X0 n).callT a0
noncomputable def Z160L9G (L:LT) (z:((Int×(Int×(D1×D5)))×D41)):Option (D12×D41):=L (loopOf X0 160 9) sh160x9x0 { fn:=160,base:=1,nt:=61,loops:=[] } z
noncomputable def Z160L9 (n:Nat) (z:((Int×(Int×(D1×D5)))×D41)):Option (D12×D41):=Z160L9G (run X0 n).loop z
noncomputable def Z160L4G (L:LT) (z:(D12×D41)):Option ((D5×D41) ⊕ (D5×D41)):=L (loopOf X0 160 4) sh160x4x0 { fn:=160,base:=1,nt:=61,loops:=[] } z
noncomputable def Z160L4 (n:Nat) (z:(D12×D41)):Option ((D5×D41) ⊕ (D5×D41)):=Z160L4G (run X0 n).loop z
theorem Z160L4F (n:Nat) (z:(D12×D41)):Z160L4G (run X0 n).loop z=Z160L4 n z:=Eq.trans (Eq.refl _) (Eq.refl _)
abbrev Z147A (a0:D1) (a1:D1) (a2:D1):List AV:=[.agg [.int .i64 a0.1,.int .i64 a0.2],.agg [.int .i64 a1.1,.int .i64 a1.2],.agg [.int .i64 a2.1,.int .i64 a2.2]]
noncomputable def Z147G (T:CT) (a0:D1) (a1:D1) (a2:D1):Option Int:=T 147 (.int .i64) (Z147A a0 a1 a2)
noncomputable def Z147 (n:Nat) (a0:D1) (a1:D1) (a2:D1):Option Int:=Z147G (run X0 n).callT a0 a1 a2
noncomputable def Z161L1G (L:LT) (z:((Int×D19)×(D5×(D7×(D12×Unit))))):Option (D19×(D5×(D7×(D12×Unit)))):=L (loopOf X0 161 1) sh161x1x0 { fn:=161,base:=2,nt:=35,loops:=[] } z
noncomputable def Z161L1 (n:Nat) (z:((Int×D19)×(D5×(D7×(D12×Unit))))):Option (D19×(D5×(D7×(D12×Unit)))):=Z161L1G (run X0 n).loop z
theorem Z161L1F (n:Nat) (z:((Int×D19)×(D5×(D7×(D12×Unit))))):Z161L1G (run X0 n).loop z=Z161L1 n z:=Eq.trans (Eq.refl _) (Eq.refl _)
noncomputable def Z124L9G (L:LT) (z:D49):Option ((D7×(Bool×(Int×D19)))×(D7×(D5×((D19×Unit)×D41)))):=L (loopOf X0 124 9) sh124x9x0 { fn:=124,base:=0,nt:=55,loops:=[] } z
noncomputable def Z124L9 (n:Nat) (z:D49):Option ((D7×(Bool×(Int×D19)))×(D7×(D5×((D19×Unit)×D41)))):=Z124L9G (run X0 n).loop z
theorem Z124L9F (n:Nat) (z:D49):Z124L9G (run X0 n).loop z=Z124L9 n z:=Eq.trans (Eq.refl _) (Eq.refl _)
noncomputable abbrev Z161L1v1M (c0:List D1) (c1:Bool) (c2:Nat) (c3:Nat) (c4:Nat) (c5:Nat) (c6:Int) (c7:Nat) (c8:Nat) (c9:Nat) (c10:Nat) (c11:Int) (c12:Int) (c13:Nat) (c14:Nat):Amb:={ fn:=161,base:=6,nt:=35,loops:=[{ fn:=124,tmps:=[.top,.top,.slice false K1 c0,.bool c1,.hs 0 K1 c2 c3,.ptr 1 0,.ptr 2 0,.top,.top,.ptr 4 0,.top,.top,.top,.top,.top,.top,.top,.top,.top,.top,.top,.top,.top,.top,.top,.top,.top,.top,.top,.top,.top,.top,.hs 3 K1 c4 c5,.int .i64 c6,.hs 0 K1 c7 c8,.hs 0 K1 c9 c10,.int .i64 c11,.int .i64 c12,.hs 0 K1 c13 c14,.func (.func 186) [] [.ptr 5 0],.top,.top,.top,.top,.top,.top,.top,.top,.top,.top,.top,.top,.top,.top,.top],params:=[40,41],assign:=rfAssign X0 124 0,body:=rfBody X0 124 0 }] }
noncomputable def Z161L1v1G (L:LT) (c0:List D1) (c1:Bool) (c2:Nat) (c3:Nat) (c4:Nat) (c5:Nat) (c6:Int) (c7:Nat) (c8:Nat) (c9:Nat) (c10:Nat) (c11:Int) (c12:Int) (c13:Nat) (c14:Nat) (z:((Int×D19)×D40)):Option (D19×D40):=L (loopOf X0 161 1) sh161x1x1 (Z161L1v1M c0 c1 c2 c3 c4 c5 c6 c7 c8 c9 c10 c11 c12 c13 c14) z
noncomputable def Z161L1v1 (n:Nat) (c0:List D1) (c1:Bool) (c2:Nat) (c3:Nat) (c4:Nat) (c5:Nat) (c6:Int) (c7:Nat) (c8:Nat) (c9:Nat) (c10:Nat) (c11:Int) (c12:Int) (c13:Nat) (c14:Nat) (z:((Int×D19)×D40)):Option (D19×D40):=Z161L1v1G (run X0 n).loop c0 c1 c2 c3 c4 c5 c6 c7 c8 c9 c10 c11 c12 c13 c14 z
theorem Z161L1v1F (n:Nat) (c0:List D1) (c1:Bool) (c2:Nat) (c3:Nat) (c4:Nat) (c5:Nat) (c6:Int) (c7:Nat) (c8:Nat) (c9:Nat) (c10:Nat) (c11:Int) (c12:Int) (c13:Nat) (c14:Nat) (z:((Int×D19)×D40)):Z161L1v1G (run X0 n).loop c0 c1 c2 c3 c4 c5 c6 c7 c8 c9 c10 c11 c12 c13 c14 z=Z161L1v1 n c0 c1 c2 c3 c4 c5 c6 c7 c8 c9 c10 c11 c12 c13 c14 z:=Eq.trans (Eq.refl _) (Eq.refl _)
noncomputable abbrev Z161L1v2M (c0:List D1) (c1:Bool) (c2:Nat) (c3:Nat) (c4:Nat) (c5:Nat) (c6:Int) (c7:Nat) (c8:Nat) (c9:Nat) (c10:Nat) (c11:Int) (c12:Int) (c13:Nat) (c14:Nat):Amb:={ fn:=161,base:=7,nt:=35,loops:=[{ fn:=124,tmps:=[.top,.top,.slice false K1 c0,.bool c1,.hs 0 K1 c2 c3,.ptr 1 0,.ptr 2 0,.top,.top,.ptr 4 0,.top,.top,.top,.top,.top,.top,.top,.top,.top,.top,.top,.top,.top,.top,.top,.top,.top,.top,.top,.top,.top,.top,.hs 3 K1 c4 c5,.int .i64 c6,.hs 0 K1 c7 c8,.hs 0 K1 c9 c10,.int .i64 c11,.int .i64 c12,.hs 0 K1 c13 c14,.func (.func 186) [] [.ptr 5 0],.top,.top,.top,.top,.top,.top,.top,.top,.top,.top,.top,.top,.top,.top,.top],params:=[40,41],assign:=rfAssign X0 124 0,body:=rfBody X0 124 0 }] }
noncomputable def Z161L1v2G (L:LT) (c0:List D1) (c1:Bool) (c2:Nat) (c3:Nat) (c4:Nat) (c5:Nat) (c6:Int) (c7:Nat) (c8:Nat) (c9:Nat) (c10:Nat) (c11:Int) (c12:Int) (c13:Nat) (c14:Nat) (z:((Int×D19)×D38)):Option (D19×D38):=L (loopOf X0 161 1) sh161x1x2 (Z161L1v2M c0 c1 c2 c3 c4 c5 c6 c7 c8 c9 c10 c11 c12 c13 c14) z
noncomputable def Z161L1v2 (n:Nat) (c0:List D1) (c1:Bool) (c2:Nat) (c3:Nat) (c4:Nat) (c5:Nat) (c6:Int) (c7:Nat) (c8:Nat) (c9:Nat) (c10:Nat) (c11:Int) (c12:Int) (c13:Nat) (c14:Nat) (z:((Int×D19)×D38)):Option (D19×D38):=Z161L1v2G (run X0 n).loop c0 c1 c2 c3 c4 c5 c6 c7 c8 c9 c10 c11 c12 c13 c14 z
theorem Z161L1v2F (n:Nat) (c0:List D1) (c1:Bool) (c2:Nat) (c3:Nat) (c4:Nat) (c5:Nat) (c6:Int) (c7:Nat) (c8:Nat) (c9:Nat) (c10:Nat) (c11:Int) (c12:Int) (c13:Nat) (c14:Nat) (z:((Int×D19)×D38)):Z161L1v2G (run X0 n).loop c0 c1 c2 c3 c4 c5 c6 c7 c8 c9 c10 c11 c12 c13 c14 z=Z161L1v2 n c0 c1 c2 c3 c4 c5 c6 c7 c8 c9 c10 c11 c12 c13 c14 z:=Eq.trans (Eq.refl _) (Eq.refl _)
noncomputable abbrev Z186L1v1M (c0:List D1) (c1:Bool) (c2:Nat) (c3:Nat) (c4:Nat) (c5:Nat) (c6:Int) (c7:Nat) (c8:Nat) (c9:Nat) (c10:Nat) (c11:Int) (c12:Int) (c13:Nat) (c14:Nat):Amb:={ fn:=186,base:=6,nt:=19,loops:=[{ fn:=124,tmps:=[.top,.top,.slice false K1 c0,.bool c1,.hs 0 K1 c2 c3,.ptr 1 0,.ptr 2 0,.top,.top,.ptr 4 0,.top,.top,.top,.top,.top,.top,.top,.top,.top,.top,.top,.top,.top,.top,.top,.top,.top,.top,.top,.top,.top,.top,.hs 3 K1 c4 c5,.int .i64 c6,.hs 0 K1 c7 c8,.hs 0 K1 c9 c10,.int .i64 c11,.int .i64 c12,.hs 0 K1 c13 c14,.func (.func 186) [] [.ptr 5 0],.top,.top,.top,.top,.top,.top,.top,.top,.top,.top,.top,.top,.top,.top,.top],params:=[40,41],assign:=rfAssign X0 124 0,body:=rfBody X0 124 0 }] }
noncomputable def Z186L1v1G (L:LT) (c0:List D1) (c1:Bool) (c2:Nat) (c3:Nat) (c4:Nat) (c5:Nat) (c6:Int) (c7:Nat) (c8:Nat) (c9:Nat) (c10:Nat) (c11:Int) (c12:Int) (c13:Nat) (c14:Nat) (z:((D8×(Unit×D5))×D29)):Option (Unit×D29):=L (loopOf X0 186 1) sh186x1x1 (Z186L1v1M c0 c1 c2 c3 c4 c5 c6 c7 c8 c9 c10 c11 c12 c13 c14) z
noncomputable def Z186L1v1 (n:Nat) (c0:List D1) (c1:Bool) (c2:Nat) (c3:Nat) (c4:Nat) (c5:Nat) (c6:Int) (c7:Nat) (c8:Nat) (c9:Nat) (c10:Nat) (c11:Int) (c12:Int) (c13:Nat) (c14:Nat) (z:((D8×(Unit×D5))×D29)):Option (Unit×D29):=Z186L1v1G (run X0 n).loop c0 c1 c2 c3 c4 c5 c6 c7 c8 c9 c10 c11 c12 c13 c14 z
theorem Z186L1v1F (n:Nat) (c0:List D1) (c1:Bool) (c2:Nat) (c3:Nat) (c4:Nat) (c5:Nat) (c6:Int) (c7:Nat) (c8:Nat) (c9:Nat) (c10:Nat) (c11:Int) (c12:Int) (c13:Nat) (c14:Nat) (z:((D8×(Unit×D5))×D29)):Z186L1v1G (run X0 n).loop c0 c1 c2 c3 c4 c5 c6 c7 c8 c9 c10 c11 c12 c13 c14 z=Z186L1v1 n c0 c1 c2 c3 c4 c5 c6 c7 c8 c9 c10 c11 c12 c13 c14 z:=Eq.trans (Eq.refl _) (Eq.refl _)
noncomputable abbrev Z186L1M (c0:List D1) (c1:Bool) (c2:Nat) (c3:Nat) (c4:Nat) (c5:Nat) (c6:Int) (c7:Nat) (c8:Nat) (c9:Nat) (c10:Nat) (c11:Int) (c12:Int) (c13:Nat) (c14:Nat):Amb:={ fn:=186,base:=6,nt:=19,loops:=[{ fn:=124,tmps:=[.top,.top,.slice false K1 c0,.bool c1,.hs 0 K1 c2 c3,.ptr 1 0,.ptr 2 0,.top,.top,.ptr 4 0,.top,.top,.top,.top,.top,.top,.top,.top,.top,.top,.top,.top,.top,.top,.top,.top,.top,.top,.top,.top,.top,.top,.hs 3 K1 c4 c5,.int .i64 c6,.hs 0 K1 c7 c8,.hs 0 K1 c9 c10,.int .i64 c11,.int .i64 c12,.hs 0 K1 c13 c14,.func (.func 186) [] [.ptr 5 0],.top,.top,.top,.top,.top,.top,.top,.top,.top,.top,.top,.top,.top,.top,.top],params:=[40,41],assign:=rfAssign X0 124 0,body:=rfBody X0 124 0 }] }
noncomputable def Z186L1G (L:LT) (c0:List D1) (c1:Bool) (c2:Nat) (c3:Nat) (c4:Nat) (c5:Nat) (c6:Int) (c7:Nat) (c8:Nat) (c9:Nat) (c10:Nat) (c11:Int) (c12:Int) (c13:Nat) (c14:Nat) (z:((D8×(Unit×D5))×D47)):Option ((Unit×D29) ⊕ (Unit×D47)):=L (loopOf X0 186 1) sh186x1x0 (Z186L1M c0 c1 c2 c3 c4 c5 c6 c7 c8 c9 c10 c11 c12 c13 c14) z
noncomputable def Z186L1 (n:Nat) (c0:List D1) (c1:Bool) (c2:Nat) (c3:Nat) (c4:Nat) (c5:Nat) (c6:Int) (c7:Nat) (c8:Nat) (c9:Nat) (c10:Nat) (c11:Int) (c12:Int) (c13:Nat) (c14:Nat) (z:((D8×(Unit×D5))×D47)):Option ((Unit×D29) ⊕ (Unit×D47)):=Z186L1G (run X0 n).loop c0 c1 c2 c3 c4 c5 c6 c7 c8 c9 c10 c11 c12 c13 c14 z
theorem Z186L1F (n:Nat) (c0:List D1) (c1:Bool) (c2:Nat) (c3:Nat) (c4:Nat) (c5:Nat) (c6:Int) (c7:Nat) (c8:Nat) (c9:Nat) (c10:Nat) (c11:Int) (c12:Int) (c13:Nat) (c14:Nat) (z:((D8×(Unit×D5))×D47)):Z186L1G (run X0 n).loop c0 c1 c2 c3 c4 c5 c6 c7 c8 c9 c10 c11 c12 c13 c14 z=Z186L1 n c0 c1 c2 c3 c4 c5 c6 c7 c8 c9 c10 c11 c12 c13 c14 z:=Eq.trans (Eq.refl _) (Eq.refl _)
noncomputable def hullOfG (T:CT) (a0:List D1):Option (D7×Bool):=T 124 (.pair K5 .bool) [.slice false K1 a0]
noncomputable def hullOf (n:Nat) (a0:List D1):Option (D7×Bool):=hullOfG (run X0 n).callT a0
abbrev Z91A (a0:D1) (a1:List D1) (a2:List D1):List AV:=[.agg [.int .i64 a0.1,.int .i64 a0.2],.slice false K1 a1,.slice false K1 a2]
noncomputable def Z91G (T:CT) (a0:D1) (a1:List D1) (a2:List D1):Option (D7×Bool):=T 91 (.pair K5 .bool) (Z91A a0 a1 a2)
noncomputable def Z91 (n:Nat) (a0:D1) (a1:List D1) (a2:List D1):Option (D7×Bool):=Z91G (run X0 n).callT a0 a1 a2
noncomputable def Z89L2G (L:LT) (z:((Unit×(Unit×(Unit×((List D3)×D12))))×D35)):Option (D19×D35):=L (loopOf X0 89 2) sh89x2x0 { fn:=89,base:=2,nt:=28,loops:=[] } z
noncomputable def Z89L2 (n:Nat) (z:((Unit×(Unit×(Unit×((List D3)×D12))))×D35)):Option (D19×D35):=Z89L2G (run X0 n).loop z
theorem Z89L2F (n:Nat) (z:((Unit×(Unit×(Unit×((List D3)×D12))))×D35)):Z89L2G (run X0 n).loop z=Z89L2 n z:=Eq.trans (Eq.refl _) (Eq.refl _)
noncomputable def Z68L10G (L:LT) (z:D16):Option (((List (D3×D3))×Unit)×Unit):=L (loopOf X0 68 10) sh68x10x0 { fn:=68,base:=0,nt:=93,loops:=[] } z
noncomputable def Z68L10 (n:Nat) (z:D16):Option (((List (D3×D3))×Unit)×Unit):=Z68L10G (run X0 n).loop z
theorem Z68L10F (n:Nat) (z:D16):Z68L10G (run X0 n).loop z=Z68L10 n z:=Eq.trans (Eq.refl _) (Eq.refl _)
abbrev Z68A (a0:D0) (a1:D2) (a2:D4):List AV:=[.agg (lv0 a0),.agg (lv1 a1),.agg (lv3 a2)]
noncomputable def Z68G (T:CT) (a0:D0) (a1:D2) (a2:D4):Option (List (D3×D3)):=T 68 K9 (Z68A a0 a1 a2)
noncomputable def Z68 (n:Nat) (a0:D0) (a1:D2) (a2:D4):Option (List (D3×D3)):=Z68G (run X0 n).callT a0 a1 a2
theorem Z68F (n:Nat) (a0:D0) (a1:D2) (a2:D4):Z68G (run X0 n).callT a0 a1 a2=Z68 n a0 a1 a2:=Eq.trans (Eq.refl _) (Eq.refl _)
noncomputable def Z115L9G (L:LT) (z:((D7×D51)×Unit)):Option (D48 ⊕ D14):=L (loopOf X0 115 9) sh115x9x0 { fn:=115,base:=0,nt:=49,loops:=[] } z
noncomputable def Z115L9 (n:Nat) (z:((D7×D51)×Unit)):Option (D48 ⊕ D14):=Z115L9G (run X0 n).loop z
noncomputable def Z115L5G (L:LT) (z:D48):Option (D8 ⊕ D14):=L (loopOf X0 115 5) sh115x5x0 { fn:=115,base:=0,nt:=49,loops:=[] } z
noncomputable def Z115L5 (n:Nat) (z:D48):Option (D8 ⊕ D14):=Z115L5G (run X0 n).loop z
noncomputable def Z115G (T:CT) (a0:List D1):Option Bool:=T 115 .bool [.slice false K1 a0]
noncomputable def Z115 (n:Nat) (a0:List D1):Option Bool:=Z115G (run X0 n).callT a0
theorem Z115F (n:Nat) (a0:List D1):Z115G (run X0 n).callT a0=Z115 n a0:=Eq.trans (Eq.refl _) (Eq.refl _)
abbrev Z148A (a0:D1) (a1:D1) (a2:D1) (a3:D1):List AV:=[.agg [.int .i64 a0.1,.int .i64 a0.2],.agg [.int .i64 a1.1,.int .i64 a1.2],.agg [.int .i64 a2.1,.int .i64 a2.2],.agg [.int .i64 a3.1,.int .i64 a3.2]]
noncomputable def Z148G (T:CT) (a0:D1) (a1:D1) (a2:D1) (a3:D1):Option Bool:=T 148 .bool (Z148A a0 a1 a2 a3)
noncomputable def Z148 (n:Nat) (a0:D1) (a1:D1) (a2:D1) (a3:D1):Option Bool:=Z148G (run X0 n).callT a0 a1 a2 a3
noncomputable def Z116L8G (L:LT) (z:((D7×(Int×D51))×Unit)):Option (D48 ⊕ (D31×Unit)):=L (loopOf X0 116 8) sh116x8x0 { fn:=116,base:=0,nt:=81,loops:=[] } z
noncomputable def Z116L8 (n:Nat) (z:((D7×(Int×D51))×Unit)):Option (D48 ⊕ (D31×Unit)):=Z116L8G (run X0 n).loop z
noncomputable def Z116L3G (L:LT) (z:D48):Option (D8 ⊕ (D31×Unit)):=L (loopOf X0 116 3) sh116x3x0 { fn:=116,base:=0,nt:=81,loops:=[] } z
noncomputable def Z116L3 (n:Nat) (z:D48):Option (D8 ⊕ (D31×Unit)):=Z116L3G (run X0 n).loop z
noncomputable def Z116G (T:CT) (a0:List D1):Option D4:=T 116 K2 [.slice false K1 a0]
noncomputable def Z116 (n:Nat) (a0:List D1):Option D4:=Z116G (run X0 n).callT a0
theorem Z116F (n:Nat) (a0:List D1):Z116G (run X0 n).callT a0=Z116 n a0:=Eq.trans (Eq.refl _) (Eq.refl _)
noncomputable def Z86L5G (L:LT) (z:((Int×((List D7)×Unit))×D41)):Option (((Int×((List D7)×Unit))×D41) ⊕ (((List D7)×Unit)×Unit)):=L (loopOf X0 86 5) sh86x5x0 { fn:=86,base:=0,nt:=50,loops:=[] } z
noncomputable def Z86L5 (n:Nat) (z:((Int×((List D7)×Unit))×D41)):Option (((Int×((List D7)×Unit))×D41) ⊕ (((List D7)×Unit)×Unit)):=Z86L5G (run X0 n).loop z
theorem Z86L5F (n:Nat) (z:((Int×((List D7)×Unit))×D41)):Z86L5G (run X0 n).loop z=Z86L5 n z:=Eq.trans (Eq.refl _) (Eq.refl _)
noncomputable def Z86G (T:CT) (a0:List D1):Option (List D7):=T 86 K16 [.slice false K1 a0]
noncomputable def Z86 (n:Nat) (a0:List D1):Option (List D7):=Z86G (run X0 n).callT a0
abbrev Z131A (a0:D1) (a1:D1) (a2:D1):List AV:=[.agg [.int .i64 a0.1,.int .i64 a0.2],.agg [.int .i64 a1.1,.int .i64 a1.2],.agg [.int .i64 a2.1,.int .i64 a2.2]]
noncomputable def Z131G (T:CT) (a0:D1) (a1:D1) (a2:D1):Option Int:=T 131 (.int .i64) (Z131A a0 a1 a2)
noncomputable def Z131 (n:Nat) (a0:D1) (a1:D1) (a2:D1):Option Int:=Z131G (run X0 n).callT a0 a1 a2
theorem Z131F (n:Nat) (a0:D1) (a1:D1) (a2:D1):Z131G (run X0 n).callT a0 a1 a2=Z131 n a0 a1 a2:=Eq.trans (Eq.refl _) (Eq.refl _)
noncomputable def Z129L2G (L:LT) (z:((D19×(D7×D12))×(((D1×D1)×Unit)×Unit))):Option ((Unit×(((D1×D1)×Unit)×Unit)) ⊕ ((Bool×Unit)×(((D1×D1)×Unit)×Unit))):=L (loopOf X0 129 2) sh129x2x0 { fn:=129,base:=1,nt:=18,loops:=[] } z
noncomputable def Z129L2 (n:Nat) (z:((D19×(D7×D12))×(((D1×D1)×Unit)×Unit))):Option ((Unit×(((D1×D1)×Unit)×Unit)) ⊕ ((Bool×Unit)×(((D1×D1)×Unit)×Unit))):=Z129L2G (run X0 n).loop z
theorem Z129L2F (n:Nat) (z:((D19×(D7×D12))×(((D1×D1)×Unit)×Unit))):Z129L2G (run X0 n).loop z=Z129L2 n z:=Eq.trans (Eq.refl _) (Eq.refl _)
abbrev Z95A (a0:(D1×D1)) (a1:List D1):List AV:=[.agg [.int .i64 a0.1.1,.int .i64 a0.1.2,.int .i64 a0.2.1,.int .i64 a0.2.2],.slice false K1 a1]
noncomputable def Z95G (T:CT) (a0:(D1×D1)) (a1:List D1):Option Bool:=T 95 .bool (Z95A a0 a1)
noncomputable def Z95 (n:Nat) (a0:(D1×D1)) (a1:List D1):Option Bool:=Z95G (run X0 n).callT a0 a1
theorem Z95F (n:Nat) (a0:(D1×D1)) (a1:List D1):Z95G (run X0 n).callT a0 a1=Z95 n a0 a1:=Eq.trans (Eq.refl _) (Eq.refl _)
noncomputable abbrev Z128L1M (c0:List D1) (c1:List D1) (c2:List D1) (c3:(D7×D7)) (c4:Int) (c5:Bool) (c6:Int) (c7:List D1) (c8:List D1) (c9:List D1) (c10:(D7×D7)) (c11:Int) (c12:List D1) (c13:List D1):Amb:={ fn:=128,base:=5,nt:=27,loops:=[{ fn:=69,tmps:=[.slice false K1 c0,.slice false K1 c1,.top,.top,.ptr 0 0,.ptr 1 0,.ptr 2 0,.slice false K1 c2,.ptr 3 0,.top,.top,.top,.top,.agg [.slice false K1 c3.1,.slice false K1 c3.2],.int .i64 c4,.bool c5,.int .i64 c6,.slice false K1 c7,.slice false K1 c8,.slice false K1 c9,.agg [.slice false K1 c10.1,.slice false K1 c10.2],.int .i64 c11,.slice false K1 c12,.slice false K1 c13,.func (.func 128) [] [.ptr 4 0],.top,.top,.top,.top,.top,.top,.top,.top,.top,.top],params:=[25,26],assign:=rfAssign X0 69 0,body:=rfBody X0 69 0 }] }
noncomputable def Z128L1G (L:LT) (c0:List D1) (c1:List D1) (c2:List D1) (c3:(D7×D7)) (c4:Int) (c5:Bool) (c6:Int) (c7:List D1) (c8:List D1) (c9:List D1) (c10:(D7×D7)) (c11:Int) (c12:List D1) (c13:List D1) (z:((D8×(Unit×(D7×D12)))×D30)):Option ((Unit×D30) ⊕ (Unit×D30)):=L (loopOf X0 128 1) sh128x1x0 (Z128L1M c0 c1 c2 c3 c4 c5 c6 c7 c8 c9 c10 c11 c12 c13) z
noncomputable def Z128L1 (n:Nat) (c0:List D1) (c1:List D1) (c2:List D1) (c3:(D7×D7)) (c4:Int) (c5:Bool) (c6:Int) (c7:List D1) (c8:List D1) (c9:List D1) (c10:(D7×D7)) (c11:Int) (c12:List D1) (c13:List D1) (z:((D8×(Unit×(D7×D12)))×D30)):Option ((Unit×D30) ⊕ (Unit×D30)):=Z128L1G (run X0 n).loop c0 c1 c2 c3 c4 c5 c6 c7 c8 c9 c10 c11 c12 c13 z
theorem Z128L1F (n:Nat) (c0:List D1) (c1:List D1) (c2:List D1) (c3:(D7×D7)) (c4:Int) (c5:Bool) (c6:Int) (c7:List D1) (c8:List D1) (c9:List D1) (c10:(D7×D7)) (c11:Int) (c12:List D1) (c13:List D1) (z:((D8×(Unit×(D7×D12)))×D30)):Z128L1G (run X0 n).loop c0 c1 c2 c3 c4 c5 c6 c7 c8 c9 c10 c11 c12 c13 z=Z128L1 n c0 c1 c2 c3 c4 c5 c6 c7 c8 c9 c10 c11 c12 c13 z:=Eq.trans (Eq.refl _) (Eq.refl _)
noncomputable def Z69L2G (L:LT) (z:((D7×(D7×(Unit×(Unit×((D7×D7)×D5)))))×((D1×Unit)×D14))):Option ((D19×((D1×Unit)×D14)) ⊕ (D19×((D1×Unit)×D14))):=L (loopOf X0 69 2) sh69x2x0 { fn:=69,base:=0,nt:=35,loops:=[] } z
noncomputable def Z69L2 (n:Nat) (z:((D7×(D7×(Unit×(Unit×((D7×D7)×D5)))))×((D1×Unit)×D14))):Option ((D19×((D1×Unit)×D14)) ⊕ (D19×((D1×Unit)×D14))):=Z69L2G (run X0 n).loop z
theorem Z69L2F (n:Nat) (z:((D7×(D7×(Unit×(Unit×((D7×D7)×D5)))))×((D1×Unit)×D14))):Z69L2G (run X0 n).loop z=Z69L2 n z:=Eq.trans (Eq.refl _) (Eq.refl _)
abbrev Z69A (a0:List D1) (a1:List D1):List AV:=[.slice false K1 a0,.slice false K1 a1]
noncomputable def Z69G (T:CT) (a0:List D1) (a1:List D1):Option (D1×Bool):=T 69 (.pair K1 .bool) (Z69A a0 a1)
noncomputable def Z69 (n:Nat) (a0:List D1) (a1:List D1):Option (D1×Bool):=Z69G (run X0 n).callT a0 a1
theorem Z69F (n:Nat) (a0:List D1) (a1:List D1):Z69G (run X0 n).callT a0 a1=Z69 n a0 a1:=Eq.trans (Eq.refl _) (Eq.refl _)
noncomputable abbrev Z85L8M (c0:D0) (c1:D2) (c2:D4) (c3:Bool) (c4:Int) (c5:Int) (c6:Int) (c7:Int) (c8:Int) (c9:Int) (c10:Int) (c11:Int) (c12:List Int) (c13:Bool) (c14:D0) (c15:D2) (c16:D4) (c17:Int) (c18:Int) (c19:Int) (c20:Int) (c21:Int) (c22:Int) (c23:Int) (c24:Int) (c25:List Int) (c26:Bool) (c27:D2) (c28:Bool) (c29:Bool) (c30:Bool) (c31:D0) (c32:D2) (c33:D4) (c34:List (D3×D3)):Amb:={ fn:=85,base:=8,nt:=50,loops:=[{ fn:=49,tmps:=[.agg (lv0 c0),.agg (lv1 c1),.agg (lv3 c2),.ptr 0 0,.ptr 1 0,.ptr 2 0,.ptr 3 0,.ptr 4 0,.ptr 5 0,.bool c3,.ptr 6 0,.top,.top,.top,.tuple [.agg [.int .i64 c4,.int .i64 c5,.int .i64 c6,.int .i64 c7,.int .i64 c8,.int .i64 c9,.int .i64 c10,.int .i64 c11,.slice false (.int .i64) c12],.bool c13],.agg (lv0 c14),.agg (lv1 c15),.agg (lv3 c16),.tuple [.agg [.int .i64 c17,.int .i64 c18,.int .i64 c19,.int .i64 c20,.int .i64 c21,.int .i64 c22,.int .i64 c23,.int .i64 c24,.slice false (.int .i64) c25],.bool c26],.agg (lv1 c27),.bool c28,.bool c29,.bool c30,.agg (lv0 c31),.agg (lv1 c32),.agg (lv3 c33),.slice false (.pair K3 K3) c34,.func (.func 85) [] [.ptr 7 0],.top,.top,.top,.top,.top,.top,.top,.top,.top,.top,.top,.top,.top,.top,.top,.top],params:=[28],assign:=rfAssign X0 49 0,body:=rfBody X0 49 0 }] }
noncomputable def Z85L8G (L:LT) (c0:D0) (c1:D2) (c2:D4) (c3:Bool) (c4:Int) (c5:Int) (c6:Int) (c7:Int) (c8:Int) (c9:Int) (c10:Int) (c11:Int) (c12:List Int) (c13:Bool) (c14:D0) (c15:D2) (c16:D4) (c17:Int) (c18:Int) (c19:Int) (c20:Int) (c21:Int) (c22:Int) (c23:Int) (c24:Int) (c25:List Int) (c26:Bool) (c27:D2) (c28:Bool) (c29:Bool) (c30:Bool) (c31:D0) (c32:D2) (c33:D4) (c34:List (D3×D3)) (z:D34):Option (D33 ⊕ (Unit×D6)):=L (loopOf X0 85 8) sh85x8x0 (Z85L8M c0 c1 c2 c3 c4 c5 c6 c7 c8 c9 c10 c11 c12 c13 c14 c15 c16 c17 c18 c19 c20 c21 c22 c23 c24 c25 c26 c27 c28 c29 c30 c31 c32 c33 c34) z
noncomputable def Z85L8 (n:Nat) (c0:D0) (c1:D2) (c2:D4) (c3:Bool) (c4:Int) (c5:Int) (c6:Int) (c7:Int) (c8:Int) (c9:Int) (c10:Int) (c11:Int) (c12:List Int) (c13:Bool) (c14:D0) (c15:D2) (c16:D4) (c17:Int) (c18:Int) (c19:Int) (c20:Int) (c21:Int) (c22:Int) (c23:Int) (c24:Int) (c25:List Int) (c26:Bool) (c27:D2) (c28:Bool) (c29:Bool) (c30:Bool) (c31:D0) (c32:D2) (c33:D4) (c34:List (D3×D3)) (z:D34):Option (D33 ⊕ (Unit×D6)):=Z85L8G (run X0 n).loop c0 c1 c2 c3 c4 c5 c6 c7 c8 c9 c10 c11 c12 c13 c14 c15 c16 c17 c18 c19 c20 c21 c22 c23 c24 c25 c26 c27 c28 c29 c30 c31 c32 c33 c34 z
theorem Z85L8F (n:Nat) (c0:D0) (c1:D2) (c2:D4) (c3:Bool) (c4:Int) (c5:Int) (c6:Int) (c7:Int) (c8:Int) (c9:Int) (c10:Int) (c11:Int) (c12:List Int) (c13:Bool) (c14:D0) (c15:D2) (c16:D4) (c17:Int) (c18:Int) (c19:Int) (c20:Int) (c21:Int) (c22:Int) (c23:Int) (c24:Int) (c25:List Int) (c26:Bool) (c27:D2) (c28:Bool) (c29:Bool) (c30:Bool) (c31:D0) (c32:D2) (c33:D4) (c34:List (D3×D3)) (z:D34):Z85L8G (run X0 n).loop c0 c1 c2 c3 c4 c5 c6 c7 c8 c9 c10 c11 c12 c13 c14 c15 c16 c17 c18 c19 c20 c21 c22 c23 c24 c25 c26 c27 c28 c29 c30 c31 c32 c33 c34 z=Z85L8 n c0 c1 c2 c3 c4 c5 c6 c7 c8 c9 c10 c11 c12 c13 c14 c15 c16 c17 c18 c19 c20 c21 c22 c23 c24 c25 c26 c27 c28 c29 c30 c31 c32 c33 c34 z:=Eq.trans (Eq.refl _) (Eq.refl _)
noncomputable abbrev Z85L5M (c0:D0) (c1:D2) (c2:D4) (c3:Bool) (c4:Int) (c5:Int) (c6:Int) (c7:Int) (c8:Int) (c9:Int) (c10:Int) (c11:Int) (c12:List Int) (c13:Bool) (c14:D0) (c15:D2) (c16:D4) (c17:Int) (c18:Int) (c19:Int) (c20:Int) (c21:Int) (c22:Int) (c23:Int) (c24:Int) (c25:List Int) (c26:Bool) (c27:D2) (c28:Bool) (c29:Bool) (c30:Bool) (c31:D0) (c32:D2) (c33:D4) (c34:List (D3×D3)):Amb:={ fn:=85,base:=8,nt:=50,loops:=[{ fn:=49,tmps:=[.agg (lv0 c0),.agg (lv1 c1),.agg (lv3 c2),.ptr 0 0,.ptr 1 0,.ptr 2 0,.ptr 3 0,.ptr 4 0,.ptr 5 0,.bool c3,.ptr 6 0,.top,.top,.top,.tuple [.agg [.int .i64 c4,.int .i64 c5,.int .i64 c6,.int .i64 c7,.int .i64 c8,.int .i64 c9,.int .i64 c10,.int .i64 c11,.slice false (.int .i64) c12],.bool c13],.agg (lv0 c14),.agg (lv1 c15),.agg (lv3 c16),.tuple [.agg [.int .i64 c17,.int .i64 c18,.int .i64 c19,.int .i64 c20,.int .i64 c21,.int .i64 c22,.int .i64 c23,.int .i64 c24,.slice false (.int .i64) c25],.bool c26],.agg (lv1 c27),.bool c28,.bool c29,.bool c30,.agg (lv0 c31),.agg (lv1 c32),.agg (lv3 c33),.slice false (.pair K3 K3) c34,.func (.func 85) [] [.ptr 7 0],.top,.top,.top,.top,.top,.top,.top,.top,.top,.top,.top,.top,.top,.top,.top,.top],params:=[28],assign:=rfAssign X0 49 0,body:=rfBody X0 49 0 }] }
noncomputable def Z85L5G (L:LT) (c0:D0) (c1:D2) (c2:D4) (c3:Bool) (c4:Int) (c5:Int) (c6:Int) (c7:Int) (c8:Int) (c9:Int) (c10:Int) (c11:Int) (c12:List Int) (c13:Bool) (c14:D0) (c15:D2) (c16:D4) (c17:Int) (c18:Int) (c19:Int) (c20:Int) (c21:Int) (c22:Int) (c23:Int) (c24:Int) (c25:List Int) (c26:Bool) (c27:D2) (c28:Bool) (c29:Bool) (c30:Bool) (c31:D0) (c32:D2) (c33:D4) (c34:List (D3×D3)) (z:D33):Option (((D8×((List (D3×D3))×D12))×D6) ⊕ (Unit×D6)):=L (loopOf X0 85 5) sh85x5x0 (Z85L5M c0 c1 c2 c3 c4 c5 c6 c7 c8 c9 c10 c11 c12 c13 c14 c15 c16 c17 c18 c19 c20 c21 c22 c23 c24 c25 c26 c27 c28 c29 c30 c31 c32 c33 c34) z
noncomputable def Z85L5 (n:Nat) (c0:D0) (c1:D2) (c2:D4) (c3:Bool) (c4:Int) (c5:Int) (c6:Int) (c7:Int) (c8:Int) (c9:Int) (c10:Int) (c11:Int) (c12:List Int) (c13:Bool) (c14:D0) (c15:D2) (c16:D4) (c17:Int) (c18:Int) (c19:Int) (c20:Int) (c21:Int) (c22:Int) (c23:Int) (c24:Int) (c25:List Int) (c26:Bool) (c27:D2) (c28:Bool) (c29:Bool) (c30:Bool) (c31:D0) (c32:D2) (c33:D4) (c34:List (D3×D3)) (z:D33):Option (((D8×((List (D3×D3))×D12))×D6) ⊕ (Unit×D6)):=Z85L5G (run X0 n).loop c0 c1 c2 c3 c4 c5 c6 c7 c8 c9 c10 c11 c12 c13 c14 c15 c16 c17 c18 c19 c20 c21 c22 c23 c24 c25 c26 c27 c28 c29 c30 c31 c32 c33 c34 z
noncomputable abbrev Z85L1M (c0:D0) (c1:D2) (c2:D4) (c3:Bool) (c4:Int) (c5:Int) (c6:Int) (c7:Int) (c8:Int) (c9:Int) (c10:Int) (c11:Int) (c12:List Int) (c13:Bool) (c14:D0) (c15:D2) (c16:D4) (c17:Int) (c18:Int) (c19:Int) (c20:Int) (c21:Int) (c22:Int) (c23:Int) (c24:Int) (c25:List Int) (c26:Bool) (c27:D2) (c28:Bool) (c29:Bool) (c30:Bool) (c31:D0) (c32:D2) (c33:D4) (c34:List (D3×D3)):Amb:={ fn:=85,base:=8,nt:=50,loops:=[{ fn:=49,tmps:=[.agg (lv0 c0),.agg (lv1 c1),.agg (lv3 c2),.ptr 0 0,.ptr 1 0,.ptr 2 0,.ptr 3 0,.ptr 4 0,.ptr 5 0,.bool c3,.ptr 6 0,.top,.top,.top,.tuple [.agg [.int .i64 c4,.int .i64 c5,.int .i64 c6,.int .i64 c7,.int .i64 c8,.int .i64 c9,.int .i64 c10,.int .i64 c11,.slice false (.int .i64) c12],.bool c13],.agg (lv0 c14),.agg (lv1 c15),.agg (lv3 c16),.tuple [.agg [.int .i64 c17,.int .i64 c18,.int .i64 c19,.int .i64 c20,.int .i64 c21,.int .i64 c22,.int .i64 c23,.int .i64 c24,.slice false (.int .i64) c25],.bool c26],.agg (lv1 c27),.bool c28,.bool c29,.bool c30,.agg (lv0 c31),.agg (lv1 c32),.agg (lv3 c33),.slice false (.pair K3 K3) c34,.func (.func 85) [] [.ptr 7 0],.top,.top,.top,.top,.top,.top,.top,.top,.top,.top,.top,.top,.top,.top,.top,.top],params:=[28],assign:=rfAssign X0 49 0,body:=rfBody X0 49 0 }] }
noncomputable def Z85L1G (L:LT) (c0:D0) (c1:D2) (c2:D4) (c3:Bool) (c4:Int) (c5:Int) (c6:Int) (c7:Int) (c8:Int) (c9:Int) (c10:Int) (c11:Int) (c12:List Int) (c13:Bool) (c14:D0) (c15:D2) (c16:D4) (c17:Int) (c18:Int) (c19:Int) (c20:Int) (c21:Int) (c22:Int) (c23:Int) (c24:Int) (c25:List Int) (c26:Bool) (c27:D2) (c28:Bool) (c29:Bool) (c30:Bool) (c31:D0) (c32:D2) (c33:D4) (c34:List (D3×D3)) (z:((D8×((List (D3×D3))×D12))×D6)):Option ((Unit×D6) ⊕ (Unit×D6)):=L (loopOf X0 85 1) sh85x1x0 (Z85L1M c0 c1 c2 c3 c4 c5 c6 c7 c8 c9 c10 c11 c12 c13 c14 c15 c16 c17 c18 c19 c20 c21 c22 c23 c24 c25 c26 c27 c28 c29 c30 c31 c32 c33 c34) z
noncomputable def Z85L1 (n:Nat) (c0:D0) (c1:D2) (c2:D4) (c3:Bool) (c4:Int) (c5:Int) (c6:Int) (c7:Int) (c8:Int) (c9:Int) (c10:Int) (c11:Int) (c12:List Int) (c13:Bool) (c14:D0) (c15:D2) (c16:D4) (c17:Int) (c18:Int) (c19:Int) (c20:Int) (c21:Int) (c22:Int) (c23:Int) (c24:Int) (c25:List Int) (c26:Bool) (c27:D2) (c28:Bool) (c29:Bool) (c30:Bool) (c31:D0) (c32:D2) (c33:D4) (c34:List (D3×D3)) (z:((D8×((List (D3×D3))×D12))×D6)):Option ((Unit×D6) ⊕ (Unit×D6)):=Z85L1G (run X0 n).loop c0 c1 c2 c3 c4 c5 c6 c7 c8 c9 c10 c11 c12 c13 c14 c15 c16 c17 c18 c19 c20 c21 c22 c23 c24 c25 c26 c27 c28 c29 c30 c31 c32 c33 c34 z
theorem Z85L1F (n:Nat) (c0:D0) (c1:D2) (c2:D4) (c3:Bool) (c4:Int) (c5:Int) (c6:Int) (c7:Int) (c8:Int) (c9:Int) (c10:Int) (c11:Int) (c12:List Int) (c13:Bool) (c14:D0) (c15:D2) (c16:D4) (c17:Int) (c18:Int) (c19:Int) (c20:Int) (c21:Int) (c22:Int) (c23:Int) (c24:Int) (c25:List Int) (c26:Bool) (c27:D2) (c28:Bool) (c29:Bool) (c30:Bool) (c31:D0) (c32:D2) (c33:D4) (c34:List (D3×D3)) (z:((D8×((List (D3×D3))×D12))×D6)):Z85L1G (run X0 n).loop c0 c1 c2 c3 c4 c5 c6 c7 c8 c9 c10 c11 c12 c13 c14 c15 c16 c17 c18 c19 c20 c21 c22 c23 c24 c25 c26 c27 c28 c29 c30 c31 c32 c33 c34 z=Z85L1 n c0 c1 c2 c3 c4 c5 c6 c7 c8 c9 c10 c11 c12 c13 c14 c15 c16 c17 c18 c19 c20 c21 c22 c23 c24 c25 c26 c27 c28 c29 c30 c31 c32 c33 c34 z:=Eq.trans (Eq.refl _) (Eq.refl _)
abbrev Z49A (a0:D0) (a1:D2) (a2:D4):List AV:=[.agg (lv0 a0),.agg (lv1 a1),.agg (lv3 a2)]
noncomputable def Z49G (T:CT) (a0:D0) (a1:D2) (a2:D4):Option (D7×Bool):=T 49 (.pair K5 .bool) (Z49A a0 a1 a2)
noncomputable def Z49 (n:Nat) (a0:D0) (a1:D2) (a2:D4):Option (D7×Bool):=Z49G (run X0 n).callT a0 a1 a2
abbrev Z23A (a0:D0) (a1:D2) (a2:D4):List AV:=[.agg (lv0 a0),.agg (lv1 a1),.agg (lv3 a2)]
noncomputable def Z23G (T:CT) (a0:D0) (a1:D2) (a2:D4):Option Bool:=T 23 .bool (Z23A a0 a1 a2)
noncomputable def Z23 (n:Nat) (a0:D0) (a1:D2) (a2:D4):Option Bool:=Z23G (run X0 n).callT a0 a1 a2
theorem Z23F (n:Nat) (a0:D0) (a1:D2) (a2:D4):Z23G (run X0 n).callT a0 a1 a2=Z23 n a0 a1 a2:=Eq.trans (Eq.refl _) (Eq.refl _)
noncomputable abbrev Z113L7M (c0:Int) (c1:Int) (c2:List (D4×(Int×D4))) (c3:Int) (c4:Bool) (c5:Int):Amb:={ fn:=113,base:=8,nt:=92,loops:=[{ fn:=63,tmps:=[.top,.top,.top,.top,.top,.top,.top,.ptr 0 0,.ptr 1 0,.ptr 2 0,.ptr 5 0,.int .i64 c0,.top,.top,.top,.top,.top,.top,.top,.top,.top,.top,.top,.top,.top,.top,.int .i64 c1,.ptr 4 0,.ptr 4 0,.ptr 4 55,.slice false (.pair K2 (.pair (.int .i64) K2)) c2,.int .i64 c3,.bool c4,.top,.top,.ptr 4 0,.int .i64 c5,.func (.func 113) [] [.ptr 6 0,.ptr 7 0],.top,.top,.top,.top,.top,.top,.top,.top,.top,.top,.top,.top,.top,.top,.top,.top,.top,.top,.top],params:=[38],assign:=rfAssign X0 63 0,body:=rfBody X0 63 0 }] }
noncomputable def Z113L7G (L:LT) (c0:Int) (c1:Int) (c2:List (D4×(Int×D4))) (c3:Int) (c4:Bool) (c5:Int) (z:((D8×(Unit×(Unit×(Unit×(Unit×(Int×(Int×(D1×D5))))))))×D10)):Option (((D8×(Unit×(Unit×D36)))×D10) ⊕ D20):=L (loopOf X0 113 7) sh113x7x0 (Z113L7M c0 c1 c2 c3 c4 c5) z
noncomputable def Z113L7 (n:Nat) (c0:Int) (c1:Int) (c2:List (D4×(Int×D4))) (c3:Int) (c4:Bool) (c5:Int) (z:((D8×(Unit×(Unit×(Unit×(Unit×(Int×(Int×(D1×D5))))))))×D10)):Option (((D8×(Unit×(Unit×D36)))×D10) ⊕ D20):=Z113L7G (run X0 n).loop c0 c1 c2 c3 c4 c5 z
theorem Z113L7F (n:Nat) (c0:Int) (c1:Int) (c2:List (D4×(Int×D4))) (c3:Int) (c4:Bool) (c5:Int) (z:((D8×(Unit×(Unit×(Unit×(Unit×(Int×(Int×(D1×D5))))))))×D10)):Z113L7G (run X0 n).loop c0 c1 c2 c3 c4 c5 z=Z113L7 n c0 c1 c2 c3 c4 c5 z:=Eq.trans (Eq.refl _) (Eq.refl _)
noncomputable abbrev Z113L4M (c0:Int) (c1:Int) (c2:List (D4×(Int×D4))) (c3:Int) (c4:Bool) (c5:Int):Amb:={ fn:=113,base:=8,nt:=92,loops:=[{ fn:=63,tmps:=[.top,.top,.top,.top,.top,.top,.top,.ptr 0 0,.ptr 1 0,.ptr 2 0,.ptr 5 0,.int .i64 c0,.top,.top,.top,.top,.top,.top,.top,.top,.top,.top,.top,.top,.top,.top,.int .i64 c1,.ptr 4 0,.ptr 4 0,.ptr 4 55,.slice false (.pair K2 (.pair (.int .i64) K2)) c2,.int .i64 c3,.bool c4,.top,.top,.ptr 4 0,.int .i64 c5,.func (.func 113) [] [.ptr 6 0,.ptr 7 0],.top,.top,.top,.top,.top,.top,.top,.top,.top,.top,.top,.top,.top,.top,.top,.top,.top,.top,.top],params:=[38],assign:=rfAssign X0 63 0,body:=rfBody X0 63 0 }] }
noncomputable def Z113L4G (L:LT) (c0:Int) (c1:Int) (c2:List (D4×(Int×D4))) (c3:Int) (c4:Bool) (c5:Int) (z:((D8×(Unit×(Unit×D36)))×D10)):Option (D20 ⊕ D20):=L (loopOf X0 113 4) sh113x4x0 (Z113L4M c0 c1 c2 c3 c4 c5) z
noncomputable def Z113L4 (n:Nat) (c0:Int) (c1:Int) (c2:List (D4×(Int×D4))) (c3:Int) (c4:Bool) (c5:Int) (z:((D8×(Unit×(Unit×D36)))×D10)):Option (D20 ⊕ D20):=Z113L4G (run X0 n).loop c0 c1 c2 c3 c4 c5 z
theorem Z113L4F (n:Nat) (c0:Int) (c1:Int) (c2:List (D4×(Int×D4))) (c3:Int) (c4:Bool) (c5:Int) (z:((D8×(Unit×(Unit×D36)))×D10)):Z113L4G (run X0 n).loop c0 c1 c2 c3 c4 c5 z=Z113L4 n c0 c1 c2 c3 c4 c5 z:=Eq.trans (Eq.refl _) (Eq.refl _)
noncomputable def Z63L4G (L:LT) (z:((Unit×(Unit×D36))×(Unit×(Unit×(D5×D27))))):Option (((Unit×D19)×(Unit×(Unit×(Unit×D27)))) ⊕ (D19×(Unit×(Unit×(Unit×((D15×Unit)×D14)))))):=L (loopOf X0 63 4) sh63x4x0 { fn:=63,base:=0,nt:=57,loops:=[] } z
noncomputable def Z63L4 (n:Nat) (z:((Unit×(Unit×D36))×(Unit×(Unit×(D5×D27))))):Option (((Unit×D19)×(Unit×(Unit×(Unit×D27)))) ⊕ (D19×(Unit×(Unit×(Unit×((D15×Unit)×D14)))))):=Z63L4G (run X0 n).loop z
theorem Z63L4F (n:Nat) (z:((Unit×(Unit×D36))×(Unit×(Unit×(D5×D27))))):Z63L4G (run X0 n).loop z=Z63L4 n z:=Eq.trans (Eq.refl _) (Eq.refl _)
abbrev Z63A (a0:D0) (a1:D2) (a2:Int) (a3:Int):List AV:=[.agg (lv0 a0),.agg (lv1 a1),.int .i64 a2,.int .i64 a3]
noncomputable def Z63G (T:CT) (a0:D0) (a1:D2) (a2:Int) (a3:Int):Option (D15×Bool):=T 63 (.pair K7 .bool) (Z63A a0 a1 a2 a3)
noncomputable def Z63 (n:Nat) (a0:D0) (a1:D2) (a2:Int) (a3:Int):Option (D15×Bool):=Z63G (run X0 n).callT a0 a1 a2 a3
theorem Z63F (n:Nat) (a0:D0) (a1:D2) (a2:Int) (a3:Int):Z63G (run X0 n).callT a0 a1 a2 a3=Z63 n a0 a1 a2 a3:=Eq.trans (Eq.refl _) (Eq.refl _)
noncomputable def Z64L2G (L:LT) (z:((D15×(D19×D12))×(D31×Unit))):Option ((Unit×(D31×Unit)) ⊕ (D5×(D31×Unit))):=L (loopOf X0 64 2) sh64x2x0 { fn:=64,base:=1,nt:=19,loops:=[] } z
noncomputable def Z64L2 (n:Nat) (z:((D15×(D19×D12))×(D31×Unit))):Option ((Unit×(D31×Unit)) ⊕ (D5×(D31×Unit))):=Z64L2G (run X0 n).loop z
theorem Z64L2F (n:Nat) (z:((D15×(D19×D12))×(D31×Unit))):Z64L2G (run X0 n).loop z=Z64L2 n z:=Eq.trans (Eq.refl _) (Eq.refl _)
abbrev Z34A (a0:D0) (a1:D2) (a2:Int) (a3:D4):List AV:=[.agg (lv0 a0),.agg (lv1 a1),.int .i64 a2,.agg (lv3 a3)]
noncomputable def Z34G (T:CT) (a0:D0) (a1:D2) (a2:Int) (a3:D4):Option (D15×D1):=T 34 (.pair K7 K1) (Z34A a0 a1 a2 a3)
noncomputable def Z34 (n:Nat) (a0:D0) (a1:D2) (a2:Int) (a3:D4):Option (D15×D1):=Z34G (run X0 n).callT a0 a1 a2 a3
noncomputable def Z35L2G (L:LT) (z:((D15×D12)×((List D4)×Unit))):Option (D5×((List D4)×Unit)):=L (loopOf X0 35 2) sh35x2x0 { fn:=35,base:=0,nt:=30,loops:=[] } z
noncomputable def Z35L2 (n:Nat) (z:((D15×D12)×((List D4)×Unit))):Option (D5×((List D4)×Unit)):=Z35L2G (run X0 n).loop z
theorem Z35L2F (n:Nat) (z:((D15×D12)×((List D4)×Unit))):Z35L2G (run X0 n).loop z=Z35L2 n z:=Eq.trans (Eq.refl _) (Eq.refl _)
abbrev Z35A (a0:List (D4×(Int×D4))) (a1:Int):List AV:=[.slice false (.pair K2 (.pair (.int .i64) K2)) a0,.int .i64 a1]
noncomputable def Z35G (T:CT) (a0:List (D4×(Int×D4))) (a1:Int):Option (List D4):=T 35 (.slice K2) (Z35A a0 a1)
noncomputable def Z35 (n:Nat) (a0:List (D4×(Int×D4))) (a1:Int):Option (List D4):=Z35G (run X0 n).callT a0 a1
abbrev Z12A (a0:D0) (a1:D2) (a2:Int) (a3:D4):List AV:=[.agg (lv0 a0),.agg (lv1 a1),.int .i64 a2,.agg (lv3 a3)]
noncomputable def Z12G (T:CT) (a0:D0) (a1:D2) (a2:Int) (a3:D4):Option ((List D4)×Int):=T 12 (.pair (.slice K2) (.int .i64)) (Z12A a0 a1 a2 a3)
noncomputable def Z12 (n:Nat) (a0:D0) (a1:D2) (a2:Int) (a3:D4):Option ((List D4)×Int):=Z12G (run X0 n).callT a0 a1 a2 a3
noncomputable def Z16L3G (L:LT) (z:D37):Option ((Unit×(Unit×(Bool×Unit)))×(Unit×((D2×Unit)×(D18×Unit)))):=L (loopOf X0 16 3) sh16x3x0 { fn:=16,base:=0,nt:=40,loops:=[] } z
noncomputable def Z16L3 (n:Nat) (z:D37):Option ((Unit×(Unit×(Bool×Unit)))×(Unit×((D2×Unit)×(D18×Unit)))):=Z16L3G (run X0 n).loop z
abbrev Z16A (a0:D0) (a1:D2) (a2:List D4):List AV:=[.agg (lv0 a0),.agg (lv1 a1),.slice false K2 a2]
noncomputable def Z16G (T:CT) (a0:D0) (a1:D2) (a2:List D4):Option (D2×Bool):=T 16 (.pair K4 .bool) (Z16A a0 a1 a2)
noncomputable def Z16 (n:Nat) (a0:D0) (a1:D2) (a2:List D4):Option (D2×Bool):=Z16G (run X0 n).callT a0 a1 a2
noncomputable def Z14L7G (L:LT) (z:D39):Option (D19×(Unit×(Unit×(Unit×(Unit×(D24×(Unit×(D24×Unit)))))))):=L (loopOf X0 14 7) sh14x7x0 { fn:=14,base:=0,nt:=63,loops:=[] } z
noncomputable def Z14L7 (n:Nat) (z:D39):Option (D19×(Unit×(Unit×(Unit×(Unit×(D24×(Unit×(D24×Unit)))))))):=Z14L7G (run X0 n).loop z
abbrev Z14A (a0:D0) (a1:D2) (a2:Int) (a3:D4):List AV:=[.agg (lv0 a0),.agg (lv1 a1),.int .i64 a2,.agg (lv3 a3)]
noncomputable def Z14G (T:CT) (a0:D0) (a1:D2) (a2:Int) (a3:D4):Option (((List D4)×(List (Int×(D4×(Int×(Int×(Int×D4)))))))×Bool):=T 14 (.pair (.pair (.slice K2) K11) .bool) (Z14A a0 a1 a2 a3)
noncomputable def Z14 (n:Nat) (a0:D0) (a1:D2) (a2:Int) (a3:D4):Option (((List D4)×(List (Int×(D4×(Int×(Int×(Int×D4)))))))×Bool):=Z14G (run X0 n).callT a0 a1 a2 a3
noncomputable def Z10G (T:CT):Option Bool:=T 10 .bool []
noncomputable def Z10 (n:Nat):Option Bool:=Z10G (run X0 n).callT
noncomputable def Z53L4G (L:LT) (z:D32):Option ((D8×(D17×Unit)) ⊕ D14):=L (loopOf X0 53 4) sh53x4x0 { fn:=53,base:=0,nt:=104,loops:=[] } z
noncomputable def Z53L4 (n:Nat) (z:D32):Option ((D8×(D17×Unit)) ⊕ D14):=Z53L4G (run X0 n).loop z
noncomputable def Z53L9G (L:LT) (z:D32):Option ((D8×(D17×Unit)) ⊕ D14):=L (loopOf X0 53 9) sh53x9x0 { fn:=53,base:=0,nt:=104,loops:=[] } z
noncomputable def Z53L9 (n:Nat) (z:D32):Option ((D8×(D17×Unit)) ⊕ D14):=Z53L9G (run X0 n).loop z
noncomputable def Z53L14G (L:LT) (z:D32):Option ((D8×(D17×Unit)) ⊕ D14):=L (loopOf X0 53 14) sh53x14x0 { fn:=53,base:=0,nt:=104,loops:=[] } z
noncomputable def Z53L14 (n:Nat) (z:D32):Option ((D8×(D17×Unit)) ⊕ D14):=Z53L14G (run X0 n).loop z
noncomputable def Z53L19G (L:LT) (z:D32):Option (D8 ⊕ D14):=L (loopOf X0 53 19) sh53x19x0 { fn:=53,base:=0,nt:=104,loops:=[] } z
noncomputable def Z53L19 (n:Nat) (z:D32):Option (D8 ⊕ D14):=Z53L19G (run X0 n).loop z
abbrev Z53A (a0:D0):List AV:=[.agg (lv0 a0)]
noncomputable def Z53G (T:CT) (a0:D0):Option Bool:=T 53 .bool (Z53A a0)
noncomputable def Z53 (n:Nat) (a0:D0):Option Bool:=Z53G (run X0 n).callT a0
abbrev Z77A (a0:D9):List AV:=[.agg (lv2 a0)]
noncomputable def Z77G (T:CT) (a0:D9):Option Bool:=T 77 .bool (Z77A a0)
noncomputable def Z77 (n:Nat) (a0:D9):Option Bool:=Z77G (run X0 n).callT a0
noncomputable def Z78G (T:CT) (a0:Int):Option Int:=T 78 (.int .i64) [.int .i64 a0]
noncomputable def Z78 (n:Nat) (a0:Int):Option Int:=Z78G (run X0 n).callT a0
abbrev Z55A (a0:D9):List AV:=[.agg (lv2 a0)]
noncomputable def Z55G (T:CT) (a0:D9):Option Bool:=T 55 .bool (Z55A a0)
noncomputable def Z55 (n:Nat) (a0:D9):Option Bool:=Z55G (run X0 n).callT a0
abbrev Z21A (a0:D9) (a1:D4):List AV:=[.agg (lv2 a0),.agg (lv3 a1)]
noncomputable def Z21G (T:CT) (a0:D9) (a1:D4):Option Bool:=T 21 .bool (Z21A a0 a1)
noncomputable def Z21 (n:Nat) (a0:D9) (a1:D4):Option Bool:=Z21G (run X0 n).callT a0 a1
noncomputable def Z33L2G (L:LT) (z:D32):Option ((D8×(D17×Unit)) ⊕ D14):=L (loopOf X0 33 2) sh33x2x0 { fn:=33,base:=0,nt:=179,loops:=[] } z
noncomputable def Z33L2 (n:Nat) (z:D32):Option ((D8×(D17×Unit)) ⊕ D14):=Z33L2G (run X0 n).loop z
noncomputable def Z56G (T:CT) (a0:D4):Option Bool:=T 56 .bool [.agg (lv3 a0)]
noncomputable def Z56 (n:Nat) (a0:D4):Option Bool:=Z56G (run X0 n).callT a0
noncomputable def Z105G (T:CT) (a0:D1):Option Bool:=T 105 .bool [.agg [.int .i64 a0.1,.int .i64 a0.2]]
noncomputable def Z105 (n:Nat) (a0:D1):Option Bool:=Z105G (run X0 n).callT a0
noncomputable def Z79L5G (L:LT) (z:D45):Option (((D7×D5)×Unit) ⊕ D14):=L (loopOf X0 79 5) sh79x5x0 { fn:=79,base:=0,nt:=79,loops:=[] } z
noncomputable def Z79L5 (n:Nat) (z:D45):Option (((D7×D5)×Unit) ⊕ D14):=Z79L5G (run X0 n).loop z
abbrev Z107A (a0:List D1) (a1:Int):List AV:=[.slice false K1 a0,.int .i64 a1]
noncomputable def Z107G (T:CT) (a0:List D1) (a1:Int):Option D1:=T 107 K1 (Z107A a0 a1)
noncomputable def Z107 (n:Nat) (a0:List D1) (a1:Int):Option D1:=Z107G (run X0 n).callT a0 a1
abbrev Z106A (a0:D1) (a1:D1) (a2:D1):List AV:=[.agg [.int .i64 a0.1,.int .i64 a0.2],.agg [.int .i64 a1.1,.int .i64 a1.2],.agg [.int .i64 a2.1,.int .i64 a2.2]]
noncomputable def Z106G (T:CT) (a0:D1) (a1:D1) (a2:D1):Option Int:=T 106 (.int .i64) (Z106A a0 a1 a2)
noncomputable def Z106 (n:Nat) (a0:D1) (a1:D1) (a2:D1):Option Int:=Z106G (run X0 n).callT a0 a1 a2
noncomputable def Z177G (T:CT) (a0:Int) (a1:Int) (a2:Int):Option Bool:=T 177 .bool [.int .i64 a0,.int .i64 a1,.int .i64 a2]
noncomputable def Z177 (n:Nat) (a0:Int) (a1:Int) (a2:Int):Option Bool:=Z177G (run X0 n).callT a0 a1 a2
abbrev Z143A (a0:D1) (a1:D1) (a2:D1):List AV:=[.agg [.int .i64 a0.1,.int .i64 a0.2],.agg [.int .i64 a1.1,.int .i64 a1.2],.agg [.int .i64 a2.1,.int .i64 a2.2]]
noncomputable def Z143G (T:CT) (a0:D1) (a1:D1) (a2:D1):Option Bool:=T 143 .bool (Z143A a0 a1 a2)
noncomputable def Z143 (n:Nat) (a0:D1) (a1:D1) (a2:D1):Option Bool:=Z143G (run X0 n).callT a0 a1 a2
noncomputable def Z144G (T:CT) (a0:Int):Option Int:=T 144 (.int .i64) [.int .i64 a0]
noncomputable def Z144 (n:Nat) (a0:Int):Option Int:=Z144G (run X0 n).callT a0
abbrev Z108A (a0:D1) (a1:D1) (a2:D1) (a3:D1):List AV:=[.agg [.int .i64 a0.1,.int .i64 a0.2],.agg [.int .i64 a1.1,.int .i64 a1.2],.agg [.int .i64 a2.1,.int .i64 a2.2],.agg [.int .i64 a3.1,.int .i64 a3.2]]
noncomputable def Z108G (T:CT) (a0:D1) (a1:D1) (a2:D1) (a3:D1):Option Bool:=T 108 .bool (Z108A a0 a1 a2 a3)
noncomputable def Z108 (n:Nat) (a0:D1) (a1:D1) (a2:D1) (a3:D1):Option Bool:=Z108G (run X0 n).callT a0 a1 a2 a3
noncomputable def Z79L15G (L:LT) (z:D48):Option (D45 ⊕ D14):=L (loopOf X0 79 15) sh79x15x0 { fn:=79,base:=0,nt:=79,loops:=[] } z
noncomputable def Z79L15 (n:Nat) (z:D48):Option (D45 ⊕ D14):=Z79L15G (run X0 n).loop z
noncomputable def Z79L10G (L:LT) (z:D45):Option ((D41×Unit) ⊕ D14):=L (loopOf X0 79 10) sh79x10x0 { fn:=79,base:=0,nt:=79,loops:=[] } z
noncomputable def Z79L10 (n:Nat) (z:D45):Option ((D41×Unit) ⊕ D14):=Z79L10G (run X0 n).loop z
noncomputable def Z109L3G (L:LT) (z:D45):Option (D5×Unit):=L (loopOf X0 109 3) sh109x3x0 { fn:=109,base:=0,nt:=34,loops:=[] } z
noncomputable def Z109L3 (n:Nat) (z:D45):Option (D5×Unit):=Z109L3G (run X0 n).loop z
noncomputable def Z109G (T:CT) (a0:List D1):Option Int:=T 109 (.int .i64) [.slice false K1 a0]
noncomputable def Z109 (n:Nat) (a0:List D1):Option Int:=Z109G (run X0 n).callT a0
noncomputable def Z79G (T:CT) (a0:List D1):Option Bool:=T 79 .bool [.slice false K1 a0]
noncomputable def Z79 (n:Nat) (a0:List D1):Option Bool:=Z79G (run X0 n).callT a0
noncomputable def Z57L4G (L:LT) (z:(((List D7)×D5)×Unit)):Option (D8 ⊕ D14):=L (loopOf X0 57 4) sh57x4x0 { fn:=57,base:=0,nt:=19,loops:=[] } z
noncomputable def Z57L4 (n:Nat) (z:(((List D7)×D5)×Unit)):Option (D8 ⊕ D14):=Z57L4G (run X0 n).loop z
noncomputable def Z57G (T:CT) (a0:List D7):Option Bool:=T 57 .bool [.slice false K5 a0]
noncomputable def Z57 (n:Nat) (a0:List D7):Option Bool:=Z57G (run X0 n).callT a0
noncomputable def Z58L3G (L:LT) (z:((Unit×((List D7)×D5))×(D17×Unit))):Option (((List D7)×Unit)×Unit):=L (loopOf X0 58 3) sh58x3x0 { fn:=58,base:=0,nt:=22,loops:=[] } z
noncomputable def Z58L3 (n:Nat) (z:((Unit×((List D7)×D5))×(D17×Unit))):Option (((List D7)×Unit)×Unit):=Z58L3G (run X0 n).loop z
abbrev Z58A (a0:D0):List AV:=[.agg (lv0 a0)]
noncomputable def Z58G (T:CT) (a0:D0):Option (List D7):=T 58 K16 (Z58A a0)
noncomputable def Z58 (n:Nat) (a0:D0):Option (List D7):=Z58G (run X0 n).callT a0
noncomputable def Z110L3G (L:LT) (z:(D31×Unit)):Option (D5×Unit):=L (loopOf X0 110 3) sh110x3x0 { fn:=110,base:=0,nt:=13,loops:=[] } z
noncomputable def Z110L3 (n:Nat) (z:(D31×Unit)):Option (D5×Unit):=Z110L3G (run X0 n).loop z
noncomputable def Z110G (T:CT) (a0:Int):Option Int:=T 110 (.int .i64) [.int .i64 a0]
noncomputable def Z110 (n:Nat) (a0:Int):Option Int:=Z110G (run X0 n).callT a0
noncomputable def Z80G (T:CT) (a0:D4):Option Bool:=T 80 .bool [.agg (lv3 a0)]
noncomputable def Z80 (n:Nat) (a0:D4):Option Bool:=Z80G (run X0 n).callT a0
noncomputable def Z59L3G (L:LT) (z:(((List D42)×(D44×D5))×Unit)):Option ((((List D42)×(D44×Unit))×Unit) ⊕ D14):=L (loopOf X0 59 3) sh59x3x0 { fn:=59,base:=0,nt:=72,loops:=[] } z
noncomputable def Z59L3 (n:Nat) (z:(((List D42)×(D44×D5))×Unit)):Option ((((List D42)×(D44×Unit))×Unit) ⊕ D14):=Z59L3G (run X0 n).loop z
noncomputable def Z145G (T:CT) (a0:Int):Option Bool:=T 145 .bool [.int .u8 a0]
noncomputable def Z145 (n:Nat) (a0:Int):Option Bool:=Z145G (run X0 n).callT a0
noncomputable def Z111L4G (L:LT) (z:((ByteArray×D5)×Unit)):Option (D8 ⊕ D14):=L (loopOf X0 111 4) sh111x4x0 { fn:=111,base:=0,nt:=47,loops:=[] } z
noncomputable def Z111L4 (n:Nat) (z:((ByteArray×D5)×Unit)):Option (D8 ⊕ D14):=Z111L4G (run X0 n).loop z
noncomputable def Z111G (T:CT) (a0:ByteArray):Option Bool:=T 111 .bool [.str a0]
noncomputable def Z111 (n:Nat) (a0:ByteArray):Option Bool:=Z111G (run X0 n).callT a0
noncomputable def Z81L7G (L:LT) (z:((D44×D12)×Unit)):Option (((D44×D5)×Unit) ⊕ D14):=L (loopOf X0 81 7) sh81x7x0 { fn:=81,base:=0,nt:=31,loops:=[] } z
noncomputable def Z81L7 (n:Nat) (z:((D44×D12)×Unit)):Option (((D44×D5)×Unit) ⊕ D14):=Z81L7G (run X0 n).loop z
noncomputable def Z81L2G (L:LT) (z:((D44×D5)×Unit)):Option (D8 ⊕ D14):=L (loopOf X0 81 2) sh81x2x0 { fn:=81,base:=0,nt:=31,loops:=[] } z
noncomputable def Z81L2 (n:Nat) (z:((D44×D5)×Unit)):Option (D8 ⊕ D14):=Z81L2G (run X0 n).loop z
noncomputable def Z81G (T:CT) (a0:List ByteArray):Option Bool:=T 81 .bool [.slice false .str a0]
noncomputable def Z81 (n:Nat) (a0:List ByteArray):Option Bool:=Z81G (run X0 n).callT a0
abbrev Z59A (a0:List D42):List AV:=[.slice false K8 a0]
noncomputable def Z59G (T:CT) (a0:List D42):Option Bool:=T 59 .bool (Z59A a0)
noncomputable def Z59 (n:Nat) (a0:List D42):Option Bool:=Z59G (run X0 n).callT a0
abbrev Z146A (a0:D1) (a1:D1) (a2:D1):List AV:=[.agg [.int .i64 a0.1,.int .i64 a0.2],.agg [.int .i64 a1.1,.int .i64 a1.2],.agg [.int .i64 a2.1,.int .i64 a2.2]]
noncomputable def Z146G (T:CT) (a0:D1) (a1:D1) (a2:D1):Option Int:=T 146 (.int .i64) (Z146A a0 a1 a2)
noncomputable def Z146 (n:Nat) (a0:D1) (a1:D1) (a2:D1):Option Int:=Z146G (run X0 n).callT a0 a1 a2
abbrev Z112A (a0:D1) (a1:D1) (a2:D1):List AV:=[.agg [.int .i64 a0.1,.int .i64 a0.2],.agg [.int .i64 a1.1,.int .i64 a1.2],.agg [.int .i64 a2.1,.int .i64 a2.2]]
noncomputable def Z112G (T:CT) (a0:D1) (a1:D1) (a2:D1):Option Int:=T 112 (.int .i64) (Z112A a0 a1 a2)
noncomputable def Z112 (n:Nat) (a0:D1) (a1:D1) (a2:D1):Option Int:=Z112G (run X0 n).callT a0 a1 a2
noncomputable def Z82L9G (L:LT) (z:D45):Option (((D7×D5)×Unit) ⊕ D14):=L (loopOf X0 82 9) sh82x9x0 { fn:=82,base:=0,nt:=73,loops:=[] } z
noncomputable def Z82L9 (n:Nat) (z:D45):Option (((D7×D5)×Unit) ⊕ D14):=Z82L9G (run X0 n).loop z
noncomputable def Z82L4G (L:LT) (z:((D7×D5)×Unit)):Option (D8 ⊕ D14):=L (loopOf X0 82 4) sh82x4x0 { fn:=82,base:=0,nt:=73,loops:=[] } z
noncomputable def Z82L4 (n:Nat) (z:((D7×D5)×Unit)):Option (D8 ⊕ D14):=Z82L4G (run X0 n).loop z
noncomputable def Z82G (T:CT) (a0:List D1):Option Bool:=T 82 .bool [.slice false K1 a0]
noncomputable def Z82 (n:Nat) (a0:List D1):Option Bool:=Z82G (run X0 n).callT a0
noncomputable def Z60L4G (L:LT) (z:(((List D25)×(Int×(D44×(D50×D5))))×Unit)):Option ((((List D25)×(Int×(D44×(D50×Unit))))×Unit) ⊕ D14):=L (loopOf X0 60 4) sh60x4x0 { fn:=60,base:=0,nt:=49,loops:=[] } z
noncomputable def Z60L4 (n:Nat) (z:(((List D25)×(Int×(D44×(D50×D5))))×Unit)):Option ((((List D25)×(Int×(D44×(D50×Unit))))×Unit) ⊕ D14):=Z60L4G (run X0 n).loop z
noncomputable def Z61L7G (L:LT) (z:((D50×D31)×Unit)):Option (((D50×D12)×Unit) ⊕ D14):=L (loopOf X0 61 7) sh61x7x0 { fn:=61,base:=0,nt:=40,loops:=[] } z
noncomputable def Z61L7 (n:Nat) (z:((D50×D31)×Unit)):Option (((D50×D12)×Unit) ⊕ D14):=Z61L7G (run X0 n).loop z
noncomputable def Z61L2G (L:LT) (z:((D50×D12)×Unit)):Option (D8 ⊕ D14):=L (loopOf X0 61 2) sh61x2x0 { fn:=61,base:=0,nt:=40,loops:=[] } z
noncomputable def Z61L2 (n:Nat) (z:((D50×D12)×Unit)):Option (D8 ⊕ D14):=Z61L2G (run X0 n).loop z
noncomputable def Z61G (T:CT) (a0:List Int) (a1:Int):Option Bool:=T 61 .bool [.slice false (.int .i64) a0,.int .i64 a1]
noncomputable def Z61 (n:Nat) (a0:List Int) (a1:Int):Option Bool:=Z61G (run X0 n).callT a0 a1
abbrev Z60A (a0:List D25) (a1:Int):List AV:=[.slice false K6 a0,.int .i64 a1]
noncomputable def Z60G (T:CT) (a0:List D25) (a1:Int):Option Bool:=T 60 .bool (Z60A a0 a1)
noncomputable def Z60 (n:Nat) (a0:List D25) (a1:Int):Option Bool:=Z60G (run X0 n).callT a0 a1
abbrev Z33A (a0:D0):List AV:=[.agg (lv0 a0)]
noncomputable def Z33G (T:CT) (a0:D0):Option Bool:=T 33 .bool (Z33A a0)
noncomputable def Z33 (n:Nat) (a0:D0):Option Bool:=Z33G (run X0 n).callT a0
abbrev Z32A (a0:D9) (a1:D4):List AV:=[.agg (lv2 a0),.agg [.int .u8 a1.1,.int .u8 a1.2.1,.int .u8 a1.2.2]]
noncomputable def Z32G (T:CT) (a0:D9) (a1:D4):Option D4:=T 32 K2 (Z32A a0 a1)
noncomputable def Z32 (n:Nat) (a0:D9) (a1:D4):Option D4:=Z32G (run X0 n).callT a0 a1
noncomputable def Z54L8G (L:LT) (z:((D50×(Unit×(Unit×(Unit×(Unit×D12)))))×D21)):Option ((Unit×(Unit×D19))×(D17×(Unit×((D1×Unit)×((((D4×D4)×D1)×D5)×((((D4×D4)×D1)×D5)×(Unit×(D50×(D50×Unit))))))))):=L (loopOf X0 54 8) sh54x8x0 { fn:=54,base:=0,nt:=116,loops:=[] } z
noncomputable def Z54L8 (n:Nat) (z:((D50×(Unit×(Unit×(Unit×(Unit×D12)))))×D21)):Option ((Unit×(Unit×D19))×(D17×(Unit×((D1×Unit)×((((D4×D4)×D1)×D5)×((((D4×D4)×D1)×D5)×(Unit×(D50×(D50×Unit))))))))):=Z54L8G (run X0 n).loop z
abbrev Z54A (a0:D0) (a1:(D4×D4)) (a2:D1) (a3:List Int):List AV:=[.agg (lv0 a0),.agg [.int .u8 a1.1.1,.int .u8 a1.1.2.1,.int .u8 a1.1.2.2,.int .u8 a1.2.1,.int .u8 a1.2.2.1,.int .u8 a1.2.2.2],.agg [.int .u8 a2.1,.int .u8 a2.2],.slice false (.int .u8) a3]
noncomputable def Z54G (T:CT) (a0:D0) (a1:(D4×D4)) (a2:D1) (a3:List Int):Option D2:=T 54 K4 (Z54A a0 a1 a2 a3)
noncomputable def Z54 (n:Nat) (a0:D0) (a1:(D4×D4)) (a2:D1) (a3:List Int):Option D2:=Z54G (run X0 n).callT a0 a1 a2 a3
noncomputable def Z50L4G (L:LT) (z:(D36×D13)):Option ((D19×D13) ⊕ D14):=L (loopOf X0 50 4) sh50x4x0 { fn:=50,base:=0,nt:=108,loops:=[] } z
noncomputable def Z50L4 (n:Nat) (z:(D36×D13)):Option ((D19×D13) ⊕ D14):=Z50L4G (run X0 n).loop z
noncomputable def Z50L15G (L:LT) (z:((Unit×(Unit×D12))×D13)):Option ((D36×D13) ⊕ D14):=L (loopOf X0 50 15) sh50x15x0 { fn:=50,base:=0,nt:=108,loops:=[] } z
noncomputable def Z50L15 (n:Nat) (z:((Unit×(Unit×D12))×D13)):Option ((D36×D13) ⊕ D14):=Z50L15G (run X0 n).loop z
noncomputable def Z50L10G (L:LT) (z:(D36×D13)):Option (D8 ⊕ D14):=L (loopOf X0 50 10) sh50x10x0 { fn:=50,base:=0,nt:=108,loops:=[] } z
noncomputable def Z50L10 (n:Nat) (z:(D36×D13)):Option (D8 ⊕ D14):=Z50L10G (run X0 n).loop z
abbrev Z50A (a0:D0) (a1:D2):List AV:=[.agg (lv0 a0),.agg (lv1 a1)]
noncomputable def Z50G (T:CT) (a0:D0) (a1:D2):Option Bool:=T 50 .bool (Z50A a0 a1)
noncomputable def Z50 (n:Nat) (a0:D0) (a1:D2):Option Bool:=Z50G (run X0 n).callT a0 a1
noncomputable def Z176G (T:CT) (a0:Int):Option Int:=T 176 (.int .i64) [.int .i64 a0]
noncomputable def Z176 (n:Nat) (a0:Int):Option Int:=Z176G (run X0 n).callT a0
noncomputable def Z142L7G (L:LT) (z:((Int×D31)×Unit)):Option (D12×Unit):=L (loopOf X0 142 7) sh142x7x0 { fn:=142,base:=0,nt:=35,loops:=[] } z
noncomputable def Z142L7 (n:Nat) (z:((Int×D31)×Unit)):Option (D12×Unit):=Z142L7G (run X0 n).loop z
noncomputable def Z142G (T:CT) (a0:Int):Option D1:=T 142 K1 [.int .i64 a0]
noncomputable def Z142 (n:Nat) (a0:Int):Option D1:=Z142G (run X0 n).callT a0
abbrev Z104A (a0:D4) (a1:Int):List AV:=[.agg (lv3 a0),.int .i64 a1]
noncomputable def Z104G (T:CT) (a0:D4) (a1:Int):Option D4:=T 104 K2 (Z104A a0 a1)
noncomputable def Z104 (n:Nat) (a0:D4) (a1:Int):Option D4:=Z104G (run X0 n).callT a0 a1
abbrev Z75A (a0:D9) (a1:D4):List AV:=[.agg (lv2 a0),.agg (lv3 a1)]
noncomputable def Z75G (T:CT) (a0:D9) (a1:D4):Option (D4×(D4×D4)):=T 75 (.pair K2 (.pair K2 K2)) (Z75A a0 a1)
noncomputable def Z75 (n:Nat) (a0:D9) (a1:D4):Option (D4×(D4×D4)):=Z75G (run X0 n).callT a0 a1
abbrev Z102A (a0:D4) (a1:Int):List AV:=[.agg (lv3 a0),.int .i64 a1]
noncomputable def Z102G (T:CT) (a0:D4) (a1:Int):Option D1:=T 102 K1 (Z102A a0 a1)
noncomputable def Z102 (n:Nat) (a0:D4) (a1:Int):Option D1:=Z102G (run X0 n).callT a0 a1
abbrev Z103A (a0:D1) (a1:D1):List AV:=[.agg [.int .i64 a0.1,.int .i64 a0.2],.agg [.int .i64 a1.1,.int .i64 a1.2]]
noncomputable def Z103G (T:CT) (a0:D1) (a1:D1):Option D1:=T 103 K1 (Z103A a0 a1)
noncomputable def Z103 (n:Nat) (a0:D1) (a1:D1):Option D1:=Z103G (run X0 n).callT a0 a1
abbrev Z74A (a0:D9) (a1:D4):List AV:=[.agg (lv2 a0),.agg (lv3 a1)]
noncomputable def Z74G (T:CT) (a0:D9) (a1:D4):Option (D1×(D1×(D1×D1))):=T 74 (.pair K1 (.pair K1 (.pair K1 K1))) (Z74A a0 a1)
noncomputable def Z74 (n:Nat) (a0:D9) (a1:D4):Option (D1×(D1×(D1×D1))):=Z74G (run X0 n).callT a0 a1
abbrev Z73A (a0:D9) (a1:D4):List AV:=[.agg (lv2 a0),.agg (lv3 a1)]
noncomputable def Z73G (T:CT) (a0:D9) (a1:D4):Option (D7×(D7×D7)):=T 73 (.pair K5 (.pair K5 K5)) (Z73A a0 a1)
noncomputable def Z73 (n:Nat) (a0:D9) (a1:D4):Option (D7×(D7×D7)):=Z73G (run X0 n).callT a0 a1
noncomputable def Z76L3G (L:LT) (z:((Unit×(Unit×(Unit×(D7×D5))))×((D25×Unit)×D43))):Option (D41×Unit):=L (loopOf X0 76 3) sh76x3x0 { fn:=76,base:=0,nt:=61,loops:=[] } z
noncomputable def Z76L3 (n:Nat) (z:((Unit×(Unit×(Unit×(D7×D5))))×((D25×Unit)×D43))):Option (D41×Unit):=Z76L3G (run X0 n).loop z
abbrev Z76A (a0:D25) (a1:D1) (a2:D4):List AV:=[.agg [.str a0.1,.slice false K1 a0.2.1,.int .i64 a0.2.2],.agg [.int .i64 a1.1,.int .i64 a1.2],.agg (lv3 a2)]
noncomputable def Z76G (T:CT) (a0:D25) (a1:D1) (a2:D4):Option D7:=T 76 K5 (Z76A a0 a1 a2)
noncomputable def Z76 (n:Nat) (a0:D25) (a1:D1) (a2:D4):Option D7:=Z76G (run X0 n).callT a0 a1 a2
noncomputable def Z51L18G (L:LT) (z:((Unit×(Unit×((List D3)×D5)))×D13)):Option ((Unit×((List D3)×Unit))×(D17×Unit)):=L (loopOf X0 51 18) sh51x18x0 { fn:=51,base:=0,nt:=142,loops:=[] } z
noncomputable def Z51L18 (n:Nat) (z:((Unit×(Unit×((List D3)×D5)))×D13)):Option ((Unit×((List D3)×Unit))×(D17×Unit)):=Z51L18G (run X0 n).loop z
noncomputable def Z51L24G (L:LT) (z:((Unit×((List D3)×D5))×(D17×Unit))):Option (((List D3)×Unit)×Unit):=L (loopOf X0 51 24) sh51x24x0 { fn:=51,base:=0,nt:=142,loops:=[] } z
noncomputable def Z51L24 (n:Nat) (z:((Unit×((List D3)×D5))×(D17×Unit))):Option (((List D3)×Unit)×Unit):=Z51L24G (run X0 n).loop z
abbrev Z51A (a0:D0) (a1:D2):List AV:=[.agg (lv0 a0),.agg (lv1 a1)]
noncomputable def Z51G (T:CT) (a0:D0) (a1:D2):Option (List D3):=T 51 K15 (Z51A a0 a1)
noncomputable def Z51 (n:Nat) (a0:D0) (a1:D2):Option (List D3):=Z51G (run X0 n).callT a0 a1
noncomputable def Z52G (T:CT) (a0:D1):Option Bool:=T 52 .bool [.agg [.int .i64 a0.1,.int .i64 a0.2]]
noncomputable def Z52 (n:Nat) (a0:D1):Option Bool:=Z52G (run X0 n).callT a0
noncomputable def Z26L8G (L:LT) (z:(((List D3)×D12)×Unit)):Option ((((List D3)×D5)×Unit) ⊕ D14):=L (loopOf X0 26 8) sh26x8x0 { fn:=26,base:=0,nt:=61,loops:=[] } z
noncomputable def Z26L8 (n:Nat) (z:(((List D3)×D12)×Unit)):Option ((((List D3)×D5)×Unit) ⊕ D14):=Z26L8G (run X0 n).loop z
noncomputable def Z26L5G (L:LT) (z:(((List D3)×D5)×Unit)):Option (D8 ⊕ D14):=L (loopOf X0 26 5) sh26x5x0 { fn:=26,base:=0,nt:=61,loops:=[] } z
noncomputable def Z26L5 (n:Nat) (z:(((List D3)×D5)×Unit)):Option (D8 ⊕ D14):=Z26L5G (run X0 n).loop z
abbrev Z26A (a0:D0) (a1:D2):List AV:=[.agg (lv0 a0),.agg (lv1 a1)]
noncomputable def Z26G (T:CT) (a0:D0) (a1:D2):Option Bool:=T 26 .bool (Z26A a0 a1)
noncomputable def Z26 (n:Nat) (a0:D0) (a1:D2):Option Bool:=Z26G (run X0 n).callT a0 a1
abbrev Z31A (a0:D0) (a1:D2):List AV:=[.agg (lv0 a0),.agg [.int .u8 a1.1.1.1,.int .u8 a1.1.1.2.1,.int .u8 a1.1.1.2.2,.int .u8 a1.1.2.1,.int .u8 a1.1.2.2.1,.int .u8 a1.1.2.2.2,.int .u8 a1.2.1.1,.int .u8 a1.2.1.2,.slice false (.int .u8) a1.2.2]]
noncomputable def Z31G (T:CT) (a0:D0) (a1:D2):Option (D2×Bool):=T 31 (.pair K4 .bool) (Z31A a0 a1)
noncomputable def Z31 (n:Nat) (a0:D0) (a1:D2):Option (D2×Bool):=Z31G (run X0 n).callT a0 a1
abbrev Z11A (a0:D0) (a1:(D2×(Int×(Int×D4)))):List AV:=[.agg (lv0 a0),.agg [.int .u8 a1.1.1.1.1,.int .u8 a1.1.1.1.2.1,.int .u8 a1.1.1.1.2.2,.int .u8 a1.1.1.2.1,.int .u8 a1.1.1.2.2.1,.int .u8 a1.1.1.2.2.2,.int .u8 a1.1.2.1.1,.int .u8 a1.1.2.1.2,.slice false (.int .u8) a1.1.2.2,.int .u8 a1.2.1,.int .u8 a1.2.2.1,.int .u8 a1.2.2.2.1,.int .u8 a1.2.2.2.2.1,.int .u8 a1.2.2.2.2.2]]
noncomputable def Z11G (T:CT) (a0:D0) (a1:(D2×(Int×(Int×D4)))):Option (D0×(D2×(Int×(D4×Bool)))):=T 11 (.pair K0 (.pair K4 (.pair (.int .i64) (.pair K2 .bool)))) (Z11A a0 a1)
noncomputable def Z11 (n:Nat) (a0:D0) (a1:(D2×(Int×(Int×D4)))):Option (D0×(D2×(Int×(D4×Bool)))):=Z11G (run X0 n).callT a0 a1
noncomputable def Z24G (T:CT) (a0:Int):Option (List D4):=T 24 (.slice K2) [.int .i64 a0]
noncomputable def Z24 (n:Nat) (a0:Int):Option (List D4):=Z24G (run X0 n).callT a0
noncomputable def Z5L9G (L:LT) (z:D23):Option ((Bool×(Unit×(Unit×(Int×(Unit×D5)))))×(Unit×(Unit×(D17×((D2×Unit)×(Unit×((D2×Unit)×Unit))))))):=L (loopOf X0 5 9) sh5x9x0 { fn:=5,base:=0,nt:=98,loops:=[] } z
noncomputable def Z5L9 (n:Nat) (z:D23):Option ((Bool×(Unit×(Unit×(Int×(Unit×D5)))))×(Unit×(Unit×(D17×((D2×Unit)×(Unit×((D2×Unit)×Unit))))))):=Z5L9G (run X0 n).loop z
abbrev Z5A (a0:Int) (a1:Int) (a2:Int) (a3:Int) (a4:Int) (a5:Int) (a6:Int) (a7:Int) (a8:Int) (a9:Int) (a10:Int) (a11:Int) (a12:Int) (a13:Int) (a14:Int) (a15:Int) (a16:Int) (a17:Int) (a18:Int) (a19:Int) (a20:Int) (a21:Int) (a22:Int) (a23:Int) (a24:Int) (a25:Int) (a26:Int) (a27:Int) (a28:Int) (a29:Int) (a30:List D7) (a31:List D42) (a32:List D25) (a33:List Int) (a34:Int) (a35:Int) (a36:Int) (a37:Int) (a38:Int) (a39:Int) (a40:Int) (a41:List D7) (a42:Int) (a43:Int) (a44:Int) (a45:Int) (a46:Int) (a47:Int) (a48:Int) (a49:Int) (a50:Int) (a51:Int) (a52:List Int) (a53:Int) (a54:Int) (a55:Int) (a56:Int) (a57:Int) (a58:List Int):List AV:=[.agg [.int .i64 a0,.int .i64 a1,.int .i64 a2,.int .i64 a3,.int .i64 a4,.int .i64 a5,.int .i64 a6,.int .i64 a7,.int .i64 a8,.int .i64 a9,.int .i64 a10,.int .i64 a11,.int .i64 a12,.int .i64 a13,.int .i64 a14,.int .i64 a15,.int .i64 a16,.int .i64 a17,.int .i64 a18,.int .i64 a19,.int .i64 a20,.int .i64 a21,.int .i64 a22,.int .i64 a23,.int .i64 a24,.int .i64 a25,.int .i64 a26,.int .i64 a27,.int .i64 a28,.int .i64 a29,.slice false K5 a30,.slice false K8 a31,.slice false K6 a32,.slice false (.int .i64) a33,.int .i64 a34,.int .i64 a35,.int .i64 a36,.int .i64 a37,.int .i64 a38,.int .i64 a39,.int .i64 a40,.slice false K5 a41,.int .i64 a42,.int .i64 a43],.agg [.int .u8 a44,.int .u8 a45,.int .u8 a46,.int .u8 a47,.int .u8 a48,.int .u8 a49,.int .u8 a50,.int .u8 a51,.slice false (.int .u8) a52,.int .u8 a53,.int .u8 a54,.int .u8 a55,.int .u8 a56,.int .u8 a57],.slice false (.int .u8) a58]
noncomputable def Z5G (T:CT) (a0:Int) (a1:Int) (a2:Int) (a3:Int) (a4:Int) (a5:Int) (a6:Int) (a7:Int) (a8:Int) (a9:Int) (a10:Int) (a11:Int) (a12:Int) (a13:Int) (a14:Int) (a15:Int) (a16:Int) (a17:Int) (a18:Int) (a19:Int) (a20:Int) (a21:Int) (a22:Int) (a23:Int) (a24:Int) (a25:Int) (a26:Int) (a27:Int) (a28:Int) (a29:Int) (a30:List D7) (a31:List D42) (a32:List D25) (a33:List Int) (a34:Int) (a35:Int) (a36:Int) (a37:Int) (a38:Int) (a39:Int) (a40:Int) (a41:List D7) (a42:Int) (a43:Int) (a44:Int) (a45:Int) (a46:Int) (a47:Int) (a48:Int) (a49:Int) (a50:Int) (a51:Int) (a52:List Int) (a53:Int) (a54:Int) (a55:Int) (a56:Int) (a57:Int) (a58:List Int):Option Bool:=T 5 .bool (Z5A a0 a1 a2 a3 a4 a5 a6 a7 a8 a9 a10 a11 a12 a13 a14 a15 a16 a17 a18 a19 a20 a21 a22 a23 a24 a25 a26 a27 a28 a29 a30 a31 a32 a33 a34 a35 a36 a37 a38 a39 a40 a41 a42 a43 a44 a45 a46 a47 a48 a49 a50 a51 a52 a53 a54 a55 a56 a57 a58)
noncomputable def Z5 (n:Nat) (a0:Int) (a1:Int) (a2:Int) (a3:Int) (a4:Int) (a5:Int) (a6:Int) (a7:Int) (a8:Int) (a9:Int) (a10:Int) (a11:Int) (a12:Int) (a13:Int) (a14:Int) (a15:Int) (a16:Int) (a17:Int) (a18:Int) (a19:Int) (a20:Int) (a21:Int) (a22:Int) (a23:Int) (a24:Int) (a25:Int) (a26:Int) (a27:Int) (a28:Int) (a29:Int) (a30:List D7) (a31:List D42) (a32:List D25) (a33:List Int) (a34:Int) (a35:Int) (a36:Int) (a37:Int) (a38:Int) (a39:Int) (a40:Int) (a41:List D7) (a42:Int) (a43:Int) (a44:Int) (a45:Int) (a46:Int) (a47:Int) (a48:Int) (a49:Int) (a50:Int) (a51:Int) (a52:List Int) (a53:Int) (a54:Int) (a55:Int) (a56:Int) (a57:Int) (a58:List Int):Option Bool:=Z5G (run X0 n).callT a0 a1 a2 a3 a4 a5 a6 a7 a8 a9 a10 a11 a12 a13 a14 a15 a16 a17 a18 a19 a20 a21 a22 a23 a24 a25 a26 a27 a28 a29 a30 a31 a32 a33 a34 a35 a36 a37 a38 a39 a40 a41 a42 a43 a44 a45 a46 a47 a48 a49 a50 a51 a52 a53 a54 a55 a56 a57 a58
end Go.Pf
