/- Part of the proof that 'TopImpersonates' holds of every input: no condition. -/
import Derived.Test.YtalojkjpjdcibaaGreatDoorXAJ
set_option maxRecDepth 100000
namespace Go.Top
open Go Go.Vc
def f115:=@hJoin
def f65:=@hSplit
def f227:=@hHas
def f183:=@hCut
def f118:=@hItoa
def f230:=@hAtoi
def f53:=@hBJoin
def f174:Option Unit:=some ()
abbrev MAC:Type:=(List Int)
abbrev cMAC:Ty:=(.arr 6 (.int .u8))
abbrev errorString:Type:=(List UInt8)
abbrev cerrorString:Ty:=(.st .str)
abbrev asciiSet:Type:=(List Bool)
abbrev casciiSet:Ty:=(.arr 256 .bool)
abbrev errorAddressString:Type:=((List UInt8)×Int)
abbrev cerrorAddressString:Ty:=(.st (.pr .str (.int .u64)))
abbrev acceptRange:Type:=(Int×Int)
abbrev cacceptRange:Ty:=(.st (.pr (.int .u8) (.int .u8)))
abbrev Link:Type:=(Int×(Int×Int))
abbrev cLink:Ty:=(.st (.pr (.int .i64) (.pr (.int .i64) (.int .i64))))
abbrev Deck:Type:=((List Int)×Int)
abbrev cDeck:Ty:=(.st (.pr (.list (.int .i64)) (.int .i64)))
abbrev reader:Type:=((List (List UInt8))×Bool)
abbrev creader:Ty:=(.st (.pr (.list .str) .bool))
abbrev Addr:Type:=(Bool×(Int×Int))
abbrev cAddr:Ty:=(.st (.pr .bool (.pr (.int .u64) (.int .u64))))
abbrev boundsError:Type:=(Int×(Int×(Bool×Int)))
abbrev cboundsError:Ty:=(.st (.pr (.int .i64) (.pr (.int .i64) (.pr .bool (.int .u8)))))
abbrev Prefix:Type:=(Addr×Int)
abbrev cPrefix:Ty:=(.st (.pr cAddr (.int .i64)))
abbrev Binding:Type:=(Addr×(MAC×Int))
abbrev cBinding:Ty:=(.st (.pr cAddr (.pr cMAC (.int .i64))))
abbrev Frame:Type:=(MAC×(MAC×(Int×(Int×(List Int)))))
abbrev cFrame:Ty:=(.st (.pr cMAC (.pr cMAC (.pr (.int .i64) (.pr (.int .i64) (.list (.int .u8)))))))
abbrev Neighbor:Type:=(Int×(Int×(Addr×(Bool×MAC))))
abbrev cNeighbor:Ty:=(.st (.pr (.int .i64) (.pr (.int .i64) (.pr cAddr (.pr .bool cMAC)))))
abbrev Fabric:Type:=(Int×((List Link)×((List Bool)×(List Bool))))
abbrev cFabric:Ty:=(.st (.pr (.int .i64) (.pr (.list cLink) (.pr (.list .bool) (.list .bool)))))
abbrev Packet:Type:=(Addr×(Addr×(Int×(Int×(List Int)))))
abbrev cPacket:Ty:=(.st (.pr cAddr (.pr cAddr (.pr (.int .i64) (.pr (.int .i64) (.list (.int .u8)))))))
abbrev Delivery:Type:=(Int×((List Int)×Frame))
abbrev cDelivery:Ty:=(.st (.pr (.int .i64) (.pr (.list (.int .i64)) cFrame)))
abbrev ARP:Type:=(Int×(MAC×(Addr×(MAC×Addr))))
abbrev cARP:Ty:=(.st (.pr (.int .i64) (.pr cMAC (.pr cAddr (.pr cMAC cAddr)))))
abbrev Port:Type:=(Int×(Int×(Int×((List MAC)×(Addr×Addr)))))
abbrev cPort:Ty:=(.st (.pr (.int .i64) (.pr (.int .i64) (.pr (.int .i64) (.pr (.list cMAC) (.pr cAddr cAddr))))))
abbrev Rule:Type:=(Int×(Int×(Int×((List MAC)×((List Addr)×((List Addr)×(Int×Int)))))))
abbrev cRule:Ty:=(.st (.pr (.int .i64) (.pr (.int .i64) (.pr (.int .i64) (.pr (.list cMAC) (.pr (.list cAddr) (.pr (.list cAddr) (.pr (.int .i64) (.int .i64)))))))))
abbrev Member:Type:=(Int×((List UInt8)×((List UInt8)×(Int×(Int×(List Port))))))
abbrev cMember:Ty:=(.st (.pr (.int .i64) (.pr .str (.pr .str (.pr (.int .i64) (.pr (.int .i64) (.list cPort)))))))
abbrev Database:Type:=(Prefix×(Prefix×((List Member)×(List Member))))
abbrev cDatabase:Ty:=(.st (.pr cPrefix (.pr cPrefix (.pr (.list cMember) (.list cMember)))))
def f6 (_:(List Int)):Option Unit :=
 some ()
def f37:Option Prefix :=
 some ((false,0,3221225984),24)
def f38:Option Prefix :=
 some ((true,2306139568115548160,0),64)
def f9 (a0:Int) (a1:Int):Option Int :=
 chk (a1 != 0) <|
 (if (decide ((Int.tmod a0 a1)<0))=true then
 some (w64 ((Int.tmod a0 a1)+a1))
 else
 some (Int.tmod a0 a1))
def f25 (a0:Int) (a1:(List Int)) (a2:Int):Option (Int×Int) :=
 (if (decide ((a1.length:Int)≤a2))=true then
 some (0,a2)
 else
 (idx a1 (w64 ((w64 (a2+1))-1))).bind fun x0 =>
 (f9 x0 a0).bind fun x1 =>
 some (x1,(w64 (a2+1))))
def f82 (a0:Int):Option MAC :=
 let y0:MAC:=([2,0,(IntKind.u8.wrap (shrI .i64 a0 24)),(IntKind.u8.wrap (shrI .i64 a0 16)),(IntKind.u8.wrap (shrI .i64 a0 8)),(IntKind.u8.wrap a0)]:List Int)
 some y0
def f56 (a0:Int):Option Addr :=
 let y0:Int:=(IntKind.u64.wrap (3221225984+(IntKind.u64.wrap (w64 (1+a0)))))
 some (false,0,y0)
def f60 (a0:Int):Option Addr :=
 some (true,2306139568115548160,(IntKind.u64.wrap (w64 (1+a0))))
def f39L0 (a2:(List Int)) (p6:(Int×(Int×(Int×(List Port))))):Option ((Int×(Int×(List Port)))⊕(Int×(Int×(Int×(List Port))))) :=
 (if (decide (0<p6.1))=true then
 (f25 3 a2 p6.2.1).bind fun x7 =>
 let y8:Int:=(w64 ((w64 (3*(w64 (p6.2.2.1+1))))+x7.1))
 (f25 4 a2 x7.2).bind fun x9 =>
 (f25 4 a2 x9.2).bind fun x10 =>
 (idx ([1,10,100,400]:List Int) x10.1).bind fun _ =>
 (idx ([1,10,100,400]:List Int) x10.1).bind fun x12 =>
 (f82 (w64 (100+(w64 (p6.2.2.1+1))))).bind fun x13 =>
 jn (fun(u14:(Int×(List MAC))) =>
 jn (fun(u15:(Int×(Addr×Addr))) =>
 let y16:(List Port):=([(y8,x9.1,x12,u14.2,u15.2.1,u15.2.2)]:List Port)
 chk (decide ((p6.2.2.2++y16).length≤LIM)) <|
 some (.inr ((w64 (p6.1-1)),u15.1,(w64 (p6.2.2.1+1)),(p6.2.2.2++y16)))) (fun t17 =>
 (f25 4 a2 u14.1).bind fun x18 =>
 (if (x18.1==0)=true then
 (f56 (w64 (p6.2.2.1+1))).bind fun x19 =>
 t17 (x18.2,x19,false,0,0)
 else
 (if (x18.1==1)=true then
 (f60 (w64 (p6.2.2.1+1))).bind fun x20 =>
 t17 (x18.2,(false,0,0),x20)
 else
 (f56 (w64 (p6.2.2.1+1))).bind fun x21 =>
 (f60 (w64 (p6.2.2.1+1))).bind fun x22 =>
 t17 (x18.2,x21,x22))))) (fun t23 =>
 (f25 4 a2 x10.2).bind fun x24 =>
 (if (x24.1==3)=true then
 (f82 (w64 (200+(w64 (p6.2.2.1+1))))).bind fun x25 =>
 chk (decide ((([x13]:List MAC)++([x25]:List MAC)).length≤LIM)) <|
 t23 (x24.2,(([x13]:List MAC)++([x25]:List MAC)))
 else
 t23 (x24.2,([x13]:List MAC))))
 else
 some (.inl (p6.2.1,p6.2.2.1,p6.2.2.2)))
def f39 (a0:Int) (a1:(List UInt8)) (a2:(List Int)) (a3:Int) (a4:Int):Option (Int×(Int×Member)) :=
 let y0:(List (List UInt8)):=([([]:List UInt8),([65,83,45,65]:List UInt8),([65,83,45,66]:List UInt8)]:List (List UInt8))
 (f25 3 a2 a3).bind fun x1 =>
 (idx y0 x1.1).bind fun x2 =>
 (f25 20 a2 x1.2).bind fun x3 =>
 (f25 20 a2 x3.2).bind fun x4 =>
 (f25 2 a2 x4.2).bind fun x5 =>
 (loopF (f39L0 a2) ((w64 (1+x5.1)),x5.2,a4,([]:List Port))).bind fun x26 =>
 some (x26.1,x26.2.1,a0,a1,x2,x3.1,x4.1,x26.2.2)
def f8L0 (a0:(List Int)) (x2:(Int×Int)) (p3:(Int×(Int×(Int×(List Member))))):Option ((Int×(Int×(List Member)))⊕(Int×(Int×(Int×(List Member))))) :=
 (if (decide (p3.1<x2.1))=true then
 let y4:(List (List UInt8)):=([([114,115,45,49]:List UInt8),([114,115,45,50]:List UInt8)]:List (List UInt8))
 (idx y4 p3.1).bind fun x5 =>
 (f39 65000 x5 a0 p3.2.1 p3.2.2.1).bind fun x6 =>
 chk (decide ((p3.2.2.2++([x6.2.2]:List Member)).length≤LIM)) <|
 some (.inr ((w64 (p3.1+1)),x6.1,x6.2.1,(p3.2.2.2++([x6.2.2]:List Member))))
 else
 some (.inl (p3.2.1,p3.2.2.1,p3.2.2.2)))
def f8L1 (a0:(List Int)) (x8:(Int×Int)) (p9:(Int×(Int×(Int×(List Member))))):Option ((Int×(List Member))⊕(Int×(Int×(Int×(List Member))))) :=
 (if (decide (p9.1<(w64 (2+x8.1))))=true then
 let y10:(List (List UInt8)):=([([97]:List UInt8),([98,45,50]:List UInt8),([67,58,51]:List UInt8),([100,101,108,116,97]:List UInt8),([101]:List UInt8)]:List (List UInt8))
 (idx y10 p9.1).bind fun x11 =>
 (f39 (w64 (1+(w64 (7*p9.1)))) x11 a0 p9.2.1 p9.2.2.1).bind fun x12 =>
 chk (decide ((p9.2.2.2++([x12.2.2]:List Member)).length≤LIM)) <|
 some (.inr ((w64 (p9.1+1)),x12.1,x12.2.1,(p9.2.2.2++([x12.2.2]:List Member))))
 else
 some (.inl (p9.2.1,p9.2.2.2)))
def f8 (a0:(List Int)) (a1:Int):Option (Int×Database) :=
 (f37).bind fun x0 =>
 (f38).bind fun x1 =>
 (f25 3 a0 a1).bind fun x2 =>
 (loopF (f8L0 a0 x2) (0,x2.2,0,([]:List Member))).bind fun x7 =>
 (f25 4 a0 x7.1).bind fun x8 =>
 (loopF (f8L1 a0 x8) (0,x8.2,x7.2.1,([]:List Member))).bind fun x13 =>
 some (x13.1,x0,x1,x7.2.2,x13.2)
def f220 (a0:Int):Option (List Member) :=
 (if (decide (a0<0))=true then
 none
 else
 (if (decide (0<(w64 (a0-0))))=true then
 chk ((decide (0<(w64 (a0-0))))&&(fitIT (w64 (a0-0)))) <|
 let y0:(List Member):=(List.replicate (Int.toNat (w64 (a0-0))) (0,[],[],0,0,[]))
 chk (leT 0 y0.length) <|
 some (List.take (Int.toNat 0) y0)
 else
 some ([]:List Member)))
def f177L0 (a0:(List (List Member))) (p0:(Int×Int)):Option (Int⊕(Int×Int)) :=
 (if (decide (p0.2<(a0.length:Int)))=true then
 (idx a0 p0.2).bind fun x1 =>
 let y2:Bool:=(decide ((w64 (p0.1+(x1.length:Int)))<0))
 (if y2=true then
 none
 else
 some (.inr ((w64 (p0.1+(x1.length:Int))),(w64 (p0.2+1)))))
 else
 some (.inl p0.1))
def f177L1 (a0:(List (List Member))) (p5:(Int×(List Member))):Option ((List Member)⊕(Int×(List Member))) :=
 (if (decide (p5.1<(a0.length:Int)))=true then
 (idx a0 p5.1).bind fun x6 =>
 chk (decide ((p5.2++x6).length≤LIM)) <|
 some (.inr ((w64 (p5.1+1)),(p5.2++x6)))
 else
 some (.inl p5.2))
def f177 (a0:(List (List Member))):Option (List Member) :=
 (loopF (f177L0 a0) (0,0)).bind fun x3 =>
 (f220 x3).bind fun x4 =>
 (loopF (f177L1 a0) (0,x4)).bind fun x7 =>
 some x7
def f117 (a0:Database):Option (List Member) :=
 (f177 ([a0.2.2.1,a0.2.2.2]:List (List Member))).bind fun x0 =>
 some x0
def f163 (a0:Int) (a1:Int) (a2:Int):Option Bool :=
 (if (decide (a1≤a0))=true then
 some (decide (a0≤a2))
 else
 some false)
def f162L0 (a0:Member) (p0:Int):Option ((Unit⊕Unit)⊕Int) :=
 (if (decide (p0<(a0.2.2.2.2.2.length:Int)))=true then
 (idx a0.2.2.2.2.2 p0).bind fun x1 =>
 (f163 (x1.2.2.2.1.length:Int) 1 2).bind fun x2 =>
 (if (!x2)=true then
 some (.inl (.inr ()))
 else
 some (.inr (w64 (p0+1))))
 else
 some (.inl (.inl ())))
def f162 (a0:Member):Option Bool :=
 (loopF (f162L0 a0) 0).bind fun x3 =>
 caseT x3 (fun _ =>
 (f163 (a0.2.2.2.2.2.length:Int) 1 4).bind fun x5 =>
 some x5) (fun _ =>
 some false)
def f109L0 (x0:(List Member)) (p1:Int):Option ((Unit⊕Unit)⊕Int) :=
 (if (decide (p1<(x0.length:Int)))=true then
 (idx x0 p1).bind fun x2 =>
 (f162 x2).bind fun x3 =>
 (if (!x3)=true then
 some (.inl (.inr ()))
 else
 some (.inr (w64 (p1+1))))
 else
 some (.inl (.inl ())))
def f109 (a0:Database):Option Bool :=
 (f117 a0).bind fun x0 =>
 (loopF (f109L0 x0) 0).bind fun x4 =>
 caseT x4 (fun _ =>
 (if (decide ((a0.2.2.1.length:Int)≤4))=true then
 some (decide ((a0.2.2.2.length:Int)≤32))
 else
 some false)) (fun _ =>
 some false)
def f97 (a0:Addr):Option Bool :=
 (if a0.1=true then
 some true
 else
 (if (a0.2.1==0)=true then
 some (decide (a0.2.2<4294967296))
 else
 some false))
def f186 (a0:Addr):Option Int :=
 (if a0.1=true then
 some 128
 else
 some 32)
def f214 (a0:Int):Option (Int×Int) :=
 (if (decide (64<a0))=true then
 chk (ge0T (IntKind.u64.wrap (w64 (a0-64)))) <|
 let y0:Int:=(shlI .u64 1 (IntKind.u64.wrap (w64 (a0-64))))
 some ((IntKind.u64.wrap (y0-1)),18446744073709551615)
 else
 chk (ge0T (IntKind.u64.wrap a0)) <|
 let y1:Int:=(IntKind.u64.wrap ((shlI .u64 1 (IntKind.u64.wrap a0))-1))
 some (0,y1))
def f201 (a0:Addr) (a1:Int):Option Addr :=
 (f186 a0).bind fun x0 =>
 (f214 (w64 (x0-a1))).bind fun x1 =>
 let y2:Addr:=(a0.1,(bitI .andNot .u64 a0.2.1 x1.1),a0.2.2)
 let y3:Addr:=(y2.1,y2.2.1,(bitI .andNot .u64 y2.2.2 x1.2))
 some y3
def f164 (a0:Prefix):Option Bool :=
 (f97 a0.1).bind fun x0 =>
 (if x0=true then
 (if (decide (0≤a0.2))=true then
 (f186 a0.1).bind fun x1 =>
 (if (decide (a0.2≤x1))=true then
 (f201 a0.1 a0.2).bind fun x2 =>
 some (Ty.eqT cAddr x2 a0.1)
 else
 some false)
 else
 some false)
 else
 some false)
def f241L0 (a1:Int) (p0:(List UInt8)):Option ((List UInt8)⊕(List UInt8)) :=
 (if (decide (0<(p0.length:Int)))=true then
 (sidxT p0 (w64 ((p0.length:Int)-1))).bind fun x1 =>
 (if (x1==a1)=true then
 chk (leT (w64 ((p0.length:Int)-1)) p0.length) <|
 let y2:(List UInt8):=(List.take (Int.toNat (w64 ((p0.length:Int)-1))) p0)
 some (.inr y2)
 else
 some (.inl p0))
 else
 some (.inl p0))
def f241 (a0:(List UInt8)) (a1:Int):Option (List UInt8) :=
 (loopF (f241L0 a1) a0).bind fun x3 =>
 some x3
def f240L0 (a1:Int) (p0:(List UInt8)):Option ((List UInt8)⊕(List UInt8)) :=
 (if (decide (0<(p0.length:Int)))=true then
 (sidxT p0 0).bind fun x1 =>
 (if (x1==a1)=true then
 chk (leT 1 p0.length) <|
 some (.inr (List.drop (Int.toNat 1) p0))
 else
 some (.inl p0))
 else
 some (.inl p0))
def f240 (a0:(List UInt8)) (a1:Int):Option (List UInt8) :=
 (loopF (f240L0 a1) a0).bind fun x2 =>
 some x2
def f242L0 (a0:(List UInt8)) (p0:(Int×asciiSet)):Option ((asciiSet⊕asciiSet)⊕(Int×asciiSet)) :=
 (if (decide (p0.1<(a0.length:Int)))=true then
 (sidxT a0 p0.1).bind fun x1 =>
 (if (decide (128≤x1))=true then
 some (.inl (.inr p0.2))
 else
 chk (ltcT x1 256) <|
 (idx p0.2 x1).bind fun _ =>
 some (.inr ((w64 (p0.1+1)),(List.set p0.2 (Int.toNat x1) true))))
 else
 some (.inl (.inl p0.2)))
def f242 (a0:(List UInt8)):Option (Bool×asciiSet) :=
 (loopF (f242L0 a0) (0,(List.replicate 256 false))).bind fun x3 =>
 caseT x3 (fun x4 =>
 some (true,x4)) (fun x5 =>
 some (false,x5))
def f263 (a0:Int) (a1:asciiSet):Option Bool :=
 chk (ltcT a0 256) <|
 (idx a1 a0).bind fun x0 =>
 some x0
def f244L0 (a1:asciiSet) (p0:(List UInt8)):Option ((List UInt8)⊕(List UInt8)) :=
 (if (decide (0<(p0.length:Int)))=true then
 (sidxT p0 (w64 ((p0.length:Int)-1))).bind fun x1 =>
 (f263 x1 a1).bind fun x2 =>
 (if (!x2)=true then
 some (.inl p0)
 else
 chk (leT (w64 ((p0.length:Int)-1)) p0.length) <|
 let y3:(List UInt8):=(List.take (Int.toNat (w64 ((p0.length:Int)-1))) p0)
 some (.inr y3))
 else
 some (.inl p0))
def f244 (a0:(List UInt8)) (a1:asciiSet):Option (List UInt8) :=
 (loopF (f244L0 a1) a0).bind fun x4 =>
 some x4
def f243L0 (a1:asciiSet) (p0:(List UInt8)):Option ((List UInt8)⊕(List UInt8)) :=
 (if (decide (0<(p0.length:Int)))=true then
 (sidxT p0 0).bind fun x1 =>
 (f263 x1 a1).bind fun x2 =>
 (if (!x2)=true then
 some (.inl p0)
 else
 chk (leT 1 p0.length) <|
 some (.inr (List.drop (Int.toNat 1) p0)))
 else
 some (.inl p0))
def f243 (a0:(List UInt8)) (a1:asciiSet):Option (List UInt8) :=
 (loopF (f243L0 a1) a0).bind fun x3 =>
 some x3
def f212 (a0:(List UInt8)) (a1:(List UInt8)):Option (List UInt8) :=
 (if (a0==([]:List UInt8))=true then
 some a0
 else
 (if (a1==([]:List UInt8))=true then
 some a0
 else
 jn (fun(u0:Bool) =>
 (if u0=true then
 (sidxT a1 0).bind fun x1 =>
 (f241 a0 x1).bind fun x2 =>
 (sidxT a1 0).bind fun x3 =>
 (f240 x2 x3).bind fun x4 =>
 some x4
 else
 (f242 a1).bind fun x5 =>
 (if x5.1=true then
 (f244 a0 x5.2).bind fun x6 =>
 (f243 x6 x5.2).bind fun x7 =>
 some x7
 else
 none))) (fun t8 =>
 (if ((a1.length:Int)==1)=true then
 (sidxT a1 0).bind fun x9 =>
 t8 (decide (x9<128))
 else
 t8 false))))
def f165 (a0:(List UInt8)):Option Bool :=
 (f212 a0 ([97,98,99,100,101,102,103,104,105,106,107,108,109,110,111,112,113,114,115,116,117,118,119,120,121,122,65,66,67,68,69,70,71,72,73,74,75,76,77,78,79,80,81,82,83,84,85,86,87,88,89,90,48,49,50,51,52,53,54,55,56,57,45,58]:List UInt8)).bind fun x0 =>
 let _:(List UInt8):=([97,98,99,100,101,102,103,104,105,106,107,108,109,110,111,112,113,114,115,116,117,118,119,120,121,122,65,66,67,68,69,70,71,72,73,74,75,76,77,78,79,80,81,82,83,84,85,86,87,88,89,90,48,49,50,51,52,53,54,55,56,57,45,58]:List UInt8)
 (f163 (a0.length:Int) 1 32).bind fun x2 =>
 (if x2=true then
 some (x0==([]:List UInt8))
 else
 some false)
def f90 (a0:MAC):Option Bool :=
 (idx a0 0).bind fun x0 =>
 some ((bitI .and .u8 x0 1)==1)
def f168L0 (a0:Port) (p0:Int):Option ((Unit⊕Unit)⊕Int) :=
 (if (decide (p0<(a0.2.2.2.1.length:Int)))=true then
 (idx a0.2.2.2.1 p0).bind fun x1 =>
 (f90 x1).bind fun x2 =>
 (if x2=true then
 some (.inl (.inr ()))
 else
 let y3:Bool:=(Ty.eqT cMAC x1 ([0,0,0,0,0,0]:List Int))
 (if y3=true then
 some (.inl (.inr ()))
 else
 some (.inr (w64 (p0+1)))))
 else
 some (.inl (.inl ())))
def f168 (a0:Port):Option Bool :=
 (loopF (f168L0 a0) 0).bind fun x4 =>
 caseT x4 (fun _ =>
 (f163 a0.1 1 999).bind fun x6 =>
 (if x6=true then
 (f163 a0.2.1 0 7).bind fun x7 =>
 (if x7=true then
 (f163 a0.2.2.1 1 400).bind fun x8 =>
 (if x8=true then
 (f97 a0.2.2.2.2.1).bind fun x9 =>
 (if x9=true then
 (if (!a0.2.2.2.2.1.1)=true then
 (if (Ty.eqT cAddr a0.2.2.2.2.2 (false,0,0))=true then
 (if (!(Ty.eqT cAddr a0.2.2.2.2.1 (false,0,0)))=true then
 some true
 else
 some (!(Ty.eqT cAddr a0.2.2.2.2.2 (false,0,0))))
 else
 (if a0.2.2.2.2.2.1=true then
 (if (!(Ty.eqT cAddr a0.2.2.2.2.1 (false,0,0)))=true then
 some true
 else
 some (!(Ty.eqT cAddr a0.2.2.2.2.2 (false,0,0))))
 else
 some false))
 else
 some false)
 else
 some false)
 else
 some false)
 else
 some false)
 else
 some false)) (fun _ =>
 some false)
def f167 (a0:Port):Option Bool :=
 (f168 a0).bind fun x0 =>
 some (!x0)
def f213L0 (a0:(List Port)) (p0:Int):Option ((Unit⊕Int)⊕Int) :=
 (if (decide (p0<(a0.length:Int)))=true then
 (idx a0 p0).bind fun x1 =>
 (f167 x1).bind fun x2 =>
 (if x2=true then
 some (.inl (.inr p0))
 else
 some (.inr (w64 (p0+1))))
 else
 some (.inl (.inl ())))
def f213 (a0:(List Port)):Option Int :=
 (loopF (f213L0 a0) 0).bind fun x3 =>
 caseT x3 (fun _ =>
 some (-1)) (fun x5 =>
 some x5)
def f166 (a0:(List Port)):Option Bool :=
 (f213 a0).bind fun x0 =>
 some (decide (0≤x0))
def f110L0 (x4:(List Member)) (p5:Int):Option ((Unit⊕Unit)⊕Int) :=
 (if (decide (p5<(x4.length:Int)))=true then
 (idx x4 p5).bind fun x6 =>
 (f163 x6.1 1 4294967295).bind fun x7 =>
 (if (!x7)=true then
 some (.inl (.inr ()))
 else
 (f165 x6.2.1).bind fun x8 =>
 (if (!x8)=true then
 some (.inl (.inr ()))
 else
 (if (!(x6.2.2.1==([]:List UInt8)))=true then
 (f165 x6.2.2.1).bind fun x9 =>
 (if (!x9)=true then
 some (.inl (.inr ()))
 else
 (if (x6.2.2.1==([45]:List UInt8))=true then
 some (.inl (.inr ()))
 else
 (f163 x6.2.2.2.1 0 512).bind fun x10 =>
 (if (!x10)=true then
 some (.inl (.inr ()))
 else
 (f163 x6.2.2.2.2.1 0 512).bind fun x11 =>
 (if (!x11)=true then
 some (.inl (.inr ()))
 else
 (f166 x6.2.2.2.2.2).bind fun x12 =>
 (if x12=true then
 some (.inl (.inr ()))
 else
 some (.inr (w64 (p5+1))))))))
 else
 (if (x6.2.2.1==([45]:List UInt8))=true then
 some (.inl (.inr ()))
 else
 (f163 x6.2.2.2.1 0 512).bind fun x13 =>
 (if (!x13)=true then
 some (.inl (.inr ()))
 else
 (f163 x6.2.2.2.2.1 0 512).bind fun x14 =>
 (if (!x14)=true then
 some (.inl (.inr ()))
 else
 (f166 x6.2.2.2.2.2).bind fun x15 =>
 (if x15=true then
 some (.inl (.inr ()))
 else
 some (.inr (w64 (p5+1))))))))))
 else
 some (.inl (.inl ())))
def f110 (a0:Database):Option Bool :=
 (f164 a0.1).bind fun x0 =>
 (if (!x0)=true then
 some false
 else
 (if a0.1.1.1=true then
 some false
 else
 (f163 a0.1.2 8 30).bind fun x1 =>
 (if (!x1)=true then
 some false
 else
 (f164 a0.2.1).bind fun x2 =>
 (if (!x2)=true then
 some false
 else
 (if (!a0.2.1.1.1)=true then
 some false
 else
 (f163 a0.2.1.2 32 64).bind fun x3 =>
 (if (!x3)=true then
 some false
 else
 (f117 a0).bind fun x4 =>
 (loopF (f110L0 x4) 0).bind fun x16 =>
 caseT x16 (fun _ =>
 some true) (fun _ =>
 some false)))))))
def f129L0 (x0:(List Member)) (p1:(Int×(List Port))):Option ((List Port)⊕(Int×(List Port))) :=
 (if (decide (p1.1<(x0.length:Int)))=true then
 (idx x0 p1.1).bind fun x2 =>
 chk (decide ((p1.2++x2.2.2.2.2.2).length≤LIM)) <|
 some (.inr ((w64 (p1.1+1)),(p1.2++x2.2.2.2.2.2)))
 else
 some (.inl p1.2))
def f129 (a0:Database):Option (List Port) :=
 (f117 a0).bind fun x0 =>
 (loopF (f129L0 x0) (0,([]:List Port))).bind fun x3 =>
 some x3
def f146 (a0:Prefix) (a1:Addr):Option Bool :=
 (if (a0.1.1==a1.1)=true then
 (if (decide (0≤a0.2))=true then
 (f186 a1).bind fun x0 =>
 (if (decide (a0.2≤x0))=true then
 (f201 a1 a0.2).bind fun x1 =>
 some (Ty.eqT cAddr x1 a0.1)
 else
 some false)
 else
 some false)
 else
 some false)
def f169 (a0:Prefix):Option Addr :=
 (f164 a0).bind fun x0 =>
 (if (!x0)=true then
 some (false,0,0)
 else
 (f186 a0.1).bind fun x1 =>
 (f214 (w64 (x1-a0.2))).bind fun x2 =>
 let y3:Prefix:=((a0.1.1,(bitI .or .u64 a0.1.2.1 x2.1),a0.1.2.2),a0.2)
 let y4:Prefix:=((y3.1.1,y3.1.2.1,(bitI .or .u64 y3.1.2.2 x2.2)),y3.2)
 some y4.1)
def f111L0 (a0:Database) (x0:(List Port)) (p1:Int):Option ((Unit⊕Unit)⊕Int) :=
 (if (decide (p1<(x0.length:Int)))=true then
 (idx x0 p1).bind fun x2 =>
 jn (fun(_:Unit) =>
 (if (!(Ty.eqT cAddr x2.2.2.2.2.2 (false,0,0)))=true then
 (f146 a0.2.1 x2.2.2.2.2.2).bind fun x4 =>
 (if (!x4)=true then
 some (.inl (.inr ()))
 else
 (if (Ty.eqT cAddr x2.2.2.2.2.2 a0.2.1.1)=true then
 some (.inl (.inr ()))
 else
 some (.inr (w64 (p1+1)))))
 else
 some (.inr (w64 (p1+1))))) (fun t5 =>
 (if (!(Ty.eqT cAddr x2.2.2.2.2.1 (false,0,0)))=true then
 (f146 a0.1 x2.2.2.2.2.1).bind fun x6 =>
 (if (!x6)=true then
 some (.inl (.inr ()))
 else
 (if (Ty.eqT cAddr x2.2.2.2.2.1 a0.1.1)=true then
 some (.inl (.inr ()))
 else
 (f169 a0.1).bind fun x7 =>
 (if (Ty.eqT cAddr x2.2.2.2.2.1 x7)=true then
 some (.inl (.inr ()))
 else
 t5 ())))
 else
 t5 ()))
 else
 some (.inl (.inl ())))
def f111 (a0:Database):Option Bool :=
 (f129 a0).bind fun x0 =>
 (loopF (f111L0 a0 x0) 0).bind fun x8 =>
 caseT x8 (fun _ =>
 some true) (fun _ =>
 some false)
def f170 (a0:Int) (a1:(List (Int×Bool))):Option (Bool×(List (Int×Bool))) :=
 let y0:Bool:=(Option.getD (mget (Ty.eqT (.int .i64)) a1 a0) false)
 some ((!y0),(mput (Ty.eqT (.int .i64)) a1 a0 true))
def f171 (a0:(List UInt8)) (a1:(List ((List UInt8)×Bool))):Option (Bool×(List ((List UInt8)×Bool))) :=
 let y0:Bool:=(Option.getD (mget (Ty.eqT .str) a1 a0) false)
 some ((!y0),(mput (Ty.eqT .str) a1 a0 true))
def f172 (a0:MAC) (a1:(List (MAC×Bool))):Option (Bool×(List (MAC×Bool))) :=
 let y0:Bool:=(Option.getD (mget (Ty.eqT cMAC) a1 a0) false)
 some ((!y0),(mput (Ty.eqT cMAC) a1 a0 true))
def f173 (a0:Addr) (a1:(List (Addr×Bool))):Option (Bool×(List (Addr×Bool))) :=
 let y0:Bool:=(Option.getD (mget (Ty.eqT cAddr) a1 a0) false)
 some ((!y0),(mput (Ty.eqT cAddr) a1 a0 true))
def f112L0 (a0:Database) (p0:(Int×(List (Int×Bool)))):Option (((List (Int×Bool))⊕Unit)⊕(Int×(List (Int×Bool)))) :=
 (if (decide (p0.1<(a0.2.2.1.length:Int)))=true then
 (idx a0.2.2.1 p0.1).bind fun x1 =>
 (if (decide (0<p0.1))=true then
 (idx a0.2.2.1 0).bind fun x2 =>
 (if (x1.1 != x2.1)=true then
 some (.inl (.inr ()))
 else
 some (.inr ((w64 (p0.1+1)),(mput (Ty.eqT (.int .i64)) p0.2 x1.1 true))))
 else
 some (.inr ((w64 (p0.1+1)),(mput (Ty.eqT (.int .i64)) p0.2 x1.1 true))))
 else
 some (.inl (.inl p0.2)))
def f112L1 (a0:Database) (p5:(Bool×(Int×(List (Int×Bool))))):Option (Bool⊕(Bool×(Int×(List (Int×Bool))))) :=
 (if (decide (p5.2.1<(a0.2.2.2.length:Int)))=true then
 (idx a0.2.2.2 p5.2.1).bind fun x6 =>
 (f170 x6.1 p5.2.2).bind fun x7 =>
 (if x7.1=true then
 some (.inr (p5.1,(w64 (p5.2.1+1)),x7.2))
 else
 some (.inr (false,(w64 (p5.2.1+1)),x7.2)))
 else
 some (.inl p5.1))
def f112L2 (x9:(List Member)) (p10:(Bool×(Int×(List ((List UInt8)×Bool))))):Option (Bool⊕(Bool×(Int×(List ((List UInt8)×Bool))))) :=
 (if (decide (p10.2.1<(x9.length:Int)))=true then
 (idx x9 p10.2.1).bind fun x11 =>
 (f171 x11.2.1 p10.2.2).bind fun x12 =>
 (if x12.1=true then
 some (.inr (p10.1,(w64 (p10.2.1+1)),x12.2))
 else
 some (.inr (false,(w64 (p10.2.1+1)),x12.2)))
 else
 some (.inl p10.1))
def f112L4 (x16:Port) (p18:(Bool×(Int×(List (MAC×Bool))))):Option ((Bool×(List (MAC×Bool)))⊕(Bool×(Int×(List (MAC×Bool))))) :=
 let y19:Bool:=(decide (p18.2.1<(x16.2.2.2.1.length:Int)))
 (if y19=true then
 (idx x16.2.2.2.1 p18.2.1).bind fun x20 =>
 (f172 x20 p18.2.2).bind fun x21 =>
 (if x21.1=true then
 some (.inr (p18.1,(w64 (p18.2.1+1)),x21.2))
 else
 some (.inr (false,(w64 (p18.2.1+1)),x21.2)))
 else
 some (.inl (p18.1,p18.2.2)))
def f112L5 (x16:Port) (y23:Int) (p24:(Bool×(Int×(List (Addr×Bool))))):Option ((Bool×(List (Addr×Bool)))⊕(Bool×(Int×(List (Addr×Bool))))) :=
 (if (decide (p24.2.1<y23))=true then
 (idx ([x16.2.2.2.2.1,x16.2.2.2.2.2]:List Addr) p24.2.1).bind fun x25 =>
 (if (Ty.eqT cAddr x25 (false,0,0))=true then
 some (.inr (p24.1,(w64 (p24.2.1+1)),p24.2.2))
 else
 (f173 x25 p24.2.2).bind fun x26 =>
 (if x26.1=true then
 some (.inr (p24.1,(w64 (p24.2.1+1)),x26.2))
 else
 some (.inr (false,(w64 (p24.2.1+1)),x26.2))))
 else
 some (.inl (p24.1,p24.2.2)))
def f112L3 (x14:(List Port)) (p15:(Bool×(Int×((List (Int×Bool))×((List (MAC×Bool))×(List (Addr×Bool))))))):Option (Bool⊕(Bool×(Int×((List (Int×Bool))×((List (MAC×Bool))×(List (Addr×Bool))))))) :=
 (if (decide (p15.2.1<(x14.length:Int)))=true then
 (idx x14 p15.2.1).bind fun x16 =>
 jn (fun(u17:(Bool×(List (Int×Bool)))) =>
 (loopF (f112L4 x16) (u17.1,0,p15.2.2.2.1)).bind fun x22 =>
 let y23:Int:=(([x16.2.2.2.2.1,x16.2.2.2.2.2]:List Addr).length:Int)
 (loopF (f112L5 x16 y23) (x22.1,0,p15.2.2.2.2)).bind fun x27 =>
 some (.inr (x27.1,(w64 (p15.2.1+1)),u17.2,x22.2,x27.2))) (fun t28 =>
 (f170 x16.1 p15.2.2.1).bind fun x29 =>
 (if x29.1=true then
 t28 (p15.1,x29.2)
 else
 t28 (false,x29.2)))
 else
 some (.inl p15.1))
def f112 (a0:Database):Option Bool :=
 (loopF (f112L0 a0) (0,([]:List (Int×Bool)))).bind fun x3 =>
 caseT x3 (fun x4 =>
 (loopF (f112L1 a0) (true,0,x4)).bind fun x8 =>
 (f117 a0).bind fun x9 =>
 (loopF (f112L2 x9) (x8,0,([]:List ((List UInt8)×Bool)))).bind fun x13 =>
 (f129 a0).bind fun x14 =>
 (loopF (f112L3 x14) (x13,0,([]:List (Int×Bool)),([]:List (MAC×Bool)),([]:List (Addr×Bool)))).bind fun x30 =>
 some x30) (fun _ =>
 some false)
def f63 (a0:Database):Option Int :=
 (f109 a0).bind fun x0 =>
 (if (!x0)=true then
 some 3
 else
 (f110 a0).bind fun x1 =>
 (if (!x1)=true then
 some 1
 else
 (f111 a0).bind fun x2 =>
 (if (!x2)=true then
 some 9
 else
 (f112 a0).bind fun x3 =>
 (if (!x3)=true then
 some 8
 else
 some 0))))
def f54L0 (p2:(Int×(Addr×(List Int)))):Option ((List Int)⊕(Int×(Addr×(List Int)))) :=
 (if (decide (0≤p2.1))=true then
 (idx p2.2.2 p2.1).bind fun _ =>
 (idx p2.2.2 p2.1).bind fun _ =>
 let y5:(List Int):=(List.set p2.2.2 (Int.toNat p2.1) (IntKind.u8.wrap p2.2.1.2.2))
 let y6:Int:=(bitI .or .u64 (shrI .u64 p2.2.1.2.2 8) (shlI .u64 p2.2.1.2.1 56))
 chk (decide (y5.length=p2.2.2.length)) <|
 some (.inr ((w64 (p2.1-1)),(p2.2.1.1,(shrI .u64 p2.2.1.2.1 8),y6),y5))
 else
 some (.inl p2.2.2))
def f54 (a0:Addr):Option (List Int) :=
 (f97 a0).bind fun x0 =>
 (if (!x0)=true then
 some ([]:List Int)
 else
 jn (fun(u1:Int) =>
 chk (((ge0T u1)&&(decide (u1≤u1)))&&(fitIT u1)) <|
 (loopF (f54L0) ((w64 (u1-1)),a0,(List.replicate (Int.toNat u1) 0))).bind fun x7 =>
 some x7) (fun t8 =>
 (if a0.1=true then
 t8 16
 else
 t8 4)))
def f217L0 (p0:(Int×(Addr×(List Int)))):Option ((List Int)⊕(Int×(Addr×(List Int)))) :=
 (if (decide (0≤p0.1))=true then
 chk (ltcT p0.1 8) <|
 (idx p0.2.2 p0.1).bind fun _ =>
 let y2:(List Int):=(List.set p0.2.2 (Int.toNat p0.1) (bitI .and .u64 p0.2.1.2.2 65535))
 let y3:Int:=(bitI .or .u64 (shrI .u64 p0.2.1.2.2 16) (shlI .u64 p0.2.1.2.1 48))
 some (.inr ((w64 (p0.1-1)),(p0.2.1.1,(shrI .u64 p0.2.1.2.1 16),y3),y2))
 else
 some (.inl p0.2.2))
def f217 (a0:Addr):Option (List Int) :=
 (loopF (f217L0) (7,a0,(List.replicate 8 0))).bind fun x4 =>
 some x4
def f218L1 (a0:(List Int)) (p1:Int):Option (Int⊕Int) :=
 (if (decide (p1<8))=true then
 chk (ltcT p1 8) <|
 (idx a0 p1).bind fun x2 =>
 (if (x2==0)=true then
 some (.inr (w64 (p1+1)))
 else
 some (.inl p1))
 else
 some (.inl p1))
def f218L0 (a0:(List Int)) (p0:(Int×(Int×Int))):Option ((Int×Int)⊕(Int×(Int×Int))) :=
 (if (decide (p0.2.2<8))=true then
 (loopF (f218L1 a0) p0.2.2).bind fun x3 =>
 let y4:Bool:=(decide ((maxI p0.2.1 1)<(w64 (x3-p0.2.2))))
 (if y4=true then
 some (.inr (p0.2.2,(w64 (x3-p0.2.2)),(w64 (p0.2.2+1))))
 else
 some (.inr (p0.1,p0.2.1,(w64 (p0.2.2+1)))))
 else
 some (.inl (p0.1,p0.2.1)))
def f218 (a0:(List Int)):Option (Int×Int) :=
 (loopF (f218L0 a0) (0,0,0)).bind fun x5 =>
 some (x5.1,x5.2)
def f270:Option Bool :=
 some true
def f284 (a0:(List Int)):Option Int :=
 let y0:Int:=(bitI .and .u64 16 (IntKind.u64.wrap (0-16)))
 let y1:Int:=(shrI .u64 (IntKind.u64.wrap (y0*285870213051353865)) 58)
 (idx a0 y1).bind fun x2 =>
 some (w64 x2)
def f271 (a0:(List Int)):Option Int :=
 (f284 a0).bind fun x0 =>
 some x0
def f251L0 (x3:Int) (p4:(Int×(Int×(List Int)))):Option ((Int×(Int×(List Int)))⊕(Int×(Int×(List Int)))) :=
 (if (decide (16≤p4.1))=true then
 (sidxT ([48,49,50,51,52,53,54,55,56,57,97,98,99,100,101,102,103,104,105,106,107,108,109,110,111,112,113,114,115,116,117,118,119,120,121,122]:List UInt8) (bitI .and .u64 p4.1 15)).bind fun x5 =>
 chk (ltcT (w64 (p4.2.1-1)) 65) <|
 (idx p4.2.2 (w64 (p4.2.1-1))).bind fun _ =>
 let y7:(List Int):=(List.set p4.2.2 (Int.toNat (w64 (p4.2.1-1))) x5)
 chk (ge0T (IntKind.u64.wrap x3)) <|
 some (.inr ((shrI .u64 p4.1 (IntKind.u64.wrap x3)),(w64 (p4.2.1-1)),y7))
 else
 some (.inl (p4.1,p4.2.1,p4.2.2)))
def f251L1 (p12:(Int×(Int×(List Int)))):Option ((Int×(Int×(List Int)))⊕(Int×(Int×(List Int)))) :=
 (if (decide (16≤p12.1))=true then
 let y13:Int:=(IntKind.u64.wrap ((IntKind.u64.wrap (Int.tdiv p12.1 16))*16))
 (sidxT ([48,49,50,51,52,53,54,55,56,57,97,98,99,100,101,102,103,104,105,106,107,108,109,110,111,112,113,114,115,116,117,118,119,120,121,122]:List UInt8) (IntKind.u64.wrap (p12.1-y13))).bind fun x14 =>
 chk (ltcT (w64 (p12.2.1-1)) 65) <|
 (idx p12.2.2 (w64 (p12.2.1-1))).bind fun _ =>
 let y16:(List Int):=(List.set p12.2.2 (Int.toNat (w64 (p12.2.1-1))) x14)
 some (.inr ((IntKind.u64.wrap (Int.tdiv p12.1 16)),(w64 (p12.2.1-1)),y16))
 else
 some (.inl (p12.1,p12.2.1,p12.2.2)))
def f251 (_:(List Int)) (a1:Int) (a2:(List Int)):Option ((List Int)×(List UInt8)) :=
 jn (fun(u0:(Int×(List Int))) =>
 chk (ltcT u0.1 66) <|
 some (([]:List Int),(b2sT (List.drop (Int.toNat u0.1) u0.2)))) (fun t1 =>
 (f270).bind fun x2 =>
 (if x2=true then
 (f271 a2).bind fun x3 =>
 (loopF (f251L0 x3) (a1,65,(List.replicate 65 0))).bind fun x8 =>
 (sidxT ([48,49,50,51,52,53,54,55,56,57,97,98,99,100,101,102,103,104,105,106,107,108,109,110,111,112,113,114,115,116,117,118,119,120,121,122]:List UInt8) x8.1).bind fun x9 =>
 chk (ltcT (w64 (x8.2.1-1)) 65) <|
 (idx x8.2.2 (w64 (x8.2.1-1))).bind fun _ =>
 let y11:(List Int):=(List.set x8.2.2 (Int.toNat (w64 (x8.2.1-1))) x9)
 t1 ((w64 (x8.2.1-1)),y11)
 else
 (loopF (f251L1) (a1,65,(List.replicate 65 0))).bind fun x17 =>
 (sidxT ([48,49,50,51,52,53,54,55,56,57,97,98,99,100,101,102,103,104,105,106,107,108,109,110,111,112,113,114,115,116,117,118,119,120,121,122]:List UInt8) x17.1).bind fun x18 =>
 chk (ltcT (w64 (x17.2.1-1)) 65) <|
 (idx x17.2.2 (w64 (x17.2.1-1))).bind fun _ =>
 let y20:(List Int):=(List.set x17.2.2 (Int.toNat (w64 (x17.2.1-1))) x18)
 t1 ((w64 (x17.2.1-1)),y20)))
def f266 (a0:Int) (_:(List Int)) (a2:(List Int)):Option (List UInt8) :=
 (f251 ([]:List Int) a0 a2).bind fun x0 =>
 some x0.2
def f247 (a0:Int) (a1:(List Int)) (a2:(List Int)):Option (List UInt8) :=
 (f266 a0 a1 a2).bind fun x0 =>
 some x0
def f219L0 (a0:(List Int)) (a1:(List Int)) (a2:(List Int)) (p0:(Int×(List (List UInt8)))):Option ((List (List UInt8))⊕(Int×(List (List UInt8)))) :=
 (if (decide (p0.1<(a0.length:Int)))=true then
 (idx a0 p0.1).bind fun x1 =>
 (f247 x1 a1 a2).bind fun x2 =>
 chk (decide ((p0.2++([x2]:List (List UInt8))).length≤LIM)) <|
 some (.inr ((w64 (p0.1+1)),(p0.2++([x2]:List (List UInt8)))))
 else
 some (.inl p0.2))
def f219 (a0:(List Int)) (a1:(List Int)) (a2:(List Int)):Option (List UInt8) :=
 (loopF (f219L0 a0 a1 a2) (0,([]:List (List UInt8)))).bind fun x3 =>
 (f115 x3 ([58]:List UInt8)).bind fun x4 =>
 some x4
def f176L0 (a1:(List Int)) (x0:(List Int)) (p1:(Int×(List (List UInt8)))):Option ((List (List UInt8))⊕(Int×(List (List UInt8)))) :=
 (if (decide (p1.1<(x0.length:Int)))=true then
 (idx x0 p1.1).bind fun x2 =>
 (f118 (w64 x2) a1).bind fun x3 =>
 chk (decide ((p1.2++([x3]:List (List UInt8))).length≤LIM)) <|
 some (.inr ((w64 (p1.1+1)),(p1.2++([x3]:List (List UInt8)))))
 else
 some (.inl p1.2))
def f176 (a0:Addr) (a1:(List Int)) (a2:(List Int)):Option (List UInt8) :=
 (if (!a0.1)=true then
 (f54 a0).bind fun x0 =>
 (loopF (f176L0 a1 x0) (0,([]:List (List UInt8)))).bind fun x4 =>
 (f115 x4 ([46]:List UInt8)).bind fun x5 =>
 some x5
 else
 (f217 a0).bind fun x6 =>
 (f218 x6).bind fun x7 =>
 (if (x7.2==0)=true then
 (f219 x6 a1 a2).bind fun x8 =>
 some x8
 else
 chk (ltcT x7.1 9) <|
 (f219 (List.take (Int.toNat x7.1) x6) a1 a2).bind fun x9 =>
 chk (decide ((x9++([58,58]:List UInt8)).length≤LIM)) <|
 chk (ltcT (w64 (x7.1+x7.2)) 9) <|
 let y10:(List Int):=(List.drop (Int.toNat (w64 (x7.1+x7.2))) x6)
 (f219 y10 a1 a2).bind fun x11 =>
 chk (decide (((x9++([58,58]:List UInt8))++x11).length≤LIM)) <|
 some ((x9++([58,58]:List UInt8))++x11)))
def f116 (a0:Prefix) (a1:(List Int)) (a2:(List Int)):Option (List UInt8) :=
 (f164 a0).bind fun x0 =>
 (if (!x0)=true then
 some ([]:List UInt8)
 else
 (f176 a0.1 a1 a2).bind fun x1 =>
 chk (decide ((x1++([47]:List UInt8)).length≤LIM)) <|
 (f118 a0.2 a1).bind fun x2 =>
 chk (decide (((x1++([47]:List UInt8))++x2).length≤LIM)) <|
 some ((x1++([47]:List UInt8))++x2))
def f114 (a0:(List UInt8)):Option (Int×(List Int)) :=
 (f174).bind fun _ =>
 chk (decide (a0.length≤LIM)) <|
 some ((a0.length:Int),(s2bT a0))
def f113 (a0:(List (List UInt8))):Option (List Int) :=
 (f115 a0 ([32]:List UInt8)).bind fun x0 =>
 chk (decide ((x0++([10]:List UInt8)).length≤LIM)) <|
 (f114 (x0++([10]:List UInt8))).bind fun x1 =>
 some x1.2
def f179L0 (a0:(List (List UInt8))) (p0:Int):Option ((Unit⊕(List UInt8))⊕Int) :=
 (if (decide (p0<(a0.length:Int)))=true then
 (idx a0 p0).bind fun x1 =>
 (if (!(x1==([]:List UInt8)))=true then
 some (.inl (.inr x1))
 else
 some (.inr (w64 (p0+1))))
 else
 some (.inl (.inl ())))
def f179 (a0:(List (List UInt8))):Option (List UInt8) :=
 (loopF (f179L0 a0) 0).bind fun x2 =>
 caseT x2 (fun _ =>
 some ([]:List UInt8)) (fun x4 =>
 some x4)
def f119 (a0:(List UInt8)):Option (List UInt8) :=
 let y0:(List (List UInt8)):=([a0,([45]:List UInt8)]:List (List UInt8))
 (f179 y0).bind fun x1 =>
 some x1
def f174b (_:(List Int)):Option Unit :=
 some ()
def f114b (a0:(List UInt8)) (a1:(List Int)):Option (Int×(List Int)) :=
 (f174b a1).bind fun _ =>
 chk (decide ((a1++(s2bT a0)).length≤LIM)) <|
 some ((a0.length:Int),(a1++(s2bT a0)))
def f113b (a0:(List (List UInt8))) (a1:(List Int)):Option (List Int) :=
 (f115 a0 ([32]:List UInt8)).bind fun x0 =>
 chk (decide ((x0++([10]:List UInt8)).length≤LIM)) <|
 (f114b (x0++([10]:List UInt8)) a1).bind fun x1 =>
 some x1.2
def f120L0 (a0:MAC) (p0:(Int×(List (List UInt8)))):Option ((List (List UInt8))⊕(Int×(List (List UInt8)))) :=
 (if (decide (p0.1<6))=true then
 (idx a0 p0.1).bind fun x1 =>
 (sidxT ([48,49,50,51,52,53,54,55,56,57,97,98,99,100,101,102]:List UInt8) (shrI .u8 x1 4)).bind fun x2 =>
 (sidxT ([48,49,50,51,52,53,54,55,56,57,97,98,99,100,101,102]:List UInt8) (bitI .and .u8 x1 15)).bind fun x3 =>
 let y4:(List (List UInt8)):=([(b2sT ([x2,x3]:List Int))]:List (List UInt8))
 chk (decide ((p0.2++y4).length≤LIM)) <|
 some (.inr ((w64 (p0.1+1)),(p0.2++y4)))
 else
 some (.inl p0.2))
def f120 (a0:MAC):Option (List UInt8) :=
 (loopF (f120L0 a0) (0,([]:List (List UInt8)))).bind fun x5 =>
 (f115 x5 ([58]:List UInt8)).bind fun x6 =>
 some x6
def f121 (a0:Addr) (a1:(List Int)) (a2:(List Int)):Option (List UInt8) :=
 (if (Ty.eqT cAddr a0 (false,0,0))=true then
 some ([45]:List UInt8)
 else
 (f176 a0 a1 a2).bind fun x0 =>
 some x0)
def f122 (a0:(List Int)):Option (List UInt8) :=
 chk ((a0.length:Int) != 0) <|
 chk (((a0.length:Int) != 0)&&((a0.length:Int)==(a0.length:Int))) <|
 some (b2sT a0)
def f64L2 (x16:Port) (p17:(Int×(List (List UInt8)))):Option ((List (List UInt8))⊕(Int×(List (List UInt8)))) :=
 let y18:Bool:=(decide (p17.1<(x16.2.2.2.1.length:Int)))
 (if y18=true then
 (idx x16.2.2.2.1 p17.1).bind fun x19 =>
 (f120 x19).bind fun x20 =>
 chk (decide ((p17.2++([x20]:List (List UInt8))).length≤LIM)) <|
 some (.inr ((w64 (p17.1+1)),(p17.2++([x20]:List (List UInt8)))))
 else
 some (.inl p17.2))
def f64L1 (a1:(List Int)) (a2:(List Int)) (x6:Member) (p14:(Int×(List Int))):Option ((List Int)⊕(Int×(List Int))) :=
 let y15:Bool:=(decide (p14.1<(x6.2.2.2.2.2.length:Int)))
 (if y15=true then
 (idx x6.2.2.2.2.2 p14.1).bind fun x16 =>
 (loopF (f64L2 x16) (0,([]:List (List UInt8)))).bind fun x21 =>
 (f118 x16.1 a1).bind fun x22 =>
 (f118 x16.2.1 a1).bind fun x23 =>
 (f118 x16.2.2.1 a1).bind fun x24 =>
 (f115 x21 ([44]:List UInt8)).bind fun x25 =>
 (f121 x16.2.2.2.2.1 a1 a2).bind fun x26 =>
 (f121 x16.2.2.2.2.2 a1 a2).bind fun x27 =>
 let y28:(List (List UInt8)):=([([112,111,114,116]:List UInt8),x22,x23,x24,x25,x26,x27]:List (List UInt8))
 (f113b y28 p14.2).bind fun x29 =>
 some (.inr ((w64 (p14.1+1)),x29))
 else
 some (.inl p14.2))
def f64L0 (a0:Database) (a1:(List Int)) (a2:(List Int)) (x4:(List Member)) (p5:(Int×(List Int))):Option ((List Int)⊕(Int×(List Int))) :=
 (if (decide (p5.1<(x4.length:Int)))=true then
 (idx x4 p5.1).bind fun x6 =>
 jn (fun(u7:(List UInt8)) =>
 (f118 x6.1 a1).bind fun x8 =>
 (f119 x6.2.2.1).bind fun x9 =>
 (f118 x6.2.2.2.1 a1).bind fun x10 =>
 (f118 x6.2.2.2.2.1 a1).bind fun x11 =>
 let y12:(List (List UInt8)):=([u7,x8,x6.2.1,x9,x10,x11]:List (List UInt8))
 (f113b y12 p5.2).bind fun x13 =>
 (loopF (f64L1 a1 a2 x6) (0,x13)).bind fun x30 =>
 some (.inr ((w64 (p5.1+1)),x30))) (fun t31 =>
 (if (decide (p5.1<(a0.2.2.1.length:Int)))=true then
 t31 ([115,101,114,118,101,114]:List UInt8)
 else
 t31 ([109,101,109,98,101,114]:List UInt8)))
 else
 some (.inl p5.2))
def f64 (a0:Database) (a1:(List Int)) (a2:(List Int)):Option (List UInt8) :=
 (f116 a0.1 a1 a2).bind fun x0 =>
 (f116 a0.2.1 a1 a2).bind fun x1 =>
 let y2:(List (List UInt8)):=([([108,97,110]:List UInt8),x0,x1]:List (List UInt8))
 (f113 y2).bind fun x3 =>
 (f117 a0).bind fun x4 =>
 (loopF (f64L0 a0 a1 a2 x4) (0,x3)).bind fun x32 =>
 (f122 x32).bind fun x33 =>
 some x33
def f31 (a0:Database) (a1:(List Int)) (a2:(List Int)):Option ((List UInt8)×Int) :=
 (f63 a0).bind fun x0 =>
 (if (x0 != 0)=true then
 some (([]:List UInt8),x0)
 else
 (f64 a0 a1 a2).bind fun x1 =>
 some (x1,0))
def f66 (a0:(List (List UInt8))) (a1:Bool):Option ((List UInt8)×((List (List UInt8))×Bool)) :=
 jn (fun(u0:Bool) =>
 (if u0=true then
 some (([]:List UInt8),a0,true)
 else
 (idx a0 0).bind fun x1 =>
 chk (leT 1 a0.length) <|
 some (x1,(List.drop (Int.toNat 1) a0),a1))) (fun t2 =>
 (if ((a0.length:Int)==0)=true then
 t2 true
 else
 (idx a0 0).bind fun x3 =>
 t2 (x3==([]:List UInt8))))
def f228L0 (a2:(List Int)) (x0:(List (List UInt8))) (p1:(Int×Int)):Option ((Int⊕Unit)⊕(Int×Int)) :=
 (if (decide (p1.1<(x0.length:Int)))=true then
 (idx x0 p1.1).bind fun x2 =>
 (f230 x2).bind fun x3 =>
 (if (decide (x3<0))=true then
 some (.inl (.inr ()))
 else
 (if (decide (255<x3))=true then
 some (.inl (.inr ()))
 else
 (f118 x3 a2).bind fun x4 =>
 (if (!(x4==x2))=true then
 some (.inl (.inr ()))
 else
 let y5:Int:=(bitI .or .u64 (shlI .u64 p1.2 8) (IntKind.u64.wrap x3))
 some (.inr ((w64 (p1.1+1)),y5)))))
 else
 some (.inl (.inl p1.2)))
def f228 (a0:(List UInt8)) (_:Int) (a2:(List Int)):Option (Bool×Addr) :=
 (f65 a0 ([46]:List UInt8)).bind fun x0 =>
 (if ((x0.length:Int) != 4)=true then
 some (false,false,0,0)
 else
 (loopF (f228L0 a2 x0) (0,0)).bind fun x6 =>
 caseT x6 (fun x7 =>
 some (true,false,0,x7)) (fun _ =>
 some (false,false,0,0)))
def f253 (a0:(List UInt8)) (a1:Int):Option Int :=
 let y0:Int:=(Lib.indexByte a0 (UInt8.ofNat (Int.toNat a1)))
 some y0
def f231 (a0:(List UInt8)) (a1:Int):Option Int :=
 (f253 a0 a1).bind fun x0 =>
 some x0
def f274L0 (a0:(List UInt8)) (p0:(Int×Int)):Option ((Int⊕Unit)⊕(Int×Int)) :=
 (if (decide (p0.2<((s2bT a0).length:Int)))=true then
 (idx (s2bT a0) p0.2).bind fun x1 =>
 (f231 ([48,49,50,51,52,53,54,55,56,57,97,98,99,100,101,102]:List UInt8) x1).bind fun x2 =>
 let _:(List UInt8):=([48,49,50,51,52,53,54,55,56,57,97,98,99,100,101,102]:List UInt8)
 jn (fun(u4:Int) =>
 (if (decide (u4<0))=true then
 some (.inl (.inr ()))
 else
 let y5:Int:=(bitI .or .u64 (shlI .u64 p0.1 4) (IntKind.u64.wrap u4))
 some (.inr (y5,(w64 (p0.2+1)))))) (fun t6 =>
 jn (fun(u7:Bool) =>
 (if u7=true then
 let y8:Int:=(w64 ((w64 (IntKind.u8.wrap (x1-65)))+10))
 t6 y8
 else
 t6 x2)) (fun t9 =>
 (if (decide (65≤x1))=true then
 t9 (decide (x1≤70))
 else
 t9 false)))
 else
 some (.inl (.inl p0.1)))
def f274 (a0:(List UInt8)):Option (Int×Bool) :=
 (if (decide ((a0.length:Int)<1))=true then
 some (0,false)
 else
 (if (decide (4<(a0.length:Int)))=true then
 some (0,false)
 else
 chk (decide (a0.length≤LIM)) <|
 (loopF (f274L0 a0) (0,0)).bind fun x10 =>
 caseT x10 (fun x11 =>
 some (x11,true)) (fun _ =>
 some (0,false))))
def f257L0 (a2:Int) (a3:(List Int)) (x0:(List (List UInt8))) (p1:(Bool×(Int×(List Int)))):Option (((List Int)⊕Unit)⊕(Bool×(Int×(List Int)))) :=
 (if (decide (p1.2.1<(x0.length:Int)))=true then
 (idx x0 p1.2.1).bind fun x2 =>
 (f228 x2 a2 a3).bind fun x3 =>
 jn (fun(u4:(Bool×Bool)) =>
 (if u4.2=true then
 let y5:(List Int):=([(shrI .u64 x3.2.2.2 16),(bitI .and .u64 x3.2.2.2 65535)]:List Int)
 chk (decide ((p1.2.2++y5).length≤LIM)) <|
 some (.inr (u4.1,(w64 (p1.2.1+1)),(p1.2.2++y5)))
 else
 (f274 x2).bind fun x6 =>
 (if (!x6.2)=true then
 some (.inl (.inr ()))
 else
 chk (decide ((p1.2.2++([x6.1]:List Int)).length≤LIM)) <|
 some (.inr (u4.1,(w64 (p1.2.1+1)),(p1.2.2++([x6.1]:List Int))))))) (fun t7 =>
 (if x3.1=true then
 (if p1.1=true then
 t7 (true,(p1.2.1==(w64 ((x0.length:Int)-1))))
 else
 t7 (false,false))
 else
 t7 (p1.1,false)))
 else
 some (.inl (.inl p1.2.2)))
def f257 (a0:(List UInt8)) (a1:Bool) (a2:Int) (a3:(List Int)):Option (Bool×(List Int)) :=
 (if (a0==([]:List UInt8))=true then
 some (true,([]:List Int))
 else
 (f65 a0 ([58]:List UInt8)).bind fun x0 =>
 (loopF (f257L0 a2 a3 x0) (a1,0,([]:List Int))).bind fun x8 =>
 caseT x8 (fun x9 =>
 some (true,x9)) (fun _ =>
 some (false,([]:List Int))))
def f229 (a0:(List UInt8)) (a1:Int) (a2:(List Int)):Option ((List Int)×Bool) :=
 (f183 a0 ([58,58]:List UInt8)).bind fun x0 =>
 (if (!x0.2.2)=true then
 (f257 a0 true a1 a2).bind fun x1 =>
 (if x1.1=true then
 some (x1.2,((x1.2.length:Int)==8))
 else
 some (x1.2,false))
 else
 (f257 x0.1 false a1 a2).bind fun x2 =>
 (f257 x0.2.1 true a1 a2).bind fun x3 =>
 (if (!x2.1)=true then
 some (([]:List Int),false)
 else
 (if (!x3.1)=true then
 some (([]:List Int),false)
 else
 let y4:Int:=(w64 ((x2.2.length:Int)+(x3.2.length:Int)))
 (if (decide (7<y4))=true then
 some (([]:List Int),false)
 else
 let y5:Int:=(w64 ((w64 (8-(x2.2.length:Int)))-(x3.2.length:Int)))
 chk ((decide (0<y5))&&(decide ((x2.2++(List.replicate (Int.toNat y5) 0)).length≤LIM))) <|
 chk (decide (((x2.2++(List.replicate (Int.toNat y5) 0))++x3.2).length≤LIM)) <|
 let y6:(List Int):=((x2.2++(List.replicate (Int.toNat y5) 0))++x3.2)
 some (y6,true)))))
def f184L0 (x2:((List Int)×Bool)) (p3:(Int×(Int×Int))):Option ((Int×Int)⊕(Int×(Int×Int))) :=
 (if (decide (p3.1<(x2.1.length:Int)))=true then
 (idx x2.1 p3.1).bind fun x4 =>
 let y5:Int:=(bitI .or .u64 (shlI .u64 p3.2.1 16) (shrI .u64 p3.2.2 48))
 some (.inr ((w64 (p3.1+1)),y5,(bitI .or .u64 (shlI .u64 p3.2.2 16) x4)))
 else
 some (.inl (p3.2.1,p3.2.2)))
def f184 (a0:(List UInt8)) (a1:Int) (a2:(List Int)):Option (Int×Addr) :=
 (f227 a0 ([58]:List UInt8)).bind fun x0 =>
 (if (!x0)=true then
 (f228 a0 a1 a2).bind fun x1 =>
 (if (!x1.1)=true then
 some (2,false,0,0)
 else
 some (0,x1.2))
 else
 (f229 a0 a1 a2).bind fun x2 =>
 (if (!x2.2)=true then
 some (2,false,0,0)
 else
 (loopF (f184L0 x2) (0,0,0)).bind fun x6 =>
 some (0,true,x6.1,x6.2)))
def f185 (a0:(List UInt8)):Option (Int×Bool) :=
 jn (fun(_:Unit) =>
 (f230 a0).bind fun x1 =>
 some ((minI x1 1000),true)) (fun t2 =>
 (if (a0==([]:List UInt8))=true then
 some (0,false)
 else
 (if (decide (1<(a0.length:Int)))=true then
 (sidxT a0 0).bind fun x3 =>
 (if (x3==48)=true then
 some (0,false)
 else
 (f212 a0 ([48,49,50,51,52,53,54,55,56,57]:List UInt8)).bind fun x4 =>
 let _:(List UInt8):=([48,49,50,51,52,53,54,55,56,57]:List UInt8)
 (if (!(x4==([]:List UInt8)))=true then
 some (0,false)
 else
 t2 ()))
 else
 (f212 a0 ([48,49,50,51,52,53,54,55,56,57]:List UInt8)).bind fun x6 =>
 let _:(List UInt8):=([48,49,50,51,52,53,54,55,56,57]:List UInt8)
 (if (!(x6==([]:List UInt8)))=true then
 some (0,false)
 else
 t2 ()))))
def f124 (a0:(List UInt8)) (a1:Int) (a2:(List Int)):Option (Int×Prefix) :=
 (f183 a0 ([47]:List UInt8)).bind fun x0 =>
 (f184 x0.1 a1 a2).bind fun x1 =>
 (f185 x0.2.1).bind fun x2 =>
 (if (!x0.2.2)=true then
 some (2,(false,0,0),0)
 else
 (if (x1.1 != 0)=true then
 some (2,(false,0,0),0)
 else
 (if (!x2.2)=true then
 some (2,(false,0,0),0)
 else
 (f186 x1.2).bind fun x3 =>
 (if (decide (x3<x2.1))=true then
 some (9,(false,0,0),0)
 else
 (f164 (x1.2,x2.1)).bind fun x4 =>
 (if (!x4)=true then
 some (5,(false,0,0),0)
 else
 some (0,x1.2,x2.1))))))
def f67 (a0:(List (List UInt8))) (a1:Bool) (a2:Int) (a3:(List Int)) (a4:(List Int)):Option ((List (List UInt8))×(Bool×Prefix)) :=
 (f66 a0 a1).bind fun x0 =>
 (f124 x0.1 a2 a3).bind fun x1 =>
 (if x0.2.2=true then
 some (x0.2.1,true,x1.2)
 else
 (if (x1.1 != 0)=true then
 some (x0.2.1,true,x1.2)
 else
 (f116 x1.2 a3 a4).bind fun x2 =>
 some (x0.2.1,(!(x2==x0.1)),x1.2)))
def f68 (a0:(List (List UInt8))) (a1:Bool):Option Bool :=
 (if (!a1)=true then
 some ((a0.length:Int)==0)
 else
 some false)
def f187 (a0:(List (List UInt8))) (a1:Bool) (a2:(List Int)):Option (Int×((List (List UInt8))×Bool)) :=
 (f66 a0 a1).bind fun x0 =>
 (f230 x0.1).bind fun x1 =>
 (if x0.2.2=true then
 some (x1,x0.2.1,true)
 else
 (if (decide (x1<0))=true then
 some (x1,x0.2.1,true)
 else
 (if (decide (1099511627776<x1))=true then
 some (x1,x0.2.1,true)
 else
 (f118 x1 a2).bind fun x2 =>
 some (x1,x0.2.1,(!(x2==x0.1))))))
def f188 (a0:(List (List UInt8))) (a1:Bool):Option ((List UInt8)×((List (List UInt8))×Bool)) :=
 (f66 a0 a1).bind fun x0 =>
 (if (x0.1==([45]:List UInt8))=true then
 some (([]:List UInt8),x0.2.1,x0.2.2)
 else
 some (x0.1,x0.2.1,x0.2.2))
def f126 (a0:(List (List UInt8))) (a1:Bool) (a2:(List Int)):Option ((List (List UInt8))×(Bool×(Int×((List UInt8)×((List UInt8)×(Int×Int)))))) :=
 (f187 a0 a1 a2).bind fun x0 =>
 (f66 x0.2.1 x0.2.2).bind fun x1 =>
 (f188 x1.2.1 x1.2.2).bind fun x2 =>
 (f187 x2.2.1 x2.2.2 a2).bind fun x3 =>
 (f187 x3.2.1 x3.2.2 a2).bind fun x4 =>
 some (x4.2.1,x4.2.2,x0.1,x1.1,x2.1,x3.1,x4.1)
def f189L0 (a0:(List UInt8)) (p0:(Int×MAC)):Option (MAC⊕(Int×MAC)) :=
 (if (decide (p0.1<6))=true then
 (sidxT a0 (w64 (3*p0.1))).bind fun x1 =>
 (f231 ([48,49,50,51,52,53,54,55,56,57,97,98,99,100,101,102]:List UInt8) x1).bind fun x2 =>
 let _:(List UInt8):=([48,49,50,51,52,53,54,55,56,57,97,98,99,100,101,102]:List UInt8)
 (sidxT a0 (w64 ((w64 (3*p0.1))+1))).bind fun x4 =>
 (f231 ([48,49,50,51,52,53,54,55,56,57,97,98,99,100,101,102]:List UInt8) x4).bind fun x5 =>
 let _:(List UInt8):=([48,49,50,51,52,53,54,55,56,57,97,98,99,100,101,102]:List UInt8)
 let y7:Int:=(bitI .or .i64 (shlI .i64 x2 4) (bitI .and .i64 x5 15))
 chk (ltcT p0.1 6) <|
 (idx p0.2 p0.1).bind fun _ =>
 let y9:MAC:=(List.set p0.2 (Int.toNat p0.1) (IntKind.u8.wrap y7))
 some (.inr ((w64 (p0.1+1)),y9))
 else
 some (.inl p0.2))
def f189 (a0:(List UInt8)):Option (Int×MAC) :=
 (if ((a0.length:Int) != 17)=true then
 some (2,(List.replicate 6 0))
 else
 (loopF (f189L0 a0) (0,(List.replicate 6 0))).bind fun x10 =>
 (f120 x10).bind fun x11 =>
 (if (!(x11==a0))=true then
 some (2,([0,0,0,0,0,0]:List Int))
 else
 some (0,x10)))
def f190 (a0:(List (List UInt8))) (a1:Bool) (a2:Int) (a3:(List Int)) (a4:(List Int)):Option ((List (List UInt8))×(Bool×Addr)) :=
 (f188 a0 a1).bind fun x0 =>
 (if (x0.1==([]:List UInt8))=true then
 some (x0.2.1,x0.2.2,false,0,0)
 else
 (f184 x0.1 a2 a3).bind fun x1 =>
 (if x0.2.2=true then
 some (x0.2.1,true,x1.2)
 else
 (if (x1.1 != 0)=true then
 some (x0.2.1,true,x1.2)
 else
 (f121 x1.2 a3 a4).bind fun x2 =>
 some (x0.2.1,(!(x2==x0.1)),x1.2))))
def f127L0 (x4:(List (List UInt8))) (p5:(Int×(Bool×(List MAC)))):Option ((Bool×(List MAC))⊕(Int×(Bool×(List MAC)))) :=
 (if (decide (p5.1<(x4.length:Int)))=true then
 (idx x4 p5.1).bind fun x6 =>
 (f189 x6).bind fun x7 =>
 jn (fun(u8:Bool) =>
 chk (decide ((p5.2.2++([x7.2]:List MAC)).length≤LIM)) <|
 some (.inr ((w64 (p5.1+1)),u8,(p5.2.2++([x7.2]:List MAC))))) (fun t9 =>
 (if p5.2.1=true then
 t9 true
 else
 t9 (x7.1 != 0)))
 else
 some (.inl (p5.2.1,p5.2.2)))
def f127 (a0:(List (List UInt8))) (a1:Bool) (a2:Int) (a3:(List Int)) (a4:(List Int)):Option ((List (List UInt8))×(Bool×Port)) :=
 (f187 a0 a1 a3).bind fun x0 =>
 (f187 x0.2.1 x0.2.2 a3).bind fun x1 =>
 (f187 x1.2.1 x1.2.2 a3).bind fun x2 =>
 (f66 x2.2.1 x2.2.2).bind fun x3 =>
 (f65 x3.1 ([44]:List UInt8)).bind fun x4 =>
 (loopF (f127L0 x4) (0,x3.2.2,([]:List MAC))).bind fun x10 =>
 (f190 x3.2.1 x10.1 a2 a3 a4).bind fun x11 =>
 (f190 x11.1 x11.2.1 a2 a3 a4).bind fun x12 =>
 some (x12.1,x12.2.1,x0.1,x1.1,x2.1,x10.2,x11.2.2,x12.2.2)
def f125e (a0:Int) (a1:(List UInt8)) (a2:(List UInt8)) (a3:Int) (a4:Int) (_:Prefix) (_:Prefix) (_:Bool) (_:Bool) (_:Int) (_:Int) (a11:(List Member)) (_:(List Member)) (a13:(List Port)) (_:(List Port)):Option (Int×(List Member)) :=
 let y0:(List Member):=([(a0,a1,a2,a3,a4,([]:List Port))]:List Member)
 chk ((decide (0<(y0.length:Int)))&&(decide (((lastT (fun z=>(z.1,z.2.1,z.2.2.1,z.2.2.2.1,z.2.2.2.2.1,a13)) a11)++y0).length≤LIM))) <|
 let y1:(List Member):=((lastT (fun z=>(z.1,z.2.1,z.2.2.1,z.2.2.2.1,z.2.2.2.2.1,a13)) a11)++y0)
 (idx y1 (w64 ((y1.length:Int)-1))).bind fun _ =>
 some ((w64 ((y1.length:Int)-1)),y1)
def f125f (a0:Int) (a1:(List UInt8)) (a2:(List UInt8)) (a3:Int) (a4:Int) (_:Prefix) (_:Prefix) (_:Bool) (_:Bool) (_:Int) (_:Int) (_:(List Member)) (a12:(List Member)) (_:(List Port)) (a14:(List Port)):Option (Int×(List Member)) :=
 let y0:(List Member):=([(a0,a1,a2,a3,a4,([]:List Port))]:List Member)
 chk ((decide (0<(y0.length:Int)))&&(decide (((lastT (fun z=>(z.1,z.2.1,z.2.2.1,z.2.2.2.1,z.2.2.2.2.1,a14)) a12)++y0).length≤LIM))) <|
 let y1:(List Member):=((lastT (fun z=>(z.1,z.2.1,z.2.2.1,z.2.2.2.1,z.2.2.2.2.1,a14)) a12)++y0)
 (idx y1 (w64 ((y1.length:Int)-1))).bind fun _ =>
 some ((w64 ((y1.length:Int)-1)),y1)
def f69c (a0:(List UInt8)) (a1:Prefix) (a2:Prefix) (a3:Bool) (a4:Bool) (a5:Int) (a6:Int) (a7:Int) (a8:(List Int)) (a9:(List Int)) (a10:(List Member)) (a11:(List Member)) (a12:(List Port)) (a13:(List Port)):Option (Bool×(Bool×(Bool×(Int×(Int×((List Member)×((List Member)×((List Port)×(List Port))))))))) :=
 (f65 a0 ([32]:List UInt8)).bind fun x0 =>
 (f66 x0 false).bind fun x1 =>
 jn (fun(u2:Bool) =>
 (if u2=true then
 (f126 x1.2.1 x1.2.2 a8).bind fun x3 =>
 (f125e x3.2.2.1 x3.2.2.2.1 x3.2.2.2.2.1 x3.2.2.2.2.2.1 x3.2.2.2.2.2.2 a1 a2 a3 a4 a5 a6 a10 a11 a12 a13).bind fun x4 =>
 (f68 x3.1 x3.2.1).bind fun x5 =>
 some (x5,true,false,0,x4.1,x4.2,a11,([]:List Port),a13)
 else
 let y6:Bool:=(x1.1==([109,101,109,98,101,114]:List UInt8))
 (if y6=true then
 (f126 x1.2.1 x1.2.2 a8).bind fun x7 =>
 (f125f x7.2.2.1 x7.2.2.2.1 x7.2.2.2.2.1 x7.2.2.2.2.2.1 x7.2.2.2.2.2.2 a1 a2 a3 a4 a5 a6 a10 a11 a12 a13).bind fun x8 =>
 (f68 x7.1 x7.2.1).bind fun x9 =>
 some (x9,true,true,x8.1,0,a10,x8.2,a12,([]:List Port))
 else
 jn (fun(u10:(Bool×(Bool×(Bool×(Int×Int))))) =>
 (if u10.1=true then
 (if u10.2.1=true then
 (if u10.2.2.1=true then
 chk (decide ((List.drop (Int.toNat u10.2.2.2.1) a11).length=([(0,[],[],0,0,[])]:List Member).length)) <|
 (f127 x1.2.1 x1.2.2 a7 a8 a9).bind fun x11 =>
 chk (decide ((a13++([x11.2.2]:List Port)).length≤LIM)) <|
 chk (decide ((List.drop (Int.toNat u10.2.2.2.1) a11).length=([(0,[],[],0,0,[])]:List Member).length)) <|
 (f68 x11.1 x11.2.1).bind fun x12 =>
 some (x12,true,true,u10.2.2.2.1,0,a10,a11,a12,(a13++([x11.2.2]:List Port)))
 else
 chk (decide ((List.drop (Int.toNat u10.2.2.2.2) a10).length=([(0,[],[],0,0,[])]:List Member).length)) <|
 (f127 x1.2.1 x1.2.2 a7 a8 a9).bind fun x13 =>
 chk (decide ((a12++([x13.2.2]:List Port)).length≤LIM)) <|
 chk (decide ((List.drop (Int.toNat u10.2.2.2.2) a10).length=([(0,[],[],0,0,[])]:List Member).length)) <|
 (f68 x13.1 x13.2.1).bind fun x14 =>
 some (x14,true,false,0,u10.2.2.2.2,a10,a11,(a12++([x13.2.2]:List Port)),a13))
 else
 none)
 else
 some (false,u10.2.1,u10.2.2.1,u10.2.2.2.1,u10.2.2.2.2,a10,a11,a12,a13))) (fun t15 =>
 (if a3=true then
 (if a4=true then
 let y16:Bool:=(x1.1==([112,111,114,116]:List UInt8))
 (if y16=true then
 t15 (true,true,true,a5,0)
 else
 t15 (false,true,true,a5,0))
 else
 let y17:Bool:=(x1.1==([112,111,114,116]:List UInt8))
 (if y17=true then
 t15 (true,true,false,0,a6)
 else
 t15 (false,true,false,0,a6)))
 else
 let y18:Bool:=(x1.1==([112,111,114,116]:List UInt8))
 (if y18=true then
 t15 (false,false,false,0,0)
 else
 t15 (false,false,false,0,0))))))) (fun t19 =>
 let y20:Bool:=(x1.1==([115,101,114,118,101,114]:List UInt8))
 (if y20=true then
 t19 ((a11.length:Int)==0)
 else
 t19 false))
def f32L0 (a1:Int) (a2:(List Int)) (a3:(List Int)) (x5:((List (List UInt8))×(Bool×Prefix))) (x6:((List (List UInt8))×(Bool×Prefix))) (y8:(List (List UInt8))) (p9:(Int×(Bool×(Bool×(Int×(Int×((List Member)×((List Member)×((List Port)×(List Port)))))))))):Option (((Bool×(Bool×(Int×(Int×((List Member)×((List Member)×((List Port)×(List Port))))))))⊕Unit)⊕(Int×(Bool×(Bool×(Int×(Int×((List Member)×((List Member)×((List Port)×(List Port)))))))))) :=
 (if (decide (p9.1<(y8.length:Int)))=true then
 (idx y8 p9.1).bind fun x10 =>
 (f69c x10 x5.2.2 x6.2.2 p9.2.1 p9.2.2.1 p9.2.2.2.1 p9.2.2.2.2.1 a1 a2 a3 p9.2.2.2.2.2.1 p9.2.2.2.2.2.2.1 p9.2.2.2.2.2.2.2.1 p9.2.2.2.2.2.2.2.2).bind fun x11 =>
 (if (!x11.1)=true then
 some (.inl (.inr ()))
 else
 some (.inr ((w64 (p9.1+1)),x11.2.1,x11.2.2.1,x11.2.2.2.1,x11.2.2.2.2.1,x11.2.2.2.2.2.1,x11.2.2.2.2.2.2.1,x11.2.2.2.2.2.2.2.1,x11.2.2.2.2.2.2.2.2)))
 else
 some (.inl (.inl (p9.2.1,p9.2.2.1,p9.2.2.2.1,p9.2.2.2.2.1,p9.2.2.2.2.2.1,p9.2.2.2.2.2.2.1,p9.2.2.2.2.2.2.2.1,p9.2.2.2.2.2.2.2.2))))
def f32 (a0:(List UInt8)) (a1:Int) (a2:(List Int)) (a3:(List Int)):Option (Int×Database) :=
 (if (decide (65536<(a0.length:Int)))=true then
 some (3,((false,0,0),0),((false,0,0),0),([]:List Member),([]:List Member))
 else
 (f65 a0 ([10]:List UInt8)).bind fun x0 =>
 (idx x0 (w64 ((x0.length:Int)-1))).bind fun x1 =>
 (if (!(x1==([]:List UInt8)))=true then
 some (2,((false,0,0),0),((false,0,0),0),([]:List Member),([]:List Member))
 else
 (idx x0 0).bind fun x2 =>
 (f65 x2 ([32]:List UInt8)).bind fun x3 =>
 (f66 x3 false).bind fun x4 =>
 (f67 x4.2.1 x4.2.2 a1 a2 a3).bind fun x5 =>
 (f67 x5.1 x5.2.1 a1 a2 a3).bind fun x6 =>
 (if (!(x4.1==([108,97,110]:List UInt8)))=true then
 some (2,((false,0,0),0),((false,0,0),0),([]:List Member),([]:List Member))
 else
 (f68 x6.1 x6.2.1).bind fun x7 =>
 (if (!x7)=true then
 some (2,((false,0,0),0),((false,0,0),0),([]:List Member),([]:List Member))
 else
 chk ((leT (w64 ((x0.length:Int)-1)) x0.length)&&(leT 1 (List.take (Int.toNat (w64 ((x0.length:Int)-1))) x0).length)) <|
 let y8:(List (List UInt8)):=(List.drop (Int.toNat 1) (List.take (Int.toNat (w64 ((x0.length:Int)-1))) x0))
 (loopF (f32L0 a1 a2 a3 x5 x6 y8) (0,false,false,0,0,([]:List Member),([]:List Member),([]:List Port),([]:List Port))).bind fun x12 =>
 caseT x12 (fun x13 =>
 (f63 (x5.2.2,x6.2.2,(lastT (fun z=>(z.1,z.2.1,z.2.2.1,z.2.2.2.1,z.2.2.2.2.1,x13.2.2.2.2.2.2.1)) x13.2.2.2.2.1),(lastT (fun z=>(z.1,z.2.1,z.2.2.1,z.2.2.2.1,z.2.2.2.2.1,x13.2.2.2.2.2.2.2)) x13.2.2.2.2.2.1))).bind fun x14 =>
 let _:Database:=(x5.2.2,x6.2.2,(lastT (fun z=>(z.1,z.2.1,z.2.2.1,z.2.2.2.1,z.2.2.2.2.1,x13.2.2.2.2.2.2.1)) x13.2.2.2.2.1),(lastT (fun z=>(z.1,z.2.1,z.2.2.1,z.2.2.2.1,z.2.2.2.2.1,x13.2.2.2.2.2.2.2)) x13.2.2.2.2.2.1))
 (if (x14 != 0)=true then
 some (x14,((false,0,0),0),((false,0,0),0),([]:List Member),([]:List Member))
 else
 some (0,x5.2.2,x6.2.2,(lastT (fun z=>(z.1,z.2.1,z.2.2.1,z.2.2.2.1,z.2.2.2.2.1,x13.2.2.2.2.2.2.1)) x13.2.2.2.2.1),(lastT (fun z=>(z.1,z.2.1,z.2.2.1,z.2.2.2.1,z.2.2.2.2.1,x13.2.2.2.2.2.2.2)) x13.2.2.2.2.2.1)))) (fun _ =>
 some (2,((false,0,0),0),((false,0,0),0),([]:List Member),([]:List Member)))))))
def f191 (a0:(List Port)):Option (List Port) :=
 (if (decide (0<(a0.length:Int)))=true then
 chk (decide ((([]:List Port)++a0).length≤LIM)) <|
 some (([]:List Port)++a0)
 else
 Ty.bothT (.list cPort) (some ([]:List Port)) (chk (decide ((([]:List Port)++a0).length≤LIM)) <|
 some (([]:List Port)++a0)))
def f107 (a0:(List MAC)):Option (List MAC) :=
 (if (decide (0<(a0.length:Int)))=true then
 chk (decide ((([]:List MAC)++a0).length≤LIM)) <|
 some (([]:List MAC)++a0)
 else
 Ty.bothT (.list cMAC) (some ([]:List MAC)) (chk (decide ((([]:List MAC)++a0).length≤LIM)) <|
 some (([]:List MAC)++a0)))
def f128L0 (x0:(List Port)) (p1:(Int×(List Port))):Option ((List Port)⊕(Int×(List Port))) :=
 (if (decide (p1.1<(x0.length:Int)))=true then
 (idx p1.2 p1.1).bind fun _ =>
 (idx p1.2 p1.1).bind fun x3 =>
 (f107 x3.2.2.2.1).bind fun x4 =>
 (idx p1.2 p1.1).bind fun _ =>
 (idx p1.2 p1.1).bind fun x6 =>
 let y7:(List Port):=(List.set p1.2 (Int.toNat p1.1) (x6.1,x6.2.1,x6.2.2.1,x4,x6.2.2.2.2))
 chk ((decide (y7.length=p1.2.length))&&(decide (y7.length=p1.2.length))) <|
 some (.inr ((w64 (p1.1+1)),y7))
 else
 some (.inl p1.2))
def f128 (a0:Member):Option ((List Port)×(Int×((List UInt8)×((List UInt8)×(Int×Int))))) :=
 (f191 a0.2.2.2.2.2).bind fun x0 =>
 (loopF (f128L0 x0) (0,x0)).bind fun x8 =>
 some (x8,a0.1,a0.2.1,a0.2.2.1,a0.2.2.2.1,a0.2.2.2.2.1)
def f193 (a0:Int):Option Bool :=
 some (a0 != a0)
def f132 (a0:Int) (a1:Int):Option Int :=
 (f193 a0).bind fun x0 =>
 (f193 a1).bind fun x1 =>
 (if x0=true then
 (if x1=true then
 some 0
 else
 some (-1))
 else
 (if x1=true then
 some 1
 else
 (if (decide (a0<a1))=true then
 some (-1)
 else
 (if (decide (a1<a0))=true then
 some 1
 else
 some 0))))
def f131 (a0:Port) (a1:Port):Option Int :=
 (f132 a0.1 a1.1).bind fun x0 =>
 some x0
def f232L1 (a0:Int) (p1:(Int×(List Port))):Option ((List Port)⊕(Int×(List Port))) :=
 (if (decide (a0<p1.1))=true then
 (idx p1.2 p1.1).bind fun _ =>
 (idx p1.2 p1.1).bind fun x3 =>
 (idx p1.2 (w64 (p1.1-1))).bind fun _ =>
 (idx p1.2 (w64 (p1.1-1))).bind fun x5 =>
 (f131 x3 x5).bind fun x6 =>
 (if (decide (x6<0))=true then
 (idx p1.2 (w64 (p1.1-1))).bind fun _ =>
 (idx p1.2 (w64 (p1.1-1))).bind fun x8 =>
 (idx p1.2 p1.1).bind fun _ =>
 (idx p1.2 p1.1).bind fun x10 =>
 (idx p1.2 p1.1).bind fun _ =>
 (idx p1.2 p1.1).bind fun _ =>
 (chk (decide ((List.set p1.2 (Int.toNat p1.1) x8).length=p1.2.length)) <|
 idx (List.set p1.2 (Int.toNat p1.1) x8) (w64 (p1.1-1))).bind fun _ =>
 (idx (List.set p1.2 (Int.toNat p1.1) x8) (w64 (p1.1-1))).bind fun _ =>
 let y15:(List Port):=(List.set (List.set p1.2 (Int.toNat p1.1) x8) (Int.toNat (w64 (p1.1-1))) x10)
 chk (decide (y15.length=p1.2.length)) <|
 some (.inr ((w64 (p1.1-1)),y15))
 else
 some (.inl p1.2))
 else
 some (.inl p1.2))
def f232L0 (a0:Int) (a1:Int) (p0:(Int×(List Port))):Option ((List Port)⊕(Int×(List Port))) :=
 (if (decide (p0.1<a1))=true then
 (loopF (f232L1 a0) (p0.1,p0.2)).bind fun x16 =>
 some (.inr ((w64 (p0.1+1)),x16))
 else
 some (.inl p0.2))
def f232 (a0:Int) (a1:Int) (a2:(List Port)):Option (List Port) :=
 (loopF (f232L0 a0 a1) ((w64 (a0+1)),a2)).bind fun x17 =>
 some x17
def f192L0 (a0:Int) (p0:(Int×(Int×(List Port)))):Option ((Int×(List Port))⊕(Int×(Int×(List Port)))) :=
 (if (decide (p0.2.1≤a0))=true then
 (f232 p0.1 p0.2.1 p0.2.2).bind fun x1 =>
 chk (decide (x1.length=p0.2.2.length)) <|
 some (.inr (p0.2.1,(w64 (p0.2.1+20)),x1))
 else
 some (.inl (p0.1,p0.2.2)))
def f192L2 (a0:Int) (p4:Int) (_:Unit):Option (Unit⊕Unit) :=
 (if (decide ((w64 (2*p4))≤a0))=true then
 none
 else
 some (.inl ()))
def f192L1 (a0:Int) (p4:Int):Option (Unit⊕Int) :=
 (if (decide (p4<a0))=true then
 (loopF (f192L2 a0 p4) ()).bind fun _ =>
 (if (decide ((w64 (0+p4))<a0))=true then
 none
 else
 some (.inr (w64 (p4*2))))
 else
 some (.inl ()))
def f192 (a0:Int) (a1:(List Port)):Option (List Port) :=
 (loopF (f192L0 a0) (0,20,a1)).bind fun x2 =>
 (f232 x2.1 a0 x2.2).bind fun x3 =>
 chk (decide (x3.length=x2.2.length)) <|
 (loopF (f192L1 a0) 20).bind fun _ =>
 some x3
def f130 (a0:(List Port)):Option (List Port) :=
 (f192 (a0.length:Int) a0).bind fun x0 =>
 some x0
def f70 (a0:Database):Option (List Port) :=
 (f129 a0).bind fun x0 =>
 (f128 (0,([]:List UInt8),([]:List UInt8),0,0,x0)).bind fun x1 =>
 let _:Member:=(0,([]:List UInt8),([]:List UInt8),0,0,x0)
 (f130 x1.1).bind fun x3 =>
 chk (decide (x1.1.length=x3.length)) <|
 some x3
def f71L1 (a1:Int) (x2:Member) (p3:Int):Option ((Unit⊕Int)⊕Int) :=
 (if (decide (p3<(x2.2.2.2.2.2.length:Int)))=true then
 (idx x2.2.2.2.2.2 p3).bind fun x4 =>
 (if (x4.1==a1)=true then
 some (.inl (.inr x2.1))
 else
 some (.inr (w64 (p3+1))))
 else
 some (.inl (.inl ())))
def f71L0 (a1:Int) (x0:(List Member)) (p1:Int):Option ((Unit⊕Int)⊕Int) :=
 (if (decide (p1<(x0.length:Int)))=true then
 (idx x0 p1).bind fun x2 =>
 (loopF (f71L1 a1 x2) 0).bind fun x5 =>
 caseT x5 (fun _ =>
 some (.inr (w64 (p1+1)))) (fun x7 =>
 some (.inl (.inr x7)))
 else
 some (.inl (.inl ())))
def f71 (a0:Database) (a1:Int):Option (Int×Bool) :=
 (f117 a0).bind fun x0 =>
 (loopF (f71L0 a1 x0) 0).bind fun x8 =>
 caseT x8 (fun _ =>
 some (0,false)) (fun x10 =>
 some (x10,true))
def f72 (a0:Addr):Option (List Addr) :=
 (if (Ty.eqT cAddr a0 (false,0,0))=true then
 some ([]:List Addr)
 else
 some ([a0]:List Addr))
def f33L0 (a0:Database) (a1:Int) (a2:Int) (x1:(List Port)) (p2:(Int×(List Rule))):Option ((List Rule)⊕(Int×(List Rule))) :=
 (if (decide (p2.1<(x1.length:Int)))=true then
 (idx x1 p2.1).bind fun x3 =>
 (f71 a0 x3.1).bind fun x4 =>
 (f72 x3.2.2.2.2.1).bind fun x5 =>
 (f72 x3.2.2.2.2.2).bind fun x6 =>
 let y7:(List Rule):=([(x3.1,x4.1,x3.2.1,x3.2.2.2.1,x5,x6,a1,a2)]:List Rule)
 chk (decide ((p2.2++y7).length≤LIM)) <|
 some (.inr ((w64 (p2.1+1)),(p2.2++y7)))
 else
 some (.inl p2.2))
def f33 (a0:Database) (a1:Int) (a2:Int):Option ((List Rule)×Int) :=
 (f63 a0).bind fun x0 =>
 (if (x0 != 0)=true then
 some (([]:List Rule),x0)
 else
 (if (decide (a2<0))=true then
 some (([]:List Rule),9)
 else
 (if (decide (1048576<a2))=true then
 some (([]:List Rule),9)
 else
 (if (decide (a1<0))=true then
 some (([]:List Rule),9)
 else
 (if (decide (a2<a1))=true then
 some (([]:List Rule),9)
 else
 (f70 a0).bind fun x1 =>
 (loopF (f33L0 a0 a1 a2 x1) (0,([]:List Rule))).bind fun x8 =>
 some (x8,0))))))
def f77 (a0:Database):Option (List Member) :=
 chk (decide (a0.2.2.1.length≤LIM)) <|
 chk (decide ((a0.2.2.1++a0.2.2.2).length≤LIM)) <|
 some (a0.2.2.1++a0.2.2.2)
def f133 (a0:Int) (a1:Int) (a2:Int):Option Bool :=
 (if (decide (a1≤a0))=true then
 some (decide (a0≤a2))
 else
 some false)
def f73L1 (x2:Member) (p4:Int):Option ((Unit⊕Unit)⊕Int) :=
 (if (decide (p4<(x2.2.2.2.2.2.length:Int)))=true then
 (idx x2.2.2.2.2.2 p4).bind fun x5 =>
 (f133 (x5.2.2.2.1.length:Int) 1 2).bind fun x6 =>
 (if (!x6)=true then
 some (.inl (.inr ()))
 else
 some (.inr (w64 (p4+1))))
 else
 some (.inl (.inl ())))
def f73L0 (x0:(List Member)) (p1:Int):Option ((Unit⊕Unit)⊕Int) :=
 (if (decide (p1<(x0.length:Int)))=true then
 (idx x0 p1).bind fun x2 =>
 (f133 (x2.2.2.2.2.2.length:Int) 1 4).bind fun x3 =>
 (if (!x3)=true then
 some (.inl (.inr ()))
 else
 (loopF (f73L1 x2) 0).bind fun x7 =>
 caseT x7 (fun _ =>
 some (.inr (w64 (p1+1)))) (fun _ =>
 some (.inl (.inr ()))))
 else
 some (.inl (.inl ())))
def f73 (a0:Database):Option Bool :=
 (if (decide (4<(a0.2.2.1.length:Int)))=true then
 some true
 else
 (if (decide (32<(a0.2.2.2.length:Int)))=true then
 some true
 else
 (f77 a0).bind fun x0 =>
 (loopF (f73L0 x0) 0).bind fun x10 =>
 caseT x10 (fun _ =>
 some false) (fun _ =>
 some true)))
def f83 (a0:Addr):Option Bool :=
 (if a0.1=true then
 some true
 else
 (if (a0.2.1==0)=true then
 some (decide (a0.2.2<4294967296))
 else
 some false))
def f234 (a0:Addr):Option Int :=
 (if a0.1=true then
 some 128
 else
 some 32)
def f41L0 (a0:Addr) (p2:(Int×(List Int))):Option ((List Int)⊕(Int×(List Int))) :=
 (if (decide (0≤p2.1))=true then
 jn (fun(u3:Int) =>
 let y4:Int:=(IntKind.u64.wrap (8*(IntKind.u64.wrap (Int.tmod p2.1 8))))
 chk (ge0T y4) <|
 let y5:(List Int):=([(IntKind.u8.wrap (shrI .u64 u3 y4))]:List Int)
 chk (decide ((p2.2++y5).length≤LIM)) <|
 some (.inr ((w64 (p2.1-1)),(p2.2++y5)))) (fun t6 =>
 (if (decide (8≤p2.1))=true then
 t6 a0.2.1
 else
 t6 a0.2.2))
 else
 some (.inl p2.2))
def f41 (a0:Addr):Option (List Int) :=
 (f83 a0).bind fun x0 =>
 (if (!x0)=true then
 some ([]:List Int)
 else
 jn (fun(u1:Int) =>
 (loopF (f41L0 a0) ((w64 (u1-1)),([]:List Int))).bind fun x7 =>
 some x7) (fun t8 =>
 (if a0.1=true then
 t8 16
 else
 t8 4)))
def f196L0 (a0:(List Int)) (p1:(Int×(Int×Int))):Option ((Int×Int)⊕(Int×(Int×Int))) :=
 (if (decide (p1.1<(a0.length:Int)))=true then
 (idx a0 p1.1).bind fun x2 =>
 let y3:Int:=(bitI .or .u64 (shlI .u64 p1.2.1 8) (shrI .u64 p1.2.2 56))
 let y4:Int:=(bitI .or .u64 (shlI .u64 p1.2.2 8) (IntKind.u64.wrap x2))
 some (.inr ((w64 (p1.1+1)),y3,y4))
 else
 some (.inl (p1.2.1,p1.2.2)))
def f196 (a0:(List Int)):Option (Int×Addr) :=
 jn (fun(_:Unit) =>
 (loopF (f196L0 a0) (0,0,0)).bind fun x5 =>
 some (0,((a0.length:Int)==16),x5.1,x5.2)) (fun t6 =>
 (if ((a0.length:Int) != 4)=true then
 (if ((a0.length:Int) != 16)=true then
 some (1,false,0,0)
 else
 t6 ())
 else
 t6 ()))
def f194L0 (p3:(Int×(List Int))):Option ((List Int)⊕(Int×(List Int))) :=
 let y4:Bool:=(decide (p3.1<(w64 (8*(p3.2.length:Int)))))
 (if y4=true then
 (idx p3.2 (w64 (Int.tdiv p3.1 8))).bind fun _ =>
 (idx p3.2 (w64 (Int.tdiv p3.1 8))).bind fun x6 =>
 chk (ge0T (IntKind.u64.wrap (Int.tmod p3.1 8))) <|
 let y7:Int:=(shrI .u8 128 (IntKind.u64.wrap (Int.tmod p3.1 8)))
 (idx p3.2 (w64 (Int.tdiv p3.1 8))).bind fun _ =>
 (idx p3.2 (w64 (Int.tdiv p3.1 8))).bind fun _ =>
 let y10:(List Int):=(List.set p3.2 (Int.toNat (w64 (Int.tdiv p3.1 8))) (bitI .andNot .u8 x6 y7))
 chk (decide (y10.length=p3.2.length)) <|
 some (.inr ((w64 (p3.1+1)),y10))
 else
 some (.inl p3.2))
def f194 (a0:Addr) (a1:Int):Option (Int×Prefix) :=
 (f83 a0).bind fun x0 =>
 (if (!x0)=true then
 some (1,(false,0,0),0)
 else
 (if (decide (a1<0))=true then
 some (9,(false,0,0),0)
 else
 (f234 a0).bind fun x1 =>
 (if (decide (x1<a1))=true then
 some (9,(false,0,0),0)
 else
 (f41 a0).bind fun x2 =>
 (loopF (f194L0) (a1,x2)).bind fun x11 =>
 (f196 x11).bind fun x12 =>
 some (0,x12.2,a1))))
def f134 (a0:Prefix):Option Bool :=
 (f194 a0.1 a0.2).bind fun x0 =>
 (if (x0.1==0)=true then
 some (Ty.eqT cPrefix a0 x0.2)
 else
 some false)
def f135L0 (a0:(List UInt8)) (p0:Int):Option ((Unit⊕Unit)⊕Int) :=
 (if (decide (p0<(a0.length:Int)))=true then
 (sidxT a0 p0).bind fun x1 =>
 (if (decide (97≤x1))=true then
 (if (decide (x1≤122))=true then
 some (.inr (w64 (p0+1)))
 else
 (if (decide (65≤x1))=true then
 (if (decide (x1≤90))=true then
 some (.inr (w64 (p0+1)))
 else
 (if (decide (48≤x1))=true then
 (if (decide (x1≤57))=true then
 some (.inr (w64 (p0+1)))
 else
 (if (x1==45)=true then
 some (.inr (w64 (p0+1)))
 else
 (if (!(x1==58))=true then
 some (.inl (.inr ()))
 else
 some (.inr (w64 (p0+1))))))
 else
 (if (x1==45)=true then
 some (.inr (w64 (p0+1)))
 else
 (if (!(x1==58))=true then
 some (.inl (.inr ()))
 else
 some (.inr (w64 (p0+1)))))))
 else
 (if (decide (48≤x1))=true then
 (if (decide (x1≤57))=true then
 some (.inr (w64 (p0+1)))
 else
 (if (x1==45)=true then
 some (.inr (w64 (p0+1)))
 else
 (if (!(x1==58))=true then
 some (.inl (.inr ()))
 else
 some (.inr (w64 (p0+1))))))
 else
 (if (x1==45)=true then
 some (.inr (w64 (p0+1)))
 else
 (if (!(x1==58))=true then
 some (.inl (.inr ()))
 else
 some (.inr (w64 (p0+1))))))))
 else
 (if (decide (65≤x1))=true then
 (if (decide (x1≤90))=true then
 some (.inr (w64 (p0+1)))
 else
 (if (decide (48≤x1))=true then
 (if (decide (x1≤57))=true then
 some (.inr (w64 (p0+1)))
 else
 (if (x1==45)=true then
 some (.inr (w64 (p0+1)))
 else
 (if (!(x1==58))=true then
 some (.inl (.inr ()))
 else
 some (.inr (w64 (p0+1))))))
 else
 (if (x1==45)=true then
 some (.inr (w64 (p0+1)))
 else
 (if (!(x1==58))=true then
 some (.inl (.inr ()))
 else
 some (.inr (w64 (p0+1)))))))
 else
 (if (decide (48≤x1))=true then
 (if (decide (x1≤57))=true then
 some (.inr (w64 (p0+1)))
 else
 (if (x1==45)=true then
 some (.inr (w64 (p0+1)))
 else
 (if (!(x1==58))=true then
 some (.inl (.inr ()))
 else
 some (.inr (w64 (p0+1))))))
 else
 (if (x1==45)=true then
 some (.inr (w64 (p0+1)))
 else
 (if (!(x1==58))=true then
 some (.inl (.inr ()))
 else
 some (.inr (w64 (p0+1))))))))
 else
 some (.inl (.inl ())))
def f135 (a0:(List UInt8)):Option Bool :=
 (loopF (f135L0 a0) 0).bind fun x2 =>
 caseT x2 (fun _ =>
 (if (decide (1≤(a0.length:Int)))=true then
 some (decide ((a0.length:Int)≤32))
 else
 some false)) (fun _ =>
 some false)
def f195 (a0:MAC):Option Bool :=
 (idx a0 0).bind fun x0 =>
 some ((Int.tmod x0 2)==1)
def f137 (a0:Addr):Option Bool :=
 some (Ty.eqT cAddr a0 (false,0,0))
def f136L0 (a0:Port) (p0:Int):Option ((Unit⊕Unit)⊕Int) :=
 (if (decide (p0<(a0.2.2.2.1.length:Int)))=true then
 (idx a0.2.2.2.1 p0).bind fun x1 =>
 (f195 x1).bind fun x2 =>
 (if x2=true then
 some (.inl (.inr ()))
 else
 let y3:Bool:=(Ty.eqT cMAC x1 ([0,0,0,0,0,0]:List Int))
 (if y3=true then
 some (.inl (.inr ()))
 else
 some (.inr (w64 (p0+1)))))
 else
 some (.inl (.inl ())))
def f136 (a0:Port):Option Bool :=
 (loopF (f136L0 a0) 0).bind fun x4 =>
 caseT x4 (fun _ =>
 (f133 a0.1 1 999).bind fun x6 =>
 (if (!x6)=true then
 some true
 else
 (f133 a0.2.1 0 7).bind fun x7 =>
 (if (!x7)=true then
 some true
 else
 (f133 a0.2.2.1 1 400).bind fun x8 =>
 (if (!x8)=true then
 some true
 else
 (if a0.2.2.2.2.1.1=true then
 some true
 else
 (f83 a0.2.2.2.2.1).bind fun x9 =>
 (if (!x9)=true then
 some true
 else
 (f137 a0.2.2.2.2.2).bind fun x10 =>
 (if (!x10)=true then
 (if (!a0.2.2.2.2.2.1)=true then
 some true
 else
 (f137 a0.2.2.2.2.1).bind fun x11 =>
 (if x11=true then
 (f137 a0.2.2.2.2.2).bind fun x12 =>
 some x12
 else
 some false))
 else
 (f137 a0.2.2.2.2.1).bind fun x13 =>
 (if x13=true then
 (f137 a0.2.2.2.2.2).bind fun x14 =>
 some x14
 else
 some false)))))))) (fun _ =>
 some true)
def f74L1 (x6:Member) (p8:Int):Option ((Unit⊕Unit)⊕Int) :=
 (if (decide (p8<(x6.2.2.2.2.2.length:Int)))=true then
 (idx x6.2.2.2.2.2 p8).bind fun x9 =>
 (f136 x9).bind fun x10 =>
 (if x10=true then
 some (.inl (.inr ()))
 else
 some (.inr (w64 (p8+1))))
 else
 some (.inl (.inl ())))
def f74L0 (x4:(List Member)) (p5:Int):Option ((Unit⊕Unit)⊕Int) :=
 (if (decide (p5<(x4.length:Int)))=true then
 (idx x4 p5).bind fun x6 =>
 jn (fun(_:((List UInt8)×(Bool×((List UInt8)×(Bool×(Bool×((List UInt8)×(Int×(Bool×(Int×Bool)))))))))) =>
 (loopF (f74L1 x6) 0).bind fun x11 =>
 caseT x11 (fun _ =>
 some (.inr (w64 (p5+1)))) (fun _ =>
 some (.inl (.inr ())))) (fun t14 =>
 (f133 x6.1 1 4294967295).bind fun x15 =>
 (if (!x15)=true then
 some (.inl (.inr ()))
 else
 (f135 x6.2.1).bind fun x16 =>
 (if (!x16)=true then
 some (.inl (.inr ()))
 else
 (if (!(x6.2.2.1==([]:List UInt8)))=true then
 (f135 x6.2.2.1).bind fun x17 =>
 (if (!x17)=true then
 some (.inl (.inr ()))
 else
 (if (x6.2.2.1==([45]:List UInt8))=true then
 some (.inl (.inr ()))
 else
 (f133 x6.2.2.2.1 0 512).bind fun x18 =>
 (if (!x18)=true then
 some (.inl (.inr ()))
 else
 (f133 x6.2.2.2.2.1 0 512).bind fun x19 =>
 (if (!x19)=true then
 some (.inl (.inr ()))
 else
 t14 (x6.2.1,x16,x6.2.2.1,true,true,x6.2.2.1,x6.2.2.2.1,x18,x6.2.2.2.2.1,x19)))))
 else
 (if (x6.2.2.1==([45]:List UInt8))=true then
 some (.inl (.inr ()))
 else
 (f133 x6.2.2.2.1 0 512).bind fun x20 =>
 (if (!x20)=true then
 some (.inl (.inr ()))
 else
 (f133 x6.2.2.2.2.1 0 512).bind fun x21 =>
 (if (!x21)=true then
 some (.inl (.inr ()))
 else
 t14 (x6.2.1,x16,x6.2.2.1,false,false,x6.2.2.1,x6.2.2.2.1,x20,x6.2.2.2.2.1,x21))))))))
 else
 some (.inl (.inl ())))
def f74 (a0:Database):Option Bool :=
 (f134 a0.1).bind fun x0 =>
 (if (!x0)=true then
 some true
 else
 (if a0.1.1.1=true then
 some true
 else
 (f133 a0.1.2 8 30).bind fun x1 =>
 (if (!x1)=true then
 some true
 else
 (f134 a0.2.1).bind fun x2 =>
 (if (!x2)=true then
 some true
 else
 (if (!a0.2.1.1.1)=true then
 some true
 else
 (f133 a0.2.1.2 32 64).bind fun x3 =>
 (if (!x3)=true then
 some true
 else
 (f77 a0).bind fun x4 =>
 (loopF (f74L0 x4) 0).bind fun x22 =>
 caseT x22 (fun _ =>
 some false) (fun _ =>
 some true)))))))
def f138 (a0:Prefix) (a1:Addr):Option Bool :=
 (f194 a1 a0.2).bind fun x0 =>
 (if (x0.1==0)=true then
 some (Ty.eqT cPrefix x0.2 a0)
 else
 some false)
def f139L0 (p1:(Int×(List Int))):Option ((List Int)⊕(Int×(List Int))) :=
 let y2:Bool:=(decide (p1.1<(w64 (8*(p1.2.length:Int)))))
 (if y2=true then
 (idx p1.2 (w64 (Int.tdiv p1.1 8))).bind fun _ =>
 (idx p1.2 (w64 (Int.tdiv p1.1 8))).bind fun x4 =>
 chk (ge0T (IntKind.u64.wrap (Int.tmod p1.1 8))) <|
 let y5:Int:=(shrI .u8 128 (IntKind.u64.wrap (Int.tmod p1.1 8)))
 (idx p1.2 (w64 (Int.tdiv p1.1 8))).bind fun _ =>
 (idx p1.2 (w64 (Int.tdiv p1.1 8))).bind fun _ =>
 let y8:(List Int):=(List.set p1.2 (Int.toNat (w64 (Int.tdiv p1.1 8))) (bitI .or .u8 x4 y5))
 chk (decide (y8.length=p1.2.length)) <|
 some (.inr ((w64 (p1.1+1)),y8))
 else
 some (.inl p1.2))
def f139 (a0:Prefix):Option Addr :=
 (f41 a0.1).bind fun x0 =>
 (loopF (f139L0) ((maxI 0 a0.2),x0)).bind fun x9 =>
 (f196 x9).bind fun x10 =>
 some x10.2
def f75L1 (a0:Database) (x2:Member) (p3:Int):Option ((Unit⊕Unit)⊕Int) :=
 (if (decide (p3<(x2.2.2.2.2.2.length:Int)))=true then
 (idx x2.2.2.2.2.2 p3).bind fun x4 =>
 jn (fun(_:Unit) =>
 (f137 x4.2.2.2.2.2).bind fun x6 =>
 (if (!x6)=true then
 (f138 a0.2.1 x4.2.2.2.2.2).bind fun x7 =>
 (if (!x7)=true then
 some (.inl (.inr ()))
 else
 (if (Ty.eqT cAddr x4.2.2.2.2.2 a0.2.1.1)=true then
 some (.inl (.inr ()))
 else
 some (.inr (w64 (p3+1)))))
 else
 some (.inr (w64 (p3+1))))) (fun t8 =>
 (f137 x4.2.2.2.2.1).bind fun x9 =>
 (if (!x9)=true then
 (f138 a0.1 x4.2.2.2.2.1).bind fun x10 =>
 (if (!x10)=true then
 some (.inl (.inr ()))
 else
 (if (Ty.eqT cAddr x4.2.2.2.2.1 a0.1.1)=true then
 some (.inl (.inr ()))
 else
 (f139 a0.1).bind fun x11 =>
 (if (Ty.eqT cAddr x4.2.2.2.2.1 x11)=true then
 some (.inl (.inr ()))
 else
 t8 ())))
 else
 t8 ()))
 else
 some (.inl (.inl ())))
def f75L0 (a0:Database) (x0:(List Member)) (p1:Int):Option ((Unit⊕Unit)⊕Int) :=
 (if (decide (p1<(x0.length:Int)))=true then
 (idx x0 p1).bind fun x2 =>
 (loopF (f75L1 a0 x2) 0).bind fun x12 =>
 caseT x12 (fun _ =>
 some (.inr (w64 (p1+1)))) (fun _ =>
 some (.inl (.inr ())))
 else
 some (.inl (.inl ())))
def f75 (a0:Database):Option Bool :=
 (f77 a0).bind fun x0 =>
 (loopF (f75L0 a0 x0) 0).bind fun x15 =>
 caseT x15 (fun _ =>
 some false) (fun _ =>
 some true)
def f76L0 (a0:Database) (p0:(Int×(List (Int×Bool)))):Option (((List (Int×Bool))⊕Unit)⊕(Int×(List (Int×Bool)))) :=
 (if (decide (p0.1<(a0.2.2.1.length:Int)))=true then
 (idx a0.2.2.1 p0.1).bind fun x1 =>
 (idx a0.2.2.1 0).bind fun x2 =>
 (if (x1.1 != x2.1)=true then
 some (.inl (.inr ()))
 else
 some (.inr ((w64 (p0.1+1)),(mput (Ty.eqT (.int .i64)) p0.2 x1.1 true))))
 else
 some (.inl (.inl p0.2)))
def f76L1 (a0:Database) (p5:(Int×(List (Int×Bool)))):Option ((Unit⊕Unit)⊕(Int×(List (Int×Bool)))) :=
 (if (decide (p5.1<(a0.2.2.2.length:Int)))=true then
 (idx a0.2.2.2 p5.1).bind fun x6 =>
 let y7:Bool:=(Option.getD (mget (Ty.eqT (.int .i64)) p5.2 x6.1) false)
 (if y7=true then
 some (.inl (.inr ()))
 else
 some (.inr ((w64 (p5.1+1)),(mput (Ty.eqT (.int .i64)) p5.2 x6.1 true))))
 else
 some (.inl (.inl ())))
def f76L4 (x16:Port) (p23:(Int×(List (MAC×Bool)))):Option (((List (MAC×Bool))⊕Unit)⊕(Int×(List (MAC×Bool)))) :=
 let y24:Bool:=(decide (p23.1<(x16.2.2.2.1.length:Int)))
 (if y24=true then
 (idx x16.2.2.2.1 p23.1).bind fun x25 =>
 let y26:Bool:=(Option.getD (mget (Ty.eqT cMAC) p23.2 x25) false)
 (if y26=true then
 some (.inl (.inr ()))
 else
 some (.inr ((w64 (p23.1+1)),(mput (Ty.eqT cMAC) p23.2 x25 true))))
 else
 some (.inl (.inl p23.2)))
def f76L3 (x12:Member) (p14:(Int×((List (Int×Bool))×((List (MAC×Bool))×(List (Addr×Bool)))))):Option ((((List (Int×Bool))×((List (MAC×Bool))×(List (Addr×Bool))))⊕Unit)⊕(Int×((List (Int×Bool))×((List (MAC×Bool))×(List (Addr×Bool)))))) :=
 let y15:Bool:=(decide (p14.1<(x12.2.2.2.2.2.length:Int)))
 (if y15=true then
 (idx x12.2.2.2.2.2 p14.1).bind fun x16 =>
 let y17:Bool:=(Option.getD (mget (Ty.eqT (.int .i64)) p14.2.1 x16.1) false)
 (if y17=true then
 some (.inl (.inr ()))
 else
 let y18:Bool:=(Option.getD (mget (Ty.eqT cAddr) p14.2.2.2 x16.2.2.2.2.1) false)
 (if y18=true then
 some (.inl (.inr ()))
 else
 let y19:Bool:=(Option.getD (mget (Ty.eqT cAddr) p14.2.2.2 x16.2.2.2.2.2) false)
 (if y19=true then
 some (.inl (.inr ()))
 else
 let y20:(List (Int×Bool)):=(mput (Ty.eqT (.int .i64)) p14.2.1 x16.1 true)
 jn (fun(u21:(List (Addr×Bool))) =>
 jn (fun(u22:(List (Addr×Bool))) =>
 (loopF (f76L4 x16) (0,p14.2.2.1)).bind fun x27 =>
 caseT x27 (fun x28 =>
 some (.inr ((w64 (p14.1+1)),y20,x28,u22))) (fun _ =>
 some (.inl (.inr ())))) (fun t30 =>
 (f137 x16.2.2.2.2.2).bind fun x31 =>
 (if (!x31)=true then
 t30 (mput (Ty.eqT cAddr) u21 x16.2.2.2.2.2 true)
 else
 t30 u21))) (fun t32 =>
 (f137 x16.2.2.2.2.1).bind fun x33 =>
 (if (!x33)=true then
 let y34:(List (Addr×Bool)):=(mput (Ty.eqT cAddr) p14.2.2.2 x16.2.2.2.2.1 true)
 t32 y34
 else
 t32 p14.2.2.2)))))
 else
 some (.inl (.inl (p14.2.1,p14.2.2.1,p14.2.2.2))))
def f76L2 (x10:(List Member)) (p11:(Int×((List ((List UInt8)×Bool))×((List (Int×Bool))×((List (MAC×Bool))×(List (Addr×Bool))))))):Option ((Unit⊕Unit)⊕(Int×((List ((List UInt8)×Bool))×((List (Int×Bool))×((List (MAC×Bool))×(List (Addr×Bool))))))) :=
 (if (decide (p11.1<(x10.length:Int)))=true then
 (idx x10 p11.1).bind fun x12 =>
 let y13:Bool:=(Option.getD (mget (Ty.eqT .str) p11.2.1 x12.2.1) false)
 (if y13=true then
 some (.inl (.inr ()))
 else
 (loopF (f76L3 x12) (0,p11.2.2.1,p11.2.2.2.1,p11.2.2.2.2)).bind fun x35 =>
 caseT x35 (fun x36 =>
 some (.inr ((w64 (p11.1+1)),(mput (Ty.eqT .str) p11.2.1 x12.2.1 true),x36.1,x36.2.1,x36.2.2))) (fun _ =>
 some (.inl (.inr ()))))
 else
 some (.inl (.inl ())))
def f76 (a0:Database):Option Bool :=
 (loopF (f76L0 a0) (0,([]:List (Int×Bool)))).bind fun x3 =>
 caseT x3 (fun x4 =>
 (loopF (f76L1 a0) (0,x4)).bind fun x8 =>
 caseT x8 (fun _ =>
 (f77 a0).bind fun x10 =>
 (loopF (f76L2 x10) (0,([]:List ((List UInt8)×Bool)),([]:List (Int×Bool)),([]:List (MAC×Bool)),([]:List (Addr×Bool)))).bind fun x38 =>
 caseT x38 (fun _ =>
 some false) (fun _ =>
 some true)) (fun _ =>
 some true)) (fun _ =>
 some true)
def f34 (a0:Database):Option Int :=
 (f73 a0).bind fun x0 =>
 (if x0=true then
 some 3
 else
 (f74 a0).bind fun x1 =>
 (if x1=true then
 some 1
 else
 (f75 a0).bind fun x2 =>
 (if x2=true then
 some 9
 else
 (f76 a0).bind fun x3 =>
 (if x3=true then
 some 8
 else
 some 0))))
def f78 (a0:Port):Option Port :=
 chk (decide (a0.2.2.2.1.length≤LIM)) <|
 some (a0.1,a0.2.1,a0.2.2.1,a0.2.2.2.1,a0.2.2.2.2.1,a0.2.2.2.2.2)
def f35L2 (p0:(Int×(List Port))) (x3:Member) (p4:(Int×(List Port))):Option ((List Port)⊕(Int×(List Port))) :=
 let y5:Bool:=(decide (p4.1<(x3.2.2.2.2.2.length:Int)))
 (if y5=true then
 (idx x3.2.2.2.2.2 p4.1).bind fun x6 =>
 (if (x6.1==p0.1)=true then
 (f78 x6).bind fun x7 =>
 chk (decide ((p4.2++([x7]:List Port)).length≤LIM)) <|
 some (.inr ((w64 (p4.1+1)),(p4.2++([x7]:List Port))))
 else
 some (.inr ((w64 (p4.1+1)),p4.2)))
 else
 some (.inl p4.2))
def f35L1 (p0:(Int×(List Port))) (x1:(List Member)) (p2:(Int×(List Port))):Option ((List Port)⊕(Int×(List Port))) :=
 (if (decide (p2.1<(x1.length:Int)))=true then
 (idx x1 p2.1).bind fun x3 =>
 (loopF (f35L2 p0 x3) (0,p2.2)).bind fun x8 =>
 some (.inr ((w64 (p2.1+1)),x8))
 else
 some (.inl p2.2))
def f35L0 (a0:Database) (p0:(Int×(List Port))):Option ((List Port)⊕(Int×(List Port))) :=
 (if (decide (p0.1≤999))=true then
 (f77 a0).bind fun x1 =>
 (loopF (f35L1 p0 x1) (0,p0.2)).bind fun x9 =>
 some (.inr ((w64 (p0.1+1)),x9))
 else
 some (.inl p0.2))
def f35 (a0:Database):Option (List Port) :=
 (loopF (f35L0 a0) (0,([]:List Port))).bind fun x10 =>
 some x10
def f142 (a0:Addr):Option Int :=
 (if a0.1=true then
 some 1
 else
 some 0)
def f199 (a0:Int):Option Bool :=
 some (a0 != a0)
def f143 (a0:Int) (a1:Int):Option Int :=
 (f199 a0).bind fun x0 =>
 (f199 a1).bind fun x1 =>
 (if x0=true then
 (if x1=true then
 some 0
 else
 some (-1))
 else
 (if x1=true then
 some 1
 else
 (if (decide (a0<a1))=true then
 some (-1)
 else
 (if (decide (a1<a0))=true then
 some 1
 else
 some 0))))
def f141L0 (a0:(List Int)) (p0:Int):Option ((Unit⊕Int)⊕Int) :=
 (if (decide (p0<(a0.length:Int)))=true then
 (idx a0 p0).bind fun x1 =>
 (if (x1 != 0)=true then
 some (.inl (.inr x1))
 else
 some (.inr (w64 (p0+1))))
 else
 some (.inl (.inl ())))
def f141 (a0:(List Int)):Option Int :=
 (loopF (f141L0 a0) 0).bind fun x2 =>
 caseT x2 (fun _ =>
 some 0) (fun x4 =>
 some x4)
def f81 (a0:Addr) (a1:Addr):Option Int :=
 (f142 a0).bind fun x0 =>
 (f142 a1).bind fun x1 =>
 (f132 x0 x1).bind fun x2 =>
 (f143 a0.2.1 a1.2.1).bind fun x3 =>
 (f143 a0.2.2 a1.2.2).bind fun x4 =>
 (f141 ([x2,x3,x4]:List Int)).bind fun x5 =>
 some x5
def f80 (a0:Binding) (a1:Binding):Option Int :=
 (f81 a0.1 a1.1).bind fun x0 =>
 some x0
def f197L1 (a0:Int) (p1:(Int×(List Binding))):Option ((List Binding)⊕(Int×(List Binding))) :=
 (if (decide (a0<p1.1))=true then
 (idx p1.2 p1.1).bind fun _ =>
 (idx p1.2 p1.1).bind fun x3 =>
 (idx p1.2 (w64 (p1.1-1))).bind fun _ =>
 (idx p1.2 (w64 (p1.1-1))).bind fun x5 =>
 (f80 x3 x5).bind fun x6 =>
 (if (decide (x6<0))=true then
 (idx p1.2 (w64 (p1.1-1))).bind fun _ =>
 (idx p1.2 (w64 (p1.1-1))).bind fun x8 =>
 (idx p1.2 p1.1).bind fun _ =>
 (idx p1.2 p1.1).bind fun x10 =>
 (idx p1.2 p1.1).bind fun _ =>
 (idx p1.2 p1.1).bind fun _ =>
 (chk (decide ((List.set p1.2 (Int.toNat p1.1) x8).length=p1.2.length)) <|
 idx (List.set p1.2 (Int.toNat p1.1) x8) (w64 (p1.1-1))).bind fun _ =>
 (idx (List.set p1.2 (Int.toNat p1.1) x8) (w64 (p1.1-1))).bind fun _ =>
 let y15:(List Binding):=(List.set (List.set p1.2 (Int.toNat p1.1) x8) (Int.toNat (w64 (p1.1-1))) x10)
 chk (decide (y15.length=p1.2.length)) <|
 some (.inr ((w64 (p1.1-1)),y15))
 else
 some (.inl p1.2))
 else
 some (.inl p1.2))
def f197L0 (a0:Int) (a1:Int) (p0:(Int×(List Binding))):Option ((List Binding)⊕(Int×(List Binding))) :=
 (if (decide (p0.1<a1))=true then
 (loopF (f197L1 a0) (p0.1,p0.2)).bind fun x16 =>
 some (.inr ((w64 (p0.1+1)),x16))
 else
 some (.inl p0.2))
def f197 (a0:Int) (a1:Int) (a2:(List Binding)):Option (List Binding) :=
 (loopF (f197L0 a0 a1) ((w64 (a0+1)),a2)).bind fun x17 =>
 some x17
def f261L0 (a0:Int) (a1:Int) (a2:Int) (p0:(Int×(List Binding))):Option ((List Binding)⊕(Int×(List Binding))) :=
 (if (decide (p0.1<a2))=true then
 (idx p0.2 (w64 (a1+p0.1))).bind fun _ =>
 (idx p0.2 (w64 (a1+p0.1))).bind fun x2 =>
 (idx p0.2 (w64 (a0+p0.1))).bind fun _ =>
 (idx p0.2 (w64 (a0+p0.1))).bind fun x4 =>
 (idx p0.2 (w64 (a0+p0.1))).bind fun _ =>
 (idx p0.2 (w64 (a0+p0.1))).bind fun _ =>
 let y7:(List Binding):=(List.set p0.2 (Int.toNat (w64 (a0+p0.1))) x2)
 (chk (decide (y7.length=p0.2.length)) <|
 idx y7 (w64 (a1+p0.1))).bind fun _ =>
 (idx y7 (w64 (a1+p0.1))).bind fun _ =>
 let y10:(List Binding):=(List.set y7 (Int.toNat (w64 (a1+p0.1))) x4)
 chk (decide (y10.length=p0.2.length)) <|
 some (.inr ((w64 (p0.1+1)),y10))
 else
 some (.inl p0.2))
def f261 (a0:Int) (a1:Int) (a2:Int) (a3:(List Binding)):Option (List Binding) :=
 (loopF (f261L0 a0 a1 a2) (0,a3)).bind fun x11 =>
 some x11
def f235L0 (a1:Int) (p0:(Int×(Int×(List Binding)))):Option ((Int×(List Binding))⊕(Int×(Int×(List Binding)))) :=
 (if (p0.1 != p0.2.1)=true then
 (if (decide (p0.2.1<p0.1))=true then
 (f261 (w64 (a1-p0.1)) a1 p0.2.1 p0.2.2).bind fun x1 =>
 chk (decide (x1.length=p0.2.2.length)) <|
 some (.inr ((w64 (p0.1-p0.2.1)),p0.2.1,x1))
 else
 (f261 (w64 (a1-p0.1)) (w64 ((w64 (a1+p0.2.1))-p0.1)) p0.1 p0.2.2).bind fun x2 =>
 chk (decide (x2.length=p0.2.2.length)) <|
 some (.inr (p0.1,(w64 (p0.2.1-p0.1)),x2)))
 else
 some (.inl (p0.1,p0.2.2)))
def f235 (a0:Int) (a1:Int) (a2:Int) (a3:(List Binding)):Option (List Binding) :=
 (loopF (f235L0 a1) ((w64 (a1-a0)),(w64 (a2-a1)),a3)).bind fun x3 =>
 (f261 (w64 (a1-x3.1)) a1 x3.1 x3.2).bind fun x4 =>
 some x4
def f198FL0 (a0:Int) (a3:(List Binding)) (p0:(Int×Int)):Option (Int⊕(Int×Int)) :=
 (if (decide (p0.1<p0.2))=true then
 let y1:Int:=(shrI .u64 (IntKind.u64.wrap (w64 (p0.1+p0.2))) 1)
 (idx a3 (w64 y1)).bind fun _ =>
 (idx a3 (w64 y1)).bind fun x3 =>
 (idx a3 a0).bind fun _ =>
 (idx a3 a0).bind fun x5 =>
 (f80 x3 x5).bind fun x6 =>
 (if (decide (x6<0))=true then
 some (.inr ((w64 ((w64 y1)+1)),p0.2))
 else
 some (.inr (p0.1,(w64 y1))))
 else
 some (.inl p0.1))
def f198FL1 (x7:Int) (p8:(Int×(List Binding))):Option ((List Binding)⊕(Int×(List Binding))) :=
 (if (decide (p8.1<(w64 (x7-1))))=true then
 (idx p8.2 (w64 (p8.1+1))).bind fun _ =>
 (idx p8.2 (w64 (p8.1+1))).bind fun x10 =>
 (idx p8.2 p8.1).bind fun _ =>
 (idx p8.2 p8.1).bind fun x12 =>
 (idx p8.2 p8.1).bind fun _ =>
 (idx p8.2 p8.1).bind fun _ =>
 (chk (decide ((List.set p8.2 (Int.toNat p8.1) x10).length=p8.2.length)) <|
 idx (List.set p8.2 (Int.toNat p8.1) x10) (w64 (p8.1+1))).bind fun _ =>
 (idx (List.set p8.2 (Int.toNat p8.1) x10) (w64 (p8.1+1))).bind fun _ =>
 let y17:(List Binding):=(List.set (List.set p8.2 (Int.toNat p8.1) x10) (Int.toNat (w64 (p8.1+1))) x12)
 chk (decide (y17.length=p8.2.length)) <|
 some (.inr ((w64 (p8.1+1)),y17))
 else
 some (.inl p8.2))
def f198FL2 (a1:Int) (a3:(List Binding)) (p19:(Int×Int)):Option (Int⊕(Int×Int)) :=
 (if (decide (p19.1<p19.2))=true then
 let y20:Int:=(shrI .u64 (IntKind.u64.wrap (w64 (p19.1+p19.2))) 1)
 (idx a3 a1).bind fun _ =>
 (idx a3 a1).bind fun x22 =>
 (idx a3 (w64 y20)).bind fun _ =>
 (idx a3 (w64 y20)).bind fun x24 =>
 (f80 x22 x24).bind fun x25 =>
 (if (!(decide (x25<0)))=true then
 some (.inr ((w64 ((w64 y20)+1)),p19.2))
 else
 some (.inr (p19.1,(w64 y20))))
 else
 some (.inl p19.1))
def f198FL3 (x26:Int) (p27:(Int×(List Binding))):Option ((List Binding)⊕(Int×(List Binding))) :=
 (if (decide (x26<p27.1))=true then
 (idx p27.2 (w64 (p27.1-1))).bind fun _ =>
 (idx p27.2 (w64 (p27.1-1))).bind fun x29 =>
 (idx p27.2 p27.1).bind fun _ =>
 (idx p27.2 p27.1).bind fun x31 =>
 (idx p27.2 p27.1).bind fun _ =>
 (idx p27.2 p27.1).bind fun _ =>
 (chk (decide ((List.set p27.2 (Int.toNat p27.1) x29).length=p27.2.length)) <|
 idx (List.set p27.2 (Int.toNat p27.1) x29) (w64 (p27.1-1))).bind fun _ =>
 (idx (List.set p27.2 (Int.toNat p27.1) x29) (w64 (p27.1-1))).bind fun _ =>
 let y36:(List Binding):=(List.set (List.set p27.2 (Int.toNat p27.1) x29) (Int.toNat (w64 (p27.1-1))) x31)
 chk (decide (y36.length=p27.2.length)) <|
 some (.inr ((w64 (p27.1-1)),y36))
 else
 some (.inl p27.2))
def f198FL4 (a1:Int) (a3:(List Binding)) (y38:Int) (p40:(Int×Int)):Option (Int⊕(Int×Int)) :=
 (if (decide (p40.1<p40.2))=true then
 let y41:Int:=(shrI .u64 (IntKind.u64.wrap (w64 (p40.1+p40.2))) 1)
 let y42:Int:=(w64 ((w64 ((w64 ((w64 y38)+a1))-1))-(w64 y41)))
 (idx a3 y42).bind fun _ =>
 (idx a3 y42).bind fun x44 =>
 (idx a3 (w64 y41)).bind fun _ =>
 (idx a3 (w64 y41)).bind fun x46 =>
 (f80 x44 x46).bind fun x47 =>
 (if (!(decide (x47<0)))=true then
 some (.inr ((w64 ((w64 y41)+1)),p40.2))
 else
 some (.inr (p40.1,(w64 y41))))
 else
 some (.inl p40.1))
def f198B (F:Int→Int→Int→(List Binding)→Option (List Binding)) (a0:Int) (a1:Int) (a2:Int) (a3:(List Binding)):Option (List Binding) :=
 (if ((w64 (a1-a0))==1)=true then
 (loopF (f198FL0 a0 a3) (a1,a2)).bind fun x7 =>
 (loopF (f198FL1 x7) (a0,a3)).bind fun x18 =>
 some x18
 else
 (if ((w64 (a2-a1))==1)=true then
 (loopF (f198FL2 a1 a3) (a0,a1)).bind fun x26 =>
 (loopF (f198FL3 x26) (a1,a3)).bind fun x37 =>
 some x37
 else
 let y38:Int:=(shrI .u64 (IntKind.u64.wrap (w64 (a0+a2))) 1)
 jn (fun(u39:(Int×Int)) =>
 (loopF (f198FL4 a1 a3 y38) (u39.1,u39.2)).bind fun x48 =>
 jn (fun(u49:(List Binding)) =>
 jn (fun(u50:(List Binding)) =>
 jn (fun(u51:Bool) =>
 (if u51=true then
 (F (w64 y38) (w64 ((w64 ((w64 y38)+a1))-x48)) a2 u50).bind fun x52 =>
 some x52
 else
 some u50)) (fun t53 =>
 let y54:Bool:=(decide ((w64 y38)<(w64 ((w64 ((w64 y38)+a1))-x48))))
 (if y54=true then
 let y55:Bool:=(decide ((w64 ((w64 ((w64 y38)+a1))-x48))<a2))
 t53 y55
 else
 t53 false))) (fun t56 =>
 jn (fun(u57:Bool) =>
 (if u57=true then
 (F a0 x48 (w64 y38) u49).bind fun x58 =>
 chk (decide (x58.length=u49.length)) <|
 t56 x58
 else
 t56 u49)) (fun t59 =>
 (if (decide (a0<x48))=true then
 t59 (decide (x48<(w64 y38)))
 else
 t59 false)))) (fun t60 =>
 jn (fun(u61:Bool) =>
 (if u61=true then
 (f235 x48 a1 (w64 ((w64 ((w64 y38)+a1))-x48)) a3).bind fun x62 =>
 chk (decide (x62.length=a3.length)) <|
 t60 x62
 else
 t60 a3)) (fun t63 =>
 (if (decide (x48<a1))=true then
 let y64:Bool:=(decide (a1<(w64 ((w64 ((w64 y38)+a1))-x48))))
 t63 y64
 else
 t63 false)))) (fun t65 =>
 (if (decide ((w64 y38)<a1))=true then
 t65 ((w64 ((w64 ((w64 y38)+a1))-a2)),(w64 y38))
 else
 t65 (a0,a1)))))
def f198 (n:Nat):Int→Int→Int→(List Binding)→Option (List Binding) :=
 Nat.rec (fun _ _ _ _=>none) (fun _ F=>f198B F) n
def f198F (a0:Int) (a1:Int) (a2:Int) (a3:(List Binding)):Option (List Binding):=f198 40 a0 a1 a2 a3
def f140L0 (a0:Int) (p0:(Int×(Int×(List Binding)))):Option ((Int×(List Binding))⊕(Int×(Int×(List Binding)))) :=
 (if (decide (p0.2.1≤a0))=true then
 (f197 p0.1 p0.2.1 p0.2.2).bind fun x1 =>
 chk (decide (x1.length=p0.2.2.length)) <|
 some (.inr (p0.2.1,(w64 (p0.2.1+20)),x1))
 else
 some (.inl (p0.1,p0.2.2)))
def f140L2 (a0:Int) (p4:(Int×(List Binding))) (p5:(Int×(Int×(List Binding)))):Option ((Int×(List Binding))⊕(Int×(Int×(List Binding)))) :=
 (if (decide (p5.2.1≤a0))=true then
 (f198F p5.1 (w64 (p5.1+p4.1)) p5.2.1 p5.2.2).bind fun x6 =>
 chk (decide (x6.length=p5.2.2.length)) <|
 some (.inr (p5.2.1,(w64 (p5.2.1+(w64 (2*p4.1)))),x6))
 else
 some (.inl (p5.1,p5.2.2)))
def f140L1 (a0:Int) (p4:(Int×(List Binding))):Option ((List Binding)⊕(Int×(List Binding))) :=
 (if (decide (p4.1<a0))=true then
 (loopF (f140L2 a0 p4) (0,(w64 (2*p4.1)),p4.2)).bind fun x7 =>
 (if (decide ((w64 (x7.1+p4.1))<a0))=true then
 (f198F x7.1 (w64 (x7.1+p4.1)) a0 x7.2).bind fun x8 =>
 chk (decide (x8.length=x7.2.length)) <|
 some (.inr ((w64 (p4.1*2)),x8))
 else
 some (.inr ((w64 (p4.1*2)),x7.2)))
 else
 some (.inl p4.2))
def f140 (a0:Int) (a1:(List Binding)):Option (List Binding) :=
 (loopF (f140L0 a0) (0,20,a1)).bind fun x2 =>
 (f197 x2.1 a0 x2.2).bind fun x3 =>
 chk (decide (x3.length=x2.2.length)) <|
 (loopF (f140L1 a0) (20,x3)).bind fun x9 =>
 some x9
def f79 (a0:(List Binding)):Option (List Binding) :=
 (f140 (a0.length:Int) a0).bind fun x0 =>
 some x0
def f36L1 (x2:Port) (x3:(List Addr)) (x4:(List Addr)) (p5:(Int×(List Binding))):Option ((List Binding)⊕(Int×(List Binding))) :=
 (if (decide (p5.1<((x3++x4).length:Int)))=true then
 (idx (x3++x4) p5.1).bind fun _ =>
 (idx (x3++x4) p5.1).bind fun x7 =>
 (idx x2.2.2.2.1 0).bind fun x8 =>
 chk (decide ((p5.2++([(x7,x8,x2.1)]:List Binding)).length≤LIM)) <|
 some (.inr ((w64 (p5.1+1)),(p5.2++([(x7,x8,x2.1)]:List Binding))))
 else
 some (.inl p5.2))
def f36L0 (x0:(List Port)) (p1:(Int×(List Binding))):Option ((List Binding)⊕(Int×(List Binding))) :=
 (if (decide (p1.1<(x0.length:Int)))=true then
 (idx x0 p1.1).bind fun x2 =>
 (if ((x2.2.2.2.1.length:Int)==0)=true then
 some (.inr ((w64 (p1.1+1)),p1.2))
 else
 (f72 x2.2.2.2.2.1).bind fun x3 =>
 (f72 x2.2.2.2.2.2).bind fun x4 =>
 chk (decide ((x3++x4).length≤LIM)) <|
 (loopF (f36L1 x2 x3 x4) (0,p1.2)).bind fun x9 =>
 some (.inr ((w64 (p1.1+1)),x9)))
 else
 some (.inl p1.2))
def f36 (a0:Database):Option (List Binding) :=
 (f70 a0).bind fun x0 =>
 (loopF (f36L0 x0) (0,([]:List Binding))).bind fun x10 =>
 (f79 x10).bind fun x11 =>
 chk (decide (x10.length=x11.length)) <|
 some x11
def f7L0 (x2:((List Rule)×Int)) (p4:Int):Option ((Unit⊕Unit)⊕Int) :=
 (if (decide (p4<(x2.1.length:Int)))=true then
 (idx x2.1 p4).bind fun x5 =>
 jn (fun(u6:Bool) =>
 (if u6=true then
 some (.inl (.inr ()))
 else
 some (.inr (w64 (p4+1))))) (fun t7 =>
 (if ((x5.2.2.2.1.length:Int)==0)=true then
 t7 true
 else
 (if (decide (x5.2.2.1<0))=true then
 t7 true
 else
 (if (decide (3<x5.2.2.1))=true then
 t7 true
 else
 let y8:Int:=(w64 ((x5.2.2.2.2.1.length:Int)+(x5.2.2.2.2.2.1.length:Int)))
 t7 (y8==0)))))
 else
 some (.inl (.inl ())))
def f7 (a0:Database) (a1:Int) (a2:(List Int)) (a3:(List Int)):Option ((List Rule)×((List Binding)×(Bool×Database))) :=
 (f31 a0 a2 a3).bind fun x0 =>
 (f32 x0.1 a1 a2 a3).bind fun x1 =>
 (f33 x1.2 2 3).bind fun x2 =>
 jn (fun(u3:Bool) =>
 (if u3=true then
 some (([]:List Rule),([]:List Binding),false,x1.2)
 else
 (loopF (f7L0 x2) 0).bind fun x9 =>
 caseT x9 (fun _ =>
 (f36 x1.2).bind fun x11 =>
 some (x2.1,x11,true,x1.2)) (fun _ =>
 some (([]:List Rule),([]:List Binding),false,x1.2)))) (fun t13 =>
 (if (x0.2 != 0)=true then
 t13 true
 else
 (if (x1.1 != 0)=true then
 t13 true
 else
 (if (x2.2 != 0)=true then
 t13 true
 else
 (f34 x1.2).bind fun x14 =>
 (if (x14 != 0)=true then
 t13 true
 else
 (f35 a0).bind fun x15 =>
 t13 ((x2.1.length:Int) != (x15.length:Int)))))))
def f10:Option MAC :=
 some ([255,255,255,255,255,255]:List Int)
def f40 (a0:ARP):Option Bool :=
 (if (a0.1==1)=true then
 (f83 a0.2.2.1).bind fun x0 =>
 (if x0=true then
 (f83 a0.2.2.2.2).bind fun x1 =>
 (if x1=true then
 (if (!a0.2.2.1.1)=true then
 some (!a0.2.2.2.2.1)
 else
 some false)
 else
 some false)
 else
 some false)
 else
 (if (a0.1==2)=true then
 (f83 a0.2.2.1).bind fun x2 =>
 (if x2=true then
 (f83 a0.2.2.2.2).bind fun x3 =>
 (if x3=true then
 (if (!a0.2.2.1.1)=true then
 some (!a0.2.2.2.2.1)
 else
 some false)
 else
 some false)
 else
 some false)
 else
 some false))
def f11 (a0:ARP):Option ((List Int)×Int) :=
 (f40 a0).bind fun x0 =>
 (if (!x0)=true then
 some (([]:List Int),1)
 else
 let y1:(List Int):=([0,1,8,0,6,4,0,(IntKind.u8.wrap a0.1)]:List Int)
 chk (decide ((y1++a0.2.1).length≤LIM)) <|
 (f41 a0.2.2.1).bind fun x2 =>
 chk (decide (((y1++a0.2.1)++x2).length≤LIM)) <|
 chk (decide ((((y1++a0.2.1)++x2)++a0.2.2.2.1).length≤LIM)) <|
 (f41 a0.2.2.2.2).bind fun x3 =>
 chk (decide (((((y1++a0.2.1)++x2)++a0.2.2.2.1)++x3).length≤LIM)) <|
 let y4:(List Int):=((((y1++a0.2.1)++x2)++a0.2.2.2.1)++x3)
 some (y4,0))
def f13 (a0:Int) (a1:Int):Option Link :=
 some (a1,a0,a1)
def f108 (a0:(List Addr)):Option (List Addr) :=
 (if (decide (0<(a0.length:Int)))=true then
 chk (decide ((([]:List Addr)++a0).length≤LIM)) <|
 some (([]:List Addr)++a0)
 else
 Ty.bothT (.list cAddr) (some ([]:List Addr)) (chk (decide ((([]:List Addr)++a0).length≤LIM)) <|
 some (([]:List Addr)++a0)))
def f62 (a0:Rule):Option Rule :=
 (f107 a0.2.2.2.1).bind fun x0 =>
 (f108 a0.2.2.2.2.1).bind fun x1 =>
 (f108 a0.2.2.2.2.2.1).bind fun x2 =>
 let y3:Rule:=(a0.1,a0.2.1,a0.2.2.1,x0,x1,a0.2.2.2.2.2)
 let y4:Rule:=(y3.1,y3.2.1,y3.2.2.1,y3.2.2.2.1,y3.2.2.2.2.1,x2,y3.2.2.2.2.2.2)
 some y4
def f28L0 (a0:(List Rule)) (a1:Int) (p0:Int):Option ((Unit⊕Rule)⊕Int) :=
 (if (decide (p0<(a0.length:Int)))=true then
 (idx a0 p0).bind fun x1 =>
 (if (x1.1==a1)=true then
 (f62 x1).bind fun x2 =>
 some (.inl (.inr x2))
 else
 some (.inr (w64 (p0+1))))
 else
 some (.inl (.inl ())))
def f28 (a0:(List Rule)) (a1:Int):Option (Bool×Rule) :=
 (loopF (f28L0 a0 a1) 0).bind fun x3 =>
 caseT x3 (fun _ =>
 some (false,0,0,0,([]:List MAC),([]:List Addr),([]:List Addr),0,0)) (fun x5 =>
 some (true,x5))
def f144L0 (a0:(List MAC)) (a1:MAC) (p0:Int):Option ((Unit⊕Int)⊕Int) :=
 (if (decide (p0<(a0.length:Int)))=true then
 (idx a0 p0).bind fun x1 =>
 (if (Ty.eqT cMAC a1 x1)=true then
 some (.inl (.inr p0))
 else
 some (.inr (w64 (p0+1))))
 else
 some (.inl (.inl ())))
def f144 (a0:(List MAC)) (a1:MAC):Option Int :=
 (loopF (f144L0 a0 a1) 0).bind fun x2 =>
 caseT x2 (fun _ =>
 some (-1)) (fun x4 =>
 some x4)
def f84 (a0:(List MAC)) (a1:MAC):Option Bool :=
 (f144 a0 a1).bind fun x0 =>
 some (decide (0≤x0))
def f85 (a0:MAC):Option Bool :=
 (idx a0 5).bind fun x0 =>
 (idx a0 5).bind fun _ =>
 let y2:Bool:=(Ty.eqT cMAC (List.set a0 (Int.toNat 5) 0) ([1,128,194,0,0,0]:List Int))
 (if y2=true then
 some (decide (x0≤15))
 else
 some false)
def f50L0 (a0:(List Int)) (p1:(Int×(Int×Int))):Option ((Int×Int)⊕(Int×(Int×Int))) :=
 (if (decide (p1.1<(a0.length:Int)))=true then
 (idx a0 p1.1).bind fun x2 =>
 let y3:Int:=(bitI .or .u64 (shlI .u64 p1.2.1 8) (shrI .u64 p1.2.2 56))
 let y4:Int:=(bitI .or .u64 (shlI .u64 p1.2.2 8) (IntKind.u64.wrap x2))
 some (.inr ((w64 (p1.1+1)),y3,y4))
 else
 some (.inl (p1.2.1,p1.2.2)))
def f50 (a0:(List Int)):Option (Int×Addr) :=
 jn (fun(_:Unit) =>
 (loopF (f50L0 a0) (0,0,0)).bind fun x5 =>
 some (0,((a0.length:Int)==16),x5.1,x5.2)) (fun t6 =>
 (if ((a0.length:Int) != 4)=true then
 (if ((a0.length:Int) != 16)=true then
 some (1,false,0,0)
 else
 t6 ())
 else
 t6 ()))
def f51 (a0:(List Int)) (a1:(List Int)):Option Bool :=
 some ((b2sT a0)==(b2sT a1))
def f52 (a0:ARP):Option Bool :=
 (if (a0.1==1)=true then
 (f97 a0.2.2.1).bind fun x0 =>
 (if x0=true then
 (if (!a0.2.2.1.1)=true then
 (f97 a0.2.2.2.2).bind fun x1 =>
 (if x1=true then
 some (!a0.2.2.2.2.1)
 else
 some false)
 else
 some false)
 else
 some false)
 else
 (if (a0.1==2)=true then
 (f97 a0.2.2.1).bind fun x2 =>
 (if x2=true then
 (if (!a0.2.2.1.1)=true then
 (f97 a0.2.2.2.2).bind fun x3 =>
 (if x3=true then
 some (!a0.2.2.2.2.1)
 else
 some false)
 else
 some false)
 else
 some false)
 else
 some false))
def f19 (a0:(List Int)) (a1:MAC):Option (Int×ARP) :=
 (if (decide ((a0.length:Int)<28))=true then
 some (4,0,(List.replicate 6 0),(false,0,0),(List.replicate 6 0),false,0,0)
 else
 (idx a0 6).bind fun x0 =>
 (idx a0 7).bind fun x1 =>
 let y2:Int:=(bitI .or .i64 (shlI .i64 (w64 x0) 8) (w64 x1))
 chk ((leT 14 a0.length)&&(leT 8 (List.take (Int.toNat 14) a0).length)) <|
 let y3:(List Int):=(List.drop (Int.toNat 8) (List.take (Int.toNat 14) a0))
 chk (leT 6 y3.length) <|
 chk ((leT 24 a0.length)&&(leT 18 (List.take (Int.toNat 24) a0).length)) <|
 let y4:(List Int):=(List.drop (Int.toNat 18) (List.take (Int.toNat 24) a0))
 chk (leT 6 y4.length) <|
 chk ((leT 18 a0.length)&&(leT 14 (List.take (Int.toNat 18) a0).length)) <|
 let y5:(List Int):=(List.drop (Int.toNat 14) (List.take (Int.toNat 18) a0))
 (f50 y5).bind fun x6 =>
 chk ((leT 28 a0.length)&&(leT 24 (List.take (Int.toNat 28) a0).length)) <|
 let y7:(List Int):=(List.drop (Int.toNat 24) (List.take (Int.toNat 28) a0))
 (f50 y7).bind fun x8 =>
 chk (leT 6 a0.length) <|
 (f51 (List.take (Int.toNat 6) a0) a1).bind fun x9 =>
 (if (!x9)=true then
 some (5,0,(List.replicate 6 0),(false,0,0),(List.replicate 6 0),false,0,0)
 else
 (f52 (y2,(List.take (Int.toNat 6) y3),x6.2,(List.take (Int.toNat 6) y4),x8.2)).bind fun x10 =>
 let _:ARP:=(y2,(List.take (Int.toNat 6) y3),x6.2,(List.take (Int.toNat 6) y4),x8.2)
 (if (!x10)=true then
 some (5,0,(List.replicate 6 0),(false,0,0),(List.replicate 6 0),false,0,0)
 else
 some (0,y2,(List.take (Int.toNat 6) y3),x6.2,(List.take (Int.toNat 6) y4),x8.2))))
def f200L0 (a0:(List Addr)) (a1:Addr) (p0:Int):Option ((Unit⊕Int)⊕Int) :=
 (if (decide (p0<(a0.length:Int)))=true then
 (idx a0 p0).bind fun x1 =>
 (if (Ty.eqT cAddr a1 x1)=true then
 some (.inl (.inr p0))
 else
 some (.inr (w64 (p0+1))))
 else
 some (.inl (.inl ())))
def f200 (a0:(List Addr)) (a1:Addr):Option Int :=
 (loopF (f200L0 a0 a1) 0).bind fun x2 =>
 caseT x2 (fun _ =>
 some (-1)) (fun x4 =>
 some x4)
def f145 (a0:(List Addr)) (a1:Addr):Option Bool :=
 (f200 a0 a1).bind fun x0 =>
 some (decide (0≤x0))
def f43 (a0:Frame):Option Bool :=
 (f90 a0.1).bind fun x0 =>
 some x0
def f86 (a0:Rule) (a1:Prefix) (a2:Frame) (a3:MAC):Option Int :=
 (f19 a2.2.2.2.2 a3).bind fun x0 =>
 (if (x0.1 != 0)=true then
 some 6
 else
 jn (fun(u1:Bool) =>
 (if u1=true then
 some 7
 else
 (f146 a1 x0.2.2.2.2.2).bind fun x2 =>
 (if (!x2)=true then
 some 8
 else
 (f43 a2).bind fun x3 =>
 (if x3=true then
 (f10).bind fun x4 =>
 (if (!(Ty.eqT cMAC a2.1 x4))=true then
 some 5
 else
 some 0)
 else
 some 0)))) (fun t5 =>
 (if (!(Ty.eqT cMAC x0.2.2.1 a2.2.1))=true then
 t5 true
 else
 (f145 a0.2.2.2.2.1 x0.2.2.2.1).bind fun x6 =>
 t5 (!x6))))
def f87 (a0:Frame):Option Int :=
 (f10).bind fun x0 =>
 (if (Ty.eqT cMAC a0.1 x0)=true then
 some 10
 else
 (f43 a0).bind fun x1 =>
 (if x1=true then
 some 5
 else
 some 0))
def f42 (a0:Rule) (a1:Prefix) (_:Prefix) (a3:Frame) (a4:MAC):Option Int :=
 (if (decide (1500<(a3.2.2.2.2.length:Int)))=true then
 some 11
 else
 (f84 a0.2.2.2.1 a3.2.1).bind fun x0 =>
 (if (!x0)=true then
 some 1
 else
 (f85 a3.1).bind fun x1 =>
 (if x1=true then
 some 2
 else
 (if (a3.2.2.1 != 0)=true then
 some 3
 else
 (if (a3.2.2.2.1==2054)=true then
 (f86 a0 a1 a3 a4).bind fun x2 =>
 some x2
 else
 (if (a3.2.2.2.1==2048)=true then
 (f87 a3).bind fun x3 =>
 some x3
 else
 (if (a3.2.2.2.1==34525)=true then
 none
 else
 some 4)))))))
def f44 (a0:Link):Option (Bool×Link) :=
 (if (decide (a0.1≤0))=true then
 some (false,a0)
 else
 some (true,(w64 (a0.1-1)),a0.2))
def f151L0 (a0:(List Rule)) (a1:MAC) (p0:Int):Option ((Unit⊕Int)⊕Int) :=
 (if (decide (p0<(a0.length:Int)))=true then
 (idx a0 p0).bind fun x1 =>
 (f84 x1.2.2.2.1 a1).bind fun x2 =>
 (if x2=true then
 some (.inl (.inr x1.1))
 else
 some (.inr (w64 (p0+1))))
 else
 some (.inl (.inl ())))
def f151 (a0:(List Rule)) (a1:MAC):Option (Int×Bool) :=
 (loopF (f151L0 a0 a1) 0).bind fun x3 =>
 caseT x3 (fun _ =>
 some (0,false)) (fun x5 =>
 some (x5,true))
def f152 (a0:Frame) (a1:MAC):Option (Bool×Addr) :=
 jn (fun(u0:Bool) =>
 (if u0=true then
 (f19 a0.2.2.2.2 a1).bind fun x1 =>
 (if (x1.1==0)=true then
 some (true,x1.2.2.2.2.2)
 else
 some (false,false,0,0))
 else
 jn (fun(u2:Bool) =>
 (if u2=true then
 none
 else
 some (false,false,0,0))) (fun t3 =>
 (if (a0.2.2.2.1==34525)=true then
 (f90 a0.1).bind fun x4 =>
 t3 x4
 else
 t3 false)))) (fun t5 =>
 (if (a0.2.2.2.1==2054)=true then
 (f10).bind fun x6 =>
 t5 (Ty.eqT cMAC a0.1 x6)
 else
 t5 false))
def f153L0 (a0:(List Binding)) (a1:Addr) (p0:Int):Option ((Unit⊕Binding)⊕Int) :=
 (if (decide (p0<(a0.length:Int)))=true then
 (idx a0 p0).bind fun x1 =>
 (if (Ty.eqT cAddr x1.1 a1)=true then
 some (.inl (.inr x1))
 else
 some (.inr (w64 (p0+1))))
 else
 some (.inl (.inl ())))
def f153 (a0:(List Binding)) (a1:Addr):Option (Bool×Binding) :=
 (loopF (f153L0 a0 a1) 0).bind fun x2 =>
 caseT x2 (fun _ =>
 some (false,(false,0,0),(List.replicate 6 0),0)) (fun x4 =>
 some (true,x4))
def f91 (a0:(List Rule)) (a1:(List Binding)) (a2:Frame) (a3:MAC):Option (Int×(Bool×MAC)) :=
 (f90 a2.1).bind fun x0 =>
 (if (!x0)=true then
 (f151 a0 a2.1).bind fun x1 =>
 some (x1.1,x1.2,a2.1)
 else
 (f152 a2 a3).bind fun x2 =>
 (f153 a1 x2.2).bind fun x3 =>
 (if x2.1=true then
 some (x3.2.2.2,x3.1,x3.2.2.1)
 else
 some (x3.2.2.2,false,x3.2.2.1)))
def f92 (a0:(List Int)):Option (List Int) :=
 (if (decide (0<(a0.length:Int)))=true then
 chk (decide ((([]:List Int)++a0).length≤LIM)) <|
 some (([]:List Int)++a0)
 else
 Ty.bothT (.list (.int .u8)) (some ([]:List Int)) (chk (decide ((([]:List Int)++a0).length≤LIM)) <|
 some (([]:List Int)++a0)))
def f45 (a0:(List Rule)) (a1:(List Binding)) (a2:Int) (a3:Frame) (a4:MAC):Option (Int×(Int×Frame)) :=
 (f91 a0 a1 a3 a4).bind fun x0 =>
 jn (fun(u1:Bool) =>
 (if u1=true then
 some (0,13,(List.replicate 6 0),(List.replicate 6 0),0,0,([]:List Int))
 else
 (f92 a3.2.2.2.2).bind fun x2 =>
 some (x0.1,0,x0.2.2,a3.2.1,a3.2.2.1,a3.2.2.2.1,x2))) (fun t3 =>
 (if (!x0.2.1)=true then
 t3 true
 else
 t3 (x0.1==a2)))
def f156 (a0:Int):Option (List Int) :=
 (if (decide (a0<0))=true then
 none
 else
 (if (decide (0<(w64 (a0-0))))=true then
 chk ((decide (0<(w64 (a0-0))))&&(fitIT (w64 (a0-0)))) <|
 let y0:(List Int):=(List.replicate (Int.toNat (w64 (a0-0))) 0)
 chk (leT 0 y0.length) <|
 some (List.take (Int.toNat 0) y0)
 else
 some ([]:List Int)))
def f96L0 (a0:(List (List Int))) (p0:(Int×Int)):Option (Int⊕(Int×Int)) :=
 (if (decide (p0.2<(a0.length:Int)))=true then
 (idx a0 p0.2).bind fun x1 =>
 let y2:Bool:=(decide ((w64 (p0.1+(x1.length:Int)))<0))
 (if y2=true then
 none
 else
 some (.inr ((w64 (p0.1+(x1.length:Int))),(w64 (p0.2+1)))))
 else
 some (.inl p0.1))
def f96L1 (a0:(List (List Int))) (p5:(Int×(List Int))):Option ((List Int)⊕(Int×(List Int))) :=
 (if (decide (p5.1<(a0.length:Int)))=true then
 (idx a0 p5.1).bind fun x6 =>
 chk (decide ((p5.2++x6).length≤LIM)) <|
 some (.inr ((w64 (p5.1+1)),(p5.2++x6)))
 else
 some (.inl p5.2))
def f96 (a0:(List (List Int))):Option (List Int) :=
 (loopF (f96L0 a0) (0,0)).bind fun x3 =>
 (f156 x3).bind fun x4 =>
 (loopF (f96L1 a0) (0,x4)).bind fun x7 =>
 some x7
def f47L0 (x0:(List Int)) (p1:(Int×Int)):Option (Int⊕(Int×Int)) :=
 (if (decide (p1.2<(x0.length:Int)))=true then
 (idx x0 p1.2).bind fun x2 =>
 let y3:Int:=(w64 (p1.1+(w64 ((w64 (p1.2+1))*(w64 x2)))))
 some (.inr (y3,(w64 (p1.2+1))))
 else
 some (.inl p1.1))
def f47 (a0:MAC) (a1:MAC):Option Int :=
 (f96 ([a0,a1]:List (List Int))).bind fun x0 =>
 (loopF (f47L0 x0) (0,0)).bind fun x4 =>
 some (Int.tmod x4 65521)
def f155 (a0:Fabric) (a1:Int):Option Bool :=
 (if (decide (0≤a1))=true then
 (if (decide (a1<(a0.2.2.2.length:Int)))=true then
 (idx a0.2.2.2 a1).bind fun x0 =>
 some (!x0)
 else
 some false)
 else
 some false)
def f95 (a0:Fabric) (a1:Int):Option Bool :=
 (if (decide (a1<0))=true then
 some false
 else
 (if (decide ((a0.2.1.length:Int)≤a1))=true then
 some false
 else
 (if (decide ((a0.2.2.1.length:Int)≤a1))=true then
 some false
 else
 (idx a0.2.2.1 a1).bind fun x0 =>
 (if x0=true then
 some false
 else
 (idx a0.2.1 a1).bind fun x1 =>
 (f155 a0 x1.1).bind fun x2 =>
 (if x2=true then
 (idx a0.2.1 a1).bind fun x3 =>
 (f155 a0 x3.2.1).bind fun x4 =>
 some x4
 else
 some false)))))
def f154L0 (y0:(List Int)) (p1:(Int×(List Int))):Option ((List Int)⊕(Int×(List Int))) :=
 (if (decide (p1.1<(y0.length:Int)))=true then
 (idx p1.2 p1.1).bind fun _ =>
 (idx p1.2 p1.1).bind fun _ =>
 chk (decide ((List.set p1.2 (Int.toNat p1.1) (-1)).length=p1.2.length)) <|
 some (.inr ((w64 (p1.1+1)),(List.set p1.2 (Int.toNat p1.1) (-1))))
 else
 some (.inl p1.2))
def f154L3 (p8:((List Int)×(List Int))) (y12:(List (List Int))) (p13:Int):Option (Unit⊕Int) :=
 (if (decide (p13<2))=true then
 (idx y12 p13).bind fun x14 =>
 jn (fun(u15:Bool) =>
 (if u15=true then
 (idx x14 1).bind fun x16 =>
 (idx x14 0).bind fun x17 =>
 (idx p8.2 x17).bind fun _ =>
 (idx p8.2 x17).bind fun x19 =>
 (idx p8.2 x16).bind fun _ =>
 (idx p8.2 x16).bind fun _ =>
 let _:(List Int):=(List.set p8.2 (Int.toNat x16) (w64 (x19+1)))
 (idx x14 1).bind fun _ =>
 none
 else
 some (.inr (w64 (p13+1))))) (fun t24 =>
 (idx x14 0).bind fun x25 =>
 (idx p8.1 0).bind fun x26 =>
 (if (x25==x26)=true then
 (idx x14 1).bind fun x27 =>
 (if (decide (x27<(p8.2.length:Int)))=true then
 (idx x14 1).bind fun x28 =>
 (idx p8.2 x28).bind fun _ =>
 (idx p8.2 x28).bind fun x30 =>
 t24 (decide (x30<0))
 else
 t24 false)
 else
 t24 false))
 else
 some (.inl ()))
def f154L2 (a0:Fabric) (a2:Int) (p8:((List Int)×(List Int))) (p9:Int):Option (Unit⊕Int) :=
 (if (decide (p9<(a0.2.1.length:Int)))=true then
 (idx a0.2.1 p9).bind fun x10 =>
 (if (p9==a2)=true then
 some (.inr (w64 (p9+1)))
 else
 (f95 a0 p9).bind fun x11 =>
 (if (!x11)=true then
 some (.inr (w64 (p9+1)))
 else
 let y12:(List (List Int)):=([([x10.1,x10.2.1]:List Int),([x10.2.1,x10.1]:List Int)]:List (List Int))
 (loopF (f154L3 p8 y12) 0).bind fun _ =>
 some (.inr (w64 (p9+1)))))
 else
 some (.inl ()))
def f154L1 (a0:Fabric) (a2:Int) (p8:((List Int)×(List Int))):Option ((List Int)⊕((List Int)×(List Int))) :=
 (if (decide (0<(p8.1.length:Int)))=true then
 (loopF (f154L2 a0 a2 p8) 0).bind fun _ =>
 chk (leT 1 p8.1.length) <|
 some (.inr ((List.drop (Int.toNat 1) p8.1),p8.2))
 else
 some (.inl p8.2))
def f154 (a0:Fabric) (a1:Int) (a2:Int):Option (List Int) :=
 chk (((ge0T (maxI 0 (minI a0.1 (a0.2.2.2.length:Int))))&&(decide ((maxI 0 (minI a0.1 (a0.2.2.2.length:Int)))≤(maxI 0 (minI a0.1 (a0.2.2.2.length:Int))))))&&(fitIT (maxI 0 (minI a0.1 (a0.2.2.2.length:Int))))) <|
 let y0:(List Int):=(List.replicate (Int.toNat (maxI 0 (minI a0.1 (a0.2.2.2.length:Int)))) 0)
 (loopF (f154L0 y0) (0,y0)).bind fun x4 =>
 (f155 a0 a1).bind fun x5 =>
 (if (!x5)=true then
 some x4
 else
 (if (decide ((x4.length:Int)≤a1))=true then
 some x4
 else
 (idx x4 a1).bind fun _ =>
 (idx x4 a1).bind fun _ =>
 chk (decide ((List.set x4 (Int.toNat a1) 0).length=x4.length)) <|
 (loopF (f154L1 a0 a2) (([a1]:List Int),(List.set x4 (Int.toNat a1) 0))).bind fun x33 =>
 some x33))
def f93 (a0:Fabric) (a1:Int):Option (List Int) :=
 (f154 a0 a1 (-1)).bind fun x0 =>
 some x0
def f94 (a0:Link) (a1:Int):Option (Int×Bool) :=
 (if (a1==a0.1)=true then
 some (a0.2.1,true)
 else
 (if (a1==a0.2.1)=true then
 some (a0.1,true)
 else
 some (0,false)))
def f46L1 (a0:Fabric) (x0:(List Int)) (p2:(Int×(List Int))) (p3:(Int×((List Int)×(List Int)))):Option (((List Int)×(List Int))⊕(Int×((List Int)×(List Int)))) :=
 (if (decide (p3.1<(a0.2.1.length:Int)))=true then
 (idx a0.2.1 p3.1).bind fun x4 =>
 (f94 x4 p2.1).bind fun x5 =>
 jn (fun(u6:Bool) =>
 (if u6=true then
 chk (decide ((p3.2.1++([p3.1]:List Int)).length≤LIM)) <|
 chk (decide ((p3.2.2++([x5.1]:List Int)).length≤LIM)) <|
 some (.inr ((w64 (p3.1+1)),(p3.2.1++([p3.1]:List Int)),(p3.2.2++([x5.1]:List Int))))
 else
 some (.inr ((w64 (p3.1+1)),p3.2.1,p3.2.2)))) (fun t7 =>
 (if x5.2=true then
 (if (decide (x5.1<(x0.length:Int)))=true then
 (f95 a0 p3.1).bind fun x8 =>
 (if x8=true then
 (idx x0 x5.1).bind fun x9 =>
 (idx x0 p2.1).bind fun x10 =>
 t7 (x9==(w64 (x10-1)))
 else
 t7 false)
 else
 t7 false)
 else
 t7 false))
 else
 some (.inl (p3.2.1,p3.2.2)))
def f46L0 (a0:Fabric) (a2:Int) (a3:Int) (x0:(List Int)) (p2:(Int×(List Int))):Option (((List Int)⊕Unit)⊕(Int×(List Int))) :=
 (if (p2.1 != a2)=true then
 (loopF (f46L1 a0 x0 p2) (0,([]:List Int),([]:List Int))).bind fun x11 =>
 (if ((x11.1.length:Int)==0)=true then
 some (.inl (.inr ()))
 else
 chk ((x11.1.length:Int) != 0) <|
 (idx x11.1 (Int.tmod (maxI 0 a3) (x11.1.length:Int))).bind fun _ =>
 (idx x11.1 (Int.tmod (maxI 0 a3) (x11.1.length:Int))).bind fun x13 =>
 chk (decide ((p2.2++([x13]:List Int)).length≤LIM)) <|
 (idx x11.2 (Int.tmod (maxI 0 a3) (x11.1.length:Int))).bind fun _ =>
 (idx x11.2 (Int.tmod (maxI 0 a3) (x11.1.length:Int))).bind fun x15 =>
 some (.inr (x15,(p2.2++([x13]:List Int)))))
 else
 some (.inl (.inl p2.2)))
def f46 (a0:Fabric) (a1:Int) (a2:Int) (a3:Int):Option ((List Int)×Bool) :=
 (f93 a0 a2).bind fun x0 =>
 (if (decide (a1<0))=true then
 some (([]:List Int),false)
 else
 (if (decide ((x0.length:Int)≤a1))=true then
 some (([]:List Int),false)
 else
 (idx x0 a1).bind fun x1 =>
 (if (decide (x1<0))=true then
 some (([]:List Int),false)
 else
 (loopF (f46L0 a0 a2 a3 x0) (a1,([]:List Int))).bind fun x16 =>
 caseT x16 (fun x17 =>
 some (x17,true)) (fun _ =>
 some (([]:List Int),false)))))
def f12 (a0:(List Rule)) (a1:(List Binding)) (a2:Prefix) (a3:Prefix) (a4:Fabric) (a5:Link) (a6:Int) (a7:Frame) (a8:MAC):Option (Int×(Delivery×Link)) :=
 (f28 a0 a6).bind fun x0 =>
 (if (!x0.1)=true then
 some (1,(0,([]:List Int),(List.replicate 6 0),(List.replicate 6 0),0,0,([]:List Int)),a5)
 else
 (f42 x0.2 a2 a3 a7 a8).bind fun x1 =>
 (if (x1 != 0)=true then
 some (x1,(0,([]:List Int),(List.replicate 6 0),(List.replicate 6 0),0,0,([]:List Int)),a5)
 else
 jn (fun(u2:Link) =>
 (f45 a0 a1 a6 a7 a8).bind fun x3 =>
 (if (x3.2.1 != 0)=true then
 some (x3.2.1,(0,([]:List Int),(List.replicate 6 0),(List.replicate 6 0),0,0,([]:List Int)),u2)
 else
 (f28 a0 x3.1).bind fun x4 =>
 (f47 a7.2.1 x3.2.2.1).bind fun x5 =>
 (f46 a4 x0.2.2.2.1 x4.2.2.2.1 x5).bind fun x6 =>
 jn (fun(u7:Bool) =>
 (if u7=true then
 some (14,(0,([]:List Int),(List.replicate 6 0),(List.replicate 6 0),0,0,([]:List Int)),u2)
 else
 some (0,(x3.1,x6.1,x3.2.2),u2))) (fun t8 =>
 (if (!x4.1)=true then
 t8 true
 else
 t8 (!x6.2))))) (fun t9 =>
 (f43 a7).bind fun x10 =>
 (if x10=true then
 (f44 a5).bind fun x11 =>
 (if (!x11.1)=true then
 some (12,(0,([]:List Int),(List.replicate 6 0),(List.replicate 6 0),0,0,([]:List Int)),x11.2)
 else
 t9 x11.2)
 else
 t9 a5))))
def f14L0 (a1:(List Int)) (p1:(Int×(Int×(List Int)))):Option ((Int×(List Int))⊕(Int×(Int×(List Int)))) :=
 (if (decide (0<p1.1))=true then
 (f25 256 a1 p1.2.1).bind fun x2 =>
 chk (decide ((p1.2.2++([(IntKind.u8.wrap x2.1)]:List Int)).length≤LIM)) <|
 let y3:(List Int):=(p1.2.2++([(IntKind.u8.wrap x2.1)]:List Int))
 some (.inr ((w64 (p1.1-1)),x2.2,y3))
 else
 some (.inl (p1.2.1,p1.2.2)))
def f14 (a0:Int) (a1:(List Int)) (a2:Int):Option ((List Int)×Int) :=
 (f25 (w64 (a0+1)) a1 a2).bind fun x0 =>
 (loopF (f14L0 a1) (x0.1,x0.2,([]:List Int))).bind fun x4 =>
 some (x4.2,x4.1)
def f49 (a0:MAC) (a1:Addr) (a2:Addr):Option ARP :=
 some (1,a0,a1,(List.replicate 6 0),a2)
def f20 (a0:ARP) (a1:MAC):Option ((List Int)×Int) :=
 (f52 a0).bind fun x0 =>
 (if (!x0)=true then
 some (([]:List Int),1)
 else
 (f54 a0.2.2.1).bind fun x1 =>
 (f54 a0.2.2.2.2).bind fun x2 =>
 let y3:(List (List Int)):=([a1,([0,(IntKind.u8.wrap a0.1)]:List Int),a0.2.1,x1,a0.2.2.2.1,x2]:List (List Int))
 (f53 y3 ([]:List Int)).bind fun x4 =>
 some (x4,0))
def f18 (a0:Rule) (a1:Addr) (a2:MAC):Option Frame :=
 jn (fun(u0:Addr) =>
 (idx a0.2.2.2.1 0).bind fun x1 =>
 (f49 x1 u0 a1).bind fun x2 =>
 (f20 x2 a2).bind fun x3 =>
 (f10).bind fun x4 =>
 (idx a0.2.2.2.1 0).bind fun x5 =>
 some (x4,x5,0,2054,x3.1)) (fun t6 =>
 (if (decide (0<(a0.2.2.2.2.1.length:Int)))=true then
 (idx a0.2.2.2.2.1 0).bind fun x7 =>
 t6 x7
 else
 t6 (false,0,0)))
def f15 (a0:MAC) (a1:Int) (a2:(List Int)) (a3:(List Int)):Option Bool :=
 (f6 ([]:List Int)).bind fun _ =>
 (f8 ([]:List Int) 0).bind fun x1 =>
 (f7 x1.2 a1 a2 a3).bind fun x2 =>
 (if (!x2.2.2.1)=true then
 some false
 else
 (if ((x2.1.length:Int) != 2)=true then
 some false
 else
 (if ((x2.2.1.length:Int) != 2)=true then
 some false
 else
 chk (((ge0T 4)&&(decide (4≤4)))&&(fitIT 4)) <|
 (f13 2 3).bind fun x3 =>
 (idx x2.1 0).bind fun x4 =>
 (idx x2.1 0).bind fun x5 =>
 (idx x2.2.1 1).bind fun x6 =>
 (f18 x5 x6.1 a0).bind fun x7 =>
 (f12 x2.1 x2.2.1 x2.2.2.2.1 x2.2.2.2.2.1 (4,([]:List Link),([]:List Bool),(List.replicate (Int.toNat 4) false)) x3 x4.1 x7 a0).bind fun x8 =>
 let _:Fabric:=(4,([]:List Link),([]:List Bool),(List.replicate (Int.toNat 4) false))
 (if (x8.1==0)=true then
 (idx x2.1 1).bind fun x10 =>
 some (x8.2.1.1==x10.1)
 else
 some false))))
def f3L4 (a4:MAC) (x2:((List Rule)×((List Binding)×(Bool×Database)))) (x4:Rule) (y5:(List Link)) (p6:(Int×(Int×((List Bool)×(List Bool))))) (x12:MAC) (x16:Addr) (x24:MAC) (p25:Int):Option ((Unit⊕Unit)⊕Int) :=
 (if (decide (p25≤2))=true then
 (f11 (p25,x12,x16,x24,x2.2.2.2.1.1)).bind fun x26 =>
 (f13 2 3).bind fun x27 =>
 (f12 x2.1 x2.2.1 x2.2.2.2.1 x2.2.2.2.2.1 (4,y5,p6.2.2.1,p6.2.2.2) x27 x4.1 (x24,x12,0,2054,x26.1) a4).bind fun x28 =>
 (if (x26.2 != 0)=true then
 some (.inl (.inr ()))
 else
 (if (x28.1==0)=true then
 some (.inl (.inr ()))
 else
 (if (x28.2.1.1 != 0)=true then
 some (.inl (.inr ()))
 else
 some (.inr (w64 (p25+1))))))
 else
 some (.inl (.inl ())))
def f3L3 (a2:MAC) (a4:MAC) (x2:((List Rule)×((List Binding)×(Bool×Database)))) (x4:Rule) (y5:(List Link)) (p6:(Int×(Int×((List Bool)×(List Bool))))) (x12:MAC) (x16:Addr) (x17:MAC) (x19:MAC) (x21:MAC) (y22:Int) (p23:Int):Option ((Unit⊕Unit)⊕Int) :=
 (if (decide (p23<y22))=true then
 (idx ([x17,a2,x19,x21]:List MAC) p23).bind fun x24 =>
 (loopF (f3L4 a4 x2 x4 y5 p6 x12 x16 x24) 1).bind fun x29 =>
 caseT x29 (fun _ =>
 some (.inr (w64 (p23+1)))) (fun _ =>
 some (.inl (.inr ())))
 else
 some (.inl (.inl ())))
def f3L2 (a2:MAC) (a4:MAC) (x2:((List Rule)×((List Binding)×(Bool×Database)))) (x4:Rule) (y5:(List Link)) (p6:(Int×(Int×((List Bool)×(List Bool))))) (x12:MAC) (y13:(List Addr)) (p14:Int):Option ((Unit⊕Unit)⊕Int) :=
 (if (decide (p14<(y13.length:Int)))=true then
 (idx y13 p14).bind fun _ =>
 (idx y13 p14).bind fun x16 =>
 (f10).bind fun x17 =>
 (idx x2.1 0).bind fun x18 =>
 (idx x18.2.2.2.1 0).bind fun x19 =>
 (idx x2.1 (w64 ((x2.1.length:Int)-1))).bind fun x20 =>
 (idx x20.2.2.2.1 0).bind fun x21 =>
 let y22:Int:=(([x17,a2,x19,x21]:List MAC).length:Int)
 (loopF (f3L3 a2 a4 x2 x4 y5 p6 x12 x16 x17 x19 x21 y22) 0).bind fun x32 =>
 caseT x32 (fun _ =>
 some (.inr (w64 (p14+1)))) (fun _ =>
 some (.inl (.inr ())))
 else
 some (.inl (.inl ())))
def f3L1 (a2:MAC) (a4:MAC) (x2:((List Rule)×((List Binding)×(Bool×Database)))) (x4:Rule) (y5:(List Link)) (p6:(Int×(Int×((List Bool)×(List Bool))))) (x7:Rule) (x8:MAC) (x9:MAC) (p10:Int):Option ((Unit⊕Unit)⊕Int) :=
 let y11:Bool:=(decide (p10<(([x8,x9]:List MAC).length:Int)))
 (if y11=true then
 (idx ([x8,x9]:List MAC) p10).bind fun x12 =>
 chk (decide (x7.2.2.2.2.1.length≤LIM)) <|
 chk (decide ((x7.2.2.2.2.1++([(false,0,7)]:List Addr)).length≤LIM)) <|
 let y13:(List Addr):=(x7.2.2.2.2.1++([(false,0,7)]:List Addr))
 (loopF (f3L2 a2 a4 x2 x4 y5 p6 x12 y13) 0).bind fun x35 =>
 caseT x35 (fun _ =>
 some (.inr (w64 (p10+1)))) (fun _ =>
 some (.inl (.inr ())))
 else
 some (.inl (.inl ())))
def f3L0 (a0:(List Int)) (a2:MAC) (a4:MAC) (x2:((List Rule)×((List Binding)×(Bool×Database)))) (x4:Rule) (y5:(List Link)) (p6:(Int×(Int×((List Bool)×(List Bool))))):Option ((Unit⊕Unit)⊕(Int×(Int×((List Bool)×(List Bool))))) :=
 (if (decide (p6.1<(x2.1.length:Int)))=true then
 (idx x2.1 p6.1).bind fun x7 =>
 (if (x7.1==x4.1)=true then
 some (.inr ((w64 (p6.1+1)),p6.2.1,p6.2.2.1,p6.2.2.2))
 else
 (idx x4.2.2.2.1 0).bind fun x8 =>
 (idx x7.2.2.2.1 0).bind fun x9 =>
 (loopF (f3L1 a2 a4 x2 x4 y5 p6 x7 x8 x9) 0).bind fun x38 =>
 caseT x38 (fun _ =>
 (f13 2 3).bind fun x40 =>
 (idx x2.1 0).bind fun x41 =>
 (idx x41.2.2.2.1 0).bind fun x42 =>
 (idx x7.2.2.2.1 0).bind fun x43 =>
 (f14 9 a0 p6.2.1).bind fun x44 =>
 (f12 x2.1 x2.2.1 x2.2.2.2.1 x2.2.2.2.2.1 (4,y5,p6.2.2.1,p6.2.2.2) x40 x4.1 (x42,x43,0,2048,x44.1) a4).bind fun x45 =>
 (if (x45.1 != 1)=true then
 some (.inl (.inr ()))
 else
 some (.inr ((w64 (p6.1+1)),x44.2,p6.2.2.1,p6.2.2.2)))) (fun _ =>
 some (.inl (.inr ()))))
 else
 some (.inl (.inl ())))
def f3 (a0:(List Int)) (a1:Int) (a2:MAC) (a3:Int) (a4:MAC) (a5:(List Int)) (a6:(List Int)):Option Bool :=
 (f6 a0).bind fun _ =>
 (f8 a0 0).bind fun x1 =>
 (f7 x1.2 a3 a5 a6).bind fun x2 =>
 (if (!x2.2.2.1)=true then
 some false
 else
 (f9 a1 (x2.1.length:Int)).bind fun x3 =>
 (idx x2.1 x3).bind fun x4 =>
 let y5:(List Link):=([(0,1,1),(1,2,1),(2,3,1)]:List Link)
 chk (((ge0T 3)&&(decide (3≤3)))&&(fitIT 3)) <|
 chk (((ge0T 4)&&(decide (4≤4)))&&(fitIT 4)) <|
 (loopF (f3L0 a0 a2 a4 x2 x4 y5) (0,x1.1,(List.replicate (Int.toNat 3) false),(List.replicate (Int.toNat 4) false))).bind fun x47 =>
 caseT x47 (fun _ =>
 (f15 a4 a3 a5 a6).bind fun x49 =>
 some x49) (fun _ =>
 some false))

end Go.Top
