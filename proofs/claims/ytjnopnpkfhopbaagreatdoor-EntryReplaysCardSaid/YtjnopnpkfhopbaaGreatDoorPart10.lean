/-
 Of each function: which temporaries take a right to append with the value; the plans of the regions that draw their order. Written by a program of mine.
-/
import Derived.Test.YtjnopnpkfhopbaaGreatDoorPart9
set_option linter.unusedSimpArgs false
set_option linter.unusedVariables false
set_option maxRecDepth 8000
set_option maxHeartbeats 8000000
namespace Go.Proofs.YtjnopnpkfhopbaaGreatDoor
open Go Go.AL
@[simp] def pl3:List (Nat×Plan):=[(28,Plan.seq [0,1,2,3,4,5,6,7,8,9,10,11,12,13,14,15,16,17,18] (.done)),(31,Plan.seq [0,2,3,4] (.alt (Plan.seq [1,5,6,7,8,10,11,12] (.alt (Plan.seq [9,13,14,15,16] (.done)) (Plan.seq [13,9,14,15,16] (.done)))) (Plan.seq [5,1,6,7,8,10,11,12] (.alt (Plan.seq [9,13,14,15,16] (.done)) (Plan.seq [13,9,14,15,16] (.done))))))]
@[simp] def st4:List Nat:=[]
@[simp] def pl4:List (Nat×Plan):=[]
@[simp] def st5:List Nat:=[68,69]
@[simp] def pl5:List (Nat×Plan):=[]
@[simp] def st6:List Nat:=[21]
@[simp] def pl6:List (Nat×Plan):=[]
@[simp] def st7:List Nat:=[]
@[simp] def pl7:List (Nat×Plan):=[]
@[simp] def pl8:List (Nat×Plan):=[(34,Plan.seq [1,2,0,3,4,5] (.done))]
@[simp] def st9:List Nat:=[20,29,36]
@[simp] def pl9:List (Nat×Plan):=[]
@[simp] def pl10:List (Nat×Plan):=[]
@[simp] def st11:List Nat:=[]
@[simp] def pl11:List (Nat×Plan):=[(13,Plan.seq [0,1,2,3,4] (.alt (Plan.seq [5,6,7,8] (.done)) (Plan.seq [6,5,7,8] (.done))))]
@[simp] def st12:List Nat:=[]
@[simp] def pl12:List (Nat×Plan):=[]
@[simp] def st13:List Nat:=[]
@[simp] def pl13:List (Nat×Plan):=[(3,Plan.seq [0,1,2,4,5,6,7,8] (.alt (Plan.seq [3,9,10,11,12] (.done)) (Plan.seq [9,3,10,11,12] (.done))))]
@[simp] def st14:List Nat:=[5]
@[simp] def pl14:List (Nat×Plan):=[]
@[simp] def st15:List Nat:=[]
@[simp] def pl15:List (Nat×Plan):=[]
@[simp] def st16:List Nat:=[]
@[simp] def pl16:List (Nat×Plan):=[]
@[simp] def st17:List Nat:=[20,30,1000047,1000048]
@[simp] def pl17:List (Nat×Plan):=[]
@[simp] def st18:List Nat:=[14,20]
@[simp] def pl18:List (Nat×Plan):=[]
@[simp] def st19:List Nat:=[18]
@[simp] def pl19:List (Nat×Plan):=[]
@[simp] def st20:List Nat:=[]
@[simp] def pl20:List (Nat×Plan):=[]
@[simp] def st21:List Nat:=[1000030]
@[simp] def pl21:List (Nat×Plan):=[]
@[simp] def st22:List Nat:=[]
@[simp] def pl22:List (Nat×Plan):=[(6,Plan.seq [0,1,2,4,6,7,8,10] (.alt (.alt (Plan.seq [3] (.alt (Plan.seq [5,9,11,12,13,14,15,16,17,18] (.done)) (Plan.seq [9,11] (.alt (Plan.seq [5,12,13,14,15,16,17,18] (.done)) (Plan.seq [12,5,13,14,15,16,17,18] (.done)))))) (Plan.seq [5,9,11,12] (.alt (Plan.seq [3,13,14,15,16,17,18] (.done)) (Plan.seq [13,3,14,15,16,17,18] (.done))))) (Plan.seq [9,11] (.alt (.alt (Plan.seq [3] (.alt (Plan.seq [5,12,13,14,15,16,17,18] (.done)) (Plan.seq [12,5,13,14,15,16,17,18] (.done)))) (Plan.seq [5,12] (.alt (Plan.seq [3,13,14,15,16,17,18] (.done)) (Plan.seq [13,3,14,15,16,17,18] (.done))))) (Plan.seq [12] (.alt (Plan.seq [3,5,13,14,15,16,17,18] (.done)) (Plan.seq [5] (.alt (Plan.seq [3,13,14,15,16,17,18] (.done)) (Plan.seq [13,3,14,15,16,17,18] (.done)))))))))),(7,Plan.seq [0,1,2,3,4,5,6,7] (.done))]
@[simp] def st23:List Nat:=[]
@[simp] def pl23:List (Nat×Plan):=[]
@[simp] def pl24:List (Nat×Plan):=[]
@[simp] def st25:List Nat:=[]
@[simp] def pl25:List (Nat×Plan):=[]
@[simp] def st26:List Nat:=[15,36]
@[simp] def pl26:List (Nat×Plan):=[(2,Plan.seq [0,1,2,3,5] (.alt (Plan.seq [4,6,7,8,9,10,11,12,13] (.done)) (Plan.seq [6,7] (.alt (Plan.seq [4,8,9,10,11,12,13] (.done)) (Plan.seq [8] (.alt (Plan.seq [4,9,10,11,12,13] (.done)) (Plan.seq [9,4,10,11,12,13] (.done))))))))]
@[simp] def st27:List Nat:=[28,50,63]
@[simp] def pl27:List (Nat×Plan):=[(2,Plan.seq [0,1,2,3,4,7,5,6] (.done)),(5,Plan.seq [0,1,2,3,5,7] (.alt (.alt (Plan.seq [4,6,8,9,10,11,12,13] (.done)) (Plan.seq [6] (.alt (Plan.seq [4,8,9,10,11,12,13] (.done)) (Plan.seq [8] (.alt (Plan.seq [4,9,10,11,12,13] (.done)) (Plan.seq [9,4,10,11,12,13] (.done))))))) (Plan.seq [8] (.alt (Plan.seq [4,6,9,10,11,12,13] (.done)) (Plan.seq [6] (.alt (Plan.seq [4,9,10,11,12,13] (.done)) (Plan.seq [9,4,10,11,12,13] (.done))))))))]
@[simp] def st28:List Nat:=[11,22,33,39]
@[simp] def pl28:List (Nat×Plan):=[]
@[simp] def st29:List Nat:=[]
@[simp] def pl29:List (Nat×Plan):=[]
@[simp] def st30:List Nat:=[28,1000012,2000012,1000018,2000018,1000027,2000027,1000033,2000033]
@[simp] def pl30:List (Nat×Plan):=[(10,Plan.seq [0,1,2,3,5,6,4,7,8,9] (.done))]
@[simp] def st31:List Nat:=[30,39,43]
@[simp] def pl31:List (Nat×Plan):=[(7,Plan.seq [1,2,3,4,5,6,7,8,0,9,10,11] (.done))]
@[simp] def pl32:List (Nat×Plan):=[]
@[simp] def st33:List Nat:=[]
@[simp] def pl33:List (Nat×Plan):=[]
@[simp] def st34:List Nat:=[]
@[simp] def pl34:List (Nat×Plan):=[]
@[simp] def pl35:List (Nat×Plan):=[]
@[simp] def st36:List Nat:=[]
@[simp] def pl36:List (Nat×Plan):=[]
@[simp] def st37:List Nat:=[21]
@[simp] def pl37:List (Nat×Plan):=[]
@[simp] def st38:List Nat:=[58]
@[simp] def pl38:List (Nat×Plan):=[(3,Plan.seq [0,1,2,3,4,5,6] (.done))]
@[simp] def st39:List Nat:=[]
@[simp] def pl39:List (Nat×Plan):=[(14,Plan.seq [1] (.alt (Plan.seq [0,2,3,4] (.done)) (Plan.seq [2,0,3,4] (.done))))]
@[simp] def st40:List Nat:=[]
@[simp] def pl40:List (Nat×Plan):=[]
@[simp] def st41:List Nat:=[]
@[simp] def pl41:List (Nat×Plan):=[]
@[simp] def st42:List Nat:=[31,1000013,31]
@[simp] def pl42:List (Nat×Plan):=[(2,Plan.seq [0,1,2,3,4,5,6,7,8,9,10,11] (.done))]
@[simp] def st43:List Nat:=[]
@[simp] def pl43:List (Nat×Plan):=[]
@[simp] def st44:List Nat:=[]
@[simp] def pl44:List (Nat×Plan):=[]
@[simp] def st45:List Nat:=[1000033]
@[simp] def pl45:List (Nat×Plan):=[]
@[simp] def st46:List Nat:=[]
@[simp] def pl46:List (Nat×Plan):=[]
@[simp] def st47:List Nat:=[]
@[simp] def pl47:List (Nat×Plan):=[]
@[simp] def st48:List Nat:=[]
@[simp] def pl48:List (Nat×Plan):=[(1,Plan.seq [0,1,2,4,5] (.alt (.alt (Plan.seq [3] (.alt (Plan.seq [6,7,8,9,10] (.done)) (Plan.seq [7,6,8,9,10] (.done)))) (Plan.seq [6,7] (.alt (Plan.seq [3,8,9,10] (.done)) (Plan.seq [8,3,9,10] (.done))))) (Plan.seq [7] (.alt (Plan.seq [3,6,8,9,10] (.done)) (Plan.seq [6] (.alt (Plan.seq [3,8,9,10] (.done)) (Plan.seq [8,3,9,10] (.done))))))))]
@[simp] def st49:List Nat:=[]
@[simp] def pl49:List (Nat×Plan):=[]
@[simp] def st50:List Nat:=[]
@[simp] def pl50:List (Nat×Plan):=[]
@[simp] def st51:List Nat:=[17]
@[simp] def pl51:List (Nat×Plan):=[]
@[simp] def st52:List Nat:=[]
@[simp] def pl52:List (Nat×Plan):=[]
@[simp] def st53:List Nat:=[]
@[simp] def pl53:List (Nat×Plan):=[]
@[simp] def st54:List Nat:=[]
@[simp] def pl54:List (Nat×Plan):=[]
@[simp] def st55:List Nat:=[25,26,34]
@[simp] def pl55:List (Nat×Plan):=[]
@[simp] def st56:List Nat:=[8,25,30]
@[simp] def pl56:List (Nat×Plan):=[]
@[simp] def st57:List Nat:=[27,32]
@[simp] def pl57:List (Nat×Plan):=[(2,Plan.seq [0] (.alt (.alt (.alt (Plan.seq [1,2] (.alt (.alt (Plan.seq [3] (.alt (Plan.seq [4,5,6,7] (.done)) (Plan.seq [5,4,6,7] (.done)))) (Plan.seq [4] (.alt (Plan.seq [3,5,6,7] (.done)) (Plan.seq [5,3,6,7] (.done))))) (Plan.seq [5] (.alt (Plan.seq [3,4,6,7] (.done)) (Plan.seq [4,3,6,7] (.done)))))) (Plan.seq [2] (.alt (.alt (Plan.seq [1] (.alt (.alt (Plan.seq [3] (.alt (Plan.seq [4,5,6,7] (.done)) (Plan.seq [5,4,6,7] (.done)))) (Plan.seq [4] (.alt (Plan.seq [3,5,6,7] (.done)) (Plan.seq [5,3,6,7] (.done))))) (Plan.seq [5] (.alt (Plan.seq [3,4,6,7] (.done)) (Plan.seq [4,3,6,7] (.done)))))) (Plan.seq [4] (.alt (Plan.seq [1] (.alt (Plan.seq [3,5,6,7] (.done)) (Plan.seq [5,3,6,7] (.done)))) (Plan.seq [5,1,3,6,7] (.done))))) (Plan.seq [5] (.alt (Plan.seq [1] (.alt (Plan.seq [3,4,6,7] (.done)) (Plan.seq [4,3,6,7] (.done)))) (Plan.seq [4,1,3,6,7] (.done))))))) (Plan.seq [4] (.alt (.alt (Plan.seq [1,2] (.alt (Plan.seq [3,5,6,7] (.done)) (Plan.seq [5,3,6,7] (.done)))) (Plan.seq [2] (.alt (Plan.seq [1] (.alt (Plan.seq [3,5,6,7] (.done)) (Plan.seq [5,3,6,7] (.done)))) (Plan.seq [5,1,3,6,7] (.done))))) (Plan.seq [5] (.alt (Plan.seq [1,2,3,6,7] (.done)) (Plan.seq [2,1,3,6,7] (.done))))))) (Plan.seq [5] (.alt (.alt (Plan.seq [1,2] (.alt (Plan.seq [3,4,6,7] (.done)) (Plan.seq [4,3,6,7] (.done)))) (Plan.seq [2] (.alt (Plan.seq [1] (.alt (Plan.seq [3,4,6,7] (.done)) (Plan.seq [4,3,6,7] (.done)))) (Plan.seq [4,1,3,6,7] (.done))))) (Plan.seq [4] (.alt (Plan.seq [1,2,3,6,7] (.done)) (Plan.seq [2,1,3,6,7] (.done)))))))),(8,Plan.seq [0,1,2,3,4] (.done))]
@[simp] def st58:List Nat:=[]
@[simp] def pl58:List (Nat×Plan):=[]
@[simp] def st59:List Nat:=[42]
@[simp] def pl59:List (Nat×Plan):=[(5,Plan.seq [0,1,2,3,4,5,6,7,8,9,10] (.done)),(10,Plan.seq [0,1,2,5,6] (.alt (Plan.seq [3,4,7,8,9,10,11] (.done)) (Plan.seq [7,3,4,8,9,10,11] (.done))))]
@[simp] def st60:List Nat:=[]
@[simp] def pl60:List (Nat×Plan):=[]
@[simp] def st61:List Nat:=[12]
@[simp] def pl61:List (Nat×Plan):=[]
@[simp] def st62:List Nat:=[21,29,30,31]
@[simp] def pl62:List (Nat×Plan):=[]
@[simp] def st63:List Nat:=[11]
@[simp] def pl63:List (Nat×Plan):=[]
@[simp] def pl64:List (Nat×Plan):=[]
@[simp] def st65:List Nat:=[]
@[simp] def pl65:List (Nat×Plan):=[]
@[simp] def st66:List Nat:=[]
@[simp] def pl66:List (Nat×Plan):=[]
@[simp] def st67:List Nat:=[]
@[simp] def pl67:List (Nat×Plan):=[(11,Plan.seq [0,1,2,3,5] (.alt (Plan.seq [4,6,7,8] (.done)) (Plan.seq [6,4,7,8] (.done)))),(14,Plan.seq [0,1,2,3] (.alt (Plan.seq [4,5,6,7] (.done)) (Plan.seq [5,4,6,7] (.done))))]
@[simp] def st68:List Nat:=[]
@[simp] def pl68:List (Nat×Plan):=[]
@[simp] def st69:List Nat:=[]
@[simp] def pl69:List (Nat×Plan):=[]
@[simp] def st70:List Nat:=[]
@[simp] def pl70:List (Nat×Plan):=[]
@[simp] def st71:List Nat:=[]
@[simp] def pl71:List (Nat×Plan):=[]
@[simp] def st72:List Nat:=[]
@[simp] def pl72:List (Nat×Plan):=[(1,Plan.seq [0,1,2,4,5,6,7,8] (.alt (Plan.seq [3,9,10,11] (.done)) (Plan.seq [9,3,10,11] (.done))))]
@[simp] def st73:List Nat:=[]
@[simp] def pl73:List (Nat×Plan):=[]
@[simp] def st74:List Nat:=[]
@[simp] def pl74:List (Nat×Plan):=[]
@[simp] def st75:List Nat:=[13]
@[simp] def pl75:List (Nat×Plan):=[]
@[simp] def st76:List Nat:=[]
@[simp] def pl76:List (Nat×Plan):=[]
@[simp] def st77:List Nat:=[]
@[simp] def pl77:List (Nat×Plan):=[]
@[simp] def st78:List Nat:=[]
@[simp] def pl78:List (Nat×Plan):=[]
@[simp] def st79:List Nat:=[]
@[simp] def pl79:List (Nat×Plan):=[(1,Plan.seq [0,1,2,4,5] (.alt (Plan.seq [3,6,7,8,9] (.done)) (Plan.seq [6,3,7,8,9] (.done))))]
@[simp] def st80:List Nat:=[]
@[simp] def pl80:List (Nat×Plan):=[]
@[simp] def st81:List Nat:=[]
@[simp] def pl81:List (Nat×Plan):=[]
@[simp] def st82:List Nat:=[]
@[simp] def pl82:List (Nat×Plan):=[]
@[simp] def st83:List Nat:=[]
@[simp] def pl83:List (Nat×Plan):=[]
@[simp] def st84:List Nat:=[]
@[simp] def pl84:List (Nat×Plan):=[]
@[simp] def st85:List Nat:=[11]
@[simp] def pl85:List (Nat×Plan):=[]
@[simp] def st86:List Nat:=[]
@[simp] def pl86:List (Nat×Plan):=[]
@[simp] def st87:List Nat:=[36,19]
@[simp] def pl87:List (Nat×Plan):=[]
@[simp] def st88:List Nat:=[23]
@[simp] def pl88:List (Nat×Plan):=[]
@[simp] def st89:List Nat:=[12]
@[simp] def pl89:List (Nat×Plan):=[]
@[simp] def st90:List Nat:=[]
@[simp] def pl90:List (Nat×Plan):=[(2,Plan.seq [0,1,2,3,4,5,6,7,8] (.done))]
@[simp] def st91:List Nat:=[23]
@[simp] def pl91:List (Nat×Plan):=[]
@[simp] def st92:List Nat:=[38]
@[simp] def pl92:List (Nat×Plan):=[(5,Plan.seq [0,1,2,3,4,5,6,7,8,9,10] (.done)),(10,Plan.seq [0,1,2,5,6] (.alt (Plan.seq [3,4,7,8,9,10,11] (.done)) (Plan.seq [7,3,4,8,9,10,11] (.done))))]
@[simp] def st93:List Nat:=[24,25,26,27,34,35]
@[simp] def pl93:List (Nat×Plan):=[]
@[simp] def st94:List Nat:=[]
@[simp] def pl94:List (Nat×Plan):=[]
@[simp] def st95:List Nat:=[]
@[simp] def pl95:List (Nat×Plan):=[]
@[simp] def pl96:List (Nat×Plan):=[]
@[simp] def st97:List Nat:=[]
@[simp] def pl97:List (Nat×Plan):=[]
@[simp] def st98:List Nat:=[31]
@[simp] def pl98:List (Nat×Plan):=[]
@[simp] def st99:List Nat:=[]
@[simp] def pl99:List (Nat×Plan):=[]
@[simp] def st100:List Nat:=[]
@[simp] def pl100:List (Nat×Plan):=[]
@[simp] def st101:List Nat:=[94]
@[simp] def pl101:List (Nat×Plan):=[(20,Plan.seq [0,1,2,3,4,5,6,7] (.alt (Plan.seq [8,9,10] (.done)) (Plan.seq [9,8,10] (.done)))),(25,Plan.seq [0,1,2,3,4,5] (.alt (Plan.seq [6,7] (.alt (.alt (Plan.seq [8] (.alt (Plan.seq [9,10,11,12] (.done)) (Plan.seq [10] (.alt (Plan.seq [9,11,12] (.done)) (Plan.seq [11,9,12] (.done)))))) (Plan.seq [9] (.alt (Plan.seq [8,10,11,12] (.done)) (Plan.seq [10,8,11,12] (.done))))) (Plan.seq [10] (.alt (Plan.seq [8] (.alt (Plan.seq [9,11,12] (.done)) (Plan.seq [11,9,12] (.done)))) (Plan.seq [9,8,11,12] (.done)))))) (Plan.seq [10,6,7] (.alt (Plan.seq [8] (.alt (Plan.seq [9,11,12] (.done)) (Plan.seq [11,9,12] (.done)))) (Plan.seq [9,8,11,12] (.done)))))),(30,Plan.seq [0,1,2,3,4,5,6,7,8] (.done))]
@[simp] def st102:List Nat:=[]
@[simp] def st103:List Nat:=[]
@[simp] def pl103:List (Nat×Plan):=[]
@[simp] def st104:List Nat:=[]
@[simp] def pl104:List (Nat×Plan):=[]
@[simp] def st105:List Nat:=[22]
@[simp] def pl105:List (Nat×Plan):=[]
@[simp] def st106:List Nat:=[]
@[simp] def pl106:List (Nat×Plan):=[]
@[simp] def st107:List Nat:=[]
@[simp] def pl107:List (Nat×Plan):=[]
@[simp] def st108:List Nat:=[49,50,54,55]
@[simp] def pl108:List (Nat×Plan):=[(8,Plan.seq [0,1,2,3,4,5,6,7,8,9,10,11] (.done))]
@[simp] def st109:List Nat:=[12]
@[simp] def pl109:List (Nat×Plan):=[]
@[simp] def st110:List Nat:=[43,70,93,160]
@[simp] def pl110:List (Nat×Plan):=[(46,Plan.seq [0,1,2,3,4,5,6,7,8] (.done))]
@[simp] def st111:List Nat:=[]
@[simp] def pl111:List (Nat×Plan):=[]
@[simp] def st112:List Nat:=[]
@[simp] def pl112:List (Nat×Plan):=[]
@[simp] def st113:List Nat:=[]
@[simp] def pl113:List (Nat×Plan):=[(0,Plan.seq [0,1,2,4,5,6,8,9,10] (.alt (.alt (Plan.seq [3] (.alt (Plan.seq [7,11,12] (.done)) (Plan.seq [11,7,12] (.done)))) (Plan.seq [7] (.alt (Plan.seq [3,11,12] (.done)) (Plan.seq [11,3,12] (.done))))) (Plan.seq [11,3,7,12] (.done))))]
@[simp] def st114:List Nat:=[]
@[simp] def pl114:List (Nat×Plan):=[]
@[simp] def st115:List Nat:=[17]
@[simp] def pl115:List (Nat×Plan):=[(6,Plan.seq [0,1,2,3,4,5,6,7] (.done)),(7,Plan.seq [0,1,2,4,5,7,8,9,10,11] (.alt (.alt (Plan.seq [3] (.alt (Plan.seq [6,12,13] (.done)) (Plan.seq [12,6,13] (.done)))) (Plan.seq [6] (.alt (Plan.seq [3,12,13] (.done)) (Plan.seq [12,3,13] (.done))))) (Plan.seq [12,3,6,13] (.done))))]
@[simp] def st116:List Nat:=[16]
@[simp] def pl116:List (Nat×Plan):=[(4,Plan.seq [0,1,2,3,4,5,6,7,8,9] (.done))]
@[simp] def st117:List Nat:=[24]
@[simp] def pl117:List (Nat×Plan):=[]
@[simp] def st118:List Nat:=[]
@[simp] def pl118:List (Nat×Plan):=[(7,Plan.seq [0,1,2,3,4,5,6,7,8,9] (.done))]
@[simp] def st119:List Nat:=[]
@[simp] def pl119:List (Nat×Plan):=[]
@[simp] def st120:List Nat:=[]
@[simp] def pl120:List (Nat×Plan):=[]
@[simp] def st121:List Nat:=[46,50]
@[simp] def pl121:List (Nat×Plan):=[(7,Plan.seq [0,1,2,3,4,5,6,7,8,9,10,11,12,13,14] (.done))]
@[simp] def st122:List Nat:=[]
@[simp] def pl122:List (Nat×Plan):=[]
@[simp] def st123:List Nat:=[]
@[simp] def pl123:List (Nat×Plan):=[(0,Plan.seq [0,1,2,3,4,6,7,8] (.alt (Plan.seq [5,9,10,11,12,13,14] (.done)) (Plan.seq [9,10,5,11,12,13,14] (.done))))]
@[simp] def st124:List Nat:=[]
@[simp] def pl124:List (Nat×Plan):=[]
@[simp] def st125:List Nat:=[]
@[simp] def pl125:List (Nat×Plan):=[]
@[simp] def st126:List Nat:=[]
@[simp] def pl126:List (Nat×Plan):=[]
@[simp] def st127:List Nat:=[]
@[simp] def pl127:List (Nat×Plan):=[]
@[simp] def st128:List Nat:=[]
@[simp] def pl128:List (Nat×Plan):=[(3,Plan.tail 8 (Plan.seq [0,2,3,5] (.alt (Plan.seq [1,4,6,7] (.done)) (Plan.seq [4,1,6,7] (.done)))))]
@[simp] def st129:List Nat:=[19]
@[simp] def pl129:List (Nat×Plan):=[(1,Plan.seq [1,2,5] (.alt (.alt (Plan.seq [0] (.alt (Plan.seq [3,4,6,7,8,9] (.done)) (Plan.seq [4,3,6,7,8,9] (.done)))) (Plan.seq [3,4] (.alt (Plan.seq [0,6,7,8,9] (.done)) (Plan.seq [6,0,7,8,9] (.done))))) (Plan.seq [4] (.alt (Plan.seq [0,3,6,7,8,9] (.done)) (Plan.seq [3] (.alt (Plan.seq [0,6,7,8,9] (.done)) (Plan.seq [6,0,7,8,9] (.done))))))))]
@[simp] def st130:List Nat:=[]
@[simp] def pl130:List (Nat×Plan):=[]
@[simp] def st131:List Nat:=[23]
@[simp] def pl131:List (Nat×Plan):=[]
theorem follows:Tryz.prog.follows .mixedOrders=true:=by kernel_rfl
theorem aw {f:FuncId} {fn:Func} {c:Code} (st:List Tmp) (plans:List (Nat×Plan)) (n:Nat) {args:List AV} {σ:Store} {R:AV→Store→Prop} (hf:Tryz.prog.funcs[f]?=some fn) (hb:fn.body=some c) (h:awp Tryz.prog st plans n c (aret Tryz.prog fn.results.toList R) (slotsOf args) σ) (hr:resOk fn.results.toList=true:=by kernel_rfl) (hn:args.length+(fn.ntmps-args.length)=n:=by kernel_rfl) (hok:codeOk st plans n c=true:=by kernel_rfl):ACalls Tryz.prog f args σ R:=ACalls.of_awp follows hf hb hr hn hok h
def byteA (b:UInt8):AV:= .lit (.int .u8 (b.toNat:Int))
def bytesA (l:List UInt8):List AV:=l.map byteA
@[simp] theorem bytesA_length (l:List UInt8):(bytesA l).length=l.length:=by simp[bytesA]
theorem bytesA_append (l k:List UInt8):bytesA (l++k)=bytesA l++bytesA k:=by simp[bytesA]
theorem bytesA_nil:bytesA []=[]:=rfl
theorem bytesOf_bytesA (l:List UInt8):bytesOf (bytesA l)=some l:=by
 induction l with
 |nil=>rfl
 |cons b l ih=>
  have hb:AL.byteOf (byteA b)=some b:=by simp[byteA,AL.byteOf]
  simp only[bytesOf,bytesA,List.map_cons,List.mapM_cons] at ih⊢
  rw[hb,ih];rfl
theorem bytesA_get (l:List UInt8) (i:Nat):(bytesA l)[i]?=(l[i]?).map byteA:=by simp[bytesA]
structure En where
 addr:Int
 text:List UInt8
 deriving DecidableEq
structure Rp where
 aid:UInt8
 short:Bool
 cursor:Int
 es:List En
 deriving DecidableEq
def enA (e:En):AV:= .agg [.lit (.int .i64 e.addr), .list false 1 (bytesA e.text)]
def ensA (l:List En):List AV:=l.map enA
@[simp] theorem ensA_length (l:List En):(ensA l).length=l.length:=by simp[ensA]
def rpA (r:Rp):AV:= .agg [byteA r.aid, .lit (.bool r.short), .lit (.int .i64 r.cursor), .list false 2 (ensA r.es)]
theorem byte_eq (b c:UInt8):((b.toNat:Int)==(c.toNat:Int))=(b==c):=by
 rw[Bool.eq_iff_iff,beq_iff_eq,beq_iff_eq]
 constructor
 ·intro h;exact UInt8.toNat_inj.1 (by omega)
 ·rintro rfl;rfl
theorem le_of_eq {a b:AV} (h:a=b):a.le b:=h▸AV.le_refl a
theorem byte_lt (b:UInt8):(b.toNat:Int)<256:=by have:=b.toNat_lt;omega
theorem flat_bytesA (l:List UInt8):flat (bytesA l)=bytesA l:=by
 induction l with
 |nil=>rfl
 |cons b l ih=>simp only[flat,bytesA,List.map_cons,List.flatMap_cons] at ih⊢;rw[ih];rfl
theorem bytesA_take (l:List UInt8) (n:Nat):(bytesA l).take n=bytesA (l.take n):=by simp[bytesA]
theorem bytesA_drop (l:List UInt8) (n:Nat):(bytesA l).drop n=bytesA (l.drop n):=by simp[bytesA]
theorem drop1_bytesA (l:List UInt8):(bytesA l).map AV.drop1=bytesA l:=by
 simp only[bytesA,List.map_map];rfl
def rowA (p cap:Nat) (l:List UInt8):AV:= .lit (.slice (some ⟨p,0,none⟩) l.length cap)
theorem clone_calls (o:Bool) (l:List UInt8) (σ:Store) (hl:l.length≤140737488355328):
  ACalls Tryz.prog 34 [.list o 1 (bytesA l)] σ fun v σ'=>v= .list true 1 (bytesA l)∧σ'=σ:=by
 refine aw st34 pl34 8 Tryz.func34 rfl ?_
 simp
 refine ⟨⟨by omega,by omega⟩,fun h=> ?_⟩
 rw[h];exact AV.le_refl _
theorem same_calls (o o':Bool) (l k:List UInt8) (σ:Store):
  ACalls Tryz.prog 12 [.list o 1 (bytesA l), .list o' 1 (bytesA k)] σ fun v σ'=>v= .lit (.bool (l==k))∧σ'=σ:=by
 refine aw st12 pl12 10 Tryz.func12 rfl ?_
 simp[bytesOf_bytesA]
def isOrd (b:UInt8):Bool:=[5,8,17,18,19,29,40,41,44,60].contains b.toNat
def nameB (k:Nat):ByteArray:=if k=0 then ⟨#[84,101,120,116]⟩ else if k=5 then ⟨#[80,84]⟩ else if k=8 then ⟨#[71,69]⟩ else if k=17 then ⟨#[83,66,65]⟩ else if k=18 then ⟨#[69,85,65]⟩ else if k=19 then ⟨#[73,67]⟩ else if k=29 then ⟨#[83,70]⟩ else if k=40 then ⟨#[83,65]⟩ else if k=41 then ⟨#[83,70,69]⟩ else if k=44 then ⟨#[77,70]⟩ else if k=60 then ⟨#[82,65]⟩ else ⟨#[]⟩
theorem name_calls (k:Nat) (σ:Store):ACalls Tryz.prog 84 [.lit (.int .i64 k)] σ fun v σ'=>v= .lit (.string (nameB k))∧σ'=σ:=by
 refine aw st84 pl84 26 Tryz.func84 rfl ?_
 by_cases h0:k=0
 ·subst h0;simp[nameB]
 by_cases h5:k=5
 ·subst h5;simp[nameB]
 have g5:¬(k:Int)=5:=by omega
 by_cases h8:k=8
 ·subst h8;simp[nameB]
 have g8:¬(k:Int)=8:=by omega
 by_cases h17:k=17
 ·subst h17;simp[nameB]
 have g17:¬(k:Int)=17:=by omega
 by_cases h18:k=18
 ·subst h18;simp[nameB]
 have g18:¬(k:Int)=18:=by omega
 by_cases h19:k=19
 ·subst h19;simp[nameB]
 have g19:¬(k:Int)=19:=by omega
 by_cases h29:k=29
 ·subst h29;simp[nameB]
 have g29:¬(k:Int)=29:=by omega
 by_cases h40:k=40
 ·subst h40;simp[nameB]
 have g40:¬(k:Int)=40:=by omega
 by_cases h41:k=41
 ·subst h41;simp[nameB]
 have g41:¬(k:Int)=41:=by omega
 by_cases h44:k=44
 ·subst h44;simp[nameB]
 have g44:¬(k:Int)=44:=by omega
 by_cases h60:k=60
 ·subst h60;simp[nameB]
 have g60:¬(k:Int)=60:=by omega
 simp[nameB,h0,h5,h8,h17,h18,h19,h29,h40,h41,h44,h60,g5,g8,g17,g18,g19,g29,g40,g41,g44,g60]
theorem all_bytes {p:UInt8→Prop} (h:∀n:Fin 256,p (UInt8.ofNat n.val)) (b:UInt8):p b:=by
 have:=h ⟨b.toNat,b.toNat_lt⟩
 simpa using this
theorem wrapB (b:UInt8):IntKind.i64.wrap (b.toNat:Int)=(b.toNat:Int):=by have:=b.toNat_lt;exact wrap_i64 (by omega) (by omega)
theorem ord_name (b:UInt8):b.toNat≠0→(!(nameB b.toNat).toList.isEmpty)=isOrd b:=
 all_bytes (p:=fun b=>b.toNat≠0→(!(nameB b.toNat).toList.isEmpty)=isOrd b) (by decide+kernel) b
theorem is_calls (b:UInt8) (σ:Store):ACalls Tryz.prog 58 [byteA b] σ fun v σ'=>v= .lit (.bool (isOrd b))∧σ'=σ:=by
 refine aw st58 pl58 11 Tryz.func58 rfl ?_
 by_cases h0:b.toNat=0
 ·have:isOrd b=false:=by simp[isOrd,h0]
  simp[byteA,h0,this]
 ·have h1:=ord_name b h0
  simp[byteA,h0,wrapB]
  refine callK.of (name_calls b.toNat σ) ?_
  rintro v σ' ⟨rfl,rfl⟩
  simp[h0,h1]
theorem fdiv16 (n:Nat):(n:Int).fdiv (2^min 4 IntKind.i64.bits)=((n/16:Nat):Int):=by cases n<;>rfl
theorem fdiv64 (n:Nat):(n:Int).fdiv (2^min 6 IntKind.i64.bits)=((n/64:Nat):Int):=by cases n<;>rfl
def zm (q:Nat):UInt8:=if q=0 then 64 else if q=1 then 80 else if q=2 then 96 else 112
def zl (q:Nat):UInt8:=if q=0 then 192 else if q=1 then 208 else if q=2 then 224 else 240
def zf (q:Nat):Nat:=if q=0 then 1 else if q=1 then 1 else if q=2 then 2 else 0
theorem zone_calls (r:Nat) (σ:Store):ACalls Tryz.prog 81 [.lit (.int .i64 r)] σ fun v σ'=>v= .tuple [byteA (zm (r/16)),byteA (zl (r/16)), .lit (.int .i64 (zf (r/16))), .lit (.int .i64 9)]∧σ'=σ:=by
 refine aw st81 pl81 14 Tryz.func81 rfl ?_
 obtain ⟨q,hq⟩:∃q,r/16=q:=⟨_,rfl⟩
 have hf:(r:Int).fdiv (2^min 4 IntKind.i64.bits)=(q:Int):=by rw[fdiv16,hq]
 rw[hq]
 clear hq
 by_cases h0:q=0
 ·subst h0;simp[hf,zm,zl,zf,byteA]
 ·by_cases h1:q=1
  ·subst h1;simp[hf,zm,zl,zf,byteA]
  ·by_cases h2:q=2
   ·subst h2;simp[hf,zm,zl,zf,byteA]
   ·have e1:¬(q:Int)=1:=by omega
    have e2:¬(q:Int)=2:=by omega
    simp[hf,h0,h1,h2,e1,e2,zm,zl,zf,byteA]
def sixR (r:Nat):UInt8:=if zf (r/16)≤r % 16∧r % 16≤9 then zl (r/16)|||UInt8.ofNat (r % 16) else zm (r/16)|||UInt8.ofNat (r % 16)
def six (n:Nat):UInt8:=sixR (n % 64)
theorem and63 (n:Nat) (hn:n<4096):pureBin .and (.int .i64 (n:Int)) (.int .i64 63)=some (.int .i64 ((n % 64:Nat):Int)):=by
 have e3:n&&&63=n % 64:=Nat.and_two_pow_sub_one_eq_mod n 6
 have:=and_i64 n 63 (by omega) (by omega)
 rw[e3] at this;exact this
theorem and15 (n:Nat) (hn:n<4096):pureBin .and (.int .i64 (n:Int)) (.int .i64 15)=some (.int .i64 ((n % 16:Nat):Int)):=by
 have e3:n&&&15=n % 16:=Nat.and_two_pow_sub_one_eq_mod n 4
 have:=and_i64 n 15 (by omega) (by omega)
 rw[e3] at this;exact this
theorem six_calls (n:Nat) (hn:n<4096) (σ:Store):ACalls Tryz.prog 54 [.lit (.int .i64 n)] σ fun v σ'=>v=byteA (six n)∧σ'=σ:=by
 refine aw st54 pl54 35 Tryz.func54 rfl ?_
 obtain ⟨r,hr⟩:∃r,n % 64=r:=⟨_,rfl⟩
 have h1:=and63 n hn
 rw[hr] at h1
 have hr64:r<64:=by omega
 have h2:=and15 r (by omega)
 obtain ⟨d,hd⟩:∃d,r % 16=d:=⟨_,rfl⟩
 rw[hd] at h2
 have hd16:d<16:=by omega
 have hz:=zone_calls r σ
 obtain ⟨M,hM⟩:∃M,zm (r/16)=M:=⟨_,rfl⟩
 obtain ⟨L,hL⟩:∃L,zl (r/16)=L:=⟨_,rfl⟩
 obtain ⟨F,hF⟩:∃F,zf (r/16)=F:=⟨_,rfl⟩
 obtain ⟨X,hX⟩:∃X,six n=X:=⟨_,rfl⟩
 obtain ⟨B,hB⟩:∃B,UInt8.ofNat d=B:=⟨_,rfl⟩
 have hdB:IntKind.u8.wrap (d:Int)=(B.toNat:Int):=by
  rw[wrap_u8 (by omega) (by omega),←hB,UInt8.toNat_ofNat'];omega
 have hX1:F≤d∧d≤9→L|||B=X:=fun h=>by
  rw[←hX,six,hr,sixR,hF,hd,if_pos h,hL,hB]
 have hX2:¬(F≤d∧d≤9)→M|||B=X:=fun h=>by
  rw[←hX,six,hr,sixR,hF,hd,if_neg h,hM,hB]
 rw[hM,hL,hF] at hz
 rw[hX]
 by_cases c1:F≤d
 ·by_cases c2:d≤9
  ·have c2':(d:Int)≤9:=Int.ofNat_le.2 c2
   have e:=hX1 ⟨c1,c2⟩
   simp[-e_pureBin_8,h1]
   refine callK.of hz ?_
   rintro v σ' ⟨rfl,rfl⟩
   simp[-e_pureBin_8, -e_pureBin_9,or_u8,h2,c1,c2',byteA,hdB,e]
  ·have c2':¬(d:Int)≤9:=fun h=>c2 (Int.ofNat_le.1 h)
   have e:=hX2 (fun h=>c2 h.2)
   simp[-e_pureBin_8,h1]
   refine callK.of hz ?_
   rintro v σ' ⟨rfl,rfl⟩
   simp[-e_pureBin_8, -e_pureBin_9,or_u8,h2,c1,c2',byteA,hdB,e]
 ·have e:=hX2 (fun h=>c1 h.1)
  simp[-e_pureBin_8,h1]
  refine callK.of hz ?_
  rintro v σ' ⟨rfl,rfl⟩
  simp[-e_pureBin_8, -e_pureBin_9,or_u8,h2,c1,byteA,hdB,e]
theorem mod_calls (n:Nat) (_hn:n<4096) (σ:Store):ACalls Tryz.prog 97 [.lit (.int .i64 n), .lit (.int .i64 64)] σ fun v σ'=>v= .lit (.int .i64 (n % 64:Nat))∧σ'=σ:=by
 refine aw st97 pl97 14 Tryz.func97 rfl ?_
 have h1:IntKind.i64.wrap ((n:Int).tmod 64+64)=(n:Int).tmod 64+64:=by
  have:(n:Int).tmod 64=((n % 64:Nat):Int):=rfl
  rw[this];exact wrap_i64 (by omega) (by omega)
 have h2:((n:Int).tmod 64+64).tmod 64=((n:Int) % 64):=by
  have:(n:Int).tmod 64=((n % 64:Nat):Int):=rfl
  rw[this]
  have e:((n % 64:Nat):Int)+64=((n % 64+64:Nat):Int):=by omega
  rw[e]
  have:((n % 64+64:Nat):Int).tmod 64=(((n % 64+64) % 64:Nat):Int):=rfl
  rw[this];omega
 simp[h1,h2]
def dig (c:UInt8):Nat:=if 97≤c.toNat then c.toNat-97+10 else c.toNat-48
theorem dig_le (c:UInt8):dig c≤255:=by have:=c.toNat_lt;unfold dig;split<;>omega
@[simp] theorem wr0:IntKind.i64.wrap 0=0:=by decide
@[simp] theorem wr1:IntKind.i64.wrap 1=1:=by decide
@[simp] theorem wr2:IntKind.i64.wrap 2=2:=by decide
theorem num_calls (c d:UInt8) (hc:48≤c.toNat) (hd:48≤d.toNat) (σ:Store):ACalls Tryz.prog 98 [.lit (.string ⟨#[c,d]⟩)] σ fun v σ'=>v= .lit (.int .i64 (16*dig c+dig d:Nat))∧σ'=σ:=by
 refine aw st98 pl98 32 Tryz.func98 rfl ?_
 simp
 refine codeK.loop follows (st:=st98) (plans:=pl98) (X:=Nat) (fun i=>i≤2)
  (fun i=>[(0, .lit (.string ⟨#[c,d]⟩)),(3, .lit (.int .i64 (if i=0 then 0 else if i=1 then (dig c:Nat) else (16*dig c+dig d:Nat)))),(4, .lit (.int .i64 i))]) (fun _=>σ) (fun i=>2-i) 0 (by kernel_rfl) (by simp) (by simp) (by simp) fun i hi=> ?_
 have h1:=dig_le c
 have h2:=dig_le d
 have key:∀(m:Nat) (b:UInt8),m≤300→48≤b.toNat→IntKind.i64.wrap (16*(m:Int))=((16*m:Nat):Int)∧IntKind.u8.wrap ((b.toNat:Int)-48)=((b.toNat-48:Nat):Int)∧IntKind.i64.wrap ((b.toNat-48:Nat):Int)=((b.toNat-48:Nat):Int)∧
   (97≤b.toNat→IntKind.u8.wrap ((b.toNat:Int)-97)=((b.toNat-97:Nat):Int)∧IntKind.i64.wrap ((b.toNat-97:Nat):Int)=((b.toNat-97:Nat):Int)∧IntKind.i64.wrap (((b.toNat-97:Nat):Int)+10)=(dig b:Int)):=by
  intro m b hm hb
  have:=b.toNat_lt
  refine ⟨by rw[wrap_i64 (by omega) (by omega)];omega,by rw[wrap_u8 (by omega) (by omega)];omega,wrap_i64 (by omega) (by omega),fun h=>⟨by rw[wrap_u8 (by omega) (by omega)];omega,wrap_i64 (by omega) (by omega), ?_⟩⟩
  rw[wrap_i64 (by omega) (by omega),dig,if_pos h];omega
 have hi3:i=0∨i=1∨i=2:=by omega
 rcases hi3 with rfl|rfl|rfl
 ·obtain ⟨k1,k2,k3,k4⟩:=key 0 c (by omega) hc
  by_cases h:97≤c.toNat
  ·obtain ⟨k5,k6,k7⟩:=k4 h
   have k8:IntKind.i64.wrap (dig c:Int)=(dig c:Int):=wrap_i64 (by omega) (by omega)
   have h':(97:Int)≤(c.toNat:Int):=by omega
   simp[h',k2,k3,k5,k6,k7,k8]
   exact ⟨1,by simp,by simp,by simp,by simp⟩
  ·have h':¬(97:Int)≤(c.toNat:Int):=by omega
   have hdg:c.toNat-48=dig c:=by rw[dig,if_neg h]
   rw[hdg] at k2 k3
   simp[h',k2,k3]
   exact ⟨1,by simp,by simp,by simp,by simp⟩
 ·obtain ⟨k1,k2,k3,k4⟩:=key (dig c) d (by omega) hd
  by_cases h:97≤d.toNat
  ·obtain ⟨k5,k6,k7⟩:=k4 h
   have k8:IntKind.i64.wrap (16*(dig c:Int)+(dig d:Int))=16*(dig c:Int)+(dig d:Int):=wrap_i64 (by omega) (by omega)
   have k9:IntKind.i64.wrap (16*(dig c:Int))=16*(dig c:Int):=wrap_i64 (by omega) (by omega)
   have h':(97:Int)≤(d.toNat:Int):=by omega
   simp[h',k2,k3,k5,k6,k7,k8,k9]
   exact ⟨2,by simp,by simp,by simp,by simp⟩
  ·have h':¬(97:Int)≤(d.toNat:Int):=by omega
   have hdg:d.toNat-48=dig d:=by rw[dig,if_neg h]
   have k8:IntKind.i64.wrap (16*(dig c:Int)+(dig d:Int))=16*(dig c:Int)+(dig d:Int):=wrap_i64 (by omega) (by omega)
   have k9:IntKind.i64.wrap (16*(dig c:Int))=16*(dig c:Int):=wrap_i64 (by omega) (by omega)
   rw[hdg] at k2 k3
   simp[h',k2,k3,k8,k9]
   exact ⟨2,by simp,by simp,by simp,by simp⟩
 ·have hsz:(ByteArray.mk #[c,d]).size=2:=rfl
  simp[hsz]
def tabB:Array UInt8:= #[52,48,99,49,99,50,99,51,99,52,99,53,99,54,99,55,99,56,99,57,52,97,52,98,52,99,52,100,52,101,52,102,53,48,100,49,100,50,100,51,100,52,100,53,100,54,100,55,100,56,100,57,53,97,53,98,53,99,53,100,53,101,53,102,54,48,54,49,101,50,101,51,101,52,101,53,101,54,101,55,101,56,101,57,54,97,54,98,54,99,54,100,54,101,54,102,102,48,102,49,102,50,102,51,102,52,102,53,102,54,102,55,102,56,102,57,55,97,55,98,55,99,55,100,55,101,55,102]
theorem tab_ext (r:Fin 64):(ByteArray.mk tabB).extract (2*r.val) (2*r.val+2)=⟨#[tabB[2*r.val]?.getD 0,tabB[2*r.val+1]?.getD 0]⟩:=by
 revert r;decide+kernel
theorem tab_dig (r:Fin 64):48≤(tabB[2*r.val]?.getD 0).toNat∧48≤(tabB[2*r.val+1]?.getD 0).toNat∧16*dig (tabB[2*r.val]?.getD 0)+dig (tabB[2*r.val+1]?.getD 0)=(sixR r.val).toNat:=by
 revert r;decide+kernel
theorem tab_size:(ByteArray.mk tabB).size=128:=by decide+kernel
set_option maxRecDepth 30000 in
theorem six4_calls (n:Nat) (hn:n<4096) (σ:Store):ACalls Tryz.prog 65 [.lit (.int .i64 n)] σ fun v σ'=>v=byteA (six n)∧σ'=σ:=by
 refine aw st65 pl65 13 Tryz.func65 rfl ?_
 simp
 refine callK.of (mod_calls n hn σ) ?_
 rintro v σ' ⟨rfl,rfl⟩
 obtain ⟨r,hr⟩:∃r,n % 64=r:=⟨_,rfl⟩
 have hr64:r<64:=by omega
 have t1:=tab_ext ⟨r,hr64⟩
 obtain ⟨t2,t3,t4⟩:=tab_dig ⟨r,hr64⟩
 have t5:=tab_size
 have hsx:six n=sixR r:=by rw[six,hr]
 rw[hr,hsx]
 dsimp only at t1 t2 t3 t4
 obtain ⟨i,hi⟩:∃i,2*r=i:=⟨_,rfl⟩
 rw[hi] at t1 t2 t3 t4
 have w1:IntKind.i64.wrap (2*(r:Int))=(i:Int):=by rw[wrap_i64 (by omega) (by omega)];omega
 have w2:IntKind.i64.wrap ((i:Int)+2)=(i:Int)+2:=by rw[wrap_i64 (by omega) (by omega)]
 have hi2:i+2≤128:=by omega
 generalize tabB[i]?.getD 0=c at*
 generalize tabB[i+1]?.getD 0=d at*
 generalize sixR r=x at*
 unfold tabB at t1 t5
 have w3:IntKind.u8.wrap (16*(dig c:Int)+(dig d:Int))=(x.toNat:Int):=by
  have:=x.toNat_lt
  rw[wrap_u8 (by omega) (by omega)];omega
 have p1:(0:Int)≤(i:Int)+2:=by omega
 simp[w1,w2,t1,t5,hi2,p1]
 refine callK.of (num_calls c d t2 t3 _) ?_
 rintro v σ' ⟨rfl,rfl⟩
 simp[w3,byteA]
end Go.Proofs.YtjnopnpkfhopbaaGreatDoor
