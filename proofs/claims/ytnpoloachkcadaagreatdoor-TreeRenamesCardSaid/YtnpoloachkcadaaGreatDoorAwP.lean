/- THE RUN of the head ('awake'), worked out by the kernel piece by piece. -/
import Derived.KernelRfl
import Derived.Test.YtnpoloachkcadaaGreatDoorAi3
import Derived.Test.YtnpoloachkcadaaGreatDoorIrPT
namespace Go.Proofs.YtnpoloachkcadaaGreatDoor.Ai.Awake
open Go Go.Proofs Ai
set_option maxRecDepth 100000
set_option linter.unusedVariables false
def tab0:List Int:=[(-1),0,0,0,1,2,2,2,2,1,1,1,2,2,2,2,1,1,1,1,2,2]
def laidTabs (tp:TypeId):List (Nat × TypeId × List Value):=[(0,0,tab0.map (Value.int .i8)),(2,0,[.iface 219 (.pointer (some ⟨9,0,none⟩))])]
def u_:Value:=undef
def h_0:Nat × Blk:=(0,(.cells ⟨[(.int .i8 (-1)),(.int .i8 0),(.int .i8 0),(.int .i8 0),(.int .i8 1),(.int .i8 2),(.int .i8 2),(.int .i8 2),(.int .i8 2),(.int .i8 1),(.int .i8 1),(.int .i8 1),(.int .i8 2),(.int .i8 2),(.int .i8 2),(.int .i8 2),(.int .i8 1),(.int .i8 1),(.int .i8 1),(.int .i8 1),(.int .i8 2),(.int .i8 2)],0,1,true,true,false,true,[]⟩))
def h_1:Nat × Blk:=(2,(.cells ⟨[(.iface 219 (.pointer (some ⟨9,0,none⟩)))],0,1,true,true,false,true,[]⟩))
def h_2:Nat × Blk:=(22,(.cells ⟨[(.int .u8 3),(.string ⟨#[112]⟩),(.slice none 0 0)],27,3,false,true,false,false,[]⟩))
def h_3:Nat × Blk:=(26,(.cells ⟨[(.int .u8 3),(.string ⟨#[113]⟩),(.slice none 0 0),(.int .u8 9),(.string ⟨#[]⟩),(.slice (some ⟨22,0,none⟩) 1 1)],27,3,false,true,false,false,[]⟩))
def h_4:Nat × Blk:=(30,(.cells ⟨[(.int .u8 3),(.string ⟨#[112]⟩),(.slice none 0 0),(.int .u8 5),(.string ⟨#[]⟩),(.slice (some ⟨26,0,none⟩) 2 2)],27,3,false,true,false,false,[]⟩))
def h_5:Nat × Blk:=(31,(.cells ⟨[(.int .u8 12),(.string ⟨#[]⟩),(.slice (some ⟨30,0,none⟩) 2 2)],27,3,false,true,false,false,[]⟩))
def h_6:Nat × Blk:=(133,(.cells ⟨[(.int .u8 3),(.string ⟨#[112]⟩),(.slice none 0 0),(.int .u8 3),(.string ⟨#[113]⟩),(.slice none 0 0),(.int .u8 9),(.string ⟨#[]⟩),(.slice (some ⟨153,0,none⟩) 1 1),(.int .u8 5),(.string ⟨#[]⟩),(.slice (some ⟨176,0,none⟩) 2 2),(.int .u8 12),(.string ⟨#[]⟩),(.slice (some ⟨211,0,none⟩) 2 2)],27,3,false,true,false,false,[]⟩))
def h_7:Nat × Blk:=(153,(.cells ⟨[(.int .u8 3),(.string ⟨#[112]⟩),(.slice none 0 0)],27,3,false,false,false,false,[]⟩))
def h_8:Nat × Blk:=(174,(.cells ⟨[(.int .u8 3),(.string ⟨#[112]⟩),(.slice none 0 0)],27,3,false,false,false,false,[]⟩))
def h_9:Nat × Blk:=(176,(.cells ⟨[(.int .u8 3),(.string ⟨#[113]⟩),(.slice none 0 0),(.int .u8 9),(.string ⟨#[]⟩),(.slice (some ⟨174,0,none⟩) 1 1)],27,3,false,false,false,false,[164]⟩))
def h_10:Nat × Blk:=(207,(.cells ⟨[(.int .u8 3),(.string ⟨#[112]⟩),(.slice none 0 0)],27,3,false,false,false,false,[]⟩))
def h_11:Nat × Blk:=(209,(.cells ⟨[(.int .u8 3),(.string ⟨#[113]⟩),(.slice none 0 0),(.int .u8 9),(.string ⟨#[]⟩),(.slice (some ⟨207,0,none⟩) 1 1)],27,3,false,false,false,false,[197]⟩))
def h_12:Nat × Blk:=(211,(.cells ⟨[(.int .u8 3),(.string ⟨#[112]⟩),(.slice none 0 0),(.int .u8 5),(.string ⟨#[]⟩),(.slice (some ⟨209,0,none⟩) 2 2)],27,3,false,false,false,false,[187]⟩))
def h_13:Nat × Blk:=(328,(.cells ⟨[(.string ⟨#[112]⟩),(.string ⟨#[113]⟩)],9,1,false,false,false,false,[296]⟩))
def h_14:Nat × Blk:=(365,(.cells ⟨[(.int .u8 3),(.string ⟨#[112]⟩),(.slice none 0 0)],27,3,false,false,false,false,[]⟩))
def h_15:Nat × Blk:=(366,(.cells ⟨[(.int .u8 9),(.string ⟨#[]⟩),(.slice (some ⟨365,0,none⟩) 1 1)],27,3,false,true,false,false,[]⟩))
def h_16:Nat × Blk:=(442,(.cells ⟨[(.int .u8 3),(.string ⟨#[113]⟩),(.slice none 0 0)],27,3,false,false,false,false,[]⟩))
def h_17:Nat × Blk:=(444,(.cells ⟨[(.int .u8 3),(.string ⟨#[112]⟩),(.slice none 0 0),(.int .u8 9),(.string ⟨#[]⟩),(.slice (some ⟨442,0,none⟩) 1 1)],27,3,false,false,false,false,[428]⟩))
def h_18:Nat × Blk:=(446,(.cells ⟨[(.int .u8 3),(.string ⟨#[113]⟩),(.slice none 0 0),(.int .u8 5),(.string ⟨#[]⟩),(.slice (some ⟨444,0,none⟩) 2 2)],27,3,false,false,false,false,[414]⟩))
def h_19:Nat × Blk:=(447,(.cells ⟨[(.int .u8 12),(.string ⟨#[]⟩),(.slice (some ⟨446,0,none⟩) 2 2)],27,3,false,true,false,false,[]⟩))
def h_20:Nat × Blk:=(511,(.cells ⟨[(.int .u8 3),(.string ⟨#[113]⟩),(.slice none 0 0)],27,3,false,false,false,false,[]⟩))
def h_21:Nat × Blk:=(545,(.cells ⟨[(.int .u8 3),(.string ⟨#[113]⟩),(.slice none 0 0)],27,3,false,false,false,false,[]⟩))
def h_22:Nat × Blk:=(547,(.cells ⟨[(.int .u8 4),(.string ⟨#[]⟩),(.slice (some ⟨545,0,none⟩) 1 1)],27,3,false,false,false,false,[]⟩))
def h_23:Nat × Blk:=(549,(.cells ⟨[(.int .u8 3),(.string ⟨#[113]⟩),(.slice none 0 0),(.int .u8 9),(.string ⟨#[]⟩),(.slice (some ⟨547,0,none⟩) 1 1)],27,3,false,false,false,false,[527]⟩))
def h_24:Nat × Blk:=(551,(.cells ⟨[(.int .u8 4),(.string ⟨#[]⟩),(.slice (some ⟨511,0,none⟩) 1 1),(.int .u8 5),(.string ⟨#[]⟩),(.slice (some ⟨549,0,none⟩) 2 2)],27,3,false,false,false,false,[513]⟩))
def h_25:Nat × Blk:=(552,(.cells ⟨[(.int .u8 12),(.string ⟨#[]⟩),(.slice (some ⟨551,0,none⟩) 2 2)],27,3,false,true,false,false,[]⟩))
def w_0:Value:=(.bool false)
def w_1:Value:=(.agg ⟨[(.int .u8 12),(.string ⟨#[]⟩),(.slice (some ⟨30,0,none⟩) 2 2)]⟩)
def w_2:Value:=(.int .i64 0)
def w_3:Value:=(.bool true)
def w_4:Value:=(.slice (some ⟨328,0,none⟩) 2 2)
def w_5:Value:=(.slice (some ⟨133,0,none⟩) 5 5)
def w_6:Value:=(.int .i64 32)
def w_7:Value:=(.tuple ⟨[(.agg ⟨[(.int .u8 9),(.string ⟨#[]⟩),(.slice (some ⟨365,0,none⟩) 1 1)]⟩),(.int .i64 0)]⟩)
def w_8:Value:=(.tuple ⟨[(.agg ⟨[(.int .u8 0),(.string ⟨#[]⟩),(.slice none 0 0)]⟩),(.int .i64 32)]⟩)
def w_9:Value:=(.tuple ⟨[(.agg ⟨[(.int .u8 12),(.string ⟨#[]⟩),(.slice (some ⟨446,0,none⟩) 2 2)]⟩),(.int .i64 0)]⟩)
def w_10:Value:=(.pointer (some ⟨31,0,none⟩))
def w_11:Value:=(.pointer (some ⟨366,0,none⟩))
def w_12:Value:=(.tuple ⟨[(.agg ⟨[(.int .u8 12),(.string ⟨#[]⟩),(.slice (some ⟨551,0,none⟩) 2 2)]⟩),(.int .i64 0)]⟩)
def w_13:Value:=(.int .i64 30)
def w_14:Value:=(.agg ⟨[(.int .u8 9),(.string ⟨#[]⟩),(.slice (some ⟨365,0,none⟩) 1 1)]⟩)
def w_15:Value:=(.agg ⟨[(.int .u8 3),(.string ⟨#[112]⟩),(.slice none 0 0)]⟩)
def w_16:Value:=(.pointer (some ⟨377,0,none⟩))
def w_17:Value:=(.agg ⟨[(.int .u8 0),(.string ⟨#[]⟩),(.slice none 0 0)]⟩)
def w_18:Value:=(.agg ⟨[(.int .u8 12),(.string ⟨#[]⟩),(.slice (some ⟨551,0,none⟩) 2 2)]⟩)
def w_19:Value:=(.pointer (some ⟨447,0,none⟩))
def w_20:Value:=(.slice (some ⟨378,0,none⟩) 2 2)
def w_21:Value:=(.slice (some ⟨379,0,none⟩) 2 2)
def w_22:Value:=(.agg ⟨[(.int .u8 12),(.string ⟨#[]⟩),(.slice (some ⟨446,0,none⟩) 2 2)]⟩)
def w_23:Value:=(.pointer (some ⟨552,0,none⟩))
def w_24:Value:=(.agg ⟨[(.int .u8 3),(.string ⟨#[113]⟩),(.slice none 0 0)]⟩)
def w_25:Value:=(.agg ⟨[(.int .u8 4),(.string ⟨#[]⟩),(.slice (some ⟨451,0,none⟩) 1 1)]⟩)
def w_26:Value:=(.agg ⟨[(.int .u8 16),(.string ⟨#[]⟩),(.slice (some ⟨556,0,none⟩) 1 1)]⟩)
def w_27:Value:=(.int .i64 2)
def w_28:Value:=(.string ⟨#[113]⟩)
def w_29:Value:=(.agg ⟨[(.int .u8 16),(.string ⟨#[]⟩),(.slice (some ⟨564,0,none⟩) 1 1)]⟩)
def w_30:Value:=(.pointer (some ⟨447,2,none⟩))
def w_31:Value:=(.slice (some ⟨446,0,none⟩) 2 2)
def w_32:Value:=(.pointer (some ⟨328,1,none⟩))
def tA1:List Value:=[w_0,u_,u_,u_,u_,u_,u_,u_,u_,u_,u_,u_,u_,u_,u_,u_,u_,u_,u_,u_,u_,u_,u_,u_,u_,u_,u_,u_,u_,u_,u_,u_,u_,u_,u_,u_,u_,u_,u_,u_,u_,u_,u_,u_,u_,u_,u_,u_,u_,u_,u_,u_,u_,u_,u_,u_,u_,u_,u_,u_,u_,u_,u_,u_,u_,u_,u_,u_,u_,u_,u_,u_,u_,u_,u_,u_,u_,u_,u_,u_,u_,u_,u_,u_,u_,u_,u_,u_,u_,u_,u_,u_,u_,u_,u_,u_,u_,u_,u_,u_,u_,u_,u_,u_,u_,u_,u_,u_,u_,u_,u_,u_,u_,u_,u_,u_,u_,u_,u_]
def lA1:List (Nat × Blk):=[h_0,h_1]
def tA2:List Value:=[w_0,w_10,u_,u_,u_,u_,u_,u_,u_,u_,u_,u_,u_,u_,w_1,u_,u_,u_,u_,u_,u_,u_,u_,u_,u_,u_,u_,u_,u_,u_,u_,u_,u_,u_,u_,u_,u_,u_,u_,u_,u_,u_,u_,u_,u_,u_,u_,u_,u_,u_,u_,u_,u_,u_,u_,u_,u_,u_,u_,u_,u_,u_,u_,u_,u_,u_,u_,u_,u_,u_,u_,u_,u_,u_,u_,u_,u_,u_,u_,u_,u_,u_,u_,u_,u_,u_,u_,u_,u_,u_,u_,u_,u_,u_,u_,u_,u_,u_,u_,u_,u_,u_,u_,u_,u_,u_,u_,u_,u_,u_,u_,u_,u_,u_,u_,u_,u_,u_,u_]
def lA2:List (Nat × Blk):=[h_0,h_1,h_2,h_3,h_4,h_5]
def tA3:List Value:=[w_0,w_10,w_5,u_,u_,u_,u_,u_,u_,u_,u_,u_,u_,u_,w_1,w_1,w_5,u_,u_,u_,u_,u_,u_,u_,u_,u_,u_,u_,u_,u_,u_,u_,u_,u_,u_,u_,u_,u_,u_,u_,u_,u_,u_,u_,u_,u_,u_,u_,u_,u_,u_,u_,u_,u_,u_,u_,u_,u_,u_,u_,u_,u_,u_,u_,u_,u_,u_,u_,u_,u_,u_,u_,u_,u_,u_,u_,u_,u_,u_,u_,u_,u_,u_,u_,u_,u_,u_,u_,u_,u_,u_,u_,u_,u_,u_,u_,u_,u_,u_,u_,u_,u_,u_,u_,u_,u_,u_,u_,u_,u_,u_,u_,u_,u_,u_,u_,u_,u_,u_]
def lA3:List (Nat × Blk):=[h_0,h_1,h_2,h_3,h_4,h_5,h_6,h_7,h_8,h_9,h_10,h_11,h_12]
def tA4:List Value:=[w_0,w_10,w_5,w_4,u_,u_,u_,u_,u_,u_,u_,u_,u_,u_,w_1,w_1,w_5,w_1,w_4,u_,u_,u_,u_,u_,u_,u_,u_,u_,u_,u_,u_,u_,u_,u_,u_,u_,u_,u_,u_,u_,u_,u_,u_,u_,u_,u_,u_,u_,u_,u_,u_,u_,u_,u_,u_,u_,u_,u_,u_,u_,u_,u_,u_,u_,u_,u_,u_,u_,u_,u_,u_,u_,u_,u_,u_,u_,u_,u_,u_,u_,u_,u_,u_,u_,u_,u_,u_,u_,u_,u_,u_,u_,u_,u_,u_,u_,u_,u_,u_,u_,u_,u_,u_,u_,u_,u_,u_,u_,u_,u_,u_,u_,u_,u_,u_,u_,u_,u_,u_]
def lA4:List (Nat × Blk):=[h_0,h_1,h_2,h_3,h_4,h_5,h_6,h_7,h_8,h_9,h_10,h_11,h_12,h_13]
def tA5:List Value:=[w_0,w_10,w_5,w_4,w_11,w_2,u_,u_,u_,u_,u_,u_,u_,u_,w_1,w_1,w_5,w_1,w_4,w_7,w_1,w_7,w_14,w_2,u_,u_,u_,u_,u_,u_,u_,u_,u_,u_,u_,u_,u_,u_,u_,u_,u_,u_,u_,u_,u_,u_,u_,u_,u_,u_,u_,u_,u_,u_,u_,u_,u_,u_,u_,u_,u_,u_,u_,u_,u_,u_,u_,u_,u_,u_,u_,u_,u_,u_,u_,u_,u_,u_,u_,u_,u_,u_,u_,u_,u_,u_,u_,u_,u_,u_,u_,u_,u_,u_,u_,u_,u_,u_,u_,u_,u_,u_,u_,u_,u_,u_,u_,u_,u_,u_,u_,u_,u_,u_,u_,u_,u_,u_,u_]
def lA5:List (Nat × Blk):=[h_0,h_1,h_2,h_3,h_4,h_5,h_6,h_7,h_8,h_9,h_10,h_11,h_12,h_13,h_14,h_15]
def tA6:List Value:=[w_0,w_10,w_5,w_4,w_11,w_2,w_16,w_6,u_,u_,u_,u_,u_,u_,w_1,w_1,w_5,w_1,w_4,w_7,w_1,w_7,w_14,w_2,w_8,w_1,w_8,w_17,w_6,u_,u_,u_,u_,u_,u_,u_,u_,u_,u_,u_,u_,u_,u_,u_,u_,u_,u_,u_,u_,u_,u_,u_,u_,u_,u_,u_,u_,u_,u_,u_,u_,u_,u_,u_,u_,u_,u_,u_,u_,u_,u_,u_,u_,u_,u_,u_,u_,u_,u_,u_,u_,u_,u_,u_,u_,u_,u_,u_,u_,u_,u_,u_,u_,u_,u_,u_,u_,u_,u_,u_,u_,u_,u_,u_,u_,u_,u_,u_,u_,u_,u_,u_,u_,u_,u_,u_,u_,u_,u_]
def lA6:List (Nat × Blk):=[h_0,h_1,h_2,h_3,h_4,h_5,h_6,h_7,h_8,h_9,h_10,h_11,h_12,h_13,h_14,h_15]
def tA7:List Value:=[w_0,w_10,w_5,w_4,w_11,w_2,w_16,w_6,w_19,w_2,u_,u_,u_,u_,w_1,w_1,w_5,w_1,w_4,w_7,w_1,w_7,w_14,w_2,w_8,w_1,w_8,w_17,w_6,w_9,w_1,w_20,w_21,w_9,w_22,w_2,u_,u_,u_,u_,u_,u_,u_,u_,u_,u_,u_,u_,u_,u_,u_,u_,u_,u_,u_,u_,u_,u_,u_,u_,u_,u_,u_,u_,u_,u_,u_,u_,u_,u_,u_,u_,u_,u_,u_,u_,u_,u_,u_,u_,u_,u_,u_,u_,u_,u_,u_,u_,u_,u_,u_,u_,u_,u_,u_,u_,u_,u_,u_,u_,u_,u_,u_,u_,u_,u_,u_,u_,u_,u_,u_,u_,u_,u_,u_,u_,u_,u_,u_]
def lA7:List (Nat × Blk):=[h_0,h_1,h_2,h_3,h_4,h_5,h_6,h_7,h_8,h_9,h_10,h_11,h_12,h_13,h_14,h_15,h_16,h_17,h_18,h_19]
def tA8:List Value:=[w_0,w_10,w_5,w_4,w_11,w_2,w_16,w_6,w_19,w_2,w_23,w_2,u_,u_,w_1,w_1,w_5,w_1,w_4,w_7,w_1,w_7,w_14,w_2,w_8,w_1,w_8,w_17,w_6,w_9,w_1,w_20,w_21,w_9,w_22,w_2,w_12,w_1,w_24,w_25,w_12,w_18,w_2,u_,u_,u_,u_,u_,u_,u_,u_,u_,u_,u_,u_,u_,u_,u_,u_,u_,u_,u_,u_,u_,u_,u_,u_,u_,u_,u_,u_,u_,u_,u_,u_,u_,u_,u_,u_,u_,u_,u_,u_,u_,u_,u_,u_,u_,u_,u_,u_,u_,u_,u_,u_,u_,u_,u_,u_,u_,u_,u_,u_,u_,u_,u_,u_,u_,u_,u_,u_,u_,u_,u_,u_,u_,u_,u_,u_]
def lA8:List (Nat × Blk):=[h_0,h_1,h_2,h_3,h_4,h_5,h_6,h_7,h_8,h_9,h_10,h_11,h_12,h_13,h_14,h_15,h_16,h_17,h_18,h_19,h_20,h_21,h_22,h_23,h_24,h_25]
def tA9:List Value:=[w_0,w_10,w_5,w_4,w_11,w_2,w_16,w_6,w_19,w_2,w_23,w_2,w_13,u_,w_1,w_1,w_5,w_1,w_4,w_7,w_1,w_7,w_14,w_2,w_8,w_1,w_8,w_17,w_6,w_9,w_1,w_20,w_21,w_9,w_22,w_2,w_12,w_1,w_24,w_25,w_12,w_18,w_2,w_15,w_26,w_13,u_,u_,u_,u_,u_,u_,u_,u_,u_,u_,u_,u_,u_,u_,u_,u_,u_,u_,u_,u_,u_,u_,u_,u_,u_,u_,u_,u_,u_,u_,u_,u_,u_,u_,u_,u_,u_,u_,u_,u_,u_,u_,u_,u_,u_,u_,u_,u_,u_,u_,u_,u_,u_,u_,u_,u_,u_,u_,u_,u_,u_,u_,u_,u_,u_,u_,u_,u_,u_,u_,u_,u_,u_]
def lA9:List (Nat × Blk):=[h_0,h_1,h_2,h_3,h_4,h_5,h_6,h_7,h_8,h_9,h_10,h_11,h_12,h_13,h_14,h_15,h_16,h_17,h_18,h_19,h_20,h_21,h_22,h_23,h_24,h_25]
def tA10:List Value:=[w_0,w_10,w_5,w_4,w_11,w_2,w_16,w_6,w_19,w_2,w_23,w_2,w_13,w_2,w_1,w_1,w_5,w_1,w_4,w_7,w_1,w_7,w_14,w_2,w_8,w_1,w_8,w_17,w_6,w_9,w_1,w_20,w_21,w_9,w_22,w_2,w_12,w_1,w_24,w_25,w_12,w_18,w_2,w_15,w_26,w_13,w_15,w_29,w_2,u_,u_,u_,u_,u_,u_,u_,u_,u_,u_,u_,u_,u_,u_,u_,u_,u_,u_,u_,u_,u_,u_,u_,u_,u_,u_,u_,u_,u_,u_,u_,u_,u_,u_,u_,u_,u_,u_,u_,u_,u_,u_,u_,u_,u_,u_,u_,u_,u_,u_,u_,u_,u_,u_,u_,u_,u_,u_,u_,u_,u_,u_,u_,u_,u_,u_,u_,u_,u_,u_]
def lA10:List (Nat × Blk):=[h_0,h_1,h_2,h_3,h_4,h_5,h_6,h_7,h_8,h_9,h_10,h_11,h_12,h_13,h_14,h_15,h_16,h_17,h_18,h_19,h_20,h_21,h_22,h_23,h_24,h_25]
def tA11:List Value:=[w_0,w_10,w_5,w_4,w_11,w_2,w_16,w_6,w_19,w_2,w_23,w_2,w_13,w_2,w_1,w_1,w_5,w_1,w_4,w_7,w_1,w_7,w_14,w_2,w_8,w_1,w_8,w_17,w_6,w_9,w_1,w_20,w_21,w_9,w_22,w_2,w_12,w_1,w_24,w_25,w_12,w_18,w_2,w_15,w_26,w_13,w_15,w_29,w_2,w_1,(.int .i64 6),w_0,w_0,w_1,(.int .i64 4),w_0,w_0,w_0,w_5,(.int .i64 5),w_0,w_0,w_0,w_4,w_27,w_0,w_0,w_0,w_4,w_32,w_28,w_0,w_0,w_0,w_2,w_0,w_0,w_0,w_11,(.int .u8 9),w_0,w_0,w_0,w_6,w_0,w_0,u_,u_,u_,u_,u_,u_,u_,u_,u_,u_,u_,u_,u_,u_,u_,u_,u_,u_,u_,u_,u_,u_,u_,u_,u_,u_,u_,u_,u_,u_,u_,u_,u_]
def lA11:List (Nat × Blk):=[h_0,h_1,h_16,h_17,h_18,h_19,h_20,h_21,h_22,h_23,h_24,h_25]
def tA12:List Value:=[w_3,w_10,w_5,w_4,w_11,w_2,w_16,w_6,w_19,w_2,w_23,w_2,w_13,w_2,w_1,w_1,w_5,w_1,w_4,w_7,w_1,w_7,w_14,w_2,w_8,w_1,w_8,w_17,w_6,w_9,w_1,w_20,w_21,w_9,w_22,w_2,w_12,w_1,w_24,w_25,w_12,w_18,w_2,w_15,w_26,w_13,w_15,w_29,w_2,w_1,(.int .i64 6),w_0,w_0,w_1,(.int .i64 4),w_0,w_0,w_0,w_5,(.int .i64 5),w_0,w_0,w_0,w_4,w_27,w_0,w_0,w_0,w_4,w_32,w_28,w_0,w_0,w_0,w_2,w_0,w_0,w_0,w_11,(.int .u8 9),w_0,w_0,w_0,w_6,w_0,w_0,w_2,w_3,w_3,w_30,w_31,w_27,w_3,w_3,w_3,w_30,w_31,(.pointer (some ⟨446,0,none⟩)),(.pointer (some ⟨446,1,none⟩)),w_28,w_3,w_3,w_3,w_2,w_3,w_3,w_3,w_18,(.int .i64 8),w_3,w_3,w_3,w_13,w_3,w_3,w_3,w_2,w_3,w_3]
def lA12:List (Nat × Blk):=[h_0,h_1]
def tA13:List Value:=[w_3,w_10,w_5,w_4,w_11,w_2,w_16,w_6,w_19,w_2,w_23,w_2,w_13,w_2,w_1,w_1,w_5,w_1,w_4,w_7,w_1,w_7,w_14,w_2,w_8,w_1,w_8,w_17,w_6,w_9,w_1,w_20,w_21,w_9,w_22,w_2,w_12,w_1,w_24,w_25,w_12,w_18,w_2,w_15,w_26,w_13,w_15,w_29,w_2,w_1,(.int .i64 6),w_0,w_0,w_1,(.int .i64 4),w_0,w_0,w_0,w_5,(.int .i64 5),w_0,w_0,w_0,w_4,w_27,w_0,w_0,w_0,w_4,w_32,w_28,w_0,w_0,w_0,w_2,w_0,w_0,w_0,w_11,(.int .u8 9),w_0,w_0,w_0,w_6,w_0,w_0,w_2,w_3,w_3,w_30,w_31,w_27,w_3,w_3,w_3,w_30,w_31,(.pointer (some ⟨446,0,none⟩)),(.pointer (some ⟨446,1,none⟩)),w_28,w_3,w_3,w_3,w_2,w_3,w_3,w_3,w_18,(.int .i64 8),w_3,w_3,w_3,w_13,w_3,w_3,w_3,w_2,w_3,w_3]
def lA13:List (Nat × Blk):=[h_0,h_1]
theorem pA0 (tp:TypeId):comesTo (evC (ksN Tryz.tab 98) 98 none Tryz.c14p0 ({tmps:=[]++List.replicate (Tryz.c14.ntmps - ([]:List Value).length) u_,dfs:=[] }) (known 16 (laidTabs tp))) .normal tA1 [] 16 lA1=true:=by kernel_rfl
theorem rA0 (N0:Bs) (tp:TypeId):CRun Go.Proofs.Tryz.prog 9 [185] N0 none Tryz.c14p0 ({tmps:=[]++List.replicate (Tryz.c14.ntmps - ([]:List Value).length) u_,dfs:=[] }) (known 16 (laidTabs tp)) .normal ({tmps:=tA1,dfs:=[] }) ({next:=16,heap:=mkH lA1 }):=CRun.piece Tryz.mixed Tryz.tab_at.ok (pA0 tp)
theorem pA1 (tp:TypeId):comesTo (evC (ksN Tryz.tab 98) 98 none Tryz.c14p1 ({tmps:=tA1,dfs:=[] }) ({next:=16,heap:=mkH lA1 })) .normal tA2 [] 32 lA2=true:=by kernel_rfl
theorem rA1 (N0:Bs) (tp:TypeId):CRun Go.Proofs.Tryz.prog 9 [185] N0 none Tryz.c14p1 ({tmps:=tA1,dfs:=[] }) ({next:=16,heap:=mkH lA1 }) .normal ({tmps:=tA2,dfs:=[] }) ({next:=32,heap:=mkH lA2 }):=CRun.piece Tryz.mixed Tryz.tab_at.ok (pA1 tp)
theorem pA2 (tp:TypeId):comesTo (evC (ksN Tryz.tab 98) 98 none Tryz.c14p2 ({tmps:=tA2,dfs:=[] }) ({next:=32,heap:=mkH lA2 })) .normal tA3 [] 213 lA3=true:=by kernel_rfl
theorem rA2 (N0:Bs) (tp:TypeId):CRun Go.Proofs.Tryz.prog 9 [185] N0 none Tryz.c14p2 ({tmps:=tA2,dfs:=[] }) ({next:=32,heap:=mkH lA2 }) .normal ({tmps:=tA3,dfs:=[] }) ({next:=213,heap:=mkH lA3 }):=CRun.piece Tryz.mixed Tryz.tab_at.ok (pA2 tp)
theorem pA3 (tp:TypeId):comesTo (evC (ksN Tryz.tab 98) 98 none Tryz.c14p3 ({tmps:=tA3,dfs:=[] }) ({next:=213,heap:=mkH lA3 })) .normal tA4 [] 347 lA4=true:=by kernel_rfl
theorem rA3 (N0:Bs) (tp:TypeId):CRun Go.Proofs.Tryz.prog 9 [185] N0 none Tryz.c14p3 ({tmps:=tA3,dfs:=[] }) ({next:=213,heap:=mkH lA3 }) .normal ({tmps:=tA4,dfs:=[] }) ({next:=347,heap:=mkH lA4 }):=CRun.piece Tryz.mixed Tryz.tab_at.ok (pA3 tp)
theorem pA4 (tp:TypeId):comesTo (evC (ksN Tryz.tab 98) 98 none Tryz.c14p4 ({tmps:=tA4,dfs:=[] }) ({next:=347,heap:=mkH lA4 })) .normal tA5 [] 367 lA5=true:=by kernel_rfl
theorem rA4 (N0:Bs) (tp:TypeId):CRun Go.Proofs.Tryz.prog 9 [185] N0 none Tryz.c14p4 ({tmps:=tA4,dfs:=[] }) ({next:=347,heap:=mkH lA4 }) .normal ({tmps:=tA5,dfs:=[] }) ({next:=367,heap:=mkH lA5 }):=CRun.piece Tryz.mixed Tryz.tab_at.ok (pA4 tp)
theorem pA5 (tp:TypeId):comesTo (evC (ksN Tryz.tab 98) 98 none Tryz.c14p5 ({tmps:=tA5,dfs:=[] }) ({next:=367,heap:=mkH lA5 })) .normal tA6 [] 378 lA6=true:=by kernel_rfl
theorem rA5 (N0:Bs) (tp:TypeId):CRun Go.Proofs.Tryz.prog 9 [185] N0 none Tryz.c14p5 ({tmps:=tA5,dfs:=[] }) ({next:=367,heap:=mkH lA5 }) .normal ({tmps:=tA6,dfs:=[] }) ({next:=378,heap:=mkH lA6 }):=CRun.piece Tryz.mixed Tryz.tab_at.ok (pA5 tp)
theorem pA6 (tp:TypeId):comesTo (evC (ksN Tryz.tab 98) 98 none Tryz.c14p6 ({tmps:=tA6,dfs:=[] }) ({next:=378,heap:=mkH lA6 })) .normal tA7 [] 448 lA7=true:=by kernel_rfl
theorem rA6 (N0:Bs) (tp:TypeId):CRun Go.Proofs.Tryz.prog 9 [185] N0 none Tryz.c14p6 ({tmps:=tA6,dfs:=[] }) ({next:=378,heap:=mkH lA6 }) .normal ({tmps:=tA7,dfs:=[] }) ({next:=448,heap:=mkH lA7 }):=CRun.piece Tryz.mixed Tryz.tab_at.ok (pA6 tp)
theorem pA7 (tp:TypeId):comesTo (evC (ksN Tryz.tab 98) 98 none Tryz.c14p7 ({tmps:=tA7,dfs:=[] }) ({next:=448,heap:=mkH lA7 })) .normal tA8 [] 553 lA8=true:=by kernel_rfl
theorem rA7 (N0:Bs) (tp:TypeId):CRun Go.Proofs.Tryz.prog 9 [185] N0 none Tryz.c14p7 ({tmps:=tA7,dfs:=[] }) ({next:=448,heap:=mkH lA7 }) .normal ({tmps:=tA8,dfs:=[] }) ({next:=553,heap:=mkH lA8 }):=CRun.piece Tryz.mixed Tryz.tab_at.ok (pA7 tp)
theorem pA8 (tp:TypeId):comesTo (evC (ksN Tryz.tab 98) 98 none Tryz.c14p8 ({tmps:=tA8,dfs:=[] }) ({next:=553,heap:=mkH lA8 })) .normal tA9 [] 561 lA9=true:=by kernel_rfl
theorem rA8 (N0:Bs) (tp:TypeId):CRun Go.Proofs.Tryz.prog 9 [185] N0 none Tryz.c14p8 ({tmps:=tA8,dfs:=[] }) ({next:=553,heap:=mkH lA8 }) .normal ({tmps:=tA9,dfs:=[] }) ({next:=561,heap:=mkH lA9 }):=CRun.piece Tryz.mixed Tryz.tab_at.ok (pA8 tp)
theorem pA9 (tp:TypeId):comesTo (evC (ksN Tryz.tab 98) 98 none Tryz.c14p9 ({tmps:=tA9,dfs:=[] }) ({next:=561,heap:=mkH lA9 })) .normal tA10 [] 579 lA10=true:=by kernel_rfl
theorem rA9 (N0:Bs) (tp:TypeId):CRun Go.Proofs.Tryz.prog 9 [185] N0 none Tryz.c14p9 ({tmps:=tA9,dfs:=[] }) ({next:=561,heap:=mkH lA9 }) .normal ({tmps:=tA10,dfs:=[] }) ({next:=579,heap:=mkH lA10 }):=CRun.piece Tryz.mixed Tryz.tab_at.ok (pA9 tp)
theorem pA10 (tp:TypeId):comesTo (evC (ksN Tryz.tab 98) 98 none Tryz.c14p10 ({tmps:=tA10,dfs:=[] }) ({next:=579,heap:=mkH lA10 })) .normal tA11 [] 601 lA11=true:=by kernel_rfl
theorem rA10 (N0:Bs) (tp:TypeId):CRun Go.Proofs.Tryz.prog 9 [185] N0 none Tryz.c14p10 ({tmps:=tA10,dfs:=[] }) ({next:=579,heap:=mkH lA10 }) .normal ({tmps:=tA11,dfs:=[] }) ({next:=601,heap:=mkH lA11 }):=CRun.piece Tryz.mixed Tryz.tab_at.ok (pA10 tp)
theorem pA11 (tp:TypeId):comesTo (evC (ksN Tryz.tab 98) 98 none Tryz.c14p11 ({tmps:=tA11,dfs:=[] }) ({next:=601,heap:=mkH lA11 })) .normal tA12 [] 616 lA12=true:=by kernel_rfl
theorem rA11 (N0:Bs) (tp:TypeId):CRun Go.Proofs.Tryz.prog 9 [185] N0 none Tryz.c14p11 ({tmps:=tA11,dfs:=[] }) ({next:=601,heap:=mkH lA11 }) .normal ({tmps:=tA12,dfs:=[] }) ({next:=616,heap:=mkH lA12 }):=CRun.piece Tryz.mixed Tryz.tab_at.ok (pA11 tp)
theorem pA12 (tp:TypeId):comesTo (evC (ksN Tryz.tab 98) 98 none Tryz.c14p12 ({tmps:=tA12,dfs:=[] }) ({next:=616,heap:=mkH lA12 })) .ret tA13 [] 616 lA13=true:=by kernel_rfl
theorem rA12 (N0:Bs) (tp:TypeId):CRun Go.Proofs.Tryz.prog 9 [185] N0 none Tryz.c14p12 ({tmps:=tA12,dfs:=[] }) ({next:=616,heap:=mkH lA12 }) .ret ({tmps:=tA13,dfs:=[] }) ({next:=616,heap:=mkH lA13 }):=CRun.piece Tryz.mixed Tryz.tab_at.ok (pA12 tp)
theorem bodyA (N0:Bs) (tp:TypeId):CRun Go.Proofs.Tryz.prog 9 [185] N0 none Tryz.c14.body ({tmps:=[]++List.replicate (Tryz.c14.ntmps - ([]:List Value).length) u_,dfs:=[] }) (known 16 (laidTabs tp)) .ret ({tmps:=tA13,dfs:=[] }) ({next:=616,heap:=mkH lA13 }):=(rA0 N0 tp).seq ((rA1 N0 tp).seq ((rA2 N0 tp).seq ((rA3 N0 tp).seq ((rA4 N0 tp).seq ((rA5 N0 tp).seq ((rA6 N0 tp).seq ((rA7 N0 tp).seq ((rA8 N0 tp).seq ((rA9 N0 tp).seq ((rA10 N0 tp).seq ((rA11 N0 tp).seq (rA12 N0 tp))))))))))))
theorem awake (N0:Bs) (tp:TypeId):CTo Go.Proofs.Tryz.prog 9 [185] N0 14 [] (known 16 (laidTabs tp)) (.bool true) ({next:=616,heap:=mkH lA13 }):=
 CTo.of_body (vs:=[.bool true]) Tryz.tab_at.ok (show Tryz.tab.get 14=some Tryz.c14 by kernel_rfl) (bodyA N0 tp) (.inr rfl) rfl (by kernel_rfl)
end Go.Proofs.YtnpoloachkcadaaGreatDoor.Ai.Awake
