/-
  Part of the proof that the law ProjectAll returns true at every input of bulk at most 1048576, and leaves its arguments as they were; the whole is stated at the end of the last text.
-/
import Derived.Test.YtdopmhicmehmeaaEngT
import Derived.Test.YtdopmhicmehmeaaProg
import Derived.KernelRfl
set_option maxRecDepth 100000
set_option linter.unusedVariables false
namespace Go.Eng
open Go
noncomputable abbrev prog : Program := Go.Proofs.Try.prog
abbrev F.main_main : FuncId := 0
abbrev F.gosem_cut : FuncId := 1
abbrev F.gosem_cut_init : FuncId := 2
abbrev F.clerestorylaw18_ProjectAll : FuncId := 3
abbrev F.clerestorylaw18_few : FuncId := 4
abbrev F.clerestorylaw00_FewPart : FuncId := 5
abbrev F.clerestorylaw18_awake : FuncId := 6
abbrev F.clerestorylaw00_View : FuncId := 7
abbrev F.project_Split : FuncId := 8
abbrev F.clerestoryref18_Split : FuncId := 9
abbrev F.project_Key : FuncId := 10
abbrev F.clerestoryref18_Key : FuncId := 11
abbrev F.clerestoryref08_Check : FuncId := 12
abbrev F.project_Mirror : FuncId := 13
abbrev F.clerestoryref18_Mirror : FuncId := 14
abbrev F.clerestoryref08_Same : FuncId := 15
abbrev F.clerestorylaw00_SameParts : FuncId := 16
abbrev F.project_Full : FuncId := 17
abbrev F.clerestoryref18_Full : FuncId := 18
abbrev F.project_Seen : FuncId := 19
abbrev F.clerestoryref18_Seen : FuncId := 20
abbrev F.clerestorylaw00_FewRow : FuncId := 21
abbrev F.clerestorylaw00_View_1 : FuncId := 22
abbrev F.order_GetText : FuncId := 23
abbrev F.clerestoryref02_GetText : FuncId := 24
abbrev F.order_Text : FuncId := 25
abbrev F.clerestoryref02_Text : FuncId := 26
abbrev F.clerestoryref07_Check : FuncId := 27
abbrev F.project_of : FuncId := 28
abbrev F.row_Gone : FuncId := 29
abbrev F.clerestoryref07_Best : FuncId := 30
abbrev F.clerestoryref07_Gone : FuncId := 31
abbrev F.clerestoryref18_pick : FuncId := 32
abbrev F.clerestoryref08_SameRows : FuncId := 33
abbrev F.row_Seen : FuncId := 34
abbrev F.cell_Seen : FuncId := 35
abbrev F.clerestoryref06_Seen : FuncId := 36
abbrev F.clerestoryref07_Seen : FuncId := 37
abbrev F.__strings_Builder__WriteByte : FuncId := 38
abbrev F.__strings_Builder__String : FuncId := 39
abbrev F.order_own : FuncId := 40
abbrev F.clerestoryref06_Check : FuncId := 41
abbrev F.clerestoryref07_stamp : FuncId := 42
abbrev F.clerestoryref01_Name : FuncId := 43
abbrev F.row_Best : FuncId := 44
abbrev F.project_pick : FuncId := 45
abbrev F.clerestoryref07_Cell : FuncId := 46
abbrev F.clerestoryref18_in : FuncId := 47
abbrev F.clerestoryref07_Same : FuncId := 48
abbrev F.__strings_Builder__copyCheck : FuncId := 49
abbrev F.clerestoryref01_All : FuncId := 50
abbrev F.clerestoryref01_Letter : FuncId := 51
abbrev F.row_Cell : FuncId := 52
abbrev F._project_picker__not : FuncId := 53
abbrev F.slices_DeleteFunc___api_Col_api_Col_ : FuncId := 54
abbrev F.clerestoryref06_Same : FuncId := 55
abbrev F.clerestoryref07_SameCols : FuncId := 56
abbrev F.internal_abi_NoEscape : FuncId := 57
abbrev F.clerestoryref01_one : FuncId := 58
abbrev F.slices_Contains_project_picker_string_ : FuncId := 59
abbrev F.slices_IndexFunc___api_Col_api_Col_ : FuncId := 60
abbrev F.clerestoryref01_cont : FuncId := 61
abbrev F.slices_Index_project_picker_string_ : FuncId := 62
abbrev F._runtime_boundsError__Error : FuncId := 63
abbrev F._runtime_boundsError__RuntimeError : FuncId := 64
abbrev F._runtime_errorString__Error : FuncId := 65
abbrev F._runtime_errorString__RuntimeError : FuncId := 66
abbrev F._runtime_plainError__Error : FuncId := 67
abbrev F._runtime_plainError__RuntimeError : FuncId := 68
abbrev F._runtime_errorAddressString__Error : FuncId := 69
abbrev F._runtime_errorAddressString__RuntimeError : FuncId := 70
abbrev F.__runtime_TypeAssertionError__Error : FuncId := 71
abbrev F.__runtime_TypeAssertionError__RuntimeError : FuncId := 72
abbrev F.__runtime_PanicNilError__Error : FuncId := 73
abbrev F.__runtime_PanicNilError__RuntimeError : FuncId := 74
abbrev F.__internal_abi_Type__Align : FuncId := 75
abbrev F._internal_runtime_maps_unhashableTypeError__Error : FuncId := 76
abbrev F._internal_runtime_maps_unhashableTypeError__RuntimeError : FuncId := 77
abbrev F.__strings_Builder__Reset : FuncId := 78
abbrev F._internal_abi_Kind__String : FuncId := 79
abbrev T.__ : TypeId := 0
abbrev T.func__ : TypeId := 1
abbrev T.int64 : TypeId := 2
abbrev T.int : TypeId := 3
abbrev T.bool : TypeId := 4
abbrev T.uint8 : TypeId := 5
abbrev T.abi_BoundsErrorCode : TypeId := 6
abbrev T.struct___x_int64__y_int__signed_bool__code_abi_BoundsErrorCode__ : TypeId := 7
abbrev T.runtime_boundsError : TypeId := 8
abbrev T.string : TypeId := 9
abbrev T.runtime_errorString : TypeId := 10
abbrev T.runtime_plainError : TypeId := 11
abbrev T.uintptr : TypeId := 12
abbrev T.struct___msg_string__addr_uintptr__ : TypeId := 13
abbrev T.runtime_errorAddressString : TypeId := 14
abbrev T._runtime_TypeAssertionError : TypeId := 15
abbrev T._runtime_PanicNilError : TypeId := 16
abbrev T._abi_Type : TypeId := 17
abbrev T.struct___typ__abi_Type__ : TypeId := 18
abbrev T.maps_unhashableTypeError : TypeId := 19
abbrev T.interface___ : TypeId := 20
abbrev T.int32 : TypeId := 21
abbrev T.__string : TypeId := 22
abbrev T.struct___Name_string__ID_int__Table_string__On_string__Cols___string__ : TypeId := 23
abbrev T.api_View : TypeId := 24
abbrev T.__api_Row : TypeId := 25
abbrev T.struct___Key_string__Gone_int__Rows___api_Row__ : TypeId := 26
abbrev T.api_Part : TypeId := 27
abbrev T.func_api_View__bool : TypeId := 28
abbrev T.func_api_Part__int__bool : TypeId := 29
abbrev T.func___bool : TypeId := 30
abbrev T.struct___Name_string__Type_int__ : TypeId := 31
abbrev T.api_Column : TypeId := 32
abbrev T.__api_Column : TypeId := 33
abbrev T.struct___Name_string__ID_int__Part_api_Column__Clus_api_Column__Cols___api_Column__ : TypeId := 34
abbrev T.api_Table : TypeId := 35
abbrev T._api_Table__api_View_ : TypeId := 36
abbrev T.func____api_Table__api_View_ : TypeId := 37
abbrev T._string__string__bool_ : TypeId := 38
abbrev T.func_string___string__string__bool_ : TypeId := 39
abbrev T.func_string__string__string : TypeId := 40
abbrev T.func_api_Part__bool : TypeId := 41
abbrev T._api_Part__bool_ : TypeId := 42
abbrev T.func_api_Table__api_View__api_Part__api_Row___api_Part__bool_ : TypeId := 43
abbrev T.struct___Val_string__Dead_bool__At_int__End_int__ : TypeId := 44
abbrev T.api_Cell : TypeId := 45
abbrev T.__api_Col : TypeId := 46
abbrev T.struct___Key_string__Live_api_Cell__Gone_int__Shade_int__Cols___api_Col__ : TypeId := 47
abbrev T.api_Row : TypeId := 48
abbrev T.func_api_View__api_Part__api_Row___api_Part__bool_ : TypeId := 49
abbrev T.func_api_Part__api_Part__bool : TypeId := 50
abbrev T.func___api_Part____api_Part__bool : TypeId := 51
abbrev T.__api_Part : TypeId := 52
abbrev T.func_api_Table__api_View__api_Part____api_Part : TypeId := 53
abbrev T.func_api_View__api_Part____api_Part : TypeId := 54
abbrev T.func_api_Table__api_View__api_Part__int____api_Part : TypeId := 55
abbrev T.func_api_View__api_Part__int____api_Part : TypeId := 56
abbrev T.func_api_View__api_Part__int__string__string__bool : TypeId := 57
abbrev T.func_api_Row__bool : TypeId := 58
abbrev T.func_string__api_Column : TypeId := 59
abbrev T.api_Errno : TypeId := 60
abbrev T._string__int__api_Errno_ : TypeId := 61
abbrev T.func___uint8__int___string__int__api_Errno_ : TypeId := 62
abbrev T.__uint8 : TypeId := 63
abbrev T.func_string__int___string__int__api_Errno_ : TypeId := 64
abbrev T.func___uint8__string____uint8 : TypeId := 65
abbrev T.func_string__string : TypeId := 66
abbrev T.func_api_View__api_Part__api_Row____api_Col___api_Part__bool_ : TypeId := 67
abbrev T.func_api_Row__int__int : TypeId := 68
abbrev T._api_Cell__bool_ : TypeId := 69
abbrev T.func_api_Row__int__string___api_Cell__bool_ : TypeId := 70
abbrev T.func_api_View____api_Col____api_Col : TypeId := 71
abbrev T.func___api_Row____api_Row__bool : TypeId := 72
abbrev T.func_api_Row__int__int____api_Col : TypeId := 73
abbrev T.func_api_Cell__int__bool : TypeId := 74
abbrev T.struct___Name_string__Cell_api_Cell__ : TypeId := 75
abbrev T.api_Col : TypeId := 76
abbrev T._strings_Builder : TypeId := 77
abbrev T.struct___addr__strings_Builder__buf___uint8__ : TypeId := 78
abbrev T.strings_Builder : TypeId := 79
abbrev T.interface___Error___string__ : TypeId := 80
abbrev T.error : TypeId := 81
abbrev T.func_uint8__error : TypeId := 82
abbrev T.func___string : TypeId := 83
abbrev T.func___uint8____uint8 : TypeId := 84
abbrev T.func_api_Cell__bool : TypeId := 85
abbrev T.func_int__bool : TypeId := 86
abbrev T.func_string__bool : TypeId := 87
abbrev T.func_api_Row__string__api_Cell : TypeId := 88
abbrev T.func_api_View__string__bool : TypeId := 89
abbrev T.func_api_Row__api_Row__bool : TypeId := 90
abbrev T._uint8 : TypeId := 91
abbrev T.__clerestoryref01_R : TypeId := 92
abbrev T.func_string____clerestoryref01_R : TypeId := 93
abbrev T.func_clerestoryref01_R__bool : TypeId := 94
abbrev T.struct___R_int32__At_int__Size_int__OK_bool__ : TypeId := 95
abbrev T.clerestoryref01_R : TypeId := 96
abbrev T.func_api_Col__bool : TypeId := 97
abbrev T.project_picker : TypeId := 98
abbrev T.func___api_Col__func_api_Col__bool____api_Col : TypeId := 99
abbrev T.func_api_Cell__api_Cell__bool : TypeId := 100
abbrev T.func___api_Col____api_Col__bool : TypeId := 101
abbrev T.unsafe_Pointer : TypeId := 102
abbrev T.func_unsafe_Pointer__unsafe_Pointer : TypeId := 103
abbrev T.func_string__int__clerestoryref01_R : TypeId := 104
abbrev T.func_project_picker__string__bool : TypeId := 105
abbrev T.func___api_Col__func_api_Col__bool__int : TypeId := 106
abbrev T.func_string__int__int__bool : TypeId := 107
abbrev T.uint : TypeId := 108
abbrev T.func_project_picker__string__int : TypeId := 109
abbrev T.struct____interface__abi_Type__concrete__abi_Type__asserted__abi_Type__missingMethod_string__ : TypeId := 110
abbrev T.runtime_TypeAssertionError : TypeId := 111
abbrev T._0__runtime_PanicNilError : TypeId := 112
abbrev T.struct______0__runtime_PanicNilError__ : TypeId := 113
abbrev T.runtime_PanicNilError : TypeId := 114
abbrev T.func___int : TypeId := 115
abbrev T.uint32 : TypeId := 116
abbrev T.abi_TFlag : TypeId := 117
abbrev T.abi_Kind : TypeId := 118
abbrev T.func_unsafe_Pointer__unsafe_Pointer__bool : TypeId := 119
abbrev T.abi_NameOff : TypeId := 120
abbrev T.abi_TypeOff : TypeId := 121
abbrev T.struct___Size__uintptr__PtrBytes_uintptr__Hash_uint32__TFlag_abi_TFlag__Align__uint8__FieldAlign__uint8__Kind__abi_Kind__Equal_func_unsafe_Pointer__unsafe_Pointer__bool__GCData__uint8__Str_abi_NameOff__PtrToThis_abi_TypeOff__ : TypeId := 122
abbrev T.abi_Type : TypeId := 123
def clerestorylaw18_few.sc : SC := .cut (.reg [1]) (.cut (.cut (.reg [1, 3]) (.one (.one (.cut (.cut (.reg [1, 3, 12]) (.two (.leaf) (.leaf))) (.cut (.one (.cut (.reg [1, 3, 21]) (.two (.cut (.reg [2]) (.leaf)) (.leaf)))) (.reg [1, 3])))))) (.cut (.reg [2]) (.leaf)))
def clerestorylaw18_few.l0 : RC :=
  (.cut (.cut (.reg [
    ⟨(some 4), .mov (.t 3), none⟩,
    ⟨(some 5), .faddr 4 (.t 1), none⟩,
    ⟨(some 6), .load false 1 (.t 5), none⟩,
    ⟨(some 7), .lenR (.t 6), none⟩,
    ⟨(some 8), .bin .lss (.t 4) (.t 7), none⟩,
    ⟨(some 9), .mov (.t 8), none⟩,
    ⟨(some 10), .mov (.t 3), some (9, true)⟩,
    ⟨(some 11), .bin .lss (.t 10) (.c (.d (.v (.int .i64 12)))), some (9, true)⟩,
    ⟨(some 12), .pick (.t 9) (.t 11) (.c (.d (.v (.bool false)))), none⟩] [1, 3, 12]) <|
  (.cond (.t 12)
    .skip
    (.exit 0))) <|
  (.cut (.block 1 <|
    (.cut (.reg [
      ⟨(some 15), .faddr 4 (.t 1), none⟩,
      ⟨(some 16), .load false 1 (.t 15), none⟩,
      ⟨(some 17), .mov (.t 3), none⟩,
      ⟨(some 18), .iaR 1 (.t 16) (.t 17), none⟩,
      ⟨(some 19), .load false 1 (.t 18), none⟩,
      ⟨(some 20), .lenS (.t 19), none⟩,
      ⟨(some 21), .bin .gtr (.t 20) (.c (.d (.v (.int .i64 300)))), none⟩] [1, 3, 21]) <|
    (.cond (.t 21)
      (.cut (.reg [⟨(some 2), .mov (.c (.d (.v (.bool false)))), none⟩] [2]) <|
      .ret)
      .skip))) <|
  (.reg [
    ⟨(some 13), .mov (.t 3), none⟩,
    ⟨(some 14), .bin .add (.t 13) (.c (.d (.v (.int .i64 1)))), none⟩,
    ⟨(some 3), .mov (.t 14), none⟩] [1, 3])))

def clerestorylaw18_few.code : RC :=
  (.cut (.reg [
    ⟨(some 1), .box T.api_View (.t 0), none⟩,
    ⟨(some 2), .mov (.c (.d (.v (.bool false)))), none⟩] [1]) <|
  (.cut (.cut (.reg [⟨(some 3), .mov (.c (.d (.v (.int .i64 0)))), none⟩] [1, 3]) <|
  (.block 0 <|
    (.loop clerestorylaw18_few.l0))) <|
  (.cut (.reg [
    ⟨(some 22), .faddr 4 (.t 1), none⟩,
    ⟨(some 23), .load false 1 (.t 22), none⟩,
    ⟨(some 24), .lenR (.t 23), none⟩,
    ⟨(some 25), .bin .leq (.t 24) (.c (.d (.v (.int .i64 12)))), none⟩,
    ⟨(some 26), .mov (.t 25), none⟩,
    ⟨(some 27), .faddr 3 (.t 1), some (26, true)⟩,
    ⟨(some 28), .load false 1 (.t 27), some (26, true)⟩,
    ⟨(some 29), .lenS (.t 28), some (26, true)⟩,
    ⟨(some 30), .bin .leq (.t 29) (.c (.d (.v (.int .i64 300)))), some (26, true)⟩,
    ⟨(some 31), .pick (.t 26) (.t 30) (.c (.d (.v (.bool false)))), none⟩,
    ⟨(some 2), .mov (.t 31), none⟩] [2]) <|
  .ret)))
def clerestorylaw18_few.rf : RF := ⟨32, [.mov (.t 2)], clerestorylaw18_few.code⟩
theorem clerestorylaw18_few.res : resF prog F.clerestorylaw18_few clerestorylaw18_few.sc = some clerestorylaw18_few.rf := by kernel_rfl

def clerestorylaw00_FewRow.sc : SC := .cut (.reg [1]) (.cut (.cut (.reg [1, 20]) (.two (.cut (.reg [2]) (.leaf)) (.leaf))) (.cut (.cut (.reg [1, 3]) (.one (.one (.cut (.cut (.reg [1, 3, 25]) (.two (.leaf) (.leaf))) (.cut (.one (.cut (.reg [1, 3, 46]) (.two (.cut (.reg [2]) (.leaf)) (.leaf)))) (.reg [1, 3])))))) (.cut (.reg [2]) (.leaf))))
def clerestorylaw00_FewRow.l0 : RC :=
  (.cut (.cut (.reg [
    ⟨(some 21), .mov (.t 3), none⟩,
    ⟨(some 22), .faddr 7 (.t 1), none⟩,
    ⟨(some 23), .load false 1 (.t 22), none⟩,
    ⟨(some 24), .lenR (.t 23), none⟩,
    ⟨(some 25), .bin .lss (.t 21) (.t 24), none⟩] [1, 3, 25]) <|
  (.cond (.t 25)
    .skip
    (.exit 0))) <|
  (.cut (.block 1 <|
    (.cut (.reg [
      ⟨(some 28), .faddr 7 (.t 1), none⟩,
      ⟨(some 29), .load false 1 (.t 28), none⟩,
      ⟨(some 30), .mov (.t 3), none⟩,
      ⟨(some 31), .iaR 5 (.t 29) (.t 30), none⟩,
      ⟨(some 32), .faddr 0 (.t 31), none⟩,
      ⟨(some 33), .load false 1 (.t 32), none⟩,
      ⟨(some 34), .lenS (.t 33), none⟩,
      ⟨(some 35), .bin .gtr (.t 34) (.c (.d (.v (.int .i64 300)))), none⟩,
      ⟨(some 36), .mov (.t 35), none⟩,
      ⟨(some 37), .faddr 7 (.t 1), some (36, false)⟩,
      ⟨(some 38), .load false 1 (.t 37), some (36, false)⟩,
      ⟨(some 39), .mov (.t 3), some (36, false)⟩,
      ⟨(some 40), .iaR 5 (.t 38) (.t 39), some (36, false)⟩,
      ⟨(some 41), .faddr 1 (.t 40), some (36, false)⟩,
      ⟨(some 42), .faddr 0 (.t 41), some (36, false)⟩,
      ⟨(some 43), .load false 1 (.t 42), some (36, false)⟩,
      ⟨(some 44), .lenS (.t 43), some (36, false)⟩,
      ⟨(some 45), .bin .gtr (.t 44) (.c (.d (.v (.int .i64 300)))), some (36, false)⟩,
      ⟨(some 46), .pick (.t 36) (.c (.d (.v (.bool true)))) (.t 45), none⟩] [1, 3, 46]) <|
    (.cond (.t 46)
      (.cut (.reg [⟨(some 2), .mov (.c (.d (.v (.bool false)))), none⟩] [2]) <|
      .ret)
      .skip))) <|
  (.reg [
    ⟨(some 26), .mov (.t 3), none⟩,
    ⟨(some 27), .bin .add (.t 26) (.c (.d (.v (.int .i64 1)))), none⟩,
    ⟨(some 3), .mov (.t 27), none⟩] [1, 3])))

def clerestorylaw00_FewRow.code : RC :=
  (.cut (.reg [
    ⟨(some 1), .box T.api_Row (.t 0), none⟩,
    ⟨(some 2), .mov (.c (.d (.v (.bool false)))), none⟩] [1]) <|
  (.cut (.cut (.reg [
    ⟨(some 4), .faddr 0 (.t 1), none⟩,
    ⟨(some 5), .load false 1 (.t 4), none⟩,
    ⟨(some 6), .lenS (.t 5), none⟩,
    ⟨(some 7), .bin .gtr (.t 6) (.c (.d (.v (.int .i64 1000)))), none⟩,
    ⟨(some 8), .mov (.t 7), none⟩,
    ⟨(some 9), .faddr 7 (.t 1), some (8, false)⟩,
    ⟨(some 10), .load false 1 (.t 9), some (8, false)⟩,
    ⟨(some 11), .lenR (.t 10), some (8, false)⟩,
    ⟨(some 12), .bin .gtr (.t 11) (.c (.d (.v (.int .i64 20)))), some (8, false)⟩,
    ⟨(some 13), .pick (.t 8) (.c (.d (.v (.bool true)))) (.t 12), none⟩,
    ⟨(some 14), .mov (.t 13), none⟩,
    ⟨(some 15), .faddr 1 (.t 1), some (14, false)⟩,
    ⟨(some 16), .faddr 0 (.t 15), some (14, false)⟩,
    ⟨(some 17), .load false 1 (.t 16), some (14, false)⟩,
    ⟨(some 18), .lenS (.t 17), some (14, false)⟩,
    ⟨(some 19), .bin .gtr (.t 18) (.c (.d (.v (.int .i64 1000)))), some (14, false)⟩,
    ⟨(some 20), .pick (.t 14) (.c (.d (.v (.bool true)))) (.t 19), none⟩] [1, 20]) <|
  (.cond (.t 20)
    (.cut (.reg [⟨(some 2), .mov (.c (.d (.v (.bool false)))), none⟩] [2]) <|
    .ret)
    .skip)) <|
  (.cut (.cut (.reg [⟨(some 3), .mov (.c (.d (.v (.int .i64 0)))), none⟩] [1, 3]) <|
  (.block 0 <|
    (.loop clerestorylaw00_FewRow.l0))) <|
  (.cut (.reg [⟨(some 2), .mov (.c (.d (.v (.bool true)))), none⟩] [2]) <|
  .ret))))
def clerestorylaw00_FewRow.rf : RF := ⟨47, [.mov (.t 2)], clerestorylaw00_FewRow.code⟩
theorem clerestorylaw00_FewRow.res : resF prog F.clerestorylaw00_FewRow clerestorylaw00_FewRow.sc = some clerestorylaw00_FewRow.rf := by kernel_rfl

def clerestorylaw00_FewPart.sc : SC := .cut (.reg [1, 2]) (.cut (.cut (.reg [2, 16]) (.two (.cut (.reg [4]) (.leaf)) (.leaf))) (.cut (.cut (.reg [2, 5]) (.one (.one (.cut (.cut (.reg [2, 5, 21]) (.two (.leaf) (.leaf))) (.cut (.one (.cut (.reg [2, 5, 30]) (.two (.cut (.reg [4]) (.leaf)) (.leaf)))) (.reg [2, 5])))))) (.cut (.reg [4]) (.leaf))))
def clerestorylaw00_FewPart.l0 : RC :=
  (.cut (.cut (.reg [
    ⟨(some 17), .mov (.t 5), none⟩,
    ⟨(some 18), .faddr 2 (.t 2), none⟩,
    ⟨(some 19), .load false 1 (.t 18), none⟩,
    ⟨(some 20), .lenR (.t 19), none⟩,
    ⟨(some 21), .bin .lss (.t 17) (.t 20), none⟩] [2, 5, 21]) <|
  (.cond (.t 21)
    .skip
    (.exit 0))) <|
  (.cut (.block 1 <|
    (.cut (.reg [
      ⟨(some 24), .faddr 2 (.t 2), none⟩,
      ⟨(some 25), .load false 1 (.t 24), none⟩,
      ⟨(some 26), .mov (.t 5), none⟩,
      ⟨(some 27), .iaR 8 (.t 25) (.t 26), none⟩,
      ⟨(some 28), .load true 8 (.t 27), none⟩,
      ⟨(some 29), .call F.clerestorylaw00_FewRow [(.t 28)], none⟩,
      ⟨(some 30), .un .not (.t 29), none⟩] [2, 5, 30]) <|
    (.cond (.t 30)
      (.cut (.reg [⟨(some 4), .mov (.c (.d (.v (.bool false)))), none⟩] [4]) <|
      .ret)
      .skip))) <|
  (.reg [
    ⟨(some 22), .mov (.t 5), none⟩,
    ⟨(some 23), .bin .add (.t 22) (.c (.d (.v (.int .i64 1)))), none⟩,
    ⟨(some 5), .mov (.t 23), none⟩] [2, 5])))

def clerestorylaw00_FewPart.code : RC :=
  (.cut (.reg [
    ⟨(some 2), .box T.api_Part (.t 0), none⟩,
    ⟨(some 4), .mov (.c (.d (.v (.bool false)))), none⟩] [1, 2]) <|
  (.cut (.cut (.reg [
    ⟨(some 6), .faddr 0 (.t 2), none⟩,
    ⟨(some 7), .load false 1 (.t 6), none⟩,
    ⟨(some 8), .lenS (.t 7), none⟩,
    ⟨(some 9), .bin .gtr (.t 8) (.c (.d (.v (.int .i64 300)))), none⟩,
    ⟨(some 10), .mov (.t 9), none⟩,
    ⟨(some 11), .faddr 2 (.t 2), some (10, false)⟩,
    ⟨(some 12), .load false 1 (.t 11), some (10, false)⟩,
    ⟨(some 13), .lenR (.t 12), some (10, false)⟩,
    ⟨(some 14), .mov (.t 1), some (10, false)⟩,
    ⟨(some 15), .bin .gtr (.t 13) (.t 14), some (10, false)⟩,
    ⟨(some 16), .pick (.t 10) (.c (.d (.v (.bool true)))) (.t 15), none⟩] [2, 16]) <|
  (.cond (.t 16)
    (.cut (.reg [⟨(some 4), .mov (.c (.d (.v (.bool false)))), none⟩] [4]) <|
    .ret)
    .skip)) <|
  (.cut (.cut (.reg [⟨(some 5), .mov (.c (.d (.v (.int .i64 0)))), none⟩] [2, 5]) <|
  (.block 0 <|
    (.loop clerestorylaw00_FewPart.l0))) <|
  (.cut (.reg [⟨(some 4), .mov (.c (.d (.v (.bool true)))), none⟩] [4]) <|
  .ret))))
def clerestorylaw00_FewPart.rf : RF := ⟨31, [.mov (.t 4)], clerestorylaw00_FewPart.code⟩
theorem clerestorylaw00_FewPart.res : resF prog F.clerestorylaw00_FewPart clerestorylaw00_FewPart.sc = some clerestorylaw00_FewPart.rf := by kernel_rfl

def clerestorylaw00_View_1.sc : SC := .cut (.reg [0, 2]) (.cut (.reg [2]) (.leaf))

def clerestorylaw00_View_1.code : RC :=
  (.cut (.reg [⟨(some 2), .alloc T.api_Column [(.d (.v (.string ⟨#[]⟩))), (.d (.v (.int .i64 0)))], none⟩] [0, 2]) <|
  (.cut (.reg [
    ⟨(some 3), .mov (.t 0), none⟩,
    ⟨(some 4), .build [(.d (.v (.string ⟨#[]⟩))), (.d (.v (.int .i64 0)))] [(0, 1, (.t 3)), (1, 1, (.c (.d (.v (.int .i64 1)))))], none⟩,
    ⟨none, .store 2 (.t 2) (.t 4), none⟩] [2]) <|
  .ret))
def clerestorylaw00_View_1.rf : RF := ⟨5, [.load true 2 (.t 2)], clerestorylaw00_View_1.code⟩
theorem clerestorylaw00_View_1.res : resF prog F.clerestorylaw00_View_1 clerestorylaw00_View_1.sc = some clerestorylaw00_View_1.rf := by kernel_rfl

def clerestorylaw00_View.sc : SC := .cut (.reg [0, 1]) (.cut (.reg [0, 1, 2]) (.cut (.reg [0, 1, 3]) (.cut (.reg [0, 1]) (.leaf))))

def clerestorylaw00_View.code : RC :=
  (.cut (.reg [
    ⟨(some 0), .alloc T.api_Table [(.d (.v (.string ⟨#[]⟩))), (.d (.v (.int .i64 0))), (.d (.v (.string ⟨#[]⟩))), (.d (.v (.int .i64 0))), (.d (.v (.string ⟨#[]⟩))), (.d (.v (.int .i64 0))), (.d (.v (.slice none 0 0)))], none⟩,
    ⟨(some 1), .alloc T.api_View [(.d (.v (.string ⟨#[]⟩))), (.d (.v (.int .i64 0))), (.d (.v (.string ⟨#[]⟩))), (.d (.v (.string ⟨#[]⟩))), (.d (.v (.slice none 0 0)))], none⟩] [0, 1]) <|
  (.cut (.reg [⟨(some 2), .mov (.c (.fn (.func F.clerestorylaw00_View_1) [] [])), none⟩] [0, 1, 2]) <|
  (.cut (.reg [
    ⟨(some 4), .mov (.t 2), none⟩,
    ⟨(some 5), .callv (.t 4) [(.c (.d (.v (.string ⟨#[112]⟩))))], none⟩,
    ⟨(some 6), .build [(.d (.v (.string ⟨#[]⟩))), (.d (.v (.int .i64 0)))] [(0, 1, (.c (.d (.v (.string ⟨#[107]⟩))))), (1, 1, (.c (.d (.v (.int .i64 2)))))], none⟩,
    ⟨(some 7), .mov (.t 2), none⟩,
    ⟨(some 8), .callv (.t 7) [(.c (.d (.v (.string ⟨#[97]⟩))))], none⟩,
    ⟨(some 9), .mov (.t 2), none⟩,
    ⟨(some 10), .callv (.t 9) [(.c (.d (.v (.string ⟨#[98]⟩))))], none⟩,
    ⟨(some 11), .mov (.t 2), none⟩,
    ⟨(some 12), .callv (.t 11) [(.c (.d (.v (.string ⟨#[99]⟩))))], none⟩,
    ⟨(some 13), .mov (.t 2), none⟩,
    ⟨(some 14), .callv (.t 13) [(.c (.d (.v (.string ⟨#[100]⟩))))], none⟩,
    ⟨(some 15), .bslice T.api_Column 2 4 [(.d (.v (.string ⟨#[]⟩))), (.d (.v (.int .i64 0)))] [(0, (.t 8)), (1, (.t 10)), (2, (.t 12)), (3, (.t 14))], none⟩,
    ⟨(some 16), .build [(.d (.v (.string ⟨#[]⟩))), (.d (.v (.int .i64 0))), (.d (.v (.string ⟨#[]⟩))), (.d (.v (.int .i64 0))), (.d (.v (.string ⟨#[]⟩))), (.d (.v (.int .i64 0))), (.d (.v (.slice none 0 0)))] [(0, 1, (.c (.d (.v (.string ⟨#[116]⟩))))), (1, 1, (.c (.d (.v (.int .i64 1))))), (2, 2, (.t 5)), (4, 2, (.t 6)), (6, 1, (.t 15))], none⟩,
    ⟨(some 3), .alloc T.api_Table [(.d (.v (.string ⟨#[]⟩))), (.d (.v (.int .i64 0))), (.d (.v (.string ⟨#[]⟩))), (.d (.v (.int .i64 0))), (.d (.v (.string ⟨#[]⟩))), (.d (.v (.int .i64 0))), (.d (.v (.slice none 0 0)))], none⟩,
    ⟨none, .store 7 (.t 3) (.t 16), none⟩] [0, 1, 3]) <|
  (.cut (.reg [
    ⟨(some 17), .load true 7 (.t 3), none⟩,
    ⟨(some 18), .bslice T.string 1 2 [(.d (.v (.string ⟨#[]⟩)))] [(0, (.c (.d (.v (.string ⟨#[98]⟩))))), (1, (.c (.d (.v (.string ⟨#[100]⟩)))))], none⟩,
    ⟨(some 19), .build [(.d (.v (.string ⟨#[]⟩))), (.d (.v (.int .i64 0))), (.d (.v (.string ⟨#[]⟩))), (.d (.v (.string ⟨#[]⟩))), (.d (.v (.slice none 0 0)))] [(0, 1, (.c (.d (.v (.string ⟨#[118]⟩))))), (1, 1, (.c (.d (.v (.int .i64 2))))), (2, 1, (.c (.d (.v (.string ⟨#[116]⟩))))), (3, 1, (.c (.d (.v (.string ⟨#[97]⟩))))), (4, 1, (.t 18))], none⟩,
    ⟨none, .store 7 (.t 0) (.t 17), none⟩,
    ⟨none, .store 5 (.t 1) (.t 19), none⟩] [0, 1]) <|
  .ret))))
def clerestorylaw00_View.rf : RF := ⟨20, [.load true 7 (.t 0), .load true 5 (.t 1)], clerestorylaw00_View.code⟩
theorem clerestorylaw00_View.res : resF prog F.clerestorylaw00_View clerestorylaw00_View.sc = some clerestorylaw00_View.rf := by kernel_rfl

def __strings_Builder__copyCheck.sc : SC := .cut (.reg [0, 6]) (.two (.reg []) (.cut (.reg [19]) (.two (.leaf) (.leaf))))

def __strings_Builder__copyCheck.code : RC :=
  (.cut (.reg [
    ⟨(some 2), .mov (.t 0), none⟩,
    ⟨(some 3), .nilck (.t 2), none⟩,
    ⟨(some 4), .faddr 0 (.t 3), none⟩,
    ⟨(some 5), .load false 1 (.t 4), none⟩,
    ⟨(some 6), .eqp false (.t 5) (.c (.d (.v (.pointer none)))), none⟩] [0, 6]) <|
  (.cond (.t 6)
    (.reg [
      ⟨(some 7), .mov (.t 0), none⟩,
      ⟨(some 8), .mov (.t 0), none⟩,
      ⟨(some 9), .toU (.t 8), none⟩,
      ⟨(some 10), .mov (.t 9), none⟩,
      ⟨(some 11), .ofU T.strings_Builder 2 (.t 10), none⟩,
      ⟨(some 12), .nilck (.t 7), none⟩,
      ⟨(some 13), .faddr 0 (.t 12), none⟩,
      ⟨none, .store 1 (.t 13) (.t 11), none⟩] [])
    (.cut (.reg [
      ⟨(some 14), .mov (.t 0), none⟩,
      ⟨(some 15), .nilck (.t 14), none⟩,
      ⟨(some 16), .faddr 0 (.t 15), none⟩,
      ⟨(some 17), .load false 1 (.t 16), none⟩,
      ⟨(some 18), .mov (.t 0), none⟩,
      ⟨(some 19), .eqp true (.t 17) (.t 18), none⟩] [19]) <|
    (.cond (.t 19)
      .bad
      .skip))))
def __strings_Builder__copyCheck.rf : RF := ⟨20, [], __strings_Builder__copyCheck.code⟩
theorem __strings_Builder__copyCheck.res : resF prog F.__strings_Builder__copyCheck __strings_Builder__copyCheck.sc = some __strings_Builder__copyCheck.rf := by kernel_rfl

def __strings_Builder__WriteByte.sc : SC := .cut (.reg [0, 1]) (.cut (.reg [0, 1]) (.cut (.reg []) (.cut (.reg [4]) (.leaf))))

def __strings_Builder__WriteByte.code : RC :=
  (.cut (.reg [⟨(some 4), .mov (.c (.d (.v .nilIface))), none⟩] [0, 1]) <|
  (.cut (.reg [
    ⟨(some 5), .mov (.t 0), none⟩,
    ⟨(some 6), .call F.__strings_Builder__copyCheck [(.t 5)], none⟩] [0, 1]) <|
  (.cut (.reg [
    ⟨(some 7), .mov (.t 0), none⟩,
    ⟨(some 8), .mov (.t 0), none⟩,
    ⟨(some 9), .nilck (.t 8), none⟩,
    ⟨(some 10), .faddr 1 (.t 9), none⟩,
    ⟨(some 11), .load false 1 (.t 10), none⟩,
    ⟨(some 12), .mov (.t 1), none⟩,
    ⟨(some 13), .bslice T.uint8 1 1 [(.d (.v (.int .u8 0)))] [(0, (.t 12))], none⟩,
    ⟨(some 14), .app T.uint8 1 1 (.t 11) (.t 13), none⟩,
    ⟨(some 15), .nilck (.t 7), none⟩,
    ⟨(some 16), .faddr 1 (.t 15), none⟩,
    ⟨none, .store 1 (.t 16) (.t 14), none⟩] []) <|
  (.cut (.reg [⟨(some 4), .mov (.c (.d (.v .nilIface))), none⟩] [4]) <|
  .ret))))
def __strings_Builder__WriteByte.rf : RF := ⟨17, [.mov (.t 4)], __strings_Builder__WriteByte.code⟩
theorem __strings_Builder__WriteByte.res : resF prog F.__strings_Builder__WriteByte __strings_Builder__WriteByte.sc = some __strings_Builder__WriteByte.rf := by kernel_rfl

def __strings_Builder__String.sc : SC := .cut (.reg [0]) (.cut (.drw (.q 0 <| .q 1 <| .q 2 <| .q 3 <| .q 5 <| .q 6 <| .q 7 <| .q 8 <| .q 9 <| .a 4 [9, 8, 7, 6] (.a 10 [] (.a 11 [] (.fin) .no) .no) .no) [2]) (.leaf))

def __strings_Builder__String.code : RC :=
  (.cut (.reg [⟨(some 2), .mov (.c (.d (.v (.string ⟨#[]⟩)))), none⟩] [0]) <|
  (.cut (.drw (
    .q ⟨(some 3), .mov (.t 0), none⟩ <|
    .q ⟨(some 4), .nilck (.t 3), none⟩ <|
    .q ⟨(some 5), .faddr 1 (.t 4), none⟩ <|
    .q ⟨(some 6), .load false 1 (.t 5), none⟩ <|
    .q ⟨(some 8), .mov (.t 0), none⟩ <|
    .q ⟨(some 9), .nilck (.t 8), none⟩ <|
    .q ⟨(some 10), .faddr 1 (.t 9), none⟩ <|
    .q ⟨(some 11), .load false 1 (.t 10), none⟩ <|
    .q ⟨(some 12), .lenR (.t 11), none⟩ <|
    .a ⟨(some 7), .usd (.t 6), none⟩ [⟨(some 12), .lenR (.t 11), none⟩, ⟨(some 11), .load false 1 (.t 10), none⟩, ⟨(some 10), .faddr 1 (.t 9), none⟩, ⟨(some 9), .nilck (.t 8), none⟩] (
    .a ⟨(some 13), .ust T.uint8 (.t 7) (.t 12), none⟩ [] (
      .a ⟨(some 2), .mov (.t 13), none⟩ [] (
        .fin) .no) .no) .no) [2]) <|
  .ret))
def __strings_Builder__String.rf : RF := ⟨14, [.mov (.t 2)], __strings_Builder__String.code⟩
theorem __strings_Builder__String.res : resF prog F.__strings_Builder__String __strings_Builder__String.sc = some __strings_Builder__String.rf := by kernel_rfl

def order_GetText.sc : SC := .cut (.reg [0, 1]) (.cut (.cut (.reg [0, 1, 16]) (.two (.cut (.reg [4, 5, 6]) (.leaf)) (.leaf))) (.cut (.reg [0, 1, 7]) (.cut (.cut (.reg [0, 7, 8]) (.one (.one (.cut (.cut (.reg [0, 7, 8, 21]) (.two (.leaf) (.leaf))) (.cut (.one (.cut (.cut (.reg [0, 7, 8, 28]) (.two (.cut (.reg [0, 7, 8]) (.leaf)) (.leaf))) (.cut (.cut (.reg [0, 7, 8]) (.cut (.reg [0, 7, 8, 39]) (.two (.leaf) (.leaf)))) (.cut (.reg [0, 7, 8, 43]) (.one (.cut (.reg [0, 7, 8, 43, 44]) (.two (.reg [0, 7, 8]) (.cut (.reg [7, 8, 47]) (.two (.cut (.reg [4, 5, 6]) (.leaf)) (.cut (.reg [4, 5, 6]) (.leaf))))))))))) (.reg [0, 7, 8])))))) (.cut (.reg [4, 5, 6]) (.leaf)))))
def order_GetText.l0 : RC :=
  (.cut (.cut (.reg [
    ⟨(some 18), .mov (.t 8), none⟩,
    ⟨(some 19), .mov (.t 0), none⟩,
    ⟨(some 20), .lenR (.t 19), none⟩,
    ⟨(some 21), .bin .lss (.t 18) (.t 20), none⟩] [0, 7, 8, 21]) <|
  (.cond (.t 21)
    .skip
    (.exit 0))) <|
  (.cut (.block 1 <|
    (.cut (.cut (.reg [
      ⟨(some 24), .mov (.t 0), none⟩,
      ⟨(some 25), .mov (.t 8), none⟩,
      ⟨(some 26), .iaR 1 (.t 24) (.t 25), none⟩,
      ⟨(some 27), .load false 1 (.t 26), none⟩,
      ⟨(some 28), .bin .neq (.t 27) (.c (.d (.v (.int .u8 0)))), none⟩] [0, 7, 8, 28]) <|
    (.cond (.t 28)
      (.cut (.reg [
        ⟨(some 29), .mov (.t 0), none⟩,
        ⟨(some 30), .mov (.t 8), none⟩,
        ⟨(some 31), .iaR 1 (.t 29) (.t 30), none⟩,
        ⟨(some 32), .load false 1 (.t 31), none⟩,
        ⟨(some 33), .call F.__strings_Builder__WriteByte [(.t 7), (.t 32)], none⟩] [0, 7, 8]) <|
      (.exit 1))
      .skip)) <|
    (.cut (.cut (.reg [
      ⟨(some 34), .mov (.t 8), none⟩,
      ⟨(some 35), .bin .add (.t 34) (.c (.d (.v (.int .i64 1)))), none⟩,
      ⟨(some 8), .mov (.t 35), none⟩] [0, 7, 8]) <|
    (.cut (.reg [
      ⟨(some 36), .mov (.t 8), none⟩,
      ⟨(some 37), .mov (.t 0), none⟩,
      ⟨(some 38), .lenR (.t 37), none⟩,
      ⟨(some 39), .bin .eql (.t 36) (.t 38), none⟩] [0, 7, 8, 39]) <|
    (.cond (.t 39)
      (.exit 0)
      .skip))) <|
    (.cut (.reg [
      ⟨(some 40), .mov (.t 0), none⟩,
      ⟨(some 41), .mov (.t 8), none⟩,
      ⟨(some 42), .iaR 1 (.t 40) (.t 41), none⟩,
      ⟨(some 43), .load false 1 (.t 42), none⟩] [0, 7, 8, 43]) <|
    (.block 2 <|
      (.cut (.reg [
        ⟨(some 45), .bin .eql (.t 43) (.c (.d (.v (.int .u8 255)))), none⟩,
        ⟨(some 44), .mov (.t 45), none⟩] [0, 7, 8, 43, 44]) <|
      (.cond (.t 44)
        (.reg [⟨(some 46), .call F.__strings_Builder__WriteByte [(.t 7), (.c (.d (.v (.int .u8 0))))], none⟩] [0, 7, 8])
        (.cut (.reg [
          ⟨(some 48), .bin .eql (.t 43) (.c (.d (.v (.int .u8 1)))), none⟩,
          ⟨(some 47), .mov (.t 48), none⟩] [7, 8, 47]) <|
        (.cond (.t 47)
          (.cut (.reg [
            ⟨(some 49), .call F.__strings_Builder__String [(.t 7)], none⟩,
            ⟨(some 50), .mov (.t 8), none⟩,
            ⟨(some 51), .bin .add (.t 50) (.c (.d (.v (.int .i64 1)))), none⟩,
            ⟨(some 4), .mov (.t 49), none⟩,
            ⟨(some 5), .mov (.t 51), none⟩,
            ⟨(some 6), .mov (.c (.d (.v (.int .i64 0)))), none⟩] [4, 5, 6]) <|
          .ret)
          (.cut (.reg [
            ⟨(some 4), .mov (.c (.d (.v (.string ⟨#[]⟩)))), none⟩,
            ⟨(some 5), .mov (.c (.d (.v (.int .i64 0)))), none⟩,
            ⟨(some 6), .mov (.c (.d (.v (.int .i64 6)))), none⟩] [4, 5, 6]) <|
          .ret)))))))))) <|
  (.reg [
    ⟨(some 22), .mov (.t 8), none⟩,
    ⟨(some 23), .bin .add (.t 22) (.c (.d (.v (.int .i64 1)))), none⟩,
    ⟨(some 8), .mov (.t 23), none⟩] [0, 7, 8])))

def order_GetText.code : RC :=
  (.cut (.reg [
    ⟨(some 4), .mov (.c (.d (.v (.string ⟨#[]⟩)))), none⟩,
    ⟨(some 5), .mov (.c (.d (.v (.int .i64 0)))), none⟩,
    ⟨(some 6), .mov (.c (.d (.v (.int .i64 0)))), none⟩] [0, 1]) <|
  (.cut (.cut (.reg [
    ⟨(some 9), .mov (.t 1), none⟩,
    ⟨(some 10), .bin .lss (.t 9) (.c (.d (.v (.int .i64 0)))), none⟩,
    ⟨(some 11), .mov (.t 10), none⟩,
    ⟨(some 12), .mov (.t 1), some (11, false)⟩,
    ⟨(some 13), .mov (.t 0), some (11, false)⟩,
    ⟨(some 14), .lenR (.t 13), some (11, false)⟩,
    ⟨(some 15), .bin .gtr (.t 12) (.t 14), some (11, false)⟩,
    ⟨(some 16), .pick (.t 11) (.c (.d (.v (.bool true)))) (.t 15), none⟩] [0, 1, 16]) <|
  (.cond (.t 16)
    (.cut (.reg [
      ⟨(some 4), .mov (.c (.d (.v (.string ⟨#[]⟩)))), none⟩,
      ⟨(some 5), .mov (.c (.d (.v (.int .i64 0)))), none⟩,
      ⟨(some 6), .mov (.c (.d (.v (.int .i64 1)))), none⟩] [4, 5, 6]) <|
    .ret)
    .skip)) <|
  (.cut (.reg [⟨(some 7), .alloc T.strings_Builder [(.d (.v (.pointer none))), (.d (.v (.slice none 0 0)))], none⟩] [0, 1, 7]) <|
  (.cut (.cut (.reg [
    ⟨(some 17), .mov (.t 1), none⟩,
    ⟨(some 8), .mov (.t 17), none⟩] [0, 7, 8]) <|
  (.block 0 <|
    (.loop order_GetText.l0))) <|
  (.cut (.reg [
    ⟨(some 4), .mov (.c (.d (.v (.string ⟨#[]⟩)))), none⟩,
    ⟨(some 5), .mov (.c (.d (.v (.int .i64 0)))), none⟩,
    ⟨(some 6), .mov (.c (.d (.v (.int .i64 8)))), none⟩] [4, 5, 6]) <|
  .ret)))))
def order_GetText.rf : RF := ⟨52, [.mov (.t 4), .mov (.t 5), .mov (.t 6)], order_GetText.code⟩
theorem order_GetText.res : resF prog F.order_GetText order_GetText.sc = some order_GetText.rf := by kernel_rfl

def project_Split.sc : SC := .cut (.reg [0]) (.cut (.reg [0, 2, 5, 6]) (.cut (.cut (.reg [0, 2, 5, 15]) (.two (.cut (.reg [2, 3, 4]) (.leaf)) (.leaf))) (.cut (.drw (.q 0 <| .q 1 <| .q 2 <| .q 3 <| .a 4 [] (.a 5 [] (.a 6 [] (.fin) .no) .no) .no) [2, 3, 4]) (.leaf))))

def project_Split.code : RC :=
  (.cut (.reg [
    ⟨(some 2), .mov (.c (.d (.v (.string ⟨#[]⟩)))), none⟩,
    ⟨(some 3), .mov (.c (.d (.v (.string ⟨#[]⟩)))), none⟩,
    ⟨(some 4), .mov (.c (.d (.v (.bool false)))), none⟩] [0]) <|
  (.cut (.reg [
    ⟨(some 8), .mov (.t 0), none⟩,
    ⟨(some 9), .s2b T.uint8 (.t 8), none⟩,
    ⟨(some 10), .call F.order_GetText [(.t 9), (.c (.d (.v (.int .i64 0))))], none⟩,
    ⟨(some 7), .mov (.t 10), none⟩,
    ⟨(some 11), .extr (.t 7) 0, none⟩,
    ⟨(some 12), .extr (.t 7) 1, none⟩,
    ⟨(some 13), .extr (.t 7) 2, none⟩,
    ⟨(some 2), .mov (.t 11), none⟩,
    ⟨(some 5), .mov (.t 12), none⟩,
    ⟨(some 6), .mov (.t 13), none⟩] [0, 2, 5, 6]) <|
  (.cut (.cut (.reg [
    ⟨(some 14), .mov (.t 6), none⟩,
    ⟨(some 15), .bin .neq (.t 14) (.c (.d (.v (.int .i64 0)))), none⟩] [0, 2, 5, 15]) <|
  (.cond (.t 15)
    (.cut (.reg [
      ⟨(some 2), .mov (.c (.d (.v (.string ⟨#[]⟩)))), none⟩,
      ⟨(some 3), .mov (.c (.d (.v (.string ⟨#[]⟩)))), none⟩,
      ⟨(some 4), .mov (.c (.d (.v (.bool false)))), none⟩] [2, 3, 4]) <|
    .ret)
    .skip)) <|
  (.cut (.drw (
    .q ⟨(some 16), .mov (.t 2), none⟩ <|
    .q ⟨(some 17), .mov (.t 0), none⟩ <|
    .q ⟨(some 18), .mov (.t 5), none⟩ <|
    .q ⟨(some 19), .slS (.t 17) (some (.t 18)) none, none⟩ <|
    .a ⟨(some 2), .mov (.t 16), none⟩ [] (
    .a ⟨(some 3), .mov (.t 19), none⟩ [] (
      .a ⟨(some 4), .mov (.c (.d (.v (.bool true)))), none⟩ [] (
        .fin) .no) .no) .no) [2, 3, 4]) <|
  .ret))))
def project_Split.rf : RF := ⟨20, [.mov (.t 2), .mov (.t 3), .mov (.t 4)], project_Split.code⟩
theorem project_Split.res : resF prog F.project_Split project_Split.sc = some project_Split.rf := by kernel_rfl

def order_own.sc : SC := .cut (.reg [0]) (.cut (.reg [2]) (.leaf))

def order_own.code : RC :=
  (.cut (.reg [⟨(some 2), .mov (.c (.d (.v (.slice none 0 0)))), none⟩] [0]) <|
  (.cut (.reg [
    ⟨(some 3), .mov (.t 0), none⟩,
    ⟨(some 4), .mov (.t 0), none⟩,
    ⟨(some 5), .lenR (.t 4), none⟩,
    ⟨(some 6), .mov (.t 0), none⟩,
    ⟨(some 7), .lenR (.t 6), none⟩,
    ⟨(some 8), .slR 1 (.t 3) none (some (.t 5)) (some (.t 7)), none⟩,
    ⟨(some 2), .mov (.t 8), none⟩] [2]) <|
  .ret))
def order_own.rf : RF := ⟨9, [.mov (.t 2)], order_own.code⟩
theorem order_own.res : resF prog F.order_own order_own.sc = some order_own.rf := by kernel_rfl

def order_Text.sc : SC := .cut (.reg [0, 1]) (.cut (.reg [0, 1]) (.cut (.cut (.reg [0, 1, 9, 10]) (.one (.one (.cut (.reg [0, 1, 9, 10, 11]) (.cut (.two (.leaf) (.leaf)) (.cut (.one (.cut (.reg [0, 1, 5, 9, 10]) (.cut (.reg [0, 1, 5, 9, 10]) (.cut (.reg [0, 1, 9, 10, 22]) (.two (.reg [0, 1, 9, 10]) (.leaf)))))) (.reg [0, 1, 9, 10]))))))) (.cut (.reg [4]) (.leaf))))
def order_Text.l0 : RC :=
  (.cut (.reg [⟨(some 11), .bin .lss (.t 10) (.t 9), none⟩] [0, 1, 9, 10, 11]) <|
  (.cut (.cond (.t 11)
    .skip
    (.exit 0)) <|
  (.cut (.block 1 <|
    (.cut (.reg [
      ⟨(some 12), .mov (.t 10), none⟩,
      ⟨(some 5), .mov (.t 12), none⟩] [0, 1, 5, 9, 10]) <|
    (.cut (.reg [
      ⟨(some 13), .mov (.t 0), none⟩,
      ⟨(some 14), .mov (.t 1), none⟩,
      ⟨(some 15), .mov (.t 5), none⟩,
      ⟨(some 16), .idxS (.t 14) (.t 15), none⟩,
      ⟨(some 17), .bslice T.uint8 1 1 [(.d (.v (.int .u8 0)))] [(0, (.t 16))], none⟩,
      ⟨(some 18), .app T.uint8 1 1 (.t 13) (.t 17), none⟩,
      ⟨(some 0), .mov (.t 18), none⟩] [0, 1, 5, 9, 10]) <|
    (.cut (.reg [
      ⟨(some 19), .mov (.t 1), none⟩,
      ⟨(some 20), .mov (.t 5), none⟩,
      ⟨(some 21), .idxS (.t 19) (.t 20), none⟩,
      ⟨(some 22), .bin .eql (.t 21) (.c (.d (.v (.int .u8 0)))), none⟩] [0, 1, 9, 10, 22]) <|
    (.cond (.t 22)
      (.reg [
        ⟨(some 23), .mov (.t 0), none⟩,
        ⟨(some 24), .bslice T.uint8 1 1 [(.d (.v (.int .u8 0)))] [(0, (.c (.d (.v (.int .u8 255)))))], none⟩,
        ⟨(some 25), .app T.uint8 1 1 (.t 23) (.t 24), none⟩,
        ⟨(some 0), .mov (.t 25), none⟩] [0, 1, 9, 10])
      .skip))))) <|
  (.reg [
    ⟨(some 26), .bin .add (.t 10) (.c (.d (.v (.int .i64 1)))), none⟩,
    ⟨(some 10), .mov (.t 26), none⟩] [0, 1, 9, 10]))))

def order_Text.code : RC :=
  (.cut (.reg [⟨(some 4), .mov (.c (.d (.v (.slice none 0 0)))), none⟩] [0, 1]) <|
  (.cut (.reg [
    ⟨(some 6), .mov (.t 0), none⟩,
    ⟨(some 7), .call F.order_own [(.t 6)], none⟩,
    ⟨(some 0), .mov (.t 7), none⟩] [0, 1]) <|
  (.cut (.cut (.reg [
    ⟨(some 8), .mov (.t 1), none⟩,
    ⟨(some 9), .lenS (.t 8), none⟩,
    ⟨(some 10), .mov (.c (.d (.v (.int .i64 0)))), none⟩] [0, 1, 9, 10]) <|
  (.block 0 <|
    (.loop order_Text.l0))) <|
  (.cut (.reg [
    ⟨(some 27), .mov (.t 0), none⟩,
    ⟨(some 28), .bslice T.uint8 1 2 [(.d (.v (.int .u8 0)))] [(0, (.c (.d (.v (.int .u8 0))))), (1, (.c (.d (.v (.int .u8 1)))))], none⟩,
    ⟨(some 29), .app T.uint8 1 1 (.t 27) (.t 28), none⟩,
    ⟨(some 4), .mov (.t 29), none⟩] [4]) <|
  .ret))))
def order_Text.rf : RF := ⟨30, [.mov (.t 4)], order_Text.code⟩
theorem order_Text.res : resF prog F.order_Text order_Text.sc = some order_Text.rf := by kernel_rfl

def project_Key.sc : SC := .cut (.reg [0, 1]) (.cut (.reg [4]) (.leaf))

def project_Key.code : RC :=
  (.cut (.reg [⟨(some 4), .mov (.c (.d (.v (.string ⟨#[]⟩)))), none⟩] [0, 1]) <|
  (.cut (.reg [
    ⟨(some 5), .mov (.t 0), none⟩,
    ⟨(some 6), .call F.order_Text [(.c (.d (.v (.slice none 0 0)))), (.t 5)], none⟩,
    ⟨(some 7), .b2s (.t 6), none⟩,
    ⟨(some 8), .mov (.t 1), none⟩,
    ⟨(some 9), .bin .add (.t 7) (.t 8), none⟩,
    ⟨(some 4), .mov (.t 9), none⟩] [4]) <|
  .ret))
def project_Key.rf : RF := ⟨10, [.mov (.t 4)], project_Key.code⟩
theorem project_Key.res : resF prog F.project_Key project_Key.sc = some project_Key.rf := by kernel_rfl

def row_Gone.sc : SC := .cut (.reg [1, 2]) (.cut (.reg [4]) (.leaf))

def row_Gone.code : RC :=
  (.cut (.reg [
    ⟨(some 2), .box T.api_Row (.t 0), none⟩,
    ⟨(some 4), .mov (.c (.d (.v (.int .i64 0)))), none⟩] [1, 2]) <|
  (.cut (.reg [
    ⟨(some 5), .faddr 5 (.t 2), none⟩,
    ⟨(some 6), .load false 1 (.t 5), none⟩,
    ⟨(some 7), .mov (.t 1), none⟩,
    ⟨(some 8), .mx [(.t 6), (.t 7)], none⟩,
    ⟨(some 4), .mov (.t 8), none⟩] [4]) <|
  .ret))
def row_Gone.rf : RF := ⟨9, [.mov (.t 4)], row_Gone.code⟩
theorem row_Gone.res : resF prog F.row_Gone row_Gone.sc = some row_Gone.rf := by kernel_rfl

def row_Cell.sc : SC := .cut (.reg [1, 2, 4]) (.cut (.cut (.reg [1, 4, 8, 9, 10]) (.one (.one (.cut (.reg [1, 4, 8, 9, 10, 11]) (.cut (.two (.leaf) (.leaf)) (.cut (.one (.cut (.reg [1, 4, 6, 8, 9, 10]) (.cut (.reg [1, 4, 6, 8, 9, 10, 17]) (.two (.cut (.reg [4]) (.leaf)) (.leaf))))) (.reg [1, 4, 8, 9, 10]))))))) (.cut (.reg [4]) (.leaf)))
def row_Cell.l0 : RC :=
  (.cut (.reg [⟨(some 11), .bin .lss (.t 10) (.t 9), none⟩] [1, 4, 8, 9, 10, 11]) <|
  (.cut (.cond (.t 11)
    .skip
    (.exit 0)) <|
  (.cut (.block 1 <|
    (.cut (.reg [
      ⟨(some 12), .iaR 5 (.t 8) (.t 10), none⟩,
      ⟨(some 13), .load true 5 (.t 12), none⟩,
      ⟨(some 6), .alloc T.api_Col [(.d (.v (.string ⟨#[]⟩))), (.d (.v (.string ⟨#[]⟩))), (.d (.v (.bool false))), (.d (.v (.int .i64 0))), (.d (.v (.int .i64 0)))], none⟩,
      ⟨none, .store 5 (.t 6) (.t 13), none⟩] [1, 4, 6, 8, 9, 10]) <|
    (.cut (.reg [
      ⟨(some 14), .faddr 0 (.t 6), none⟩,
      ⟨(some 15), .load false 1 (.t 14), none⟩,
      ⟨(some 16), .mov (.t 1), none⟩,
      ⟨(some 17), .bin .eql (.t 15) (.t 16), none⟩] [1, 4, 6, 8, 9, 10, 17]) <|
    (.cond (.t 17)
      (.cut (.reg [
        ⟨(some 18), .faddr 1 (.t 6), none⟩,
        ⟨(some 19), .load true 4 (.t 18), none⟩,
        ⟨none, .store 4 (.t 4) (.t 19), none⟩] [4]) <|
      .ret)
      .skip)))) <|
  (.reg [
    ⟨(some 20), .bin .add (.t 10) (.c (.d (.v (.int .i64 1)))), none⟩,
    ⟨(some 10), .mov (.t 20), none⟩] [1, 4, 8, 9, 10]))))

def row_Cell.code : RC :=
  (.cut (.reg [
    ⟨(some 2), .box T.api_Row (.t 0), none⟩,
    ⟨(some 4), .alloc T.api_Cell [(.d (.v (.string ⟨#[]⟩))), (.d (.v (.bool false))), (.d (.v (.int .i64 0))), (.d (.v (.int .i64 0)))], none⟩] [1, 2, 4]) <|
  (.cut (.cut (.reg [
    ⟨(some 7), .faddr 7 (.t 2), none⟩,
    ⟨(some 8), .load false 1 (.t 7), none⟩,
    ⟨(some 9), .lenR (.t 8), none⟩,
    ⟨(some 10), .mov (.c (.d (.v (.int .i64 0)))), none⟩] [1, 4, 8, 9, 10]) <|
  (.block 0 <|
    (.loop row_Cell.l0))) <|
  (.cut (.reg [
    ⟨(some 21), .build [(.d (.v (.string ⟨#[]⟩))), (.d (.v (.bool false))), (.d (.v (.int .i64 0))), (.d (.v (.int .i64 0)))] [], none⟩,
    ⟨none, .store 4 (.t 4) (.t 21), none⟩] [4]) <|
  .ret)))
def row_Cell.rf : RF := ⟨22, [.load true 4 (.t 4)], row_Cell.code⟩
theorem row_Cell.res : resF prog F.row_Cell row_Cell.sc = some row_Cell.rf := by kernel_rfl

def row_Best.sc : SC := .cut (.reg [1, 2, 3, 6]) (.cut (.reg [1, 3, 6, 8]) (.cut (.cut (.drw (.q 0 <| .q 1 <| .q 2 <| .q 3 <| .q 4 <| .q 5 <| .q 6 <| .q 7 <| .q 8 <| .q 9 <| .q 10 <| .q 11 <| .a 12 [9, 8] (.q 13 <| .q 14 <| .fin) .no) [6, 8, 26]) (.two (.cut (.reg [6, 7]) (.leaf)) (.leaf))) (.cut (.reg [6, 7]) (.leaf))))

def row_Best.code : RC :=
  (.cut (.reg [
    ⟨(some 3), .box T.api_Row (.t 0), none⟩,
    ⟨(some 6), .alloc T.api_Cell [(.d (.v (.string ⟨#[]⟩))), (.d (.v (.bool false))), (.d (.v (.int .i64 0))), (.d (.v (.int .i64 0)))], none⟩,
    ⟨(some 7), .mov (.c (.d (.v (.bool false)))), none⟩] [1, 2, 3, 6]) <|
  (.cut (.reg [
    ⟨(some 9), .load true 8 (.t 3), none⟩,
    ⟨(some 10), .mov (.t 2), none⟩,
    ⟨(some 11), .call F.row_Cell [(.t 9), (.t 10)], none⟩,
    ⟨(some 8), .alloc T.api_Cell [(.d (.v (.string ⟨#[]⟩))), (.d (.v (.bool false))), (.d (.v (.int .i64 0))), (.d (.v (.int .i64 0)))], none⟩,
    ⟨none, .store 4 (.t 8) (.t 11), none⟩] [1, 3, 6, 8]) <|
  (.cut (.cut (.drw (
    .q ⟨(some 12), .faddr 1 (.t 8), none⟩ <|
    .q ⟨(some 13), .load false 1 (.t 12), none⟩ <|
    .q ⟨(some 14), .mov (.t 13), none⟩ <|
    .q ⟨(some 15), .faddr 2 (.t 8), some (14, false)⟩ <|
    .q ⟨(some 16), .load false 1 (.t 15), some (14, false)⟩ <|
    .q ⟨(some 17), .bin .lss (.t 16) (.c (.d (.v (.int .i64 1)))), some (14, false)⟩ <|
    .q ⟨(some 18), .pick (.t 14) (.c (.d (.v (.bool true)))) (.t 17), none⟩ <|
    .q ⟨(some 19), .mov (.t 18), none⟩ <|
    .q ⟨(some 20), .faddr 2 (.t 8), some (19, false)⟩ <|
    .q ⟨(some 21), .load false 1 (.t 20), some (19, false)⟩ <|
    .q ⟨(some 22), .load true 8 (.t 3), some (19, false)⟩ <|
    .q ⟨(some 23), .mov (.t 1), some (19, false)⟩ <|
    .a ⟨(some 24), .call F.row_Gone [(.t 22), (.t 23)], some (19, false)⟩ [⟨(some 21), .load false 1 (.t 20), some (19, false)⟩, ⟨(some 20), .faddr 2 (.t 8), some (19, false)⟩] (
    .q ⟨(some 25), .bin .leq (.t 21) (.t 24), some (19, false)⟩ <|
      .q ⟨(some 26), .pick (.t 19) (.c (.d (.v (.bool true)))) (.t 25), none⟩ <|
      .fin) .no) [6, 8, 26]) <|
  (.cond (.t 26)
    (.cut (.reg [
      ⟨(some 27), .build [(.d (.v (.string ⟨#[]⟩))), (.d (.v (.bool false))), (.d (.v (.int .i64 0))), (.d (.v (.int .i64 0)))] [], none⟩,
      ⟨none, .store 4 (.t 6) (.t 27), none⟩,
      ⟨(some 7), .mov (.c (.d (.v (.bool false)))), none⟩] [6, 7]) <|
    .ret)
    .skip)) <|
  (.cut (.reg [
    ⟨(some 28), .load true 4 (.t 8), none⟩,
    ⟨none, .store 4 (.t 6) (.t 28), none⟩,
    ⟨(some 7), .mov (.c (.d (.v (.bool true)))), none⟩] [6, 7]) <|
  .ret))))
def row_Best.rf : RF := ⟨29, [.load true 4 (.t 6), .mov (.t 7)], row_Best.code⟩
theorem row_Best.res : resF prog F.row_Best row_Best.sc = some row_Best.rf := by kernel_rfl

def slices_Index_project_picker_string_.sc : SC := .cut (.reg [0, 1]) (.cut (.cut (.reg [0, 1, 7, 8]) (.one (.one (.cut (.reg [0, 1, 7, 8, 9]) (.cut (.two (.leaf) (.leaf)) (.cut (.one (.cut (.reg [0, 1, 5, 7, 8]) (.cut (.reg [0, 1, 5, 7, 8, 16]) (.two (.cut (.reg [4]) (.leaf)) (.leaf))))) (.reg [0, 1, 7, 8]))))))) (.cut (.reg [4]) (.leaf)))
def slices_Index_project_picker_string_.l0 : RC :=
  (.cut (.reg [⟨(some 9), .bin .lss (.t 8) (.t 7), none⟩] [0, 1, 7, 8, 9]) <|
  (.cut (.cond (.t 9)
    .skip
    (.exit 0)) <|
  (.cut (.block 1 <|
    (.cut (.reg [
      ⟨(some 10), .mov (.t 8), none⟩,
      ⟨(some 5), .mov (.t 10), none⟩] [0, 1, 5, 7, 8]) <|
    (.cut (.reg [
      ⟨(some 11), .mov (.t 1), none⟩,
      ⟨(some 12), .mov (.t 0), none⟩,
      ⟨(some 13), .mov (.t 5), none⟩,
      ⟨(some 14), .iaR 1 (.t 12) (.t 13), none⟩,
      ⟨(some 15), .load false 1 (.t 14), none⟩,
      ⟨(some 16), .bin .eql (.t 11) (.t 15), none⟩] [0, 1, 5, 7, 8, 16]) <|
    (.cond (.t 16)
      (.cut (.reg [
        ⟨(some 17), .mov (.t 5), none⟩,
        ⟨(some 4), .mov (.t 17), none⟩] [4]) <|
      .ret)
      .skip)))) <|
  (.reg [
    ⟨(some 18), .bin .add (.t 8) (.c (.d (.v (.int .i64 1)))), none⟩,
    ⟨(some 8), .mov (.t 18), none⟩] [0, 1, 7, 8]))))

def slices_Index_project_picker_string_.code : RC :=
  (.cut (.reg [⟨(some 4), .mov (.c (.d (.v (.int .i64 0)))), none⟩] [0, 1]) <|
  (.cut (.cut (.reg [
    ⟨(some 6), .mov (.t 0), none⟩,
    ⟨(some 7), .lenR (.t 6), none⟩,
    ⟨(some 8), .mov (.c (.d (.v (.int .i64 0)))), none⟩] [0, 1, 7, 8]) <|
  (.block 0 <|
    (.loop slices_Index_project_picker_string_.l0))) <|
  (.cut (.reg [⟨(some 4), .mov (.c (.d (.v (.int .i64 (-1))))), none⟩] [4]) <|
  .ret)))
def slices_Index_project_picker_string_.rf : RF := ⟨19, [.mov (.t 4)], slices_Index_project_picker_string_.code⟩
theorem slices_Index_project_picker_string_.res : resF prog F.slices_Index_project_picker_string_ slices_Index_project_picker_string_.sc = some slices_Index_project_picker_string_.rf := by kernel_rfl

def slices_Contains_project_picker_string_.sc : SC := .cut (.reg [0, 1]) (.cut (.reg [4]) (.leaf))

def slices_Contains_project_picker_string_.code : RC :=
  (.cut (.reg [⟨(some 4), .mov (.c (.d (.v (.bool false)))), none⟩] [0, 1]) <|
  (.cut (.reg [
    ⟨(some 5), .mov (.t 0), none⟩,
    ⟨(some 6), .mov (.t 1), none⟩,
    ⟨(some 7), .call F.slices_Index_project_picker_string_ [(.t 5), (.t 6)], none⟩,
    ⟨(some 8), .bin .geq (.t 7) (.c (.d (.v (.int .i64 0)))), none⟩,
    ⟨(some 4), .mov (.t 8), none⟩] [4]) <|
  .ret))
def slices_Contains_project_picker_string_.rf : RF := ⟨9, [.mov (.t 4)], slices_Contains_project_picker_string_.code⟩
theorem slices_Contains_project_picker_string_.res : resF prog F.slices_Contains_project_picker_string_ slices_Contains_project_picker_string_.sc = some slices_Contains_project_picker_string_.rf := by kernel_rfl

def _project_picker__not.sc : SC := .cut (.reg [0, 3]) (.cut (.reg [4]) (.leaf))

def _project_picker__not.code : RC :=
  (.cut (.reg [
    ⟨(some 3), .box T.api_Col (.t 1), none⟩,
    ⟨(some 4), .mov (.c (.d (.v (.bool false)))), none⟩] [0, 3]) <|
  (.cut (.reg [
    ⟨(some 5), .mov (.t 0), none⟩,
    ⟨(some 6), .faddr 0 (.t 3), none⟩,
    ⟨(some 7), .load false 1 (.t 6), none⟩,
    ⟨(some 8), .call F.slices_Contains_project_picker_string_ [(.t 5), (.t 7)], none⟩,
    ⟨(some 9), .un .not (.t 8), none⟩,
    ⟨(some 4), .mov (.t 9), none⟩] [4]) <|
  .ret))
def _project_picker__not.rf : RF := ⟨10, [.mov (.t 4)], _project_picker__not.code⟩
theorem _project_picker__not.res : resF prog F._project_picker__not _project_picker__not.sc = some _project_picker__not.rf := by kernel_rfl

def slices_IndexFunc___api_Col_api_Col_.sc : SC := .cut (.reg [0, 1]) (.cut (.cut (.reg [0, 1, 7, 8]) (.one (.one (.cut (.reg [0, 1, 7, 8, 9]) (.cut (.two (.leaf) (.leaf)) (.cut (.one (.cut (.reg [0, 1, 5, 7, 8]) (.cut (.reg [0, 1, 5, 7, 8, 16]) (.two (.cut (.reg [4]) (.leaf)) (.leaf))))) (.reg [0, 1, 7, 8]))))))) (.cut (.reg [4]) (.leaf)))
def slices_IndexFunc___api_Col_api_Col_.l0 : RC :=
  (.cut (.reg [⟨(some 9), .bin .lss (.t 8) (.t 7), none⟩] [0, 1, 7, 8, 9]) <|
  (.cut (.cond (.t 9)
    .skip
    (.exit 0)) <|
  (.cut (.block 1 <|
    (.cut (.reg [
      ⟨(some 10), .mov (.t 8), none⟩,
      ⟨(some 5), .mov (.t 10), none⟩] [0, 1, 5, 7, 8]) <|
    (.cut (.reg [
      ⟨(some 11), .mov (.t 1), none⟩,
      ⟨(some 12), .mov (.t 0), none⟩,
      ⟨(some 13), .mov (.t 5), none⟩,
      ⟨(some 14), .iaR 5 (.t 12) (.t 13), none⟩,
      ⟨(some 15), .load true 5 (.t 14), none⟩,
      ⟨(some 16), .callv (.t 11) [(.t 15)], none⟩] [0, 1, 5, 7, 8, 16]) <|
    (.cond (.t 16)
      (.cut (.reg [
        ⟨(some 17), .mov (.t 5), none⟩,
        ⟨(some 4), .mov (.t 17), none⟩] [4]) <|
      .ret)
      .skip)))) <|
  (.reg [
    ⟨(some 18), .bin .add (.t 8) (.c (.d (.v (.int .i64 1)))), none⟩,
    ⟨(some 8), .mov (.t 18), none⟩] [0, 1, 7, 8]))))

def slices_IndexFunc___api_Col_api_Col_.code : RC :=
  (.cut (.reg [⟨(some 4), .mov (.c (.d (.v (.int .i64 0)))), none⟩] [0, 1]) <|
  (.cut (.cut (.reg [
    ⟨(some 6), .mov (.t 0), none⟩,
    ⟨(some 7), .lenR (.t 6), none⟩,
    ⟨(some 8), .mov (.c (.d (.v (.int .i64 0)))), none⟩] [0, 1, 7, 8]) <|
  (.block 0 <|
    (.loop slices_IndexFunc___api_Col_api_Col_.l0))) <|
  (.cut (.reg [⟨(some 4), .mov (.c (.d (.v (.int .i64 (-1))))), none⟩] [4]) <|
  .ret)))
def slices_IndexFunc___api_Col_api_Col_.rf : RF := ⟨19, [.mov (.t 4)], slices_IndexFunc___api_Col_api_Col_.code⟩
theorem slices_IndexFunc___api_Col_api_Col_.res : resF prog F.slices_IndexFunc___api_Col_api_Col_ slices_IndexFunc___api_Col_api_Col_.sc = some slices_IndexFunc___api_Col_api_Col_.rf := by kernel_rfl

def slices_DeleteFunc___api_Col_api_Col_.sc : SC := .cut (.reg [0, 1]) (.cut (.reg [0, 1, 5]) (.cut (.cut (.reg [0, 1, 5, 12]) (.two (.cut (.reg [4]) (.leaf)) (.leaf))) (.cut (.cut (.reg [0, 1, 5, 6]) (.one (.one (.cut (.cut (.reg [0, 1, 5, 6, 19]) (.two (.leaf) (.leaf))) (.cut (.one (.cut (.reg [0, 1, 5, 6, 7]) (.cut (.reg [0, 1, 5, 6, 7, 29]) (.two (.cut (.reg [0, 1, 5, 6]) (.reg [0, 1, 5, 6])) (.leaf))))) (.reg [0, 1, 5, 6])))))) (.cut (.reg [0, 5]) (.cut (.reg [4]) (.leaf))))))
def slices_DeleteFunc___api_Col_api_Col_.l0 : RC :=
  (.cut (.cut (.reg [
    ⟨(some 16), .mov (.t 6), none⟩,
    ⟨(some 17), .mov (.t 0), none⟩,
    ⟨(some 18), .lenR (.t 17), none⟩,
    ⟨(some 19), .bin .lss (.t 16) (.t 18), none⟩] [0, 1, 5, 6, 19]) <|
  (.cond (.t 19)
    .skip
    (.exit 0))) <|
  (.cut (.block 1 <|
    (.cut (.reg [
      ⟨(some 22), .mov (.t 0), none⟩,
      ⟨(some 23), .mov (.t 6), none⟩,
      ⟨(some 24), .iaR 5 (.t 22) (.t 23), none⟩,
      ⟨(some 25), .load true 5 (.t 24), none⟩,
      ⟨(some 7), .alloc T.api_Col [(.d (.v (.string ⟨#[]⟩))), (.d (.v (.string ⟨#[]⟩))), (.d (.v (.bool false))), (.d (.v (.int .i64 0))), (.d (.v (.int .i64 0)))], none⟩,
      ⟨none, .store 5 (.t 7) (.t 25), none⟩] [0, 1, 5, 6, 7]) <|
    (.cut (.reg [
      ⟨(some 26), .mov (.t 1), none⟩,
      ⟨(some 27), .load true 5 (.t 7), none⟩,
      ⟨(some 28), .callv (.t 26) [(.t 27)], none⟩,
      ⟨(some 29), .un .not (.t 28), none⟩] [0, 1, 5, 6, 7, 29]) <|
    (.cond (.t 29)
      (.cut (.reg [
        ⟨(some 30), .mov (.t 0), none⟩,
        ⟨(some 31), .mov (.t 5), none⟩,
        ⟨(some 32), .load true 5 (.t 7), none⟩,
        ⟨(some 33), .iaR 5 (.t 30) (.t 31), none⟩,
        ⟨none, .store 5 (.t 33) (.t 32), none⟩] [0, 1, 5, 6]) <|
      (.reg [
        ⟨(some 34), .mov (.t 5), none⟩,
        ⟨(some 35), .bin .add (.t 34) (.c (.d (.v (.int .i64 1)))), none⟩,
        ⟨(some 5), .mov (.t 35), none⟩] [0, 1, 5, 6]))
      .skip)))) <|
  (.reg [
    ⟨(some 20), .mov (.t 6), none⟩,
    ⟨(some 21), .bin .add (.t 20) (.c (.d (.v (.int .i64 1)))), none⟩,
    ⟨(some 6), .mov (.t 21), none⟩] [0, 1, 5, 6])))

def slices_DeleteFunc___api_Col_api_Col_.code : RC :=
  (.cut (.reg [⟨(some 4), .mov (.c (.d (.v (.slice none 0 0)))), none⟩] [0, 1]) <|
  (.cut (.reg [
    ⟨(some 8), .mov (.t 0), none⟩,
    ⟨(some 9), .mov (.t 1), none⟩,
    ⟨(some 10), .call F.slices_IndexFunc___api_Col_api_Col_ [(.t 8), (.t 9)], none⟩,
    ⟨(some 5), .mov (.t 10), none⟩] [0, 1, 5]) <|
  (.cut (.cut (.reg [
    ⟨(some 11), .mov (.t 5), none⟩,
    ⟨(some 12), .bin .eql (.t 11) (.c (.d (.v (.int .i64 (-1))))), none⟩] [0, 1, 5, 12]) <|
  (.cond (.t 12)
    (.cut (.reg [
      ⟨(some 13), .mov (.t 0), none⟩,
      ⟨(some 4), .mov (.t 13), none⟩] [4]) <|
    .ret)
    .skip)) <|
  (.cut (.cut (.reg [
    ⟨(some 14), .mov (.t 5), none⟩,
    ⟨(some 15), .bin .add (.t 14) (.c (.d (.v (.int .i64 1)))), none⟩,
    ⟨(some 6), .mov (.t 15), none⟩] [0, 1, 5, 6]) <|
  (.block 0 <|
    (.loop slices_DeleteFunc___api_Col_api_Col_.l0))) <|
  (.cut (.reg [
    ⟨(some 36), .mov (.t 0), none⟩,
    ⟨(some 37), .mov (.t 5), none⟩,
    ⟨(some 38), .slR 5 (.t 36) (some (.t 37)) none none, none⟩,
    ⟨none, .clear [(.d (.v (.string ⟨#[]⟩))), (.d (.v (.string ⟨#[]⟩))), (.d (.v (.bool false))), (.d (.v (.int .i64 0))), (.d (.v (.int .i64 0)))] (.t 38), none⟩] [0, 5]) <|
  (.cut (.reg [
    ⟨(some 39), .mov (.t 0), none⟩,
    ⟨(some 40), .mov (.t 5), none⟩,
    ⟨(some 41), .slR 5 (.t 39) none (some (.t 40)) none, none⟩,
    ⟨(some 4), .mov (.t 41), none⟩] [4]) <|
  .ret))))))
def slices_DeleteFunc___api_Col_api_Col_.rf : RF := ⟨42, [.mov (.t 4)], slices_DeleteFunc___api_Col_api_Col_.code⟩
theorem slices_DeleteFunc___api_Col_api_Col_.res : resF prog F.slices_DeleteFunc___api_Col_api_Col_ slices_DeleteFunc___api_Col_api_Col_.sc = some slices_DeleteFunc___api_Col_api_Col_.rf := by kernel_rfl

def project_pick.sc : SC := .cut (.reg [1, 2]) (.cut (.reg [1, 5]) (.cut (.reg [4]) (.leaf)))

def project_pick.code : RC :=
  (.cut (.reg [
    ⟨(some 2), .box T.api_View (.t 0), none⟩,
    ⟨(some 4), .mov (.c (.d (.v (.slice none 0 0)))), none⟩] [1, 2]) <|
  (.cut (.reg [
    ⟨(some 6), .faddr 4 (.t 2), none⟩,
    ⟨(some 7), .load false 1 (.t 6), none⟩,
    ⟨(some 8), .mkfn (.func F._project_picker__not) [(.t 7)] [], none⟩,
    ⟨(some 5), .mov (.t 8), none⟩] [1, 5]) <|
  (.cut (.reg [
    ⟨(some 9), .mov (.t 1), none⟩,
    ⟨(some 10), .app T.api_Col 5 56 (.c (.d (.v (.slice none 0 0)))) (.t 9), none⟩,
    ⟨(some 11), .mov (.t 5), none⟩,
    ⟨(some 12), .call F.slices_DeleteFunc___api_Col_api_Col_ [(.t 10), (.t 11)], none⟩,
    ⟨(some 4), .mov (.t 12), none⟩] [4]) <|
  .ret)))
def project_pick.rf : RF := ⟨13, [.mov (.t 4)], project_pick.code⟩
theorem project_pick.res : resF prog F.project_pick project_pick.sc = some project_pick.rf := by kernel_rfl

def project_of.sc : SC := .cut (.reg [3, 4, 5, 6, 8]) (.cut (.reg [3, 4, 5, 6, 8, 10, 11]) (.cut (.reg [3, 4, 8, 10, 11, 12]) (.cut (.cut (.reg [3, 4, 8, 10, 12, 33]) (.two (.cut (.reg [8, 9]) (.leaf)) (.leaf))) (.cut (.drw (.q 0 <| .q 1 <| .q 2 <| .q 3 <| .q 4 <| .q 5 <| .q 6 <| .q 7 <| .q 8 <| .q 9 <| .a 10 [6, 5, 4, 3, 1, 0] (.q 11 <| .a 12 [1, 0] (.q 13 <| .a 14 [] (.a 15 [] (.fin) .no) .no) .no) .no) [8, 9]) (.leaf)))))

def project_of.code : RC :=
  (.cut (.reg [
    ⟨(some 4), .box T.api_View (.t 0), none⟩,
    ⟨(some 5), .box T.api_Part (.t 1), none⟩,
    ⟨(some 6), .box T.api_Row (.t 2), none⟩,
    ⟨(some 8), .alloc T.api_Part [(.d (.v (.string ⟨#[]⟩))), (.d (.v (.int .i64 0))), (.d (.v (.slice none 0 0)))], none⟩,
    ⟨(some 9), .mov (.c (.d (.v (.bool false)))), none⟩] [3, 4, 5, 6, 8]) <|
  (.cut (.reg [
    ⟨(some 14), .load true 8 (.t 6), none⟩,
    ⟨(some 15), .faddr 1 (.t 5), none⟩,
    ⟨(some 16), .load false 1 (.t 15), none⟩,
    ⟨(some 17), .faddr 3 (.t 4), none⟩,
    ⟨(some 18), .load false 1 (.t 17), none⟩,
    ⟨(some 19), .call F.row_Best [(.t 14), (.t 16), (.t 18)], none⟩,
    ⟨(some 13), .mov (.t 19), none⟩,
    ⟨(some 20), .extr (.t 13) 0, none⟩,
    ⟨(some 21), .extr (.t 13) 1, none⟩,
    ⟨(some 10), .alloc T.api_Cell [(.d (.v (.string ⟨#[]⟩))), (.d (.v (.bool false))), (.d (.v (.int .i64 0))), (.d (.v (.int .i64 0)))], none⟩,
    ⟨none, .store 4 (.t 10) (.t 20), none⟩,
    ⟨(some 11), .mov (.t 21), none⟩] [3, 4, 5, 6, 8, 10, 11]) <|
  (.cut (.reg [
    ⟨(some 22), .faddr 0 (.t 5), none⟩,
    ⟨(some 23), .load false 1 (.t 22), none⟩,
    ⟨(some 24), .faddr 0 (.t 6), none⟩,
    ⟨(some 25), .load false 1 (.t 24), none⟩,
    ⟨(some 26), .call F.project_Key [(.t 23), (.t 25)], none⟩,
    ⟨(some 12), .mov (.t 26), none⟩] [3, 4, 8, 10, 11, 12]) <|
  (.cut (.cut (.reg [
    ⟨(some 27), .mov (.t 11), none⟩,
    ⟨(some 28), .un .not (.t 27), none⟩,
    ⟨(some 29), .mov (.t 28), none⟩,
    ⟨(some 30), .mov (.t 12), some (29, false)⟩,
    ⟨(some 31), .lenS (.t 30), some (29, false)⟩,
    ⟨(some 32), .bin .gtr (.t 31) (.c (.d (.v (.int .i64 400)))), some (29, false)⟩,
    ⟨(some 33), .pick (.t 29) (.c (.d (.v (.bool true)))) (.t 32), none⟩] [3, 4, 8, 10, 12, 33]) <|
  (.cond (.t 33)
    (.cut (.reg [
      ⟨(some 34), .build [(.d (.v (.string ⟨#[]⟩))), (.d (.v (.int .i64 0))), (.d (.v (.slice none 0 0)))] [], none⟩,
      ⟨none, .store 3 (.t 8) (.t 34), none⟩,
      ⟨(some 9), .mov (.c (.d (.v (.bool false)))), none⟩] [8, 9]) <|
    .ret)
    .skip)) <|
  (.cut (.drw (
    .q ⟨(some 35), .faddr 0 (.t 10), none⟩ <|
    .q ⟨(some 36), .load false 1 (.t 35), none⟩ <|
    .q ⟨(some 37), .mov (.t 12), none⟩ <|
    .q ⟨(some 38), .faddr 2 (.t 10), none⟩ <|
    .q ⟨(some 39), .load false 1 (.t 38), none⟩ <|
    .q ⟨(some 40), .faddr 3 (.t 10), none⟩ <|
    .q ⟨(some 41), .load false 1 (.t 40), none⟩ <|
    .q ⟨(some 42), .build [(.d (.v (.string ⟨#[]⟩))), (.d (.v (.bool false))), (.d (.v (.int .i64 0))), (.d (.v (.int .i64 0)))] [(2, 1, (.t 39)), (3, 1, (.t 41))], none⟩ <|
    .q ⟨(some 43), .load true 5 (.t 4), none⟩ <|
    .q ⟨(some 44), .mov (.t 3), none⟩ <|
    .a ⟨(some 45), .call F.project_pick [(.t 43), (.t 44)], none⟩ [⟨(some 41), .load false 1 (.t 40), none⟩, ⟨(some 40), .faddr 3 (.t 10), none⟩, ⟨(some 39), .load false 1 (.t 38), none⟩, ⟨(some 38), .faddr 2 (.t 10), none⟩, ⟨(some 36), .load false 1 (.t 35), none⟩, ⟨(some 35), .faddr 0 (.t 10), none⟩] (
    .q ⟨(some 46), .build [(.d (.v (.string ⟨#[]⟩))), (.d (.v (.string ⟨#[]⟩))), (.d (.v (.bool false))), (.d (.v (.int .i64 0))), (.d (.v (.int .i64 0))), (.d (.v (.int .i64 0))), (.d (.v (.int .i64 0))), (.d (.v (.slice none 0 0)))] [(0, 1, (.t 37)), (1, 4, (.t 42)), (7, 1, (.t 45))], none⟩ <|
      .a ⟨(some 47), .bslice T.api_Row 8 1 [(.d (.v (.string ⟨#[]⟩))), (.d (.v (.string ⟨#[]⟩))), (.d (.v (.bool false))), (.d (.v (.int .i64 0))), (.d (.v (.int .i64 0))), (.d (.v (.int .i64 0))), (.d (.v (.int .i64 0))), (.d (.v (.slice none 0 0)))] [(0, (.t 46))], none⟩ [⟨(some 36), .load false 1 (.t 35), none⟩, ⟨(some 35), .faddr 0 (.t 10), none⟩] (
      .q ⟨(some 48), .build [(.d (.v (.string ⟨#[]⟩))), (.d (.v (.int .i64 0))), (.d (.v (.slice none 0 0)))] [(0, 1, (.t 36)), (2, 1, (.t 47))], none⟩ <|
        .a ⟨none, .store 3 (.t 8) (.t 48), none⟩ [] (
        .a ⟨(some 9), .mov (.c (.d (.v (.bool true)))), none⟩ [] (
          .fin) .no) .no) .no) .no) [8, 9]) <|
  .ret)))))
def project_of.rf : RF := ⟨49, [.load true 3 (.t 8), .mov (.t 9)], project_of.code⟩
theorem project_of.res : resF prog F.project_of project_of.sc = some project_of.rf := by kernel_rfl

def project_Mirror.sc : SC := .cut (.reg [5, 6, 7, 8]) (.cut (.reg [6, 7, 8, 10, 11]) (.cut (.cut (.reg [6, 7, 8, 10, 22]) (.two (.cut (.reg [8, 9]) (.leaf)) (.leaf))) (.cut (.drw (.q 0 <| .q 1 <| .q 2 <| .q 3 <| .q 4 <| .a 5 [1, 0] (.q 6 <| .q 7 <| .a 8 [] (.fin) .no) .no) [8, 10]) (.cut (.reg [8, 9]) (.leaf)))))

def project_Mirror.code : RC :=
  (.cut (.reg [
    ⟨(some 4), .box T.api_Table (.t 0), none⟩,
    ⟨(some 5), .box T.api_View (.t 1), none⟩,
    ⟨(some 6), .box T.api_Part (.t 2), none⟩,
    ⟨(some 7), .box T.api_Row (.t 3), none⟩,
    ⟨(some 8), .alloc T.api_Part [(.d (.v (.string ⟨#[]⟩))), (.d (.v (.int .i64 0))), (.d (.v (.slice none 0 0)))], none⟩,
    ⟨(some 9), .mov (.c (.d (.v (.bool false)))), none⟩] [5, 6, 7, 8]) <|
  (.cut (.reg [
    ⟨(some 13), .load true 5 (.t 5), none⟩,
    ⟨(some 14), .load true 3 (.t 6), none⟩,
    ⟨(some 15), .load true 8 (.t 7), none⟩,
    ⟨(some 16), .faddr 7 (.t 7), none⟩,
    ⟨(some 17), .load false 1 (.t 16), none⟩,
    ⟨(some 18), .call F.project_of [(.t 13), (.t 14), (.t 15), (.t 17)], none⟩,
    ⟨(some 12), .mov (.t 18), none⟩,
    ⟨(some 19), .extr (.t 12) 0, none⟩,
    ⟨(some 20), .extr (.t 12) 1, none⟩,
    ⟨(some 10), .alloc T.api_Part [(.d (.v (.string ⟨#[]⟩))), (.d (.v (.int .i64 0))), (.d (.v (.slice none 0 0)))], none⟩,
    ⟨none, .store 3 (.t 10) (.t 19), none⟩,
    ⟨(some 11), .mov (.t 20), none⟩] [6, 7, 8, 10, 11]) <|
  (.cut (.cut (.reg [
    ⟨(some 21), .mov (.t 11), none⟩,
    ⟨(some 22), .un .not (.t 21), none⟩] [6, 7, 8, 10, 22]) <|
  (.cond (.t 22)
    (.cut (.reg [
      ⟨(some 23), .build [(.d (.v (.string ⟨#[]⟩))), (.d (.v (.int .i64 0))), (.d (.v (.slice none 0 0)))] [], none⟩,
      ⟨none, .store 3 (.t 8) (.t 23), none⟩,
      ⟨(some 9), .mov (.c (.d (.v (.bool false)))), none⟩] [8, 9]) <|
    .ret)
    .skip)) <|
  (.cut (.drw (
    .q ⟨(some 24), .faddr 2 (.t 10), none⟩ <|
    .q ⟨(some 25), .load false 1 (.t 24), none⟩ <|
    .q ⟨(some 26), .load true 8 (.t 7), none⟩ <|
    .q ⟨(some 27), .faddr 1 (.t 6), none⟩ <|
    .q ⟨(some 28), .load false 1 (.t 27), none⟩ <|
    .a ⟨(some 29), .call F.row_Gone [(.t 26), (.t 28)], none⟩ [⟨(some 25), .load false 1 (.t 24), none⟩, ⟨(some 24), .faddr 2 (.t 10), none⟩] (
    .q ⟨(some 30), .iaR 8 (.t 25) (.c (.d (.v (.int .i64 0)))), none⟩ <|
      .q ⟨(some 31), .faddr 5 (.t 30), none⟩ <|
      .a ⟨none, .store 1 (.t 31) (.t 29), none⟩ [] (
      .fin) .no) .no) [8, 10]) <|
  (.cut (.reg [
    ⟨(some 32), .load true 3 (.t 10), none⟩,
    ⟨none, .store 3 (.t 8) (.t 32), none⟩,
    ⟨(some 9), .mov (.c (.d (.v (.bool true)))), none⟩] [8, 9]) <|
  .ret)))))
def project_Mirror.rf : RF := ⟨33, [.load true 3 (.t 8), .mov (.t 9)], project_Mirror.code⟩
theorem project_Mirror.res : resF prog F.project_Mirror project_Mirror.sc = some project_Mirror.rf := by kernel_rfl

def clerestorylaw18_awake.sc : SC := .cut (.reg []) (.cut (.reg [1, 2]) (.cut (.reg [4]) (.cut (.reg [4, 5, 6, 7]) (.cut (.reg [0]) (.leaf)))))

def clerestorylaw18_awake.code : RC :=
  (.cut (.reg [⟨(some 0), .mov (.c (.d (.v (.bool false)))), none⟩] []) <|
  (.cut (.reg [
    ⟨(some 9), .call F.clerestorylaw00_View [], none⟩,
    ⟨(some 8), .mov (.t 9), none⟩,
    ⟨(some 10), .extr (.t 8) 0, none⟩,
    ⟨(some 11), .extr (.t 8) 1, none⟩,
    ⟨(some 1), .alloc T.api_Table [(.d (.v (.string ⟨#[]⟩))), (.d (.v (.int .i64 0))), (.d (.v (.string ⟨#[]⟩))), (.d (.v (.int .i64 0))), (.d (.v (.string ⟨#[]⟩))), (.d (.v (.int .i64 0))), (.d (.v (.slice none 0 0)))], none⟩,
    ⟨(some 2), .alloc T.api_View [(.d (.v (.string ⟨#[]⟩))), (.d (.v (.int .i64 0))), (.d (.v (.string ⟨#[]⟩))), (.d (.v (.string ⟨#[]⟩))), (.d (.v (.slice none 0 0)))], none⟩,
    ⟨none, .store 7 (.t 1) (.t 10), none⟩,
    ⟨none, .store 5 (.t 2) (.t 11), none⟩] [1, 2]) <|
  (.cut (.reg [
    ⟨(some 13), .load true 7 (.t 1), none⟩,
    ⟨(some 14), .load true 5 (.t 2), none⟩,
    ⟨(some 15), .build [(.d (.v (.string ⟨#[]⟩))), (.d (.v (.int .i64 0))), (.d (.v (.slice none 0 0)))] [(0, 1, (.c (.d (.v (.string ⟨#[109]⟩)))))], none⟩,
    ⟨(some 16), .build [(.d (.v (.string ⟨#[]⟩))), (.d (.v (.string ⟨#[]⟩))), (.d (.v (.bool false))), (.d (.v (.int .i64 0))), (.d (.v (.int .i64 0))), (.d (.v (.int .i64 0))), (.d (.v (.int .i64 0))), (.d (.v (.slice none 0 0)))] [(0, 1, (.c (.d (.v (.string ⟨#[107]⟩)))))], none⟩,
    ⟨(some 17), .call F.project_Mirror [(.t 13), (.t 14), (.t 15), (.t 16)], none⟩,
    ⟨(some 12), .mov (.t 17), none⟩,
    ⟨(some 18), .extr (.t 12) 0, none⟩,
    ⟨(some 19), .extr (.t 12) 1, none⟩,
    ⟨(some 3), .alloc T.api_Part [(.d (.v (.string ⟨#[]⟩))), (.d (.v (.int .i64 0))), (.d (.v (.slice none 0 0)))], none⟩,
    ⟨none, .store 3 (.t 3) (.t 18), none⟩,
    ⟨(some 4), .mov (.t 19), none⟩] [4]) <|
  (.cut (.reg [
    ⟨(some 21), .call F.project_Key [(.c (.d (.v (.string ⟨#[120]⟩)))), (.c (.d (.v (.string ⟨#[121]⟩))))], none⟩,
    ⟨(some 22), .call F.project_Split [(.t 21)], none⟩,
    ⟨(some 20), .mov (.t 22), none⟩,
    ⟨(some 23), .extr (.t 20) 0, none⟩,
    ⟨(some 24), .extr (.t 20) 1, none⟩,
    ⟨(some 25), .extr (.t 20) 2, none⟩,
    ⟨(some 5), .mov (.t 23), none⟩,
    ⟨(some 6), .mov (.t 24), none⟩,
    ⟨(some 7), .mov (.t 25), none⟩] [4, 5, 6, 7]) <|
  (.cut (.reg [
    ⟨(some 26), .mov (.t 4), none⟩,
    ⟨(some 27), .un .not (.t 26), none⟩,
    ⟨(some 28), .mov (.t 27), none⟩,
    ⟨(some 29), .mov (.t 5), some (28, true)⟩,
    ⟨(some 30), .bin .eql (.t 29) (.c (.d (.v (.string ⟨#[120]⟩)))), some (28, true)⟩,
    ⟨(some 31), .pick (.t 28) (.t 30) (.c (.d (.v (.bool false)))), none⟩,
    ⟨(some 32), .mov (.t 31), none⟩,
    ⟨(some 33), .mov (.t 6), some (32, true)⟩,
    ⟨(some 34), .bin .eql (.t 33) (.c (.d (.v (.string ⟨#[121]⟩)))), some (32, true)⟩,
    ⟨(some 35), .pick (.t 32) (.t 34) (.c (.d (.v (.bool false)))), none⟩,
    ⟨(some 36), .mov (.t 35), none⟩,
    ⟨(some 37), .mov (.t 7), some (36, true)⟩,
    ⟨(some 38), .pick (.t 36) (.t 37) (.c (.d (.v (.bool false)))), none⟩,
    ⟨(some 0), .mov (.t 38), none⟩] [0]) <|
  .ret)))))
def clerestorylaw18_awake.rf : RF := ⟨39, [.mov (.t 0)], clerestorylaw18_awake.code⟩
theorem clerestorylaw18_awake.res : resF prog F.clerestorylaw18_awake clerestorylaw18_awake.sc = some clerestorylaw18_awake.rf := by kernel_rfl

def clerestoryref02_GetText.sc : SC := .cut (.reg [0, 1]) (.cut (.cut (.reg [0, 1, 16]) (.two (.cut (.reg [4, 5, 6]) (.leaf)) (.leaf))) (.cut (.reg [0, 1, 7]) (.cut (.cut (.reg [0, 7, 8]) (.one (.one (.cut (.cut (.reg [0, 7, 8, 21]) (.two (.leaf) (.leaf))) (.cut (.one (.cut (.cut (.reg [0, 7, 8, 27]) (.two (.cut (.reg [0, 7, 8]) (.leaf)) (.leaf))) (.cut (.reg [0, 7, 8]) (.cut (.one (.cut (.reg [0, 7, 8, 37]) (.two (.cut (.reg [4, 5, 6]) (.leaf)) (.cut (.reg [0, 7, 8, 42]) (.two (.cut (.reg [4, 5, 6]) (.leaf)) (.cut (.reg [0, 7, 8, 50]) (.two (.cut (.reg [4, 5, 6]) (.leaf)) (.leaf)))))))) (.reg [0, 7, 8]))))) (.reg [0, 7, 8])))))) (.cut (.reg [4, 5, 6]) (.leaf)))))
def clerestoryref02_GetText.l0 : RC :=
  (.cut (.cut (.reg [
    ⟨(some 18), .mov (.t 8), none⟩,
    ⟨(some 19), .mov (.t 0), none⟩,
    ⟨(some 20), .lenS (.t 19), none⟩,
    ⟨(some 21), .bin .lss (.t 18) (.t 20), none⟩] [0, 7, 8, 21]) <|
  (.cond (.t 21)
    .skip
    (.exit 0))) <|
  (.cut (.block 1 <|
    (.cut (.cut (.reg [
      ⟨(some 24), .mov (.t 0), none⟩,
      ⟨(some 25), .mov (.t 8), none⟩,
      ⟨(some 26), .idxS (.t 24) (.t 25), none⟩,
      ⟨(some 27), .bin .neq (.t 26) (.c (.d (.v (.int .u8 0)))), none⟩] [0, 7, 8, 27]) <|
    (.cond (.t 27)
      (.cut (.reg [
        ⟨(some 28), .mov (.t 7), none⟩,
        ⟨(some 29), .mov (.t 0), none⟩,
        ⟨(some 30), .mov (.t 8), none⟩,
        ⟨(some 31), .mov (.t 8), none⟩,
        ⟨(some 32), .bin .add (.t 31) (.c (.d (.v (.int .i64 1)))), none⟩,
        ⟨(some 33), .slS (.t 29) (some (.t 30)) (some (.t 32)), none⟩,
        ⟨(some 34), .bin .add (.t 28) (.t 33), none⟩,
        ⟨(some 7), .mov (.t 34), none⟩] [0, 7, 8]) <|
      (.exit 1))
      .skip)) <|
    (.cut (.reg [
      ⟨(some 35), .mov (.t 8), none⟩,
      ⟨(some 36), .bin .add (.t 35) (.c (.d (.v (.int .i64 1)))), none⟩,
      ⟨(some 8), .mov (.t 36), none⟩] [0, 7, 8]) <|
    (.cut (.block 2 <|
      (.cut (.reg [
        ⟨(some 38), .mov (.t 8), none⟩,
        ⟨(some 39), .mov (.t 0), none⟩,
        ⟨(some 40), .lenS (.t 39), none⟩,
        ⟨(some 41), .bin .geq (.t 38) (.t 40), none⟩,
        ⟨(some 37), .mov (.t 41), none⟩] [0, 7, 8, 37]) <|
      (.cond (.t 37)
        (.cut (.reg [
          ⟨(some 4), .mov (.c (.d (.v (.string ⟨#[]⟩)))), none⟩,
          ⟨(some 5), .mov (.c (.d (.v (.int .i64 0)))), none⟩,
          ⟨(some 6), .mov (.c (.d (.v (.int .i64 8)))), none⟩] [4, 5, 6]) <|
        .ret)
        (.cut (.reg [
          ⟨(some 43), .mov (.t 0), none⟩,
          ⟨(some 44), .mov (.t 8), none⟩,
          ⟨(some 45), .idxS (.t 43) (.t 44), none⟩,
          ⟨(some 46), .bin .eql (.t 45) (.c (.d (.v (.int .u8 1)))), none⟩,
          ⟨(some 42), .mov (.t 46), none⟩] [0, 7, 8, 42]) <|
        (.cond (.t 42)
          (.cut (.reg [
            ⟨(some 47), .mov (.t 7), none⟩,
            ⟨(some 48), .mov (.t 8), none⟩,
            ⟨(some 49), .bin .add (.t 48) (.c (.d (.v (.int .i64 1)))), none⟩,
            ⟨(some 4), .mov (.t 47), none⟩,
            ⟨(some 5), .mov (.t 49), none⟩,
            ⟨(some 6), .mov (.c (.d (.v (.int .i64 0)))), none⟩] [4, 5, 6]) <|
          .ret)
          (.cut (.reg [
            ⟨(some 51), .mov (.t 0), none⟩,
            ⟨(some 52), .mov (.t 8), none⟩,
            ⟨(some 53), .idxS (.t 51) (.t 52), none⟩,
            ⟨(some 54), .bin .neq (.t 53) (.c (.d (.v (.int .u8 255)))), none⟩,
            ⟨(some 50), .mov (.t 54), none⟩] [0, 7, 8, 50]) <|
          (.cond (.t 50)
            (.cut (.reg [
              ⟨(some 4), .mov (.c (.d (.v (.string ⟨#[]⟩)))), none⟩,
              ⟨(some 5), .mov (.c (.d (.v (.int .i64 0)))), none⟩,
              ⟨(some 6), .mov (.c (.d (.v (.int .i64 6)))), none⟩] [4, 5, 6]) <|
            .ret)
            .skip))))))) <|
    (.reg [
      ⟨(some 55), .mov (.t 7), none⟩,
      ⟨(some 56), .bin .add (.t 55) (.c (.d (.v (.string ⟨#[0]⟩)))), none⟩,
      ⟨(some 7), .mov (.t 56), none⟩] [0, 7, 8]))))) <|
  (.reg [
    ⟨(some 22), .mov (.t 8), none⟩,
    ⟨(some 23), .bin .add (.t 22) (.c (.d (.v (.int .i64 1)))), none⟩,
    ⟨(some 8), .mov (.t 23), none⟩] [0, 7, 8])))

def clerestoryref02_GetText.code : RC :=
  (.cut (.reg [
    ⟨(some 4), .mov (.c (.d (.v (.string ⟨#[]⟩)))), none⟩,
    ⟨(some 5), .mov (.c (.d (.v (.int .i64 0)))), none⟩,
    ⟨(some 6), .mov (.c (.d (.v (.int .i64 0)))), none⟩] [0, 1]) <|
  (.cut (.cut (.reg [
    ⟨(some 9), .mov (.t 1), none⟩,
    ⟨(some 10), .bin .lss (.t 9) (.c (.d (.v (.int .i64 0)))), none⟩,
    ⟨(some 11), .mov (.t 10), none⟩,
    ⟨(some 12), .mov (.t 1), some (11, false)⟩,
    ⟨(some 13), .mov (.t 0), some (11, false)⟩,
    ⟨(some 14), .lenS (.t 13), some (11, false)⟩,
    ⟨(some 15), .bin .gtr (.t 12) (.t 14), some (11, false)⟩,
    ⟨(some 16), .pick (.t 11) (.c (.d (.v (.bool true)))) (.t 15), none⟩] [0, 1, 16]) <|
  (.cond (.t 16)
    (.cut (.reg [
      ⟨(some 4), .mov (.c (.d (.v (.string ⟨#[]⟩)))), none⟩,
      ⟨(some 5), .mov (.c (.d (.v (.int .i64 0)))), none⟩,
      ⟨(some 6), .mov (.c (.d (.v (.int .i64 1)))), none⟩] [4, 5, 6]) <|
    .ret)
    .skip)) <|
  (.cut (.reg [⟨(some 7), .mov (.c (.d (.v (.string ⟨#[]⟩)))), none⟩] [0, 1, 7]) <|
  (.cut (.cut (.reg [
    ⟨(some 17), .mov (.t 1), none⟩,
    ⟨(some 8), .mov (.t 17), none⟩] [0, 7, 8]) <|
  (.block 0 <|
    (.loop clerestoryref02_GetText.l0))) <|
  (.cut (.reg [
    ⟨(some 4), .mov (.c (.d (.v (.string ⟨#[]⟩)))), none⟩,
    ⟨(some 5), .mov (.c (.d (.v (.int .i64 0)))), none⟩,
    ⟨(some 6), .mov (.c (.d (.v (.int .i64 8)))), none⟩] [4, 5, 6]) <|
  .ret)))))
def clerestoryref02_GetText.rf : RF := ⟨57, [.mov (.t 4), .mov (.t 5), .mov (.t 6)], clerestoryref02_GetText.code⟩
theorem clerestoryref02_GetText.res : resF prog F.clerestoryref02_GetText clerestoryref02_GetText.sc = some clerestoryref02_GetText.rf := by kernel_rfl

def clerestoryref18_Split.sc : SC := .cut (.reg [0]) (.cut (.reg [0, 5, 6, 7]) (.cut (.cut (.reg [0, 5, 6, 15]) (.two (.cut (.reg [2, 3, 4]) (.leaf)) (.leaf))) (.cut (.drw (.q 0 <| .q 1 <| .q 2 <| .q 3 <| .a 4 [] (.a 5 [] (.a 6 [] (.fin) .no) .no) .no) [2, 3, 4]) (.leaf))))

def clerestoryref18_Split.code : RC :=
  (.cut (.reg [
    ⟨(some 2), .mov (.c (.d (.v (.string ⟨#[]⟩)))), none⟩,
    ⟨(some 3), .mov (.c (.d (.v (.string ⟨#[]⟩)))), none⟩,
    ⟨(some 4), .mov (.c (.d (.v (.bool false)))), none⟩] [0]) <|
  (.cut (.reg [
    ⟨(some 9), .mov (.t 0), none⟩,
    ⟨(some 10), .call F.clerestoryref02_GetText [(.t 9), (.c (.d (.v (.int .i64 0))))], none⟩,
    ⟨(some 8), .mov (.t 10), none⟩,
    ⟨(some 11), .extr (.t 8) 0, none⟩,
    ⟨(some 12), .extr (.t 8) 1, none⟩,
    ⟨(some 13), .extr (.t 8) 2, none⟩,
    ⟨(some 5), .mov (.t 11), none⟩,
    ⟨(some 6), .mov (.t 12), none⟩,
    ⟨(some 7), .mov (.t 13), none⟩] [0, 5, 6, 7]) <|
  (.cut (.cut (.reg [
    ⟨(some 14), .mov (.t 7), none⟩,
    ⟨(some 15), .bin .neq (.t 14) (.c (.d (.v (.int .i64 0)))), none⟩] [0, 5, 6, 15]) <|
  (.cond (.t 15)
    (.cut (.reg [
      ⟨(some 2), .mov (.c (.d (.v (.string ⟨#[]⟩)))), none⟩,
      ⟨(some 3), .mov (.c (.d (.v (.string ⟨#[]⟩)))), none⟩,
      ⟨(some 4), .mov (.c (.d (.v (.bool false)))), none⟩] [2, 3, 4]) <|
    .ret)
    .skip)) <|
  (.cut (.drw (
    .q ⟨(some 16), .mov (.t 5), none⟩ <|
    .q ⟨(some 17), .mov (.t 0), none⟩ <|
    .q ⟨(some 18), .mov (.t 6), none⟩ <|
    .q ⟨(some 19), .slS (.t 17) (some (.t 18)) none, none⟩ <|
    .a ⟨(some 2), .mov (.t 16), none⟩ [] (
    .a ⟨(some 3), .mov (.t 19), none⟩ [] (
      .a ⟨(some 4), .mov (.c (.d (.v (.bool true)))), none⟩ [] (
        .fin) .no) .no) .no) [2, 3, 4]) <|
  .ret))))
def clerestoryref18_Split.rf : RF := ⟨20, [.mov (.t 2), .mov (.t 3), .mov (.t 4)], clerestoryref18_Split.code⟩
theorem clerestoryref18_Split.res : resF prog F.clerestoryref18_Split clerestoryref18_Split.sc = some clerestoryref18_Split.rf := by kernel_rfl

def clerestoryref02_Text.sc : SC := .cut (.reg [0]) (.cut (.reg [0, 3]) (.cut (.cut (.reg [0, 3, 4]) (.one (.one (.cut (.cut (.reg [0, 3, 4, 8]) (.two (.leaf) (.leaf))) (.cut (.one (.cut (.reg [0, 3, 4]) (.cut (.reg [0, 3, 4, 21]) (.two (.reg [0, 3, 4]) (.leaf))))) (.reg [0, 3, 4])))))) (.cut (.reg [2]) (.leaf))))
def clerestoryref02_Text.l0 : RC :=
  (.cut (.cut (.reg [
    ⟨(some 5), .mov (.t 4), none⟩,
    ⟨(some 6), .mov (.t 0), none⟩,
    ⟨(some 7), .lenS (.t 6), none⟩,
    ⟨(some 8), .bin .lss (.t 5) (.t 7), none⟩] [0, 3, 4, 8]) <|
  (.cond (.t 8)
    .skip
    (.exit 0))) <|
  (.cut (.block 1 <|
    (.cut (.reg [
      ⟨(some 11), .mov (.t 3), none⟩,
      ⟨(some 12), .mov (.t 0), none⟩,
      ⟨(some 13), .mov (.t 4), none⟩,
      ⟨(some 14), .mov (.t 4), none⟩,
      ⟨(some 15), .bin .add (.t 14) (.c (.d (.v (.int .i64 1)))), none⟩,
      ⟨(some 16), .slS (.t 12) (some (.t 13)) (some (.t 15)), none⟩,
      ⟨(some 17), .bin .add (.t 11) (.t 16), none⟩,
      ⟨(some 3), .mov (.t 17), none⟩] [0, 3, 4]) <|
    (.cut (.reg [
      ⟨(some 18), .mov (.t 0), none⟩,
      ⟨(some 19), .mov (.t 4), none⟩,
      ⟨(some 20), .idxS (.t 18) (.t 19), none⟩,
      ⟨(some 21), .bin .eql (.t 20) (.c (.d (.v (.int .u8 0)))), none⟩] [0, 3, 4, 21]) <|
    (.cond (.t 21)
      (.reg [
        ⟨(some 22), .mov (.t 3), none⟩,
        ⟨(some 23), .bin .add (.t 22) (.c (.d (.v (.string ⟨#[255]⟩)))), none⟩,
        ⟨(some 3), .mov (.t 23), none⟩] [0, 3, 4])
      .skip)))) <|
  (.reg [
    ⟨(some 9), .mov (.t 4), none⟩,
    ⟨(some 10), .bin .add (.t 9) (.c (.d (.v (.int .i64 1)))), none⟩,
    ⟨(some 4), .mov (.t 10), none⟩] [0, 3, 4])))

def clerestoryref02_Text.code : RC :=
  (.cut (.reg [⟨(some 2), .mov (.c (.d (.v (.string ⟨#[]⟩)))), none⟩] [0]) <|
  (.cut (.reg [⟨(some 3), .mov (.c (.d (.v (.string ⟨#[]⟩)))), none⟩] [0, 3]) <|
  (.cut (.cut (.reg [⟨(some 4), .mov (.c (.d (.v (.int .i64 0)))), none⟩] [0, 3, 4]) <|
  (.block 0 <|
    (.loop clerestoryref02_Text.l0))) <|
  (.cut (.reg [
    ⟨(some 24), .mov (.t 3), none⟩,
    ⟨(some 25), .bin .add (.t 24) (.c (.d (.v (.string ⟨#[0, 1]⟩)))), none⟩,
    ⟨(some 2), .mov (.t 25), none⟩] [2]) <|
  .ret))))
def clerestoryref02_Text.rf : RF := ⟨26, [.mov (.t 2)], clerestoryref02_Text.code⟩
theorem clerestoryref02_Text.res : resF prog F.clerestoryref02_Text clerestoryref02_Text.sc = some clerestoryref02_Text.rf := by kernel_rfl

def clerestoryref18_Key.sc : SC := .cut (.reg [0, 1]) (.cut (.reg [4]) (.leaf))

def clerestoryref18_Key.code : RC :=
  (.cut (.reg [⟨(some 4), .mov (.c (.d (.v (.string ⟨#[]⟩)))), none⟩] [0, 1]) <|
  (.cut (.reg [
    ⟨(some 5), .mov (.t 0), none⟩,
    ⟨(some 6), .call F.clerestoryref02_Text [(.t 5)], none⟩,
    ⟨(some 7), .mov (.t 1), none⟩,
    ⟨(some 8), .bin .add (.t 6) (.t 7), none⟩,
    ⟨(some 4), .mov (.t 8), none⟩] [4]) <|
  .ret))
def clerestoryref18_Key.rf : RF := ⟨9, [.mov (.t 4)], clerestoryref18_Key.code⟩
theorem clerestoryref18_Key.res : resF prog F.clerestoryref18_Key clerestoryref18_Key.sc = some clerestoryref18_Key.rf := by kernel_rfl

def clerestoryref06_Check.sc : SC := .cut (.reg [1]) (.cut (.one (.cut (.reg [1, 3]) (.two (.cut (.reg [2]) (.leaf)) (.cut (.reg [1, 12]) (.two (.cut (.reg [2]) (.leaf)) (.leaf)))))) (.cut (.reg [2]) (.leaf)))

def clerestoryref06_Check.code : RC :=
  (.cut (.reg [
    ⟨(some 1), .box T.api_Cell (.t 0), none⟩,
    ⟨(some 2), .mov (.c (.d (.v (.bool false)))), none⟩] [1]) <|
  (.cut (.block 0 <|
    (.cut (.reg [
      ⟨(some 4), .faddr 2 (.t 1), none⟩,
      ⟨(some 5), .load false 1 (.t 4), none⟩,
      ⟨(some 6), .bin .lss (.t 5) (.c (.d (.v (.int .i64 0)))), none⟩,
      ⟨(some 7), .mov (.t 6), none⟩,
      ⟨(some 8), .faddr 2 (.t 1), some (7, false)⟩,
      ⟨(some 9), .load false 1 (.t 8), some (7, false)⟩,
      ⟨(some 10), .bin .gtr (.t 9) (.c (.d (.v (.int .i64 1099511627776)))), some (7, false)⟩,
      ⟨(some 11), .pick (.t 7) (.c (.d (.v (.bool true)))) (.t 10), none⟩,
      ⟨(some 3), .mov (.t 11), none⟩] [1, 3]) <|
    (.cond (.t 3)
      (.cut (.reg [⟨(some 2), .mov (.c (.d (.v (.bool false)))), none⟩] [2]) <|
      .ret)
      (.cut (.reg [
        ⟨(some 13), .faddr 2 (.t 1), none⟩,
        ⟨(some 14), .load false 1 (.t 13), none⟩,
        ⟨(some 15), .bin .eql (.t 14) (.c (.d (.v (.int .i64 0)))), none⟩,
        ⟨(some 16), .mov (.t 15), none⟩,
        ⟨(some 17), .faddr 1 (.t 1), some (16, false)⟩,
        ⟨(some 18), .load false 1 (.t 17), some (16, false)⟩,
        ⟨(some 19), .pick (.t 16) (.c (.d (.v (.bool true)))) (.t 18), none⟩,
        ⟨(some 12), .mov (.t 19), none⟩] [1, 12]) <|
      (.cond (.t 12)
        (.cut (.reg [
          ⟨(some 20), .faddr 0 (.t 1), none⟩,
          ⟨(some 21), .load false 1 (.t 20), none⟩,
          ⟨(some 22), .bin .eql (.t 21) (.c (.d (.v (.string ⟨#[]⟩)))), none⟩,
          ⟨(some 23), .mov (.t 22), none⟩,
          ⟨(some 24), .faddr 3 (.t 1), some (23, true)⟩,
          ⟨(some 25), .load false 1 (.t 24), some (23, true)⟩,
          ⟨(some 26), .bin .eql (.t 25) (.c (.d (.v (.int .i64 0)))), some (23, true)⟩,
          ⟨(some 27), .pick (.t 23) (.t 26) (.c (.d (.v (.bool false)))), none⟩,
          ⟨(some 28), .mov (.t 27), none⟩,
          ⟨(some 29), .faddr 2 (.t 1), some (28, true)⟩,
          ⟨(some 30), .load false 1 (.t 29), some (28, true)⟩,
          ⟨(some 31), .bin .gtr (.t 30) (.c (.d (.v (.int .i64 0)))), some (28, true)⟩,
          ⟨(some 32), .mov (.t 31), some (28, true)⟩,
          ⟨(some 33), .faddr 1 (.t 1), some (32, false)⟩,
          ⟨(some 34), .load false 1 (.t 33), some (32, false)⟩,
          ⟨(some 35), .un .not (.t 34), some (32, false)⟩,
          ⟨(some 36), .pick (.t 32) (.c (.d (.v (.bool true)))) (.t 35), some (28, true)⟩,
          ⟨(some 37), .pick (.t 28) (.t 36) (.c (.d (.v (.bool false)))), none⟩,
          ⟨(some 2), .mov (.t 37), none⟩] [2]) <|
        .ret)
        .skip))))) <|
  (.cut (.reg [
    ⟨(some 38), .faddr 0 (.t 1), none⟩,
    ⟨(some 39), .load false 1 (.t 38), none⟩,
    ⟨(some 40), .lenS (.t 39), none⟩,
    ⟨(some 41), .bin .leq (.t 40) (.c (.d (.v (.int .i64 100)))), none⟩,
    ⟨(some 42), .mov (.t 41), none⟩,
    ⟨(some 43), .faddr 3 (.t 1), some (42, true)⟩,
    ⟨(some 44), .load false 1 (.t 43), some (42, true)⟩,
    ⟨(some 45), .bin .geq (.t 44) (.c (.d (.v (.int .i64 0)))), some (42, true)⟩,
    ⟨(some 46), .pick (.t 42) (.t 45) (.c (.d (.v (.bool false)))), none⟩,
    ⟨(some 47), .mov (.t 46), none⟩,
    ⟨(some 48), .faddr 3 (.t 1), some (47, true)⟩,
    ⟨(some 49), .load false 1 (.t 48), some (47, true)⟩,
    ⟨(some 50), .bin .leq (.t 49) (.c (.d (.v (.int .i64 1099511627776)))), some (47, true)⟩,
    ⟨(some 51), .pick (.t 47) (.t 50) (.c (.d (.v (.bool false)))), none⟩,
    ⟨(some 2), .mov (.t 51), none⟩] [2]) <|
  .ret)))
def clerestoryref06_Check.rf : RF := ⟨52, [.mov (.t 2)], clerestoryref06_Check.code⟩
theorem clerestoryref06_Check.res : resF prog F.clerestoryref06_Check clerestoryref06_Check.sc = some clerestoryref06_Check.rf := by kernel_rfl

def clerestoryref07_stamp.sc : SC := .cut (.reg [0]) (.cut (.reg [2]) (.leaf))

def clerestoryref07_stamp.code : RC :=
  (.cut (.reg [⟨(some 2), .mov (.c (.d (.v (.bool false)))), none⟩] [0]) <|
  (.cut (.reg [
    ⟨(some 3), .mov (.t 0), none⟩,
    ⟨(some 4), .bin .geq (.t 3) (.c (.d (.v (.int .i64 0)))), none⟩,
    ⟨(some 5), .mov (.t 4), none⟩,
    ⟨(some 6), .mov (.t 0), some (5, true)⟩,
    ⟨(some 7), .bin .leq (.t 6) (.c (.d (.v (.int .i64 1099511627776)))), some (5, true)⟩,
    ⟨(some 8), .pick (.t 5) (.t 7) (.c (.d (.v (.bool false)))), none⟩,
    ⟨(some 2), .mov (.t 8), none⟩] [2]) <|
  .ret))
def clerestoryref07_stamp.rf : RF := ⟨9, [.mov (.t 2)], clerestoryref07_stamp.code⟩
theorem clerestoryref07_stamp.res : resF prog F.clerestoryref07_stamp clerestoryref07_stamp.sc = some clerestoryref07_stamp.rf := by kernel_rfl

def clerestoryref01_cont.sc : SC := .cut (.reg [0, 1, 2]) (.cut (.cut (.reg [0, 1, 2, 13]) (.two (.cut (.reg [6]) (.leaf)) (.leaf))) (.cut (.cut (.reg [0, 1, 2, 7]) (.one (.one (.cut (.cut (.reg [0, 1, 2, 7, 19]) (.two (.leaf) (.leaf))) (.cut (.one (.cut (.reg [0, 1, 2, 7, 26]) (.two (.cut (.reg [6]) (.leaf)) (.leaf)))) (.reg [0, 1, 2, 7])))))) (.cut (.reg [6]) (.leaf))))
def clerestoryref01_cont.l0 : RC :=
  (.cut (.cut (.reg [
    ⟨(some 15), .mov (.t 7), none⟩,
    ⟨(some 16), .mov (.t 1), none⟩,
    ⟨(some 17), .mov (.t 2), none⟩,
    ⟨(some 18), .bin .add (.t 16) (.t 17), none⟩,
    ⟨(some 19), .bin .lss (.t 15) (.t 18), none⟩] [0, 1, 2, 7, 19]) <|
  (.cond (.t 19)
    .skip
    (.exit 0))) <|
  (.cut (.block 1 <|
    (.cut (.reg [
      ⟨(some 22), .mov (.t 0), none⟩,
      ⟨(some 23), .mov (.t 7), none⟩,
      ⟨(some 24), .idxS (.t 22) (.t 23), none⟩,
      ⟨(some 25), .bin .and (.t 24) (.c (.d (.v (.int .u8 192)))), none⟩,
      ⟨(some 26), .bin .neq (.t 25) (.c (.d (.v (.int .u8 128)))), none⟩] [0, 1, 2, 7, 26]) <|
    (.cond (.t 26)
      (.cut (.reg [⟨(some 6), .mov (.c (.d (.v (.bool false)))), none⟩] [6]) <|
      .ret)
      .skip))) <|
  (.reg [
    ⟨(some 20), .mov (.t 7), none⟩,
    ⟨(some 21), .bin .add (.t 20) (.c (.d (.v (.int .i64 1)))), none⟩,
    ⟨(some 7), .mov (.t 21), none⟩] [0, 1, 2, 7])))

def clerestoryref01_cont.code : RC :=
  (.cut (.reg [⟨(some 6), .mov (.c (.d (.v (.bool false)))), none⟩] [0, 1, 2]) <|
  (.cut (.cut (.reg [
    ⟨(some 8), .mov (.t 1), none⟩,
    ⟨(some 9), .mov (.t 2), none⟩,
    ⟨(some 10), .bin .add (.t 8) (.t 9), none⟩,
    ⟨(some 11), .mov (.t 0), none⟩,
    ⟨(some 12), .lenS (.t 11), none⟩,
    ⟨(some 13), .bin .gtr (.t 10) (.t 12), none⟩] [0, 1, 2, 13]) <|
  (.cond (.t 13)
    (.cut (.reg [⟨(some 6), .mov (.c (.d (.v (.bool false)))), none⟩] [6]) <|
    .ret)
    .skip)) <|
  (.cut (.cut (.reg [
    ⟨(some 14), .mov (.t 1), none⟩,
    ⟨(some 7), .mov (.t 14), none⟩] [0, 1, 2, 7]) <|
  (.block 0 <|
    (.loop clerestoryref01_cont.l0))) <|
  (.cut (.reg [⟨(some 6), .mov (.c (.d (.v (.bool true)))), none⟩] [6]) <|
  .ret))))
def clerestoryref01_cont.rf : RF := ⟨27, [.mov (.t 6)], clerestoryref01_cont.code⟩
theorem clerestoryref01_cont.res : resF prog F.clerestoryref01_cont clerestoryref01_cont.sc = some clerestoryref01_cont.rf := by kernel_rfl

def clerestoryref01_one.sc : SC := .cut (.reg [0, 1, 4]) (.cut (.reg [0, 1, 4, 5]) (.cut (.reg [0, 1, 4, 5, 6]) (.cut (.reg [0, 1, 4, 5, 6]) (.cut (.one (.cut (.reg [0, 1, 4, 5, 6, 17]) (.two (.cut (.reg [4]) (.leaf)) (.cut (.reg [0, 1, 4, 5, 6, 23]) (.two (.reg [0, 1, 4, 6, 7, 8]) (.cut (.reg [0, 1, 4, 5, 6, 32]) (.two (.reg [0, 1, 4, 6, 7, 8]) (.cut (.reg [0, 1, 4, 5, 6, 41]) (.two (.reg [0, 1, 4, 6, 7, 8]) (.cut (.reg [4]) (.leaf))))))))))) (.cut (.cut (.reg [0, 1, 4, 6, 7, 8, 55]) (.two (.cut (.reg [4]) (.leaf)) (.leaf))) (.cut (.cut (.reg [0, 1, 4, 6, 7, 8, 9]) (.one (.one (.cut (.cut (.reg [0, 1, 4, 6, 7, 8, 9, 59]) (.two (.leaf) (.leaf))) (.cut (.one (.reg [0, 1, 4, 6, 7, 8, 9])) (.reg [0, 1, 4, 6, 7, 8, 9])))))) (.cut (.cut (.reg [1, 4, 6, 7, 8, 97]) (.two (.cut (.reg [4]) (.leaf)) (.leaf))) (.cut (.reg [4]) (.leaf)))))))))
def clerestoryref01_one.l0 : RC :=
  (.cut (.cut (.reg [
    ⟨(some 57), .mov (.t 9), none⟩,
    ⟨(some 58), .mov (.t 7), none⟩,
    ⟨(some 59), .bin .leq (.t 57) (.t 58), none⟩] [0, 1, 4, 6, 7, 8, 9, 59]) <|
  (.cond (.t 59)
    .skip
    (.exit 1))) <|
  (.cut (.block 2 <|
    (.reg [
      ⟨(some 62), .mov (.t 8), none⟩,
      ⟨(some 63), .bin .shl (.t 62) (.c (.d (.v (.int .u64 6)))), none⟩,
      ⟨(some 64), .mov (.t 0), none⟩,
      ⟨(some 65), .mov (.t 1), none⟩,
      ⟨(some 66), .mov (.t 9), none⟩,
      ⟨(some 67), .bin .add (.t 65) (.t 66), none⟩,
      ⟨(some 68), .idxS (.t 64) (.t 67), none⟩,
      ⟨(some 69), .bin .and (.t 68) (.c (.d (.v (.int .u8 63)))), none⟩,
      ⟨(some 70), .ci .i32 (.t 69), none⟩,
      ⟨(some 71), .bin .or (.t 63) (.t 70), none⟩,
      ⟨(some 8), .mov (.t 71), none⟩] [0, 1, 4, 6, 7, 8, 9])) <|
  (.reg [
    ⟨(some 60), .mov (.t 9), none⟩,
    ⟨(some 61), .bin .add (.t 60) (.c (.d (.v (.int .i64 1)))), none⟩,
    ⟨(some 9), .mov (.t 61), none⟩] [0, 1, 4, 6, 7, 8, 9])))

def clerestoryref01_one.code : RC :=
  (.cut (.reg [⟨(some 4), .alloc T.clerestoryref01_R [(.d (.v (.int .i32 0))), (.d (.v (.int .i64 0))), (.d (.v (.int .i64 0))), (.d (.v (.bool false)))], none⟩] [0, 1, 4]) <|
  (.cut (.reg [
    ⟨(some 10), .mov (.t 0), none⟩,
    ⟨(some 11), .mov (.t 1), none⟩,
    ⟨(some 12), .idxS (.t 10) (.t 11), none⟩,
    ⟨(some 13), .ci .i32 (.t 12), none⟩,
    ⟨(some 5), .mov (.t 13), none⟩] [0, 1, 4, 5]) <|
  (.cut (.reg [
    ⟨(some 14), .mov (.t 1), none⟩,
    ⟨(some 15), .build [(.d (.v (.int .i32 0))), (.d (.v (.int .i64 0))), (.d (.v (.int .i64 0))), (.d (.v (.bool false)))] [(0, 1, (.c (.d (.v (.int .i32 65533))))), (1, 1, (.t 14)), (2, 1, (.c (.d (.v (.int .i64 1))))), (3, 1, (.c (.d (.v (.bool false)))))], none⟩,
    ⟨(some 6), .alloc T.clerestoryref01_R [(.d (.v (.int .i32 0))), (.d (.v (.int .i64 0))), (.d (.v (.int .i64 0))), (.d (.v (.bool false)))], none⟩,
    ⟨none, .store 4 (.t 6) (.t 15), none⟩] [0, 1, 4, 5, 6]) <|
  (.cut (.reg [
    ⟨(some 7), .mov (.c (.d (.v (.int .i64 0)))), none⟩,
    ⟨(some 8), .mov (.c (.d (.v (.int .i32 0)))), none⟩] [0, 1, 4, 5, 6]) <|
  (.cut (.block 0 <|
    (.cut (.reg [
      ⟨(some 18), .mov (.t 5), none⟩,
      ⟨(some 19), .bin .lss (.t 18) (.c (.d (.v (.int .i32 128)))), none⟩,
      ⟨(some 17), .mov (.t 19), none⟩] [0, 1, 4, 5, 6, 17]) <|
    (.cond (.t 17)
      (.cut (.reg [
        ⟨(some 20), .mov (.t 5), none⟩,
        ⟨(some 21), .mov (.t 1), none⟩,
        ⟨(some 22), .build [(.d (.v (.int .i32 0))), (.d (.v (.int .i64 0))), (.d (.v (.int .i64 0))), (.d (.v (.bool false)))] [(0, 1, (.t 20)), (1, 1, (.t 21)), (2, 1, (.c (.d (.v (.int .i64 1))))), (3, 1, (.c (.d (.v (.bool true)))))], none⟩,
        ⟨none, .store 4 (.t 4) (.t 22), none⟩] [4]) <|
      .ret)
      (.cut (.reg [
        ⟨(some 24), .mov (.t 5), none⟩,
        ⟨(some 25), .bin .geq (.t 24) (.c (.d (.v (.int .i32 194)))), none⟩,
        ⟨(some 26), .mov (.t 25), none⟩,
        ⟨(some 27), .mov (.t 5), some (26, true)⟩,
        ⟨(some 28), .bin .lss (.t 27) (.c (.d (.v (.int .i32 224)))), some (26, true)⟩,
        ⟨(some 29), .pick (.t 26) (.t 28) (.c (.d (.v (.bool false)))), none⟩,
        ⟨(some 23), .mov (.t 29), none⟩] [0, 1, 4, 5, 6, 23]) <|
      (.cond (.t 23)
        (.reg [
          ⟨(some 30), .mov (.t 5), none⟩,
          ⟨(some 31), .bin .and (.t 30) (.c (.d (.v (.int .i32 31)))), none⟩,
          ⟨(some 7), .mov (.c (.d (.v (.int .i64 1)))), none⟩,
          ⟨(some 8), .mov (.t 31), none⟩] [0, 1, 4, 6, 7, 8])
        (.cut (.reg [
          ⟨(some 33), .mov (.t 5), none⟩,
          ⟨(some 34), .bin .geq (.t 33) (.c (.d (.v (.int .i32 224)))), none⟩,
          ⟨(some 35), .mov (.t 34), none⟩,
          ⟨(some 36), .mov (.t 5), some (35, true)⟩,
          ⟨(some 37), .bin .lss (.t 36) (.c (.d (.v (.int .i32 240)))), some (35, true)⟩,
          ⟨(some 38), .pick (.t 35) (.t 37) (.c (.d (.v (.bool false)))), none⟩,
          ⟨(some 32), .mov (.t 38), none⟩] [0, 1, 4, 5, 6, 32]) <|
        (.cond (.t 32)
          (.reg [
            ⟨(some 39), .mov (.t 5), none⟩,
            ⟨(some 40), .bin .and (.t 39) (.c (.d (.v (.int .i32 15)))), none⟩,
            ⟨(some 7), .mov (.c (.d (.v (.int .i64 2)))), none⟩,
            ⟨(some 8), .mov (.t 40), none⟩] [0, 1, 4, 6, 7, 8])
          (.cut (.reg [
            ⟨(some 42), .mov (.t 5), none⟩,
            ⟨(some 43), .bin .geq (.t 42) (.c (.d (.v (.int .i32 240)))), none⟩,
            ⟨(some 44), .mov (.t 43), none⟩,
            ⟨(some 45), .mov (.t 5), some (44, true)⟩,
            ⟨(some 46), .bin .lss (.t 45) (.c (.d (.v (.int .i32 245)))), some (44, true)⟩,
            ⟨(some 47), .pick (.t 44) (.t 46) (.c (.d (.v (.bool false)))), none⟩,
            ⟨(some 41), .mov (.t 47), none⟩] [0, 1, 4, 5, 6, 41]) <|
          (.cond (.t 41)
            (.reg [
              ⟨(some 48), .mov (.t 5), none⟩,
              ⟨(some 49), .bin .and (.t 48) (.c (.d (.v (.int .i32 7)))), none⟩,
              ⟨(some 7), .mov (.c (.d (.v (.int .i64 3)))), none⟩,
              ⟨(some 8), .mov (.t 49), none⟩] [0, 1, 4, 6, 7, 8])
            (.cut (.reg [
              ⟨(some 16), .load true 4 (.t 6), none⟩,
              ⟨none, .store 4 (.t 4) (.t 16), none⟩] [4]) <|
            .ret)))))))))) <|
  (.cut (.cut (.reg [
    ⟨(some 50), .mov (.t 0), none⟩,
    ⟨(some 51), .mov (.t 1), none⟩,
    ⟨(some 52), .bin .add (.t 51) (.c (.d (.v (.int .i64 1)))), none⟩,
    ⟨(some 53), .mov (.t 7), none⟩,
    ⟨(some 54), .call F.clerestoryref01_cont [(.t 50), (.t 52), (.t 53)], none⟩,
    ⟨(some 55), .un .not (.t 54), none⟩] [0, 1, 4, 6, 7, 8, 55]) <|
  (.cond (.t 55)
    (.cut (.reg [
      ⟨(some 56), .load true 4 (.t 6), none⟩,
      ⟨none, .store 4 (.t 4) (.t 56), none⟩] [4]) <|
    .ret)
    .skip)) <|
  (.cut (.cut (.reg [⟨(some 9), .mov (.c (.d (.v (.int .i64 1)))), none⟩] [0, 1, 4, 6, 7, 8, 9]) <|
  (.block 1 <|
    (.loop clerestoryref01_one.l0))) <|
  (.cut (.cut (.reg [
    ⟨(some 72), .mov (.t 7), none⟩,
    ⟨(some 73), .bin .eql (.t 72) (.c (.d (.v (.int .i64 2)))), none⟩,
    ⟨(some 74), .mov (.t 73), none⟩,
    ⟨(some 75), .mov (.t 8), some (74, true)⟩,
    ⟨(some 76), .bin .lss (.t 75) (.c (.d (.v (.int .i32 2048)))), some (74, true)⟩,
    ⟨(some 77), .mov (.t 76), some (74, true)⟩,
    ⟨(some 78), .mov (.t 8), some (77, false)⟩,
    ⟨(some 79), .bin .geq (.t 78) (.c (.d (.v (.int .i32 55296)))), some (77, false)⟩,
    ⟨(some 80), .mov (.t 79), some (77, false)⟩,
    ⟨(some 81), .mov (.t 8), some (80, true)⟩,
    ⟨(some 82), .bin .lss (.t 81) (.c (.d (.v (.int .i32 57344)))), some (80, true)⟩,
    ⟨(some 83), .pick (.t 80) (.t 82) (.c (.d (.v (.bool false)))), some (77, false)⟩,
    ⟨(some 84), .pick (.t 77) (.c (.d (.v (.bool true)))) (.t 83), some (74, true)⟩,
    ⟨(some 85), .pick (.t 74) (.t 84) (.c (.d (.v (.bool false)))), none⟩,
    ⟨(some 86), .mov (.t 85), none⟩,
    ⟨(some 87), .mov (.t 7), some (86, false)⟩,
    ⟨(some 88), .bin .eql (.t 87) (.c (.d (.v (.int .i64 3)))), some (86, false)⟩,
    ⟨(some 89), .mov (.t 88), some (86, false)⟩,
    ⟨(some 90), .mov (.t 8), some (89, true)⟩,
    ⟨(some 91), .bin .lss (.t 90) (.c (.d (.v (.int .i32 65536)))), some (89, true)⟩,
    ⟨(some 92), .mov (.t 91), some (89, true)⟩,
    ⟨(some 93), .mov (.t 8), some (92, false)⟩,
    ⟨(some 94), .bin .gtr (.t 93) (.c (.d (.v (.int .i32 1114111)))), some (92, false)⟩,
    ⟨(some 95), .pick (.t 92) (.c (.d (.v (.bool true)))) (.t 94), some (89, true)⟩,
    ⟨(some 96), .pick (.t 89) (.t 95) (.c (.d (.v (.bool false)))), some (86, false)⟩,
    ⟨(some 97), .pick (.t 86) (.c (.d (.v (.bool true)))) (.t 96), none⟩] [1, 4, 6, 7, 8, 97]) <|
  (.cond (.t 97)
    (.cut (.reg [
      ⟨(some 98), .load true 4 (.t 6), none⟩,
      ⟨none, .store 4 (.t 4) (.t 98), none⟩] [4]) <|
    .ret)
    .skip)) <|
  (.cut (.reg [
    ⟨(some 99), .mov (.t 8), none⟩,
    ⟨(some 100), .mov (.t 1), none⟩,
    ⟨(some 101), .mov (.t 7), none⟩,
    ⟨(some 102), .bin .add (.t 101) (.c (.d (.v (.int .i64 1)))), none⟩,
    ⟨(some 103), .build [(.d (.v (.int .i32 0))), (.d (.v (.int .i64 0))), (.d (.v (.int .i64 0))), (.d (.v (.bool false)))] [(0, 1, (.t 99)), (1, 1, (.t 100)), (2, 1, (.t 102)), (3, 1, (.c (.d (.v (.bool true)))))], none⟩,
    ⟨none, .store 4 (.t 4) (.t 103), none⟩] [4]) <|
  .ret)))))))))
def clerestoryref01_one.rf : RF := ⟨104, [.load true 4 (.t 4)], clerestoryref01_one.code⟩
theorem clerestoryref01_one.res : resF prog F.clerestoryref01_one clerestoryref01_one.sc = some clerestoryref01_one.rf := by kernel_rfl

def clerestoryref01_All.sc : SC := .cut (.reg [0]) (.cut (.reg [0, 3]) (.cut (.cut (.reg [0, 3, 4]) (.one (.one (.cut (.cut (.reg [0, 3, 4, 9]) (.two (.leaf) (.leaf))) (.one (.cut (.reg [0, 3, 4, 5]) (.cut (.reg [0, 3, 4, 5]) (.reg [0, 3, 4])))))))) (.cut (.reg [2]) (.leaf))))
def clerestoryref01_All.l0 : RC :=
  (.cut (.cut (.reg [
    ⟨(some 6), .mov (.t 4), none⟩,
    ⟨(some 7), .mov (.t 0), none⟩,
    ⟨(some 8), .lenS (.t 7), none⟩,
    ⟨(some 9), .bin .lss (.t 6) (.t 8), none⟩] [0, 3, 4, 9]) <|
  (.cond (.t 9)
    .skip
    (.exit 0))) <|
  (.block 1 <|
    (.cut (.reg [
      ⟨(some 10), .mov (.t 0), none⟩,
      ⟨(some 11), .mov (.t 4), none⟩,
      ⟨(some 12), .call F.clerestoryref01_one [(.t 10), (.t 11)], none⟩,
      ⟨(some 5), .alloc T.clerestoryref01_R [(.d (.v (.int .i32 0))), (.d (.v (.int .i64 0))), (.d (.v (.int .i64 0))), (.d (.v (.bool false)))], none⟩,
      ⟨none, .store 4 (.t 5) (.t 12), none⟩] [0, 3, 4, 5]) <|
    (.cut (.reg [
      ⟨(some 13), .mov (.t 3), none⟩,
      ⟨(some 14), .load true 4 (.t 5), none⟩,
      ⟨(some 15), .bslice T.clerestoryref01_R 4 1 [(.d (.v (.int .i32 0))), (.d (.v (.int .i64 0))), (.d (.v (.int .i64 0))), (.d (.v (.bool false)))] [(0, (.t 14))], none⟩,
      ⟨(some 16), .app T.clerestoryref01_R 4 32 (.t 13) (.t 15), none⟩,
      ⟨(some 3), .mov (.t 16), none⟩] [0, 3, 4, 5]) <|
    (.reg [
      ⟨(some 17), .mov (.t 4), none⟩,
      ⟨(some 18), .faddr 2 (.t 5), none⟩,
      ⟨(some 19), .load false 1 (.t 18), none⟩,
      ⟨(some 20), .bin .add (.t 17) (.t 19), none⟩,
      ⟨(some 4), .mov (.t 20), none⟩] [0, 3, 4])))))

def clerestoryref01_All.code : RC :=
  (.cut (.reg [⟨(some 2), .mov (.c (.d (.v (.slice none 0 0)))), none⟩] [0]) <|
  (.cut (.reg [⟨(some 3), .mov (.c (.d (.v (.slice none 0 0)))), none⟩] [0, 3]) <|
  (.cut (.cut (.reg [⟨(some 4), .mov (.c (.d (.v (.int .i64 0)))), none⟩] [0, 3, 4]) <|
  (.block 0 <|
    (.loop clerestoryref01_All.l0))) <|
  (.cut (.reg [
    ⟨(some 21), .mov (.t 3), none⟩,
    ⟨(some 2), .mov (.t 21), none⟩] [2]) <|
  .ret))))
def clerestoryref01_All.rf : RF := ⟨22, [.mov (.t 2)], clerestoryref01_All.code⟩
theorem clerestoryref01_All.res : resF prog F.clerestoryref01_All clerestoryref01_All.sc = some clerestoryref01_All.rf := by kernel_rfl

def clerestoryref01_Letter.sc : SC := .cut (.reg [1]) (.cut (.reg [2]) (.leaf))

def clerestoryref01_Letter.code : RC :=
  (.cut (.reg [
    ⟨(some 1), .box T.clerestoryref01_R (.t 0), none⟩,
    ⟨(some 2), .mov (.c (.d (.v (.bool false)))), none⟩] [1]) <|
  (.cut (.reg [
    ⟨(some 3), .faddr 3 (.t 1), none⟩,
    ⟨(some 4), .load false 1 (.t 3), none⟩,
    ⟨(some 5), .mov (.t 4), none⟩,
    ⟨(some 6), .faddr 0 (.t 1), some (5, true)⟩,
    ⟨(some 7), .load false 1 (.t 6), some (5, true)⟩,
    ⟨(some 8), .bin .geq (.t 7) (.c (.d (.v (.int .i32 97)))), some (5, true)⟩,
    ⟨(some 9), .mov (.t 8), some (5, true)⟩,
    ⟨(some 10), .faddr 0 (.t 1), some (9, true)⟩,
    ⟨(some 11), .load false 1 (.t 10), some (9, true)⟩,
    ⟨(some 12), .bin .leq (.t 11) (.c (.d (.v (.int .i32 122)))), some (9, true)⟩,
    ⟨(some 13), .pick (.t 9) (.t 12) (.c (.d (.v (.bool false)))), some (5, true)⟩,
    ⟨(some 14), .mov (.t 13), some (5, true)⟩,
    ⟨(some 15), .faddr 0 (.t 1), some (14, false)⟩,
    ⟨(some 16), .load false 1 (.t 15), some (14, false)⟩,
    ⟨(some 17), .bin .eql (.t 16) (.c (.d (.v (.int .i32 95)))), some (14, false)⟩,
    ⟨(some 18), .pick (.t 14) (.c (.d (.v (.bool true)))) (.t 17), some (5, true)⟩,
    ⟨(some 19), .mov (.t 18), some (5, true)⟩,
    ⟨(some 20), .faddr 0 (.t 1), some (19, false)⟩,
    ⟨(some 21), .load false 1 (.t 20), some (19, false)⟩,
    ⟨(some 22), .bin .geq (.t 21) (.c (.d (.v (.int .i32 128)))), some (19, false)⟩,
    ⟨(some 23), .pick (.t 19) (.c (.d (.v (.bool true)))) (.t 22), some (5, true)⟩,
    ⟨(some 24), .pick (.t 5) (.t 23) (.c (.d (.v (.bool false)))), none⟩,
    ⟨(some 2), .mov (.t 24), none⟩] [2]) <|
  .ret))
def clerestoryref01_Letter.rf : RF := ⟨25, [.mov (.t 2)], clerestoryref01_Letter.code⟩
theorem clerestoryref01_Letter.res : resF prog F.clerestoryref01_Letter clerestoryref01_Letter.sc = some clerestoryref01_Letter.rf := by kernel_rfl

def clerestoryref01_Name.sc : SC := .cut (.reg [0]) (.cut (.reg [0, 3]) (.cut (.cut (.reg [0, 3, 4]) (.one (.one (.cut (.cut (.reg [0, 3, 4, 10]) (.two (.leaf) (.leaf))) (.cut (.one (.cut (.reg [0, 3, 4, 38]) (.two (.cut (.reg [2]) (.leaf)) (.leaf)))) (.reg [0, 3, 4])))))) (.cut (.reg [2]) (.leaf))))
def clerestoryref01_Name.l0 : RC :=
  (.cut (.cut (.reg [
    ⟨(some 7), .mov (.t 4), none⟩,
    ⟨(some 8), .mov (.t 3), none⟩,
    ⟨(some 9), .lenR (.t 8), none⟩,
    ⟨(some 10), .bin .lss (.t 7) (.t 9), none⟩] [0, 3, 4, 10]) <|
  (.cond (.t 10)
    .skip
    (.exit 0))) <|
  (.cut (.block 1 <|
    (.cut (.reg [
      ⟨(some 13), .mov (.t 3), none⟩,
      ⟨(some 14), .mov (.t 4), none⟩,
      ⟨(some 15), .iaR 4 (.t 13) (.t 14), none⟩,
      ⟨(some 16), .load true 4 (.t 15), none⟩,
      ⟨(some 17), .call F.clerestoryref01_Letter [(.t 16)], none⟩,
      ⟨(some 18), .un .not (.t 17), none⟩,
      ⟨(some 19), .mov (.t 18), none⟩,
      ⟨(some 20), .mov (.t 4), some (19, true)⟩,
      ⟨(some 21), .bin .eql (.t 20) (.c (.d (.v (.int .i64 0)))), some (19, true)⟩,
      ⟨(some 22), .mov (.t 21), some (19, true)⟩,
      ⟨(some 23), .mov (.t 3), some (22, false)⟩,
      ⟨(some 24), .mov (.t 4), some (22, false)⟩,
      ⟨(some 25), .iaR 4 (.t 23) (.t 24), some (22, false)⟩,
      ⟨(some 26), .faddr 0 (.t 25), some (22, false)⟩,
      ⟨(some 27), .load false 1 (.t 26), some (22, false)⟩,
      ⟨(some 28), .bin .lss (.t 27) (.c (.d (.v (.int .i32 48)))), some (22, false)⟩,
      ⟨(some 29), .pick (.t 22) (.c (.d (.v (.bool true)))) (.t 28), some (19, true)⟩,
      ⟨(some 30), .mov (.t 29), some (19, true)⟩,
      ⟨(some 31), .mov (.t 3), some (30, false)⟩,
      ⟨(some 32), .mov (.t 4), some (30, false)⟩,
      ⟨(some 33), .iaR 4 (.t 31) (.t 32), some (30, false)⟩,
      ⟨(some 34), .faddr 0 (.t 33), some (30, false)⟩,
      ⟨(some 35), .load false 1 (.t 34), some (30, false)⟩,
      ⟨(some 36), .bin .gtr (.t 35) (.c (.d (.v (.int .i32 57)))), some (30, false)⟩,
      ⟨(some 37), .pick (.t 30) (.c (.d (.v (.bool true)))) (.t 36), some (19, true)⟩,
      ⟨(some 38), .pick (.t 19) (.t 37) (.c (.d (.v (.bool false)))), none⟩] [0, 3, 4, 38]) <|
    (.cond (.t 38)
      (.cut (.reg [⟨(some 2), .mov (.c (.d (.v (.bool false)))), none⟩] [2]) <|
      .ret)
      .skip))) <|
  (.reg [
    ⟨(some 11), .mov (.t 4), none⟩,
    ⟨(some 12), .bin .add (.t 11) (.c (.d (.v (.int .i64 1)))), none⟩,
    ⟨(some 4), .mov (.t 12), none⟩] [0, 3, 4])))

def clerestoryref01_Name.code : RC :=
  (.cut (.reg [⟨(some 2), .mov (.c (.d (.v (.bool false)))), none⟩] [0]) <|
  (.cut (.reg [
    ⟨(some 5), .mov (.t 0), none⟩,
    ⟨(some 6), .call F.clerestoryref01_All [(.t 5)], none⟩,
    ⟨(some 3), .mov (.t 6), none⟩] [0, 3]) <|
  (.cut (.cut (.reg [⟨(some 4), .mov (.c (.d (.v (.int .i64 0)))), none⟩] [0, 3, 4]) <|
  (.block 0 <|
    (.loop clerestoryref01_Name.l0))) <|
  (.cut (.reg [
    ⟨(some 39), .mov (.t 0), none⟩,
    ⟨(some 40), .lenS (.t 39), none⟩,
    ⟨(some 41), .bin .geq (.t 40) (.c (.d (.v (.int .i64 1)))), none⟩,
    ⟨(some 42), .mov (.t 41), none⟩,
    ⟨(some 43), .mov (.t 0), some (42, true)⟩,
    ⟨(some 44), .lenS (.t 43), some (42, true)⟩,
    ⟨(some 45), .bin .leq (.t 44) (.c (.d (.v (.int .i64 100)))), some (42, true)⟩,
    ⟨(some 46), .pick (.t 42) (.t 45) (.c (.d (.v (.bool false)))), none⟩,
    ⟨(some 2), .mov (.t 46), none⟩] [2]) <|
  .ret))))
def clerestoryref01_Name.rf : RF := ⟨47, [.mov (.t 2)], clerestoryref01_Name.code⟩
theorem clerestoryref01_Name.res : resF prog F.clerestoryref01_Name clerestoryref01_Name.sc = some clerestoryref01_Name.rf := by kernel_rfl

def clerestoryref07_Check.sc : SC := .cut (.reg [1]) (.cut (.cut (.reg [1, 43]) (.two (.cut (.reg [2]) (.leaf)) (.leaf))) (.cut (.cut (.reg [1, 3]) (.one (.one (.cut (.cut (.reg [1, 3, 48]) (.two (.leaf) (.leaf))) (.cut (.one (.cut (.reg [1, 3, 4]) (.cut (.drw (.q 0 <| .q 1 <| .a 2 [] (.q 3 <| .q 4 <| .q 5 <| .q 6 <| .q 7 <| .q 8 <| .q 9 <| .q 10 <| .q 11 <| .q 12 <| .q 13 <| .q 14 <| .q 15 <| .q 16 <| .q 17 <| .q 18 <| .q 19 <| .q 20 <| .q 21 <| .q 22 <| .a 23 [] (.q 24 <| .q 25 <| .q 26 <| .q 27 <| .q 28 <| .q 29 <| .q 30 <| .q 31 <| .fin) .no) .no) [1, 3, 87]) (.two (.cut (.reg [2]) (.leaf)) (.leaf))))) (.reg [1, 3])))))) (.cut (.reg [2]) (.leaf))))
def clerestoryref07_Check.l0 : RC :=
  (.cut (.cut (.reg [
    ⟨(some 44), .mov (.t 3), none⟩,
    ⟨(some 45), .faddr 7 (.t 1), none⟩,
    ⟨(some 46), .load false 1 (.t 45), none⟩,
    ⟨(some 47), .lenR (.t 46), none⟩,
    ⟨(some 48), .bin .lss (.t 44) (.t 47), none⟩] [1, 3, 48]) <|
  (.cond (.t 48)
    .skip
    (.exit 0))) <|
  (.cut (.block 1 <|
    (.cut (.reg [
      ⟨(some 51), .faddr 7 (.t 1), none⟩,
      ⟨(some 52), .load false 1 (.t 51), none⟩,
      ⟨(some 53), .mov (.t 3), none⟩,
      ⟨(some 54), .iaR 5 (.t 52) (.t 53), none⟩,
      ⟨(some 55), .load true 5 (.t 54), none⟩,
      ⟨(some 4), .alloc T.api_Col [(.d (.v (.string ⟨#[]⟩))), (.d (.v (.string ⟨#[]⟩))), (.d (.v (.bool false))), (.d (.v (.int .i64 0))), (.d (.v (.int .i64 0)))], none⟩,
      ⟨none, .store 5 (.t 4) (.t 55), none⟩] [1, 3, 4]) <|
    (.cut (.drw (
      .q ⟨(some 56), .faddr 0 (.t 4), none⟩ <|
      .q ⟨(some 57), .load false 1 (.t 56), none⟩ <|
      .a ⟨(some 58), .call F.clerestoryref01_Name [(.t 57)], none⟩ [] (
      .q ⟨(some 59), .un .not (.t 58), none⟩ <|
        .q ⟨(some 60), .mov (.t 59), none⟩ <|
        .q ⟨(some 61), .mov (.t 3), some (60, false)⟩ <|
        .q ⟨(some 62), .bin .gtr (.t 61) (.c (.d (.v (.int .i64 0)))), some (60, false)⟩ <|
        .q ⟨(some 63), .mov (.t 62), some (60, false)⟩ <|
        .q ⟨(some 64), .faddr 0 (.t 4), some (63, true)⟩ <|
        .q ⟨(some 65), .load false 1 (.t 64), some (63, true)⟩ <|
        .q ⟨(some 66), .faddr 7 (.t 1), some (63, true)⟩ <|
        .q ⟨(some 67), .load false 1 (.t 66), some (63, true)⟩ <|
        .q ⟨(some 68), .mov (.t 3), some (63, true)⟩ <|
        .q ⟨(some 69), .bin .sub (.t 68) (.c (.d (.v (.int .i64 1)))), some (63, true)⟩ <|
        .q ⟨(some 70), .iaR 5 (.t 67) (.t 69), some (63, true)⟩ <|
        .q ⟨(some 71), .faddr 0 (.t 70), some (63, true)⟩ <|
        .q ⟨(some 72), .load false 1 (.t 71), some (63, true)⟩ <|
        .q ⟨(some 73), .bin .leq (.t 65) (.t 72), some (63, true)⟩ <|
        .q ⟨(some 74), .pick (.t 63) (.t 73) (.c (.d (.v (.bool false)))), some (60, false)⟩ <|
        .q ⟨(some 75), .pick (.t 60) (.c (.d (.v (.bool true)))) (.t 74), none⟩ <|
        .q ⟨(some 76), .mov (.t 75), none⟩ <|
        .q ⟨(some 77), .faddr 1 (.t 4), some (76, false)⟩ <|
        .q ⟨(some 78), .load true 4 (.t 77), some (76, false)⟩ <|
        .a ⟨(some 79), .call F.clerestoryref06_Check [(.t 78)], some (76, false)⟩ [] (
        .q ⟨(some 80), .un .not (.t 79), some (76, false)⟩ <|
          .q ⟨(some 81), .pick (.t 76) (.c (.d (.v (.bool true)))) (.t 80), none⟩ <|
          .q ⟨(some 82), .mov (.t 81), none⟩ <|
          .q ⟨(some 83), .faddr 1 (.t 4), some (82, false)⟩ <|
          .q ⟨(some 84), .faddr 2 (.t 83), some (82, false)⟩ <|
          .q ⟨(some 85), .load false 1 (.t 84), some (82, false)⟩ <|
          .q ⟨(some 86), .bin .lss (.t 85) (.c (.d (.v (.int .i64 1)))), some (82, false)⟩ <|
          .q ⟨(some 87), .pick (.t 82) (.c (.d (.v (.bool true)))) (.t 86), none⟩ <|
          .fin) .no) .no) [1, 3, 87]) <|
    (.cond (.t 87)
      (.cut (.reg [⟨(some 2), .mov (.c (.d (.v (.bool false)))), none⟩] [2]) <|
      .ret)
      .skip)))) <|
  (.reg [
    ⟨(some 49), .mov (.t 3), none⟩,
    ⟨(some 50), .bin .add (.t 49) (.c (.d (.v (.int .i64 1)))), none⟩,
    ⟨(some 3), .mov (.t 50), none⟩] [1, 3])))

def clerestoryref07_Check.code : RC :=
  (.cut (.reg [
    ⟨(some 1), .box T.api_Row (.t 0), none⟩,
    ⟨(some 2), .mov (.c (.d (.v (.bool false)))), none⟩] [1]) <|
  (.cut (.cut (.reg [
    ⟨(some 5), .faddr 0 (.t 1), none⟩,
    ⟨(some 6), .load false 1 (.t 5), none⟩,
    ⟨(some 7), .lenS (.t 6), none⟩,
    ⟨(some 8), .bin .gtr (.t 7) (.c (.d (.v (.int .i64 400)))), none⟩,
    ⟨(some 9), .mov (.t 8), none⟩,
    ⟨(some 10), .faddr 1 (.t 1), some (9, false)⟩,
    ⟨(some 11), .load true 4 (.t 10), some (9, false)⟩,
    ⟨(some 12), .call F.clerestoryref06_Check [(.t 11)], some (9, false)⟩,
    ⟨(some 13), .un .not (.t 12), some (9, false)⟩,
    ⟨(some 14), .pick (.t 9) (.c (.d (.v (.bool true)))) (.t 13), none⟩,
    ⟨(some 15), .mov (.t 14), none⟩,
    ⟨(some 16), .faddr 1 (.t 1), some (15, false)⟩,
    ⟨(some 17), .faddr 0 (.t 16), some (15, false)⟩,
    ⟨(some 18), .load false 1 (.t 17), some (15, false)⟩,
    ⟨(some 19), .bin .neq (.t 18) (.c (.d (.v (.string ⟨#[]⟩)))), some (15, false)⟩,
    ⟨(some 20), .pick (.t 15) (.c (.d (.v (.bool true)))) (.t 19), none⟩,
    ⟨(some 21), .mov (.t 20), none⟩,
    ⟨(some 22), .faddr 1 (.t 1), some (21, false)⟩,
    ⟨(some 23), .faddr 1 (.t 22), some (21, false)⟩,
    ⟨(some 24), .load false 1 (.t 23), some (21, false)⟩,
    ⟨(some 25), .pick (.t 21) (.c (.d (.v (.bool true)))) (.t 24), none⟩,
    ⟨(some 26), .mov (.t 25), none⟩,
    ⟨(some 27), .faddr 5 (.t 1), some (26, false)⟩,
    ⟨(some 28), .load false 1 (.t 27), some (26, false)⟩,
    ⟨(some 29), .call F.clerestoryref07_stamp [(.t 28)], some (26, false)⟩,
    ⟨(some 30), .un .not (.t 29), some (26, false)⟩,
    ⟨(some 31), .pick (.t 26) (.c (.d (.v (.bool true)))) (.t 30), none⟩,
    ⟨(some 32), .mov (.t 31), none⟩,
    ⟨(some 33), .faddr 6 (.t 1), some (32, false)⟩,
    ⟨(some 34), .load false 1 (.t 33), some (32, false)⟩,
    ⟨(some 35), .call F.clerestoryref07_stamp [(.t 34)], some (32, false)⟩,
    ⟨(some 36), .un .not (.t 35), some (32, false)⟩,
    ⟨(some 37), .pick (.t 32) (.c (.d (.v (.bool true)))) (.t 36), none⟩,
    ⟨(some 38), .mov (.t 37), none⟩,
    ⟨(some 39), .faddr 7 (.t 1), some (38, false)⟩,
    ⟨(some 40), .load false 1 (.t 39), some (38, false)⟩,
    ⟨(some 41), .lenR (.t 40), some (38, false)⟩,
    ⟨(some 42), .bin .gtr (.t 41) (.c (.d (.v (.int .i64 8)))), some (38, false)⟩,
    ⟨(some 43), .pick (.t 38) (.c (.d (.v (.bool true)))) (.t 42), none⟩] [1, 43]) <|
  (.cond (.t 43)
    (.cut (.reg [⟨(some 2), .mov (.c (.d (.v (.bool false)))), none⟩] [2]) <|
    .ret)
    .skip)) <|
  (.cut (.cut (.reg [⟨(some 3), .mov (.c (.d (.v (.int .i64 0)))), none⟩] [1, 3]) <|
  (.block 0 <|
    (.loop clerestoryref07_Check.l0))) <|
  (.cut (.reg [⟨(some 2), .mov (.c (.d (.v (.bool true)))), none⟩] [2]) <|
  .ret))))
def clerestoryref07_Check.rf : RF := ⟨88, [.mov (.t 2)], clerestoryref07_Check.code⟩
theorem clerestoryref07_Check.res : resF prog F.clerestoryref07_Check clerestoryref07_Check.sc = some clerestoryref07_Check.rf := by kernel_rfl

def clerestoryref08_Check.sc : SC := .cut (.reg [1]) (.cut (.cut (.reg [1, 23]) (.two (.cut (.reg [2]) (.leaf)) (.leaf))) (.cut (.cut (.reg [1, 3]) (.one (.one (.cut (.cut (.reg [1, 3, 28]) (.two (.leaf) (.leaf))) (.cut (.one (.cut (.drw (.q 0 <| .q 1 <| .q 2 <| .q 3 <| .q 4 <| .a 5 [] (.q 6 <| .q 7 <| .q 8 <| .q 9 <| .q 10 <| .q 11 <| .q 12 <| .q 13 <| .q 14 <| .q 15 <| .q 16 <| .q 17 <| .q 18 <| .q 19 <| .q 20 <| .q 21 <| .q 22 <| .q 23 <| .q 24 <| .q 25 <| .q 26 <| .fin) .no) [1, 3, 57]) (.two (.cut (.reg [2]) (.leaf)) (.leaf)))) (.reg [1, 3])))))) (.cut (.reg [2]) (.leaf))))
def clerestoryref08_Check.l0 : RC :=
  (.cut (.cut (.reg [
    ⟨(some 24), .mov (.t 3), none⟩,
    ⟨(some 25), .faddr 2 (.t 1), none⟩,
    ⟨(some 26), .load false 1 (.t 25), none⟩,
    ⟨(some 27), .lenR (.t 26), none⟩,
    ⟨(some 28), .bin .lss (.t 24) (.t 27), none⟩] [1, 3, 28]) <|
  (.cond (.t 28)
    .skip
    (.exit 0))) <|
  (.cut (.block 1 <|
    (.cut (.drw (
      .q ⟨(some 31), .faddr 2 (.t 1), none⟩ <|
      .q ⟨(some 32), .load false 1 (.t 31), none⟩ <|
      .q ⟨(some 33), .mov (.t 3), none⟩ <|
      .q ⟨(some 34), .iaR 8 (.t 32) (.t 33), none⟩ <|
      .q ⟨(some 35), .load true 8 (.t 34), none⟩ <|
      .a ⟨(some 36), .call F.clerestoryref07_Check [(.t 35)], none⟩ [] (
      .q ⟨(some 37), .un .not (.t 36), none⟩ <|
        .q ⟨(some 38), .mov (.t 37), none⟩ <|
        .q ⟨(some 39), .mov (.t 3), some (38, false)⟩ <|
        .q ⟨(some 40), .bin .gtr (.t 39) (.c (.d (.v (.int .i64 0)))), some (38, false)⟩ <|
        .q ⟨(some 41), .mov (.t 40), some (38, false)⟩ <|
        .q ⟨(some 42), .faddr 2 (.t 1), some (41, true)⟩ <|
        .q ⟨(some 43), .load false 1 (.t 42), some (41, true)⟩ <|
        .q ⟨(some 44), .mov (.t 3), some (41, true)⟩ <|
        .q ⟨(some 45), .iaR 8 (.t 43) (.t 44), some (41, true)⟩ <|
        .q ⟨(some 46), .faddr 0 (.t 45), some (41, true)⟩ <|
        .q ⟨(some 47), .load false 1 (.t 46), some (41, true)⟩ <|
        .q ⟨(some 48), .faddr 2 (.t 1), some (41, true)⟩ <|
        .q ⟨(some 49), .load false 1 (.t 48), some (41, true)⟩ <|
        .q ⟨(some 50), .mov (.t 3), some (41, true)⟩ <|
        .q ⟨(some 51), .bin .sub (.t 50) (.c (.d (.v (.int .i64 1)))), some (41, true)⟩ <|
        .q ⟨(some 52), .iaR 8 (.t 49) (.t 51), some (41, true)⟩ <|
        .q ⟨(some 53), .faddr 0 (.t 52), some (41, true)⟩ <|
        .q ⟨(some 54), .load false 1 (.t 53), some (41, true)⟩ <|
        .q ⟨(some 55), .bin .leq (.t 47) (.t 54), some (41, true)⟩ <|
        .q ⟨(some 56), .pick (.t 41) (.t 55) (.c (.d (.v (.bool false)))), some (38, false)⟩ <|
        .q ⟨(some 57), .pick (.t 38) (.c (.d (.v (.bool true)))) (.t 56), none⟩ <|
        .fin) .no) [1, 3, 57]) <|
    (.cond (.t 57)
      (.cut (.reg [⟨(some 2), .mov (.c (.d (.v (.bool false)))), none⟩] [2]) <|
      .ret)
      .skip))) <|
  (.reg [
    ⟨(some 29), .mov (.t 3), none⟩,
    ⟨(some 30), .bin .add (.t 29) (.c (.d (.v (.int .i64 1)))), none⟩,
    ⟨(some 3), .mov (.t 30), none⟩] [1, 3])))

def clerestoryref08_Check.code : RC :=
  (.cut (.reg [
    ⟨(some 1), .box T.api_Part (.t 0), none⟩,
    ⟨(some 2), .mov (.c (.d (.v (.bool false)))), none⟩] [1]) <|
  (.cut (.cut (.reg [
    ⟨(some 4), .faddr 0 (.t 1), none⟩,
    ⟨(some 5), .load false 1 (.t 4), none⟩,
    ⟨(some 6), .lenS (.t 5), none⟩,
    ⟨(some 7), .bin .gtr (.t 6) (.c (.d (.v (.int .i64 100)))), none⟩,
    ⟨(some 8), .mov (.t 7), none⟩,
    ⟨(some 9), .faddr 1 (.t 1), some (8, false)⟩,
    ⟨(some 10), .load false 1 (.t 9), some (8, false)⟩,
    ⟨(some 11), .bin .lss (.t 10) (.c (.d (.v (.int .i64 0)))), some (8, false)⟩,
    ⟨(some 12), .pick (.t 8) (.c (.d (.v (.bool true)))) (.t 11), none⟩,
    ⟨(some 13), .mov (.t 12), none⟩,
    ⟨(some 14), .faddr 1 (.t 1), some (13, false)⟩,
    ⟨(some 15), .load false 1 (.t 14), some (13, false)⟩,
    ⟨(some 16), .bin .gtr (.t 15) (.c (.d (.v (.int .i64 1099511627776)))), some (13, false)⟩,
    ⟨(some 17), .pick (.t 13) (.c (.d (.v (.bool true)))) (.t 16), none⟩,
    ⟨(some 18), .mov (.t 17), none⟩,
    ⟨(some 19), .faddr 2 (.t 1), some (18, false)⟩,
    ⟨(some 20), .load false 1 (.t 19), some (18, false)⟩,
    ⟨(some 21), .lenR (.t 20), some (18, false)⟩,
    ⟨(some 22), .bin .gtr (.t 21) (.c (.d (.v (.int .i64 100)))), some (18, false)⟩,
    ⟨(some 23), .pick (.t 18) (.c (.d (.v (.bool true)))) (.t 22), none⟩] [1, 23]) <|
  (.cond (.t 23)
    (.cut (.reg [⟨(some 2), .mov (.c (.d (.v (.bool false)))), none⟩] [2]) <|
    .ret)
    .skip)) <|
  (.cut (.cut (.reg [⟨(some 3), .mov (.c (.d (.v (.int .i64 0)))), none⟩] [1, 3]) <|
  (.block 0 <|
    (.loop clerestoryref08_Check.l0))) <|
  (.cut (.reg [⟨(some 2), .mov (.c (.d (.v (.bool true)))), none⟩] [2]) <|
  .ret))))
def clerestoryref08_Check.rf : RF := ⟨58, [.mov (.t 2)], clerestoryref08_Check.code⟩
theorem clerestoryref08_Check.res : resF prog F.clerestoryref08_Check clerestoryref08_Check.sc = some clerestoryref08_Check.rf := by kernel_rfl

def clerestoryref07_Gone.sc : SC := .cut (.reg [1, 2]) (.cut (.reg [4]) (.leaf))

def clerestoryref07_Gone.code : RC :=
  (.cut (.reg [
    ⟨(some 2), .box T.api_Row (.t 0), none⟩,
    ⟨(some 4), .mov (.c (.d (.v (.int .i64 0)))), none⟩] [1, 2]) <|
  (.cut (.reg [
    ⟨(some 5), .faddr 5 (.t 2), none⟩,
    ⟨(some 6), .load false 1 (.t 5), none⟩,
    ⟨(some 7), .mov (.t 1), none⟩,
    ⟨(some 8), .mx [(.t 6), (.t 7)], none⟩,
    ⟨(some 4), .mov (.t 8), none⟩] [4]) <|
  .ret))
def clerestoryref07_Gone.rf : RF := ⟨9, [.mov (.t 4)], clerestoryref07_Gone.code⟩
theorem clerestoryref07_Gone.res : resF prog F.clerestoryref07_Gone clerestoryref07_Gone.sc = some clerestoryref07_Gone.rf := by kernel_rfl

def clerestoryref07_Cell.sc : SC := .cut (.reg [1, 2, 4]) (.cut (.cut (.reg [1, 2, 4, 5]) (.one (.one (.cut (.cut (.reg [1, 2, 4, 5, 10]) (.two (.leaf) (.leaf))) (.cut (.one (.cut (.reg [1, 2, 4, 5, 20]) (.two (.cut (.reg [4]) (.leaf)) (.leaf)))) (.reg [1, 2, 4, 5])))))) (.cut (.reg [4]) (.leaf)))
def clerestoryref07_Cell.l0 : RC :=
  (.cut (.cut (.reg [
    ⟨(some 6), .mov (.t 5), none⟩,
    ⟨(some 7), .faddr 7 (.t 2), none⟩,
    ⟨(some 8), .load false 1 (.t 7), none⟩,
    ⟨(some 9), .lenR (.t 8), none⟩,
    ⟨(some 10), .bin .lss (.t 6) (.t 9), none⟩] [1, 2, 4, 5, 10]) <|
  (.cond (.t 10)
    .skip
    (.exit 0))) <|
  (.cut (.block 1 <|
    (.cut (.reg [
      ⟨(some 13), .faddr 7 (.t 2), none⟩,
      ⟨(some 14), .load false 1 (.t 13), none⟩,
      ⟨(some 15), .mov (.t 5), none⟩,
      ⟨(some 16), .iaR 5 (.t 14) (.t 15), none⟩,
      ⟨(some 17), .faddr 0 (.t 16), none⟩,
      ⟨(some 18), .load false 1 (.t 17), none⟩,
      ⟨(some 19), .mov (.t 1), none⟩,
      ⟨(some 20), .bin .eql (.t 18) (.t 19), none⟩] [1, 2, 4, 5, 20]) <|
    (.cond (.t 20)
      (.cut (.reg [
        ⟨(some 21), .faddr 7 (.t 2), none⟩,
        ⟨(some 22), .load false 1 (.t 21), none⟩,
        ⟨(some 23), .mov (.t 5), none⟩,
        ⟨(some 24), .iaR 5 (.t 22) (.t 23), none⟩,
        ⟨(some 25), .faddr 1 (.t 24), none⟩,
        ⟨(some 26), .load true 4 (.t 25), none⟩,
        ⟨none, .store 4 (.t 4) (.t 26), none⟩] [4]) <|
      .ret)
      .skip))) <|
  (.reg [
    ⟨(some 11), .mov (.t 5), none⟩,
    ⟨(some 12), .bin .add (.t 11) (.c (.d (.v (.int .i64 1)))), none⟩,
    ⟨(some 5), .mov (.t 12), none⟩] [1, 2, 4, 5])))

def clerestoryref07_Cell.code : RC :=
  (.cut (.reg [
    ⟨(some 2), .box T.api_Row (.t 0), none⟩,
    ⟨(some 4), .alloc T.api_Cell [(.d (.v (.string ⟨#[]⟩))), (.d (.v (.bool false))), (.d (.v (.int .i64 0))), (.d (.v (.int .i64 0)))], none⟩] [1, 2, 4]) <|
  (.cut (.cut (.reg [⟨(some 5), .mov (.c (.d (.v (.int .i64 0)))), none⟩] [1, 2, 4, 5]) <|
  (.block 0 <|
    (.loop clerestoryref07_Cell.l0))) <|
  (.cut (.reg [
    ⟨(some 27), .build [(.d (.v (.string ⟨#[]⟩))), (.d (.v (.bool false))), (.d (.v (.int .i64 0))), (.d (.v (.int .i64 0)))] [], none⟩,
    ⟨none, .store 4 (.t 4) (.t 27), none⟩] [4]) <|
  .ret)))
def clerestoryref07_Cell.rf : RF := ⟨28, [.load true 4 (.t 4)], clerestoryref07_Cell.code⟩
theorem clerestoryref07_Cell.res : resF prog F.clerestoryref07_Cell clerestoryref07_Cell.sc = some clerestoryref07_Cell.rf := by kernel_rfl

def clerestoryref07_Best.sc : SC := .cut (.reg [1, 2, 3, 6]) (.cut (.reg [1, 3, 6, 8]) (.cut (.cut (.drw (.q 0 <| .q 1 <| .q 2 <| .q 3 <| .q 4 <| .q 5 <| .q 6 <| .a 7 [4, 3] (.q 8 <| .q 9 <| .q 10 <| .q 11 <| .q 12 <| .q 13 <| .q 14 <| .fin) .no) [6, 8, 26]) (.two (.cut (.reg [6, 7]) (.leaf)) (.leaf))) (.cut (.reg [6, 7]) (.leaf))))

def clerestoryref07_Best.code : RC :=
  (.cut (.reg [
    ⟨(some 3), .box T.api_Row (.t 0), none⟩,
    ⟨(some 6), .alloc T.api_Cell [(.d (.v (.string ⟨#[]⟩))), (.d (.v (.bool false))), (.d (.v (.int .i64 0))), (.d (.v (.int .i64 0)))], none⟩,
    ⟨(some 7), .mov (.c (.d (.v (.bool false)))), none⟩] [1, 2, 3, 6]) <|
  (.cut (.reg [
    ⟨(some 9), .load true 8 (.t 3), none⟩,
    ⟨(some 10), .mov (.t 2), none⟩,
    ⟨(some 11), .call F.clerestoryref07_Cell [(.t 9), (.t 10)], none⟩,
    ⟨(some 8), .alloc T.api_Cell [(.d (.v (.string ⟨#[]⟩))), (.d (.v (.bool false))), (.d (.v (.int .i64 0))), (.d (.v (.int .i64 0)))], none⟩,
    ⟨none, .store 4 (.t 8) (.t 11), none⟩] [1, 3, 6, 8]) <|
  (.cut (.cut (.drw (
    .q ⟨(some 12), .faddr 1 (.t 8), none⟩ <|
    .q ⟨(some 13), .load false 1 (.t 12), none⟩ <|
    .q ⟨(some 14), .mov (.t 13), none⟩ <|
    .q ⟨(some 15), .faddr 2 (.t 8), some (14, false)⟩ <|
    .q ⟨(some 16), .load false 1 (.t 15), some (14, false)⟩ <|
    .q ⟨(some 17), .load true 8 (.t 3), some (14, false)⟩ <|
    .q ⟨(some 18), .mov (.t 1), some (14, false)⟩ <|
    .a ⟨(some 19), .call F.clerestoryref07_Gone [(.t 17), (.t 18)], some (14, false)⟩ [⟨(some 16), .load false 1 (.t 15), some (14, false)⟩, ⟨(some 15), .faddr 2 (.t 8), some (14, false)⟩] (
    .q ⟨(some 20), .bin .leq (.t 16) (.t 19), some (14, false)⟩ <|
      .q ⟨(some 21), .pick (.t 14) (.c (.d (.v (.bool true)))) (.t 20), none⟩ <|
      .q ⟨(some 22), .mov (.t 21), none⟩ <|
      .q ⟨(some 23), .faddr 2 (.t 8), some (22, false)⟩ <|
      .q ⟨(some 24), .load false 1 (.t 23), some (22, false)⟩ <|
      .q ⟨(some 25), .bin .lss (.t 24) (.c (.d (.v (.int .i64 1)))), some (22, false)⟩ <|
      .q ⟨(some 26), .pick (.t 22) (.c (.d (.v (.bool true)))) (.t 25), none⟩ <|
      .fin) .no) [6, 8, 26]) <|
  (.cond (.t 26)
    (.cut (.reg [
      ⟨(some 27), .build [(.d (.v (.string ⟨#[]⟩))), (.d (.v (.bool false))), (.d (.v (.int .i64 0))), (.d (.v (.int .i64 0)))] [], none⟩,
      ⟨none, .store 4 (.t 6) (.t 27), none⟩,
      ⟨(some 7), .mov (.c (.d (.v (.bool false)))), none⟩] [6, 7]) <|
    .ret)
    .skip)) <|
  (.cut (.reg [
    ⟨(some 28), .load true 4 (.t 8), none⟩,
    ⟨none, .store 4 (.t 6) (.t 28), none⟩,
    ⟨(some 7), .mov (.c (.d (.v (.bool true)))), none⟩] [6, 7]) <|
  .ret))))
def clerestoryref07_Best.rf : RF := ⟨29, [.load true 4 (.t 6), .mov (.t 7)], clerestoryref07_Best.code⟩
theorem clerestoryref07_Best.res : resF prog F.clerestoryref07_Best clerestoryref07_Best.sc = some clerestoryref07_Best.rf := by kernel_rfl

def clerestoryref18_in.sc : SC := .cut (.reg [1, 2]) (.cut (.cut (.reg [1, 2, 5]) (.one (.one (.cut (.cut (.reg [1, 2, 5, 10]) (.two (.leaf) (.leaf))) (.cut (.one (.cut (.reg [1, 2, 5, 19]) (.two (.cut (.reg [4]) (.leaf)) (.leaf)))) (.reg [1, 2, 5])))))) (.cut (.reg [4]) (.leaf)))
def clerestoryref18_in.l0 : RC :=
  (.cut (.cut (.reg [
    ⟨(some 6), .mov (.t 5), none⟩,
    ⟨(some 7), .faddr 4 (.t 2), none⟩,
    ⟨(some 8), .load false 1 (.t 7), none⟩,
    ⟨(some 9), .lenR (.t 8), none⟩,
    ⟨(some 10), .bin .lss (.t 6) (.t 9), none⟩] [1, 2, 5, 10]) <|
  (.cond (.t 10)
    .skip
    (.exit 0))) <|
  (.cut (.block 1 <|
    (.cut (.reg [
      ⟨(some 13), .faddr 4 (.t 2), none⟩,
      ⟨(some 14), .load false 1 (.t 13), none⟩,
      ⟨(some 15), .mov (.t 5), none⟩,
      ⟨(some 16), .iaR 1 (.t 14) (.t 15), none⟩,
      ⟨(some 17), .load false 1 (.t 16), none⟩,
      ⟨(some 18), .mov (.t 1), none⟩,
      ⟨(some 19), .bin .eql (.t 17) (.t 18), none⟩] [1, 2, 5, 19]) <|
    (.cond (.t 19)
      (.cut (.reg [⟨(some 4), .mov (.c (.d (.v (.bool true)))), none⟩] [4]) <|
      .ret)
      .skip))) <|
  (.reg [
    ⟨(some 11), .mov (.t 5), none⟩,
    ⟨(some 12), .bin .add (.t 11) (.c (.d (.v (.int .i64 1)))), none⟩,
    ⟨(some 5), .mov (.t 12), none⟩] [1, 2, 5])))

def clerestoryref18_in.code : RC :=
  (.cut (.reg [
    ⟨(some 2), .box T.api_View (.t 0), none⟩,
    ⟨(some 4), .mov (.c (.d (.v (.bool false)))), none⟩] [1, 2]) <|
  (.cut (.cut (.reg [⟨(some 5), .mov (.c (.d (.v (.int .i64 0)))), none⟩] [1, 2, 5]) <|
  (.block 0 <|
    (.loop clerestoryref18_in.l0))) <|
  (.cut (.reg [⟨(some 4), .mov (.c (.d (.v (.bool false)))), none⟩] [4]) <|
  .ret)))
def clerestoryref18_in.rf : RF := ⟨20, [.mov (.t 4)], clerestoryref18_in.code⟩
theorem clerestoryref18_in.res : resF prog F.clerestoryref18_in clerestoryref18_in.sc = some clerestoryref18_in.rf := by kernel_rfl

def clerestoryref18_pick.sc : SC := .cut (.reg [1, 2]) (.cut (.reg [1, 2, 5]) (.cut (.cut (.reg [1, 2, 5, 6]) (.one (.one (.cut (.cut (.reg [1, 2, 5, 6, 10]) (.two (.leaf) (.leaf))) (.cut (.one (.cut (.drw (.q 0 <| .q 1 <| .q 2 <| .q 3 <| .q 4 <| .q 5 <| .a 6 [] (.fin) .no) [1, 2, 5, 6, 19]) (.two (.reg [1, 2, 5, 6]) (.leaf)))) (.reg [1, 2, 5, 6])))))) (.cut (.reg [4]) (.leaf))))
def clerestoryref18_pick.l0 : RC :=
  (.cut (.cut (.reg [
    ⟨(some 7), .mov (.t 6), none⟩,
    ⟨(some 8), .mov (.t 1), none⟩,
    ⟨(some 9), .lenR (.t 8), none⟩,
    ⟨(some 10), .bin .lss (.t 7) (.t 9), none⟩] [1, 2, 5, 6, 10]) <|
  (.cond (.t 10)
    .skip
    (.exit 0))) <|
  (.cut (.block 1 <|
    (.cut (.drw (
      .q ⟨(some 13), .load true 5 (.t 2), none⟩ <|
      .q ⟨(some 14), .mov (.t 1), none⟩ <|
      .q ⟨(some 15), .mov (.t 6), none⟩ <|
      .q ⟨(some 16), .iaR 5 (.t 14) (.t 15), none⟩ <|
      .q ⟨(some 17), .faddr 0 (.t 16), none⟩ <|
      .q ⟨(some 18), .load false 1 (.t 17), none⟩ <|
      .a ⟨(some 19), .call F.clerestoryref18_in [(.t 13), (.t 18)], none⟩ [] (
      .fin) .no) [1, 2, 5, 6, 19]) <|
    (.cond (.t 19)
      (.reg [
        ⟨(some 20), .mov (.t 5), none⟩,
        ⟨(some 21), .mov (.t 1), none⟩,
        ⟨(some 22), .mov (.t 6), none⟩,
        ⟨(some 23), .iaR 5 (.t 21) (.t 22), none⟩,
        ⟨(some 24), .load true 5 (.t 23), none⟩,
        ⟨(some 25), .bslice T.api_Col 5 1 [(.d (.v (.string ⟨#[]⟩))), (.d (.v (.string ⟨#[]⟩))), (.d (.v (.bool false))), (.d (.v (.int .i64 0))), (.d (.v (.int .i64 0)))] [(0, (.t 24))], none⟩,
        ⟨(some 26), .app T.api_Col 5 56 (.t 20) (.t 25), none⟩,
        ⟨(some 5), .mov (.t 26), none⟩] [1, 2, 5, 6])
      .skip))) <|
  (.reg [
    ⟨(some 11), .mov (.t 6), none⟩,
    ⟨(some 12), .bin .add (.t 11) (.c (.d (.v (.int .i64 1)))), none⟩,
    ⟨(some 6), .mov (.t 12), none⟩] [1, 2, 5, 6])))

def clerestoryref18_pick.code : RC :=
  (.cut (.reg [
    ⟨(some 2), .box T.api_View (.t 0), none⟩,
    ⟨(some 4), .mov (.c (.d (.v (.slice none 0 0)))), none⟩] [1, 2]) <|
  (.cut (.reg [⟨(some 5), .mov (.c (.d (.v (.slice none 0 0)))), none⟩] [1, 2, 5]) <|
  (.cut (.cut (.reg [⟨(some 6), .mov (.c (.d (.v (.int .i64 0)))), none⟩] [1, 2, 5, 6]) <|
  (.block 0 <|
    (.loop clerestoryref18_pick.l0))) <|
  (.cut (.reg [
    ⟨(some 27), .mov (.t 5), none⟩,
    ⟨(some 4), .mov (.t 27), none⟩] [4]) <|
  .ret))))
def clerestoryref18_pick.rf : RF := ⟨28, [.mov (.t 4)], clerestoryref18_pick.code⟩
theorem clerestoryref18_pick.res : resF prog F.clerestoryref18_pick clerestoryref18_pick.sc = some clerestoryref18_pick.rf := by kernel_rfl

def clerestoryref18_Mirror.sc : SC := .cut (.reg [3, 4, 5, 6]) (.cut (.reg [3, 4, 5, 6, 8, 9]) (.cut (.reg [3, 4, 5, 6, 8, 9, 10]) (.cut (.cut (.reg [3, 4, 5, 6, 8, 10, 32]) (.two (.cut (.reg [6, 7]) (.leaf)) (.leaf))) (.cut (.drw (.q 0 <| .q 1 <| .q 2 <| .q 3 <| .q 4 <| .q 5 <| .q 6 <| .q 7 <| .q 8 <| .q 10 <| .q 11 <| .q 12 <| .a 9 [12, 11, 10, 4, 3, 2, 1] (.a 13 [4, 3, 2, 1] (.q 14 <| .a 15 [4, 3, 2, 1] (.a 16 [] (.fin) .no) .no) (.a 15 [12, 11, 10, 4, 3, 2, 1] (.a 13 [4, 3, 2, 1] (.q 14 <| .a 16 [] (.fin) .no) .no) .no)) (.a 15 [12, 11, 10, 8, 7, 6, 4, 3, 2, 1] (.a 9 [12, 11, 10, 4, 3, 2, 1] (.a 13 [4, 3, 2, 1] (.q 14 <| .a 16 [] (.fin) .no) .no) .no) .no)) [6, 8, 11]) (.cut (.reg [6, 7]) (.leaf))))))

def clerestoryref18_Mirror.code : RC :=
  (.cut (.reg [
    ⟨(some 3), .box T.api_View (.t 0), none⟩,
    ⟨(some 4), .box T.api_Part (.t 1), none⟩,
    ⟨(some 5), .box T.api_Row (.t 2), none⟩,
    ⟨(some 6), .alloc T.api_Part [(.d (.v (.string ⟨#[]⟩))), (.d (.v (.int .i64 0))), (.d (.v (.slice none 0 0)))], none⟩,
    ⟨(some 7), .mov (.c (.d (.v (.bool false)))), none⟩] [3, 4, 5, 6]) <|
  (.cut (.reg [
    ⟨(some 13), .load true 8 (.t 5), none⟩,
    ⟨(some 14), .faddr 1 (.t 4), none⟩,
    ⟨(some 15), .load false 1 (.t 14), none⟩,
    ⟨(some 16), .faddr 3 (.t 3), none⟩,
    ⟨(some 17), .load false 1 (.t 16), none⟩,
    ⟨(some 18), .call F.clerestoryref07_Best [(.t 13), (.t 15), (.t 17)], none⟩,
    ⟨(some 12), .mov (.t 18), none⟩,
    ⟨(some 19), .extr (.t 12) 0, none⟩,
    ⟨(some 20), .extr (.t 12) 1, none⟩,
    ⟨(some 8), .alloc T.api_Cell [(.d (.v (.string ⟨#[]⟩))), (.d (.v (.bool false))), (.d (.v (.int .i64 0))), (.d (.v (.int .i64 0)))], none⟩,
    ⟨none, .store 4 (.t 8) (.t 19), none⟩,
    ⟨(some 9), .mov (.t 20), none⟩] [3, 4, 5, 6, 8, 9]) <|
  (.cut (.reg [
    ⟨(some 21), .faddr 0 (.t 4), none⟩,
    ⟨(some 22), .load false 1 (.t 21), none⟩,
    ⟨(some 23), .faddr 0 (.t 5), none⟩,
    ⟨(some 24), .load false 1 (.t 23), none⟩,
    ⟨(some 25), .call F.clerestoryref18_Key [(.t 22), (.t 24)], none⟩,
    ⟨(some 10), .mov (.t 25), none⟩] [3, 4, 5, 6, 8, 9, 10]) <|
  (.cut (.cut (.reg [
    ⟨(some 26), .mov (.t 9), none⟩,
    ⟨(some 27), .un .not (.t 26), none⟩,
    ⟨(some 28), .mov (.t 27), none⟩,
    ⟨(some 29), .mov (.t 10), some (28, false)⟩,
    ⟨(some 30), .lenS (.t 29), some (28, false)⟩,
    ⟨(some 31), .bin .gtr (.t 30) (.c (.d (.v (.int .i64 400)))), some (28, false)⟩,
    ⟨(some 32), .pick (.t 28) (.c (.d (.v (.bool true)))) (.t 31), none⟩] [3, 4, 5, 6, 8, 10, 32]) <|
  (.cond (.t 32)
    (.cut (.reg [
      ⟨(some 33), .build [(.d (.v (.string ⟨#[]⟩))), (.d (.v (.int .i64 0))), (.d (.v (.slice none 0 0)))] [], none⟩,
      ⟨none, .store 3 (.t 6) (.t 33), none⟩,
      ⟨(some 7), .mov (.c (.d (.v (.bool false)))), none⟩] [6, 7]) <|
    .ret)
    .skip)) <|
  (.cut (.drw (
    .q ⟨(some 34), .mov (.t 10), none⟩ <|
    .q ⟨(some 35), .faddr 2 (.t 8), none⟩ <|
    .q ⟨(some 36), .load false 1 (.t 35), none⟩ <|
    .q ⟨(some 37), .faddr 3 (.t 8), none⟩ <|
    .q ⟨(some 38), .load false 1 (.t 37), none⟩ <|
    .q ⟨(some 39), .build [(.d (.v (.string ⟨#[]⟩))), (.d (.v (.bool false))), (.d (.v (.int .i64 0))), (.d (.v (.int .i64 0)))] [(2, 1, (.t 36)), (3, 1, (.t 38))], none⟩ <|
    .q ⟨(some 40), .load true 8 (.t 5), none⟩ <|
    .q ⟨(some 41), .faddr 1 (.t 4), none⟩ <|
    .q ⟨(some 42), .load false 1 (.t 41), none⟩ <|
    .q ⟨(some 44), .load true 5 (.t 3), none⟩ <|
    .q ⟨(some 45), .faddr 7 (.t 5), none⟩ <|
    .q ⟨(some 46), .load false 1 (.t 45), none⟩ <|
    .a ⟨(some 43), .call F.clerestoryref07_Gone [(.t 40), (.t 42)], none⟩ [⟨(some 46), .load false 1 (.t 45), none⟩, ⟨(some 45), .faddr 7 (.t 5), none⟩, ⟨(some 44), .load true 5 (.t 3), none⟩, ⟨(some 38), .load false 1 (.t 37), none⟩, ⟨(some 37), .faddr 3 (.t 8), none⟩, ⟨(some 36), .load false 1 (.t 35), none⟩, ⟨(some 35), .faddr 2 (.t 8), none⟩] (
    .a ⟨(some 47), .call F.clerestoryref18_pick [(.t 44), (.t 46)], none⟩ [⟨(some 38), .load false 1 (.t 37), none⟩, ⟨(some 37), .faddr 3 (.t 8), none⟩, ⟨(some 36), .load false 1 (.t 35), none⟩, ⟨(some 35), .faddr 2 (.t 8), none⟩] (
      .q ⟨(some 48), .build [(.d (.v (.string ⟨#[]⟩))), (.d (.v (.string ⟨#[]⟩))), (.d (.v (.bool false))), (.d (.v (.int .i64 0))), (.d (.v (.int .i64 0))), (.d (.v (.int .i64 0))), (.d (.v (.int .i64 0))), (.d (.v (.slice none 0 0)))] [(0, 1, (.t 34)), (1, 4, (.t 39)), (5, 1, (.t 43)), (7, 1, (.t 47))], none⟩ <|
        .a ⟨(some 11), .alloc T.api_Row [(.d (.v (.string ⟨#[]⟩))), (.d (.v (.string ⟨#[]⟩))), (.d (.v (.bool false))), (.d (.v (.int .i64 0))), (.d (.v (.int .i64 0))), (.d (.v (.int .i64 0))), (.d (.v (.int .i64 0))), (.d (.v (.slice none 0 0)))], none⟩ [⟨(some 38), .load false 1 (.t 37), none⟩, ⟨(some 37), .faddr 3 (.t 8), none⟩, ⟨(some 36), .load false 1 (.t 35), none⟩, ⟨(some 35), .faddr 2 (.t 8), none⟩] (
        .a ⟨none, .store 8 (.t 11) (.t 48), none⟩ [] (
          .fin) .no) .no) (
      .a ⟨(some 11), .alloc T.api_Row [(.d (.v (.string ⟨#[]⟩))), (.d (.v (.string ⟨#[]⟩))), (.d (.v (.bool false))), (.d (.v (.int .i64 0))), (.d (.v (.int .i64 0))), (.d (.v (.int .i64 0))), (.d (.v (.int .i64 0))), (.d (.v (.slice none 0 0)))], none⟩ [⟨(some 46), .load false 1 (.t 45), none⟩, ⟨(some 45), .faddr 7 (.t 5), none⟩, ⟨(some 44), .load true 5 (.t 3), none⟩, ⟨(some 38), .load false 1 (.t 37), none⟩, ⟨(some 37), .faddr 3 (.t 8), none⟩, ⟨(some 36), .load false 1 (.t 35), none⟩, ⟨(some 35), .faddr 2 (.t 8), none⟩] (
        .a ⟨(some 47), .call F.clerestoryref18_pick [(.t 44), (.t 46)], none⟩ [⟨(some 38), .load false 1 (.t 37), none⟩, ⟨(some 37), .faddr 3 (.t 8), none⟩, ⟨(some 36), .load false 1 (.t 35), none⟩, ⟨(some 35), .faddr 2 (.t 8), none⟩] (
          .q ⟨(some 48), .build [(.d (.v (.string ⟨#[]⟩))), (.d (.v (.string ⟨#[]⟩))), (.d (.v (.bool false))), (.d (.v (.int .i64 0))), (.d (.v (.int .i64 0))), (.d (.v (.int .i64 0))), (.d (.v (.int .i64 0))), (.d (.v (.slice none 0 0)))] [(0, 1, (.t 34)), (1, 4, (.t 39)), (5, 1, (.t 43)), (7, 1, (.t 47))], none⟩ <|
            .a ⟨none, .store 8 (.t 11) (.t 48), none⟩ [] (
            .fin) .no) .no) .no)) (
    .a ⟨(some 11), .alloc T.api_Row [(.d (.v (.string ⟨#[]⟩))), (.d (.v (.string ⟨#[]⟩))), (.d (.v (.bool false))), (.d (.v (.int .i64 0))), (.d (.v (.int .i64 0))), (.d (.v (.int .i64 0))), (.d (.v (.int .i64 0))), (.d (.v (.slice none 0 0)))], none⟩ [⟨(some 46), .load false 1 (.t 45), none⟩, ⟨(some 45), .faddr 7 (.t 5), none⟩, ⟨(some 44), .load true 5 (.t 3), none⟩, ⟨(some 42), .load false 1 (.t 41), none⟩, ⟨(some 41), .faddr 1 (.t 4), none⟩, ⟨(some 40), .load true 8 (.t 5), none⟩, ⟨(some 38), .load false 1 (.t 37), none⟩, ⟨(some 37), .faddr 3 (.t 8), none⟩, ⟨(some 36), .load false 1 (.t 35), none⟩, ⟨(some 35), .faddr 2 (.t 8), none⟩] (
      .a ⟨(some 43), .call F.clerestoryref07_Gone [(.t 40), (.t 42)], none⟩ [⟨(some 46), .load false 1 (.t 45), none⟩, ⟨(some 45), .faddr 7 (.t 5), none⟩, ⟨(some 44), .load true 5 (.t 3), none⟩, ⟨(some 38), .load false 1 (.t 37), none⟩, ⟨(some 37), .faddr 3 (.t 8), none⟩, ⟨(some 36), .load false 1 (.t 35), none⟩, ⟨(some 35), .faddr 2 (.t 8), none⟩] (
        .a ⟨(some 47), .call F.clerestoryref18_pick [(.t 44), (.t 46)], none⟩ [⟨(some 38), .load false 1 (.t 37), none⟩, ⟨(some 37), .faddr 3 (.t 8), none⟩, ⟨(some 36), .load false 1 (.t 35), none⟩, ⟨(some 35), .faddr 2 (.t 8), none⟩] (
          .q ⟨(some 48), .build [(.d (.v (.string ⟨#[]⟩))), (.d (.v (.string ⟨#[]⟩))), (.d (.v (.bool false))), (.d (.v (.int .i64 0))), (.d (.v (.int .i64 0))), (.d (.v (.int .i64 0))), (.d (.v (.int .i64 0))), (.d (.v (.slice none 0 0)))] [(0, 1, (.t 34)), (1, 4, (.t 39)), (5, 1, (.t 43)), (7, 1, (.t 47))], none⟩ <|
            .a ⟨none, .store 8 (.t 11) (.t 48), none⟩ [] (
            .fin) .no) .no) .no) .no)) [6, 8, 11]) <|
  (.cut (.reg [
    ⟨(some 49), .faddr 0 (.t 8), none⟩,
    ⟨(some 50), .load false 1 (.t 49), none⟩,
    ⟨(some 51), .load true 8 (.t 11), none⟩,
    ⟨(some 52), .bslice T.api_Row 8 1 [(.d (.v (.string ⟨#[]⟩))), (.d (.v (.string ⟨#[]⟩))), (.d (.v (.bool false))), (.d (.v (.int .i64 0))), (.d (.v (.int .i64 0))), (.d (.v (.int .i64 0))), (.d (.v (.int .i64 0))), (.d (.v (.slice none 0 0)))] [(0, (.t 51))], none⟩,
    ⟨(some 53), .build [(.d (.v (.string ⟨#[]⟩))), (.d (.v (.int .i64 0))), (.d (.v (.slice none 0 0)))] [(0, 1, (.t 50)), (2, 1, (.t 52))], none⟩,
    ⟨none, .store 3 (.t 6) (.t 53), none⟩,
    ⟨(some 7), .mov (.c (.d (.v (.bool true)))), none⟩] [6, 7]) <|
  .ret))))))
def clerestoryref18_Mirror.rf : RF := ⟨54, [.load true 3 (.t 6), .mov (.t 7)], clerestoryref18_Mirror.code⟩
theorem clerestoryref18_Mirror.res : resF prog F.clerestoryref18_Mirror clerestoryref18_Mirror.sc = some clerestoryref18_Mirror.rf := by kernel_rfl

def clerestoryref06_Same.sc : SC := .cut (.reg [2, 3]) (.cut (.reg [4]) (.leaf))

def clerestoryref06_Same.code : RC :=
  (.cut (.reg [
    ⟨(some 2), .box T.api_Cell (.t 0), none⟩,
    ⟨(some 3), .box T.api_Cell (.t 1), none⟩,
    ⟨(some 4), .mov (.c (.d (.v (.bool false)))), none⟩] [2, 3]) <|
  (.cut (.reg [
    ⟨(some 5), .faddr 0 (.t 2), none⟩,
    ⟨(some 6), .load false 1 (.t 5), none⟩,
    ⟨(some 7), .faddr 0 (.t 3), none⟩,
    ⟨(some 8), .load false 1 (.t 7), none⟩,
    ⟨(some 9), .bin .eql (.t 6) (.t 8), none⟩,
    ⟨(some 10), .mov (.t 9), none⟩,
    ⟨(some 11), .faddr 1 (.t 2), some (10, true)⟩,
    ⟨(some 12), .load false 1 (.t 11), some (10, true)⟩,
    ⟨(some 13), .faddr 1 (.t 3), some (10, true)⟩,
    ⟨(some 14), .load false 1 (.t 13), some (10, true)⟩,
    ⟨(some 15), .eqb false (.t 12) (.t 14), some (10, true)⟩,
    ⟨(some 16), .pick (.t 10) (.t 15) (.c (.d (.v (.bool false)))), none⟩,
    ⟨(some 17), .mov (.t 16), none⟩,
    ⟨(some 18), .faddr 2 (.t 2), some (17, true)⟩,
    ⟨(some 19), .load false 1 (.t 18), some (17, true)⟩,
    ⟨(some 20), .faddr 2 (.t 3), some (17, true)⟩,
    ⟨(some 21), .load false 1 (.t 20), some (17, true)⟩,
    ⟨(some 22), .bin .eql (.t 19) (.t 21), some (17, true)⟩,
    ⟨(some 23), .pick (.t 17) (.t 22) (.c (.d (.v (.bool false)))), none⟩,
    ⟨(some 24), .mov (.t 23), none⟩,
    ⟨(some 25), .faddr 3 (.t 2), some (24, true)⟩,
    ⟨(some 26), .load false 1 (.t 25), some (24, true)⟩,
    ⟨(some 27), .faddr 3 (.t 3), some (24, true)⟩,
    ⟨(some 28), .load false 1 (.t 27), some (24, true)⟩,
    ⟨(some 29), .bin .eql (.t 26) (.t 28), some (24, true)⟩,
    ⟨(some 30), .pick (.t 24) (.t 29) (.c (.d (.v (.bool false)))), none⟩,
    ⟨(some 4), .mov (.t 30), none⟩] [4]) <|
  .ret))
def clerestoryref06_Same.rf : RF := ⟨31, [.mov (.t 4)], clerestoryref06_Same.code⟩
theorem clerestoryref06_Same.res : resF prog F.clerestoryref06_Same clerestoryref06_Same.sc = some clerestoryref06_Same.rf := by kernel_rfl

def clerestoryref07_SameCols.sc : SC := .cut (.reg [0, 1]) (.cut (.cut (.reg [0, 1, 10]) (.two (.cut (.reg [4]) (.leaf)) (.leaf))) (.cut (.cut (.reg [0, 1, 5]) (.one (.one (.cut (.cut (.reg [0, 1, 5, 14]) (.two (.leaf) (.leaf))) (.cut (.one (.cut (.drw (.q 0 <| .q 1 <| .q 2 <| .q 3 <| .q 4 <| .q 5 <| .q 6 <| .q 7 <| .q 8 <| .q 9 <| .q 10 <| .q 11 <| .q 12 <| .q 13 <| .q 14 <| .q 15 <| .q 16 <| .q 17 <| .q 18 <| .q 19 <| .q 20 <| .q 21 <| .a 22 [] (.q 23 <| .q 24 <| .fin) .no) [0, 1, 5, 41]) (.two (.cut (.reg [4]) (.leaf)) (.leaf)))) (.reg [0, 1, 5])))))) (.cut (.reg [4]) (.leaf))))
def clerestoryref07_SameCols.l0 : RC :=
  (.cut (.cut (.reg [
    ⟨(some 11), .mov (.t 5), none⟩,
    ⟨(some 12), .mov (.t 0), none⟩,
    ⟨(some 13), .lenR (.t 12), none⟩,
    ⟨(some 14), .bin .lss (.t 11) (.t 13), none⟩] [0, 1, 5, 14]) <|
  (.cond (.t 14)
    .skip
    (.exit 0))) <|
  (.cut (.block 1 <|
    (.cut (.drw (
      .q ⟨(some 17), .mov (.t 0), none⟩ <|
      .q ⟨(some 18), .mov (.t 5), none⟩ <|
      .q ⟨(some 19), .iaR 5 (.t 17) (.t 18), none⟩ <|
      .q ⟨(some 20), .faddr 0 (.t 19), none⟩ <|
      .q ⟨(some 21), .load false 1 (.t 20), none⟩ <|
      .q ⟨(some 22), .mov (.t 1), none⟩ <|
      .q ⟨(some 23), .mov (.t 5), none⟩ <|
      .q ⟨(some 24), .iaR 5 (.t 22) (.t 23), none⟩ <|
      .q ⟨(some 25), .faddr 0 (.t 24), none⟩ <|
      .q ⟨(some 26), .load false 1 (.t 25), none⟩ <|
      .q ⟨(some 27), .bin .neq (.t 21) (.t 26), none⟩ <|
      .q ⟨(some 28), .mov (.t 27), none⟩ <|
      .q ⟨(some 29), .mov (.t 0), some (28, false)⟩ <|
      .q ⟨(some 30), .mov (.t 5), some (28, false)⟩ <|
      .q ⟨(some 31), .iaR 5 (.t 29) (.t 30), some (28, false)⟩ <|
      .q ⟨(some 32), .faddr 1 (.t 31), some (28, false)⟩ <|
      .q ⟨(some 33), .load true 4 (.t 32), some (28, false)⟩ <|
      .q ⟨(some 34), .mov (.t 1), some (28, false)⟩ <|
      .q ⟨(some 35), .mov (.t 5), some (28, false)⟩ <|
      .q ⟨(some 36), .iaR 5 (.t 34) (.t 35), some (28, false)⟩ <|
      .q ⟨(some 37), .faddr 1 (.t 36), some (28, false)⟩ <|
      .q ⟨(some 38), .load true 4 (.t 37), some (28, false)⟩ <|
      .a ⟨(some 39), .call F.clerestoryref06_Same [(.t 33), (.t 38)], some (28, false)⟩ [] (
      .q ⟨(some 40), .un .not (.t 39), some (28, false)⟩ <|
        .q ⟨(some 41), .pick (.t 28) (.c (.d (.v (.bool true)))) (.t 40), none⟩ <|
        .fin) .no) [0, 1, 5, 41]) <|
    (.cond (.t 41)
      (.cut (.reg [⟨(some 4), .mov (.c (.d (.v (.bool false)))), none⟩] [4]) <|
      .ret)
      .skip))) <|
  (.reg [
    ⟨(some 15), .mov (.t 5), none⟩,
    ⟨(some 16), .bin .add (.t 15) (.c (.d (.v (.int .i64 1)))), none⟩,
    ⟨(some 5), .mov (.t 16), none⟩] [0, 1, 5])))

def clerestoryref07_SameCols.code : RC :=
  (.cut (.reg [⟨(some 4), .mov (.c (.d (.v (.bool false)))), none⟩] [0, 1]) <|
  (.cut (.cut (.reg [
    ⟨(some 6), .mov (.t 0), none⟩,
    ⟨(some 7), .lenR (.t 6), none⟩,
    ⟨(some 8), .mov (.t 1), none⟩,
    ⟨(some 9), .lenR (.t 8), none⟩,
    ⟨(some 10), .bin .neq (.t 7) (.t 9), none⟩] [0, 1, 10]) <|
  (.cond (.t 10)
    (.cut (.reg [⟨(some 4), .mov (.c (.d (.v (.bool false)))), none⟩] [4]) <|
    .ret)
    .skip)) <|
  (.cut (.cut (.reg [⟨(some 5), .mov (.c (.d (.v (.int .i64 0)))), none⟩] [0, 1, 5]) <|
  (.block 0 <|
    (.loop clerestoryref07_SameCols.l0))) <|
  (.cut (.reg [⟨(some 4), .mov (.c (.d (.v (.bool true)))), none⟩] [4]) <|
  .ret))))
def clerestoryref07_SameCols.rf : RF := ⟨42, [.mov (.t 4)], clerestoryref07_SameCols.code⟩
theorem clerestoryref07_SameCols.res : resF prog F.clerestoryref07_SameCols clerestoryref07_SameCols.sc = some clerestoryref07_SameCols.rf := by kernel_rfl

def clerestoryref07_Same.sc : SC := .cut (.reg [2, 3]) (.cut (.reg [4]) (.leaf))

def clerestoryref07_Same.code : RC :=
  (.cut (.reg [
    ⟨(some 2), .box T.api_Row (.t 0), none⟩,
    ⟨(some 3), .box T.api_Row (.t 1), none⟩,
    ⟨(some 4), .mov (.c (.d (.v (.bool false)))), none⟩] [2, 3]) <|
  (.cut (.reg [
    ⟨(some 5), .faddr 0 (.t 2), none⟩,
    ⟨(some 6), .load false 1 (.t 5), none⟩,
    ⟨(some 7), .faddr 0 (.t 3), none⟩,
    ⟨(some 8), .load false 1 (.t 7), none⟩,
    ⟨(some 9), .bin .eql (.t 6) (.t 8), none⟩,
    ⟨(some 10), .mov (.t 9), none⟩,
    ⟨(some 11), .faddr 1 (.t 2), some (10, true)⟩,
    ⟨(some 12), .load true 4 (.t 11), some (10, true)⟩,
    ⟨(some 13), .faddr 1 (.t 3), some (10, true)⟩,
    ⟨(some 14), .load true 4 (.t 13), some (10, true)⟩,
    ⟨(some 15), .call F.clerestoryref06_Same [(.t 12), (.t 14)], some (10, true)⟩,
    ⟨(some 16), .pick (.t 10) (.t 15) (.c (.d (.v (.bool false)))), none⟩,
    ⟨(some 17), .mov (.t 16), none⟩,
    ⟨(some 18), .faddr 5 (.t 2), some (17, true)⟩,
    ⟨(some 19), .load false 1 (.t 18), some (17, true)⟩,
    ⟨(some 20), .faddr 5 (.t 3), some (17, true)⟩,
    ⟨(some 21), .load false 1 (.t 20), some (17, true)⟩,
    ⟨(some 22), .bin .eql (.t 19) (.t 21), some (17, true)⟩,
    ⟨(some 23), .pick (.t 17) (.t 22) (.c (.d (.v (.bool false)))), none⟩,
    ⟨(some 24), .mov (.t 23), none⟩,
    ⟨(some 25), .faddr 6 (.t 2), some (24, true)⟩,
    ⟨(some 26), .load false 1 (.t 25), some (24, true)⟩,
    ⟨(some 27), .faddr 6 (.t 3), some (24, true)⟩,
    ⟨(some 28), .load false 1 (.t 27), some (24, true)⟩,
    ⟨(some 29), .bin .eql (.t 26) (.t 28), some (24, true)⟩,
    ⟨(some 30), .pick (.t 24) (.t 29) (.c (.d (.v (.bool false)))), none⟩,
    ⟨(some 31), .mov (.t 30), none⟩,
    ⟨(some 32), .faddr 7 (.t 2), some (31, true)⟩,
    ⟨(some 33), .load false 1 (.t 32), some (31, true)⟩,
    ⟨(some 34), .faddr 7 (.t 3), some (31, true)⟩,
    ⟨(some 35), .load false 1 (.t 34), some (31, true)⟩,
    ⟨(some 36), .call F.clerestoryref07_SameCols [(.t 33), (.t 35)], some (31, true)⟩,
    ⟨(some 37), .pick (.t 31) (.t 36) (.c (.d (.v (.bool false)))), none⟩,
    ⟨(some 4), .mov (.t 37), none⟩] [4]) <|
  .ret))
def clerestoryref07_Same.rf : RF := ⟨38, [.mov (.t 4)], clerestoryref07_Same.code⟩
theorem clerestoryref07_Same.res : resF prog F.clerestoryref07_Same clerestoryref07_Same.sc = some clerestoryref07_Same.rf := by kernel_rfl

def clerestoryref08_SameRows.sc : SC := .cut (.reg [0, 1]) (.cut (.cut (.reg [0, 1, 10]) (.two (.cut (.reg [4]) (.leaf)) (.leaf))) (.cut (.cut (.reg [0, 1, 5]) (.one (.one (.cut (.cut (.reg [0, 1, 5, 14]) (.two (.leaf) (.leaf))) (.cut (.one (.cut (.drw (.q 0 <| .q 1 <| .q 2 <| .q 3 <| .q 4 <| .q 5 <| .q 6 <| .q 7 <| .a 8 [] (.q 9 <| .fin) .no) [0, 1, 5, 26]) (.two (.cut (.reg [4]) (.leaf)) (.leaf)))) (.reg [0, 1, 5])))))) (.cut (.reg [4]) (.leaf))))
def clerestoryref08_SameRows.l0 : RC :=
  (.cut (.cut (.reg [
    ⟨(some 11), .mov (.t 5), none⟩,
    ⟨(some 12), .mov (.t 0), none⟩,
    ⟨(some 13), .lenR (.t 12), none⟩,
    ⟨(some 14), .bin .lss (.t 11) (.t 13), none⟩] [0, 1, 5, 14]) <|
  (.cond (.t 14)
    .skip
    (.exit 0))) <|
  (.cut (.block 1 <|
    (.cut (.drw (
      .q ⟨(some 17), .mov (.t 0), none⟩ <|
      .q ⟨(some 18), .mov (.t 5), none⟩ <|
      .q ⟨(some 19), .iaR 8 (.t 17) (.t 18), none⟩ <|
      .q ⟨(some 20), .load true 8 (.t 19), none⟩ <|
      .q ⟨(some 21), .mov (.t 1), none⟩ <|
      .q ⟨(some 22), .mov (.t 5), none⟩ <|
      .q ⟨(some 23), .iaR 8 (.t 21) (.t 22), none⟩ <|
      .q ⟨(some 24), .load true 8 (.t 23), none⟩ <|
      .a ⟨(some 25), .call F.clerestoryref07_Same [(.t 20), (.t 24)], none⟩ [] (
      .q ⟨(some 26), .un .not (.t 25), none⟩ <|
        .fin) .no) [0, 1, 5, 26]) <|
    (.cond (.t 26)
      (.cut (.reg [⟨(some 4), .mov (.c (.d (.v (.bool false)))), none⟩] [4]) <|
      .ret)
      .skip))) <|
  (.reg [
    ⟨(some 15), .mov (.t 5), none⟩,
    ⟨(some 16), .bin .add (.t 15) (.c (.d (.v (.int .i64 1)))), none⟩,
    ⟨(some 5), .mov (.t 16), none⟩] [0, 1, 5])))

def clerestoryref08_SameRows.code : RC :=
  (.cut (.reg [⟨(some 4), .mov (.c (.d (.v (.bool false)))), none⟩] [0, 1]) <|
  (.cut (.cut (.reg [
    ⟨(some 6), .mov (.t 0), none⟩,
    ⟨(some 7), .lenR (.t 6), none⟩,
    ⟨(some 8), .mov (.t 1), none⟩,
    ⟨(some 9), .lenR (.t 8), none⟩,
    ⟨(some 10), .bin .neq (.t 7) (.t 9), none⟩] [0, 1, 10]) <|
  (.cond (.t 10)
    (.cut (.reg [⟨(some 4), .mov (.c (.d (.v (.bool false)))), none⟩] [4]) <|
    .ret)
    .skip)) <|
  (.cut (.cut (.reg [⟨(some 5), .mov (.c (.d (.v (.int .i64 0)))), none⟩] [0, 1, 5]) <|
  (.block 0 <|
    (.loop clerestoryref08_SameRows.l0))) <|
  (.cut (.reg [⟨(some 4), .mov (.c (.d (.v (.bool true)))), none⟩] [4]) <|
  .ret))))
def clerestoryref08_SameRows.rf : RF := ⟨27, [.mov (.t 4)], clerestoryref08_SameRows.code⟩
theorem clerestoryref08_SameRows.res : resF prog F.clerestoryref08_SameRows clerestoryref08_SameRows.sc = some clerestoryref08_SameRows.rf := by kernel_rfl

def clerestoryref08_Same.sc : SC := .cut (.reg [2, 3]) (.cut (.reg [4]) (.leaf))

def clerestoryref08_Same.code : RC :=
  (.cut (.reg [
    ⟨(some 2), .box T.api_Part (.t 0), none⟩,
    ⟨(some 3), .box T.api_Part (.t 1), none⟩,
    ⟨(some 4), .mov (.c (.d (.v (.bool false)))), none⟩] [2, 3]) <|
  (.cut (.reg [
    ⟨(some 5), .faddr 0 (.t 2), none⟩,
    ⟨(some 6), .load false 1 (.t 5), none⟩,
    ⟨(some 7), .faddr 0 (.t 3), none⟩,
    ⟨(some 8), .load false 1 (.t 7), none⟩,
    ⟨(some 9), .bin .eql (.t 6) (.t 8), none⟩,
    ⟨(some 10), .mov (.t 9), none⟩,
    ⟨(some 11), .faddr 1 (.t 2), some (10, true)⟩,
    ⟨(some 12), .load false 1 (.t 11), some (10, true)⟩,
    ⟨(some 13), .faddr 1 (.t 3), some (10, true)⟩,
    ⟨(some 14), .load false 1 (.t 13), some (10, true)⟩,
    ⟨(some 15), .bin .eql (.t 12) (.t 14), some (10, true)⟩,
    ⟨(some 16), .pick (.t 10) (.t 15) (.c (.d (.v (.bool false)))), none⟩,
    ⟨(some 17), .mov (.t 16), none⟩,
    ⟨(some 18), .faddr 2 (.t 2), some (17, true)⟩,
    ⟨(some 19), .load false 1 (.t 18), some (17, true)⟩,
    ⟨(some 20), .faddr 2 (.t 3), some (17, true)⟩,
    ⟨(some 21), .load false 1 (.t 20), some (17, true)⟩,
    ⟨(some 22), .call F.clerestoryref08_SameRows [(.t 19), (.t 21)], some (17, true)⟩,
    ⟨(some 23), .pick (.t 17) (.t 22) (.c (.d (.v (.bool false)))), none⟩,
    ⟨(some 4), .mov (.t 23), none⟩] [4]) <|
  .ret))
def clerestoryref08_Same.rf : RF := ⟨24, [.mov (.t 4)], clerestoryref08_Same.code⟩
theorem clerestoryref08_Same.res : resF prog F.clerestoryref08_Same clerestoryref08_Same.sc = some clerestoryref08_Same.rf := by kernel_rfl

def clerestorylaw00_SameParts.sc : SC := .cut (.reg [0, 1]) (.cut (.cut (.reg [0, 1, 10]) (.two (.cut (.reg [4]) (.leaf)) (.leaf))) (.cut (.cut (.reg [0, 1, 5]) (.one (.one (.cut (.cut (.reg [0, 1, 5, 14]) (.two (.leaf) (.leaf))) (.cut (.one (.cut (.drw (.q 0 <| .q 1 <| .q 2 <| .q 3 <| .q 4 <| .q 5 <| .q 6 <| .q 7 <| .a 8 [] (.q 9 <| .fin) .no) [0, 1, 5, 26]) (.two (.cut (.reg [4]) (.leaf)) (.leaf)))) (.reg [0, 1, 5])))))) (.cut (.reg [4]) (.leaf))))
def clerestorylaw00_SameParts.l0 : RC :=
  (.cut (.cut (.reg [
    ⟨(some 11), .mov (.t 5), none⟩,
    ⟨(some 12), .mov (.t 0), none⟩,
    ⟨(some 13), .lenR (.t 12), none⟩,
    ⟨(some 14), .bin .lss (.t 11) (.t 13), none⟩] [0, 1, 5, 14]) <|
  (.cond (.t 14)
    .skip
    (.exit 0))) <|
  (.cut (.block 1 <|
    (.cut (.drw (
      .q ⟨(some 17), .mov (.t 0), none⟩ <|
      .q ⟨(some 18), .mov (.t 5), none⟩ <|
      .q ⟨(some 19), .iaR 3 (.t 17) (.t 18), none⟩ <|
      .q ⟨(some 20), .load true 3 (.t 19), none⟩ <|
      .q ⟨(some 21), .mov (.t 1), none⟩ <|
      .q ⟨(some 22), .mov (.t 5), none⟩ <|
      .q ⟨(some 23), .iaR 3 (.t 21) (.t 22), none⟩ <|
      .q ⟨(some 24), .load true 3 (.t 23), none⟩ <|
      .a ⟨(some 25), .call F.clerestoryref08_Same [(.t 20), (.t 24)], none⟩ [] (
      .q ⟨(some 26), .un .not (.t 25), none⟩ <|
        .fin) .no) [0, 1, 5, 26]) <|
    (.cond (.t 26)
      (.cut (.reg [⟨(some 4), .mov (.c (.d (.v (.bool false)))), none⟩] [4]) <|
      .ret)
      .skip))) <|
  (.reg [
    ⟨(some 15), .mov (.t 5), none⟩,
    ⟨(some 16), .bin .add (.t 15) (.c (.d (.v (.int .i64 1)))), none⟩,
    ⟨(some 5), .mov (.t 16), none⟩] [0, 1, 5])))

def clerestorylaw00_SameParts.code : RC :=
  (.cut (.reg [⟨(some 4), .mov (.c (.d (.v (.bool false)))), none⟩] [0, 1]) <|
  (.cut (.cut (.reg [
    ⟨(some 6), .mov (.t 0), none⟩,
    ⟨(some 7), .lenR (.t 6), none⟩,
    ⟨(some 8), .mov (.t 1), none⟩,
    ⟨(some 9), .lenR (.t 8), none⟩,
    ⟨(some 10), .bin .neq (.t 7) (.t 9), none⟩] [0, 1, 10]) <|
  (.cond (.t 10)
    (.cut (.reg [⟨(some 4), .mov (.c (.d (.v (.bool false)))), none⟩] [4]) <|
    .ret)
    .skip)) <|
  (.cut (.cut (.reg [⟨(some 5), .mov (.c (.d (.v (.int .i64 0)))), none⟩] [0, 1, 5]) <|
  (.block 0 <|
    (.loop clerestorylaw00_SameParts.l0))) <|
  (.cut (.reg [⟨(some 4), .mov (.c (.d (.v (.bool true)))), none⟩] [4]) <|
  .ret))))
def clerestorylaw00_SameParts.rf : RF := ⟨27, [.mov (.t 4)], clerestorylaw00_SameParts.code⟩
theorem clerestorylaw00_SameParts.res : resF prog F.clerestorylaw00_SameParts clerestorylaw00_SameParts.sc = some clerestorylaw00_SameParts.rf := by kernel_rfl

def project_Full.sc : SC := .cut (.reg [3, 4, 5]) (.cut (.reg [3, 4, 5, 7]) (.cut (.cut (.reg [3, 4, 5, 7, 13, 14, 15]) (.one (.one (.cut (.reg [3, 4, 5, 7, 13, 14, 15, 16]) (.cut (.two (.leaf) (.leaf)) (.cut (.one (.cut (.reg [3, 4, 5, 7, 9, 13, 14, 15]) (.cut (.reg [3, 4, 5, 7, 10, 11, 13, 14, 15]) (.cut (.reg [3, 4, 5, 7, 10, 13, 14, 15, 27]) (.two (.reg [3, 4, 5, 7, 13, 14, 15]) (.leaf)))))) (.reg [3, 4, 5, 7, 13, 14, 15]))))))) (.cut (.reg [6]) (.leaf))))
def project_Full.l0 : RC :=
  (.cut (.reg [⟨(some 16), .bin .lss (.t 15) (.t 14), none⟩] [3, 4, 5, 7, 13, 14, 15, 16]) <|
  (.cut (.cond (.t 16)
    .skip
    (.exit 0)) <|
  (.cut (.block 1 <|
    (.cut (.reg [
      ⟨(some 17), .iaR 8 (.t 13) (.t 15), none⟩,
      ⟨(some 18), .load true 8 (.t 17), none⟩,
      ⟨(some 9), .alloc T.api_Row [(.d (.v (.string ⟨#[]⟩))), (.d (.v (.string ⟨#[]⟩))), (.d (.v (.bool false))), (.d (.v (.int .i64 0))), (.d (.v (.int .i64 0))), (.d (.v (.int .i64 0))), (.d (.v (.int .i64 0))), (.d (.v (.slice none 0 0)))], none⟩,
      ⟨none, .store 8 (.t 9) (.t 18), none⟩] [3, 4, 5, 7, 9, 13, 14, 15]) <|
    (.cut (.reg [
      ⟨(some 20), .load true 7 (.t 3), none⟩,
      ⟨(some 21), .load true 5 (.t 4), none⟩,
      ⟨(some 22), .load true 3 (.t 5), none⟩,
      ⟨(some 23), .load true 8 (.t 9), none⟩,
      ⟨(some 24), .call F.project_Mirror [(.t 20), (.t 21), (.t 22), (.t 23)], none⟩,
      ⟨(some 19), .mov (.t 24), none⟩,
      ⟨(some 25), .extr (.t 19) 0, none⟩,
      ⟨(some 26), .extr (.t 19) 1, none⟩,
      ⟨(some 10), .alloc T.api_Part [(.d (.v (.string ⟨#[]⟩))), (.d (.v (.int .i64 0))), (.d (.v (.slice none 0 0)))], none⟩,
      ⟨none, .store 3 (.t 10) (.t 25), none⟩,
      ⟨(some 11), .mov (.t 26), none⟩] [3, 4, 5, 7, 10, 11, 13, 14, 15]) <|
    (.cut (.reg [⟨(some 27), .mov (.t 11), none⟩] [3, 4, 5, 7, 10, 13, 14, 15, 27]) <|
    (.cond (.t 27)
      (.reg [
        ⟨(some 28), .mov (.t 7), none⟩,
        ⟨(some 29), .load true 3 (.t 10), none⟩,
        ⟨(some 30), .bslice T.api_Part 3 1 [(.d (.v (.string ⟨#[]⟩))), (.d (.v (.int .i64 0))), (.d (.v (.slice none 0 0)))] [(0, (.t 29))], none⟩,
        ⟨(some 31), .app T.api_Part 3 48 (.t 28) (.t 30), none⟩,
        ⟨(some 7), .mov (.t 31), none⟩] [3, 4, 5, 7, 13, 14, 15])
      .skip))))) <|
  (.reg [
    ⟨(some 32), .bin .add (.t 15) (.c (.d (.v (.int .i64 1)))), none⟩,
    ⟨(some 15), .mov (.t 32), none⟩] [3, 4, 5, 7, 13, 14, 15]))))

def project_Full.code : RC :=
  (.cut (.reg [
    ⟨(some 3), .box T.api_Table (.t 0), none⟩,
    ⟨(some 4), .box T.api_View (.t 1), none⟩,
    ⟨(some 5), .box T.api_Part (.t 2), none⟩,
    ⟨(some 6), .mov (.c (.d (.v (.slice none 0 0)))), none⟩] [3, 4, 5]) <|
  (.cut (.reg [⟨(some 7), .mov (.c (.d (.v (.slice none 0 0)))), none⟩] [3, 4, 5, 7]) <|
  (.cut (.cut (.reg [
    ⟨(some 12), .faddr 2 (.t 5), none⟩,
    ⟨(some 13), .load false 1 (.t 12), none⟩,
    ⟨(some 14), .lenR (.t 13), none⟩,
    ⟨(some 15), .mov (.c (.d (.v (.int .i64 0)))), none⟩] [3, 4, 5, 7, 13, 14, 15]) <|
  (.block 0 <|
    (.loop project_Full.l0))) <|
  (.cut (.reg [
    ⟨(some 33), .mov (.t 7), none⟩,
    ⟨(some 6), .mov (.t 33), none⟩] [6]) <|
  .ret))))
def project_Full.rf : RF := ⟨34, [.mov (.t 6)], project_Full.code⟩
theorem project_Full.res : resF prog F.project_Full project_Full.sc = some project_Full.rf := by kernel_rfl

def clerestoryref18_Full.sc : SC := .cut (.reg [2, 3]) (.cut (.reg [2, 3, 5]) (.cut (.cut (.reg [2, 3, 5, 6]) (.one (.one (.cut (.cut (.reg [2, 3, 5, 6, 13]) (.two (.leaf) (.leaf))) (.cut (.one (.cut (.drw (.q 0 <| .q 1 <| .q 2 <| .q 3 <| .q 4 <| .q 5 <| .q 6 <| .a 7 [] (.q 8 <| .q 9 <| .q 10 <| .a 11 [] (.a 12 [] (.a 13 [] (.fin) .no) .no) .no) (.a 11 [6, 5, 3, 2, 1, 0] (.a 7 [] (.q 8 <| .q 9 <| .q 10 <| .a 12 [] (.a 13 [] (.fin) .no) .no) .no) .no)) [2, 3, 5, 6, 7, 8]) (.cut (.reg [2, 3, 5, 6, 7, 27]) (.two (.reg [2, 3, 5, 6]) (.leaf))))) (.reg [2, 3, 5, 6])))))) (.cut (.reg [4]) (.leaf))))
def clerestoryref18_Full.l0 : RC :=
  (.cut (.cut (.reg [
    ⟨(some 9), .mov (.t 6), none⟩,
    ⟨(some 10), .faddr 2 (.t 3), none⟩,
    ⟨(some 11), .load false 1 (.t 10), none⟩,
    ⟨(some 12), .lenR (.t 11), none⟩,
    ⟨(some 13), .bin .lss (.t 9) (.t 12), none⟩] [2, 3, 5, 6, 13]) <|
  (.cond (.t 13)
    .skip
    (.exit 0))) <|
  (.cut (.block 1 <|
    (.cut (.drw (
      .q ⟨(some 17), .load true 5 (.t 2), none⟩ <|
      .q ⟨(some 18), .load true 3 (.t 3), none⟩ <|
      .q ⟨(some 19), .faddr 2 (.t 3), none⟩ <|
      .q ⟨(some 20), .load false 1 (.t 19), none⟩ <|
      .q ⟨(some 21), .mov (.t 6), none⟩ <|
      .q ⟨(some 22), .iaR 8 (.t 20) (.t 21), none⟩ <|
      .q ⟨(some 23), .load true 8 (.t 22), none⟩ <|
      .a ⟨(some 24), .call F.clerestoryref18_Mirror [(.t 17), (.t 18), (.t 23)], none⟩ [] (
      .q ⟨(some 16), .mov (.t 24), none⟩ <|
        .q ⟨(some 25), .extr (.t 16) 0, none⟩ <|
        .q ⟨(some 26), .extr (.t 16) 1, none⟩ <|
        .a ⟨(some 7), .alloc T.api_Part [(.d (.v (.string ⟨#[]⟩))), (.d (.v (.int .i64 0))), (.d (.v (.slice none 0 0)))], none⟩ [] (
        .a ⟨none, .store 3 (.t 7) (.t 25), none⟩ [] (
          .a ⟨(some 8), .mov (.t 26), none⟩ [] (
            .fin) .no) .no) .no) (
      .a ⟨(some 7), .alloc T.api_Part [(.d (.v (.string ⟨#[]⟩))), (.d (.v (.int .i64 0))), (.d (.v (.slice none 0 0)))], none⟩ [⟨(some 23), .load true 8 (.t 22), none⟩, ⟨(some 22), .iaR 8 (.t 20) (.t 21), none⟩, ⟨(some 20), .load false 1 (.t 19), none⟩, ⟨(some 19), .faddr 2 (.t 3), none⟩, ⟨(some 18), .load true 3 (.t 3), none⟩, ⟨(some 17), .load true 5 (.t 2), none⟩] (
        .a ⟨(some 24), .call F.clerestoryref18_Mirror [(.t 17), (.t 18), (.t 23)], none⟩ [] (
          .q ⟨(some 16), .mov (.t 24), none⟩ <|
            .q ⟨(some 25), .extr (.t 16) 0, none⟩ <|
            .q ⟨(some 26), .extr (.t 16) 1, none⟩ <|
            .a ⟨none, .store 3 (.t 7) (.t 25), none⟩ [] (
            .a ⟨(some 8), .mov (.t 26), none⟩ [] (
              .fin) .no) .no) .no) .no)) [2, 3, 5, 6, 7, 8]) <|
    (.cut (.reg [⟨(some 27), .mov (.t 8), none⟩] [2, 3, 5, 6, 7, 27]) <|
    (.cond (.t 27)
      (.reg [
        ⟨(some 28), .mov (.t 5), none⟩,
        ⟨(some 29), .load true 3 (.t 7), none⟩,
        ⟨(some 30), .bslice T.api_Part 3 1 [(.d (.v (.string ⟨#[]⟩))), (.d (.v (.int .i64 0))), (.d (.v (.slice none 0 0)))] [(0, (.t 29))], none⟩,
        ⟨(some 31), .app T.api_Part 3 48 (.t 28) (.t 30), none⟩,
        ⟨(some 5), .mov (.t 31), none⟩] [2, 3, 5, 6])
      .skip)))) <|
  (.reg [
    ⟨(some 14), .mov (.t 6), none⟩,
    ⟨(some 15), .bin .add (.t 14) (.c (.d (.v (.int .i64 1)))), none⟩,
    ⟨(some 6), .mov (.t 15), none⟩] [2, 3, 5, 6])))

def clerestoryref18_Full.code : RC :=
  (.cut (.reg [
    ⟨(some 2), .box T.api_View (.t 0), none⟩,
    ⟨(some 3), .box T.api_Part (.t 1), none⟩,
    ⟨(some 4), .mov (.c (.d (.v (.slice none 0 0)))), none⟩] [2, 3]) <|
  (.cut (.reg [⟨(some 5), .mov (.c (.d (.v (.slice none 0 0)))), none⟩] [2, 3, 5]) <|
  (.cut (.cut (.reg [⟨(some 6), .mov (.c (.d (.v (.int .i64 0)))), none⟩] [2, 3, 5, 6]) <|
  (.block 0 <|
    (.loop clerestoryref18_Full.l0))) <|
  (.cut (.reg [
    ⟨(some 32), .mov (.t 5), none⟩,
    ⟨(some 4), .mov (.t 32), none⟩] [4]) <|
  .ret))))
def clerestoryref18_Full.rf : RF := ⟨33, [.mov (.t 4)], clerestoryref18_Full.code⟩
theorem clerestoryref18_Full.res : resF prog F.clerestoryref18_Full clerestoryref18_Full.sc = some clerestoryref18_Full.rf := by kernel_rfl

def cell_Seen.sc : SC := .cut (.reg [1, 2]) (.cut (.reg [4]) (.leaf))

def cell_Seen.code : RC :=
  (.cut (.reg [
    ⟨(some 2), .box T.api_Cell (.t 0), none⟩,
    ⟨(some 4), .mov (.c (.d (.v (.bool false)))), none⟩] [1, 2]) <|
  (.cut (.reg [
    ⟨(some 5), .faddr 2 (.t 2), none⟩,
    ⟨(some 6), .load false 1 (.t 5), none⟩,
    ⟨(some 7), .bin .gtr (.t 6) (.c (.d (.v (.int .i64 0)))), none⟩,
    ⟨(some 8), .mov (.t 7), none⟩,
    ⟨(some 9), .faddr 1 (.t 2), some (8, true)⟩,
    ⟨(some 10), .load false 1 (.t 9), some (8, true)⟩,
    ⟨(some 11), .un .not (.t 10), some (8, true)⟩,
    ⟨(some 12), .pick (.t 8) (.t 11) (.c (.d (.v (.bool false)))), none⟩,
    ⟨(some 13), .mov (.t 12), none⟩,
    ⟨(some 14), .faddr 3 (.t 2), some (13, true)⟩,
    ⟨(some 15), .load false 1 (.t 14), some (13, true)⟩,
    ⟨(some 16), .bin .eql (.t 15) (.c (.d (.v (.int .i64 0)))), some (13, true)⟩,
    ⟨(some 17), .mov (.t 16), some (13, true)⟩,
    ⟨(some 18), .faddr 3 (.t 2), some (17, false)⟩,
    ⟨(some 19), .load false 1 (.t 18), some (17, false)⟩,
    ⟨(some 20), .mov (.t 1), some (17, false)⟩,
    ⟨(some 21), .bin .gtr (.t 19) (.t 20), some (17, false)⟩,
    ⟨(some 22), .pick (.t 17) (.c (.d (.v (.bool true)))) (.t 21), some (13, true)⟩,
    ⟨(some 23), .pick (.t 13) (.t 22) (.c (.d (.v (.bool false)))), none⟩,
    ⟨(some 4), .mov (.t 23), none⟩] [4]) <|
  .ret))
def cell_Seen.rf : RF := ⟨24, [.mov (.t 4)], cell_Seen.code⟩
theorem cell_Seen.res : resF prog F.cell_Seen cell_Seen.sc = some cell_Seen.rf := by kernel_rfl

def row_Seen.sc : SC := .cut (.reg [1, 2, 3]) (.cut (.reg [1, 2, 3, 7]) (.cut (.cut (.reg [1, 2, 3, 7, 11, 12, 13]) (.one (.one (.cut (.reg [1, 2, 3, 7, 11, 12, 13, 14]) (.cut (.two (.leaf) (.leaf)) (.cut (.one (.cut (.reg [1, 2, 3, 7, 9, 11, 12, 13]) (.cut (.drw (.q 0 <| .q 1 <| .q 2 <| .q 3 <| .q 4 <| .q 5 <| .q 6 <| .q 7 <| .q 8 <| .q 9 <| .a 10 [7, 6, 5] (.q 11 <| .q 12 <| .q 13 <| .q 14 <| .q 15 <| .q 16 <| .a 17 [] (.q 18 <| .fin) .no) .no) [1, 2, 3, 7, 9, 11, 12, 13, 35]) (.two (.reg [1, 2, 3, 7, 11, 12, 13]) (.leaf))))) (.reg [1, 2, 3, 7, 11, 12, 13]))))))) (.cut (.reg [6]) (.leaf))))
def row_Seen.l0 : RC :=
  (.cut (.reg [⟨(some 14), .bin .lss (.t 13) (.t 12), none⟩] [1, 2, 3, 7, 11, 12, 13, 14]) <|
  (.cut (.cond (.t 14)
    .skip
    (.exit 0)) <|
  (.cut (.block 1 <|
    (.cut (.reg [
      ⟨(some 15), .iaR 5 (.t 11) (.t 13), none⟩,
      ⟨(some 16), .load true 5 (.t 15), none⟩,
      ⟨(some 9), .alloc T.api_Col [(.d (.v (.string ⟨#[]⟩))), (.d (.v (.string ⟨#[]⟩))), (.d (.v (.bool false))), (.d (.v (.int .i64 0))), (.d (.v (.int .i64 0)))], none⟩,
      ⟨none, .store 5 (.t 9) (.t 16), none⟩] [1, 2, 3, 7, 9, 11, 12, 13]) <|
    (.cut (.drw (
      .q ⟨(some 17), .faddr 1 (.t 9), none⟩ <|
      .q ⟨(some 18), .faddr 1 (.t 17), none⟩ <|
      .q ⟨(some 19), .load false 1 (.t 18), none⟩ <|
      .q ⟨(some 20), .un .not (.t 19), none⟩ <|
      .q ⟨(some 21), .mov (.t 20), none⟩ <|
      .q ⟨(some 22), .faddr 1 (.t 9), some (21, true)⟩ <|
      .q ⟨(some 23), .faddr 2 (.t 22), some (21, true)⟩ <|
      .q ⟨(some 24), .load false 1 (.t 23), some (21, true)⟩ <|
      .q ⟨(some 25), .load true 8 (.t 3), some (21, true)⟩ <|
      .q ⟨(some 26), .mov (.t 1), some (21, true)⟩ <|
      .a ⟨(some 27), .call F.row_Gone [(.t 25), (.t 26)], some (21, true)⟩ [⟨(some 24), .load false 1 (.t 23), some (21, true)⟩, ⟨(some 23), .faddr 2 (.t 22), some (21, true)⟩, ⟨(some 22), .faddr 1 (.t 9), some (21, true)⟩] (
      .q ⟨(some 28), .bin .gtr (.t 24) (.t 27), some (21, true)⟩ <|
        .q ⟨(some 29), .pick (.t 21) (.t 28) (.c (.d (.v (.bool false)))), none⟩ <|
        .q ⟨(some 30), .mov (.t 29), none⟩ <|
        .q ⟨(some 31), .faddr 1 (.t 9), some (30, true)⟩ <|
        .q ⟨(some 32), .load true 4 (.t 31), some (30, true)⟩ <|
        .q ⟨(some 33), .mov (.t 2), some (30, true)⟩ <|
        .a ⟨(some 34), .call F.cell_Seen [(.t 32), (.t 33)], some (30, true)⟩ [] (
        .q ⟨(some 35), .pick (.t 30) (.t 34) (.c (.d (.v (.bool false)))), none⟩ <|
          .fin) .no) .no) [1, 2, 3, 7, 9, 11, 12, 13, 35]) <|
    (.cond (.t 35)
      (.reg [
        ⟨(some 36), .mov (.t 7), none⟩,
        ⟨(some 37), .load true 5 (.t 9), none⟩,
        ⟨(some 38), .bslice T.api_Col 5 1 [(.d (.v (.string ⟨#[]⟩))), (.d (.v (.string ⟨#[]⟩))), (.d (.v (.bool false))), (.d (.v (.int .i64 0))), (.d (.v (.int .i64 0)))] [(0, (.t 37))], none⟩,
        ⟨(some 39), .app T.api_Col 5 56 (.t 36) (.t 38), none⟩,
        ⟨(some 7), .mov (.t 39), none⟩] [1, 2, 3, 7, 11, 12, 13])
      .skip)))) <|
  (.reg [
    ⟨(some 40), .bin .add (.t 13) (.c (.d (.v (.int .i64 1)))), none⟩,
    ⟨(some 13), .mov (.t 40), none⟩] [1, 2, 3, 7, 11, 12, 13]))))

def row_Seen.code : RC :=
  (.cut (.reg [
    ⟨(some 3), .box T.api_Row (.t 0), none⟩,
    ⟨(some 6), .mov (.c (.d (.v (.slice none 0 0)))), none⟩] [1, 2, 3]) <|
  (.cut (.reg [⟨(some 7), .mov (.c (.d (.v (.slice none 0 0)))), none⟩] [1, 2, 3, 7]) <|
  (.cut (.cut (.reg [
    ⟨(some 10), .faddr 7 (.t 3), none⟩,
    ⟨(some 11), .load false 1 (.t 10), none⟩,
    ⟨(some 12), .lenR (.t 11), none⟩,
    ⟨(some 13), .mov (.c (.d (.v (.int .i64 0)))), none⟩] [1, 2, 3, 7, 11, 12, 13]) <|
  (.block 0 <|
    (.loop row_Seen.l0))) <|
  (.cut (.reg [
    ⟨(some 41), .mov (.t 7), none⟩,
    ⟨(some 6), .mov (.t 41), none⟩] [6]) <|
  .ret))))
def row_Seen.rf : RF := ⟨42, [.mov (.t 6)], row_Seen.code⟩
theorem row_Seen.res : resF prog F.row_Seen row_Seen.sc = some row_Seen.rf := by kernel_rfl

def project_Seen.sc : SC := .cut (.reg [3, 5, 6]) (.cut (.reg [3, 5, 6, 9]) (.cut (.cut (.reg [3, 5, 6, 9, 15, 16, 17]) (.one (.one (.cut (.reg [3, 5, 6, 9, 15, 16, 17, 18]) (.cut (.two (.leaf) (.leaf)) (.cut (.one (.cut (.reg [3, 5, 6, 9, 11, 15, 16, 17]) (.cut (.drw (.q 0 <| .q 1 <| .q 2 <| .q 3 <| .q 4 <| .q 5 <| .q 6 <| .a 7 [2, 1, 0] (.a 8 [] (.q 9 <| .q 10 <| .q 11 <| .a 12 [] (.a 13 [] (.a 14 [] (.fin) .no) .no) .no) (.a 12 [2, 1, 0] (.a 8 [] (.q 9 <| .q 10 <| .q 11 <| .a 13 [] (.a 14 [] (.fin) .no) .no) .no) .no)) (.a 12 [5, 4, 3, 2, 1, 0] (.a 7 [2, 1, 0] (.a 8 [] (.q 9 <| .q 10 <| .q 11 <| .a 13 [] (.a 14 [] (.fin) .no) .no) .no) .no) .no)) [3, 5, 6, 9, 12, 13, 15, 16, 17]) (.cut (.reg [3, 5, 6, 9, 12, 15, 16, 17, 42]) (.two (.reg [3, 5, 6, 9, 15, 16, 17]) (.leaf)))))) (.reg [3, 5, 6, 9, 15, 16, 17]))))))) (.cut (.reg [8]) (.leaf))))
def project_Seen.l0 : RC :=
  (.cut (.reg [⟨(some 18), .bin .lss (.t 17) (.t 16), none⟩] [3, 5, 6, 9, 15, 16, 17, 18]) <|
  (.cut (.cond (.t 18)
    .skip
    (.exit 0)) <|
  (.cut (.block 1 <|
    (.cut (.reg [
      ⟨(some 19), .iaR 8 (.t 15) (.t 17), none⟩,
      ⟨(some 20), .load true 8 (.t 19), none⟩,
      ⟨(some 11), .alloc T.api_Row [(.d (.v (.string ⟨#[]⟩))), (.d (.v (.string ⟨#[]⟩))), (.d (.v (.bool false))), (.d (.v (.int .i64 0))), (.d (.v (.int .i64 0))), (.d (.v (.int .i64 0))), (.d (.v (.int .i64 0))), (.d (.v (.slice none 0 0)))], none⟩,
      ⟨none, .store 8 (.t 11) (.t 20), none⟩] [3, 5, 6, 9, 11, 15, 16, 17]) <|
    (.cut (.drw (
      .q ⟨(some 22), .load true 5 (.t 5), none⟩ <|
      .q ⟨(some 23), .load true 3 (.t 6), none⟩ <|
      .q ⟨(some 24), .load true 8 (.t 11), none⟩ <|
      .q ⟨(some 25), .load true 8 (.t 11), none⟩ <|
      .q ⟨(some 26), .faddr 1 (.t 6), none⟩ <|
      .q ⟨(some 27), .load false 1 (.t 26), none⟩ <|
      .q ⟨(some 28), .mov (.t 3), none⟩ <|
      .a ⟨(some 29), .call F.row_Seen [(.t 25), (.t 27), (.t 28)], none⟩ [⟨(some 24), .load true 8 (.t 11), none⟩, ⟨(some 23), .load true 3 (.t 6), none⟩, ⟨(some 22), .load true 5 (.t 5), none⟩] (
      .a ⟨(some 30), .call F.project_of [(.t 22), (.t 23), (.t 24), (.t 29)], none⟩ [] (
        .q ⟨(some 21), .mov (.t 30), none⟩ <|
          .q ⟨(some 31), .extr (.t 21) 0, none⟩ <|
          .q ⟨(some 32), .extr (.t 21) 1, none⟩ <|
          .a ⟨(some 12), .alloc T.api_Part [(.d (.v (.string ⟨#[]⟩))), (.d (.v (.int .i64 0))), (.d (.v (.slice none 0 0)))], none⟩ [] (
          .a ⟨none, .store 3 (.t 12) (.t 31), none⟩ [] (
            .a ⟨(some 13), .mov (.t 32), none⟩ [] (
              .fin) .no) .no) .no) (
        .a ⟨(some 12), .alloc T.api_Part [(.d (.v (.string ⟨#[]⟩))), (.d (.v (.int .i64 0))), (.d (.v (.slice none 0 0)))], none⟩ [⟨(some 24), .load true 8 (.t 11), none⟩, ⟨(some 23), .load true 3 (.t 6), none⟩, ⟨(some 22), .load true 5 (.t 5), none⟩] (
          .a ⟨(some 30), .call F.project_of [(.t 22), (.t 23), (.t 24), (.t 29)], none⟩ [] (
            .q ⟨(some 21), .mov (.t 30), none⟩ <|
              .q ⟨(some 31), .extr (.t 21) 0, none⟩ <|
              .q ⟨(some 32), .extr (.t 21) 1, none⟩ <|
              .a ⟨none, .store 3 (.t 12) (.t 31), none⟩ [] (
              .a ⟨(some 13), .mov (.t 32), none⟩ [] (
                .fin) .no) .no) .no) .no)) (
      .a ⟨(some 12), .alloc T.api_Part [(.d (.v (.string ⟨#[]⟩))), (.d (.v (.int .i64 0))), (.d (.v (.slice none 0 0)))], none⟩ [⟨(some 27), .load false 1 (.t 26), none⟩, ⟨(some 26), .faddr 1 (.t 6), none⟩, ⟨(some 25), .load true 8 (.t 11), none⟩, ⟨(some 24), .load true 8 (.t 11), none⟩, ⟨(some 23), .load true 3 (.t 6), none⟩, ⟨(some 22), .load true 5 (.t 5), none⟩] (
        .a ⟨(some 29), .call F.row_Seen [(.t 25), (.t 27), (.t 28)], none⟩ [⟨(some 24), .load true 8 (.t 11), none⟩, ⟨(some 23), .load true 3 (.t 6), none⟩, ⟨(some 22), .load true 5 (.t 5), none⟩] (
          .a ⟨(some 30), .call F.project_of [(.t 22), (.t 23), (.t 24), (.t 29)], none⟩ [] (
            .q ⟨(some 21), .mov (.t 30), none⟩ <|
              .q ⟨(some 31), .extr (.t 21) 0, none⟩ <|
              .q ⟨(some 32), .extr (.t 21) 1, none⟩ <|
              .a ⟨none, .store 3 (.t 12) (.t 31), none⟩ [] (
              .a ⟨(some 13), .mov (.t 32), none⟩ [] (
                .fin) .no) .no) .no) .no) .no)) [3, 5, 6, 9, 12, 13, 15, 16, 17]) <|
    (.cut (.reg [
      ⟨(some 33), .mov (.t 13), none⟩,
      ⟨(some 34), .mov (.t 33), none⟩,
      ⟨(some 35), .faddr 2 (.t 12), some (34, true)⟩,
      ⟨(some 36), .load false 1 (.t 35), some (34, true)⟩,
      ⟨(some 37), .iaR 8 (.t 36) (.c (.d (.v (.int .i64 0)))), some (34, true)⟩,
      ⟨(some 38), .faddr 1 (.t 37), some (34, true)⟩,
      ⟨(some 39), .load true 4 (.t 38), some (34, true)⟩,
      ⟨(some 40), .mov (.t 3), some (34, true)⟩,
      ⟨(some 41), .call F.cell_Seen [(.t 39), (.t 40)], some (34, true)⟩,
      ⟨(some 42), .pick (.t 34) (.t 41) (.c (.d (.v (.bool false)))), none⟩] [3, 5, 6, 9, 12, 15, 16, 17, 42]) <|
    (.cond (.t 42)
      (.reg [
        ⟨(some 43), .mov (.t 9), none⟩,
        ⟨(some 44), .load true 3 (.t 12), none⟩,
        ⟨(some 45), .bslice T.api_Part 3 1 [(.d (.v (.string ⟨#[]⟩))), (.d (.v (.int .i64 0))), (.d (.v (.slice none 0 0)))] [(0, (.t 44))], none⟩,
        ⟨(some 46), .app T.api_Part 3 48 (.t 43) (.t 45), none⟩,
        ⟨(some 9), .mov (.t 46), none⟩] [3, 5, 6, 9, 15, 16, 17])
      .skip))))) <|
  (.reg [
    ⟨(some 47), .bin .add (.t 17) (.c (.d (.v (.int .i64 1)))), none⟩,
    ⟨(some 17), .mov (.t 47), none⟩] [3, 5, 6, 9, 15, 16, 17]))))

def project_Seen.code : RC :=
  (.cut (.reg [
    ⟨(some 4), .box T.api_Table (.t 0), none⟩,
    ⟨(some 5), .box T.api_View (.t 1), none⟩,
    ⟨(some 6), .box T.api_Part (.t 2), none⟩,
    ⟨(some 8), .mov (.c (.d (.v (.slice none 0 0)))), none⟩] [3, 5, 6]) <|
  (.cut (.reg [⟨(some 9), .mov (.c (.d (.v (.slice none 0 0)))), none⟩] [3, 5, 6, 9]) <|
  (.cut (.cut (.reg [
    ⟨(some 14), .faddr 2 (.t 6), none⟩,
    ⟨(some 15), .load false 1 (.t 14), none⟩,
    ⟨(some 16), .lenR (.t 15), none⟩,
    ⟨(some 17), .mov (.c (.d (.v (.int .i64 0)))), none⟩] [3, 5, 6, 9, 15, 16, 17]) <|
  (.block 0 <|
    (.loop project_Seen.l0))) <|
  (.cut (.reg [
    ⟨(some 48), .mov (.t 9), none⟩,
    ⟨(some 8), .mov (.t 48), none⟩] [8]) <|
  .ret))))
def project_Seen.rf : RF := ⟨49, [.mov (.t 8)], project_Seen.code⟩
theorem project_Seen.res : resF prog F.project_Seen project_Seen.sc = some project_Seen.rf := by kernel_rfl

def clerestoryref06_Seen.sc : SC := .cut (.reg [1, 2]) (.cut (.reg [4]) (.leaf))

def clerestoryref06_Seen.code : RC :=
  (.cut (.reg [
    ⟨(some 2), .box T.api_Cell (.t 0), none⟩,
    ⟨(some 4), .mov (.c (.d (.v (.bool false)))), none⟩] [1, 2]) <|
  (.cut (.reg [
    ⟨(some 5), .faddr 2 (.t 2), none⟩,
    ⟨(some 6), .load false 1 (.t 5), none⟩,
    ⟨(some 7), .bin .gtr (.t 6) (.c (.d (.v (.int .i64 0)))), none⟩,
    ⟨(some 8), .mov (.t 7), none⟩,
    ⟨(some 9), .faddr 1 (.t 2), some (8, true)⟩,
    ⟨(some 10), .load false 1 (.t 9), some (8, true)⟩,
    ⟨(some 11), .un .not (.t 10), some (8, true)⟩,
    ⟨(some 12), .pick (.t 8) (.t 11) (.c (.d (.v (.bool false)))), none⟩,
    ⟨(some 13), .mov (.t 12), none⟩,
    ⟨(some 14), .faddr 3 (.t 2), some (13, true)⟩,
    ⟨(some 15), .load false 1 (.t 14), some (13, true)⟩,
    ⟨(some 16), .bin .eql (.t 15) (.c (.d (.v (.int .i64 0)))), some (13, true)⟩,
    ⟨(some 17), .mov (.t 16), some (13, true)⟩,
    ⟨(some 18), .faddr 3 (.t 2), some (17, false)⟩,
    ⟨(some 19), .load false 1 (.t 18), some (17, false)⟩,
    ⟨(some 20), .mov (.t 1), some (17, false)⟩,
    ⟨(some 21), .bin .gtr (.t 19) (.t 20), some (17, false)⟩,
    ⟨(some 22), .pick (.t 17) (.c (.d (.v (.bool true)))) (.t 21), some (13, true)⟩,
    ⟨(some 23), .pick (.t 13) (.t 22) (.c (.d (.v (.bool false)))), none⟩,
    ⟨(some 4), .mov (.t 23), none⟩] [4]) <|
  .ret))
def clerestoryref06_Seen.rf : RF := ⟨24, [.mov (.t 4)], clerestoryref06_Seen.code⟩
theorem clerestoryref06_Seen.res : resF prog F.clerestoryref06_Seen clerestoryref06_Seen.sc = some clerestoryref06_Seen.rf := by kernel_rfl

def clerestoryref07_Seen.sc : SC := .cut (.reg [1, 2, 3]) (.cut (.reg [1, 2, 3, 7]) (.cut (.cut (.reg [1, 2, 3, 7, 8]) (.one (.one (.cut (.cut (.reg [1, 2, 3, 7, 8, 15]) (.two (.leaf) (.leaf))) (.cut (.one (.cut (.drw (.q 0 <| .q 1 <| .q 2 <| .q 3 <| .q 4 <| .q 5 <| .q 6 <| .q 7 <| .a 8 [] (.q 9 <| .q 10 <| .q 11 <| .a 12 [] (.a 13 [] (.a 14 [] (.fin) .no) .no) .no) (.a 12 [7, 6, 5, 3, 2, 0] (.a 8 [] (.q 9 <| .q 10 <| .q 11 <| .a 13 [] (.a 14 [] (.fin) .no) .no) .no) .no)) [1, 2, 3, 7, 8, 9, 10]) (.cut (.reg [1, 2, 3, 7, 8, 9, 35]) (.two (.drw (.q 0 <| .q 1 <| .q 2 <| .q 3 <| .q 4 <| .q 5 <| .q 6 <| .q 7 <| .q 8 <| .a 9 [] (.a 10 [] (.a 11 [] (.fin) .no) .no) .no) [1, 2, 3, 7, 8]) (.leaf))))) (.reg [1, 2, 3, 7, 8])))))) (.cut (.reg [6]) (.leaf))))
def clerestoryref07_Seen.l0 : RC :=
  (.cut (.cut (.reg [
    ⟨(some 11), .mov (.t 8), none⟩,
    ⟨(some 12), .faddr 7 (.t 3), none⟩,
    ⟨(some 13), .load false 1 (.t 12), none⟩,
    ⟨(some 14), .lenR (.t 13), none⟩,
    ⟨(some 15), .bin .lss (.t 11) (.t 14), none⟩] [1, 2, 3, 7, 8, 15]) <|
  (.cond (.t 15)
    .skip
    (.exit 0))) <|
  (.cut (.block 1 <|
    (.cut (.drw (
      .q ⟨(some 19), .load true 8 (.t 3), none⟩ <|
      .q ⟨(some 20), .mov (.t 1), none⟩ <|
      .q ⟨(some 21), .faddr 7 (.t 3), none⟩ <|
      .q ⟨(some 22), .load false 1 (.t 21), none⟩ <|
      .q ⟨(some 23), .mov (.t 8), none⟩ <|
      .q ⟨(some 24), .iaR 5 (.t 22) (.t 23), none⟩ <|
      .q ⟨(some 25), .faddr 0 (.t 24), none⟩ <|
      .q ⟨(some 26), .load false 1 (.t 25), none⟩ <|
      .a ⟨(some 27), .call F.clerestoryref07_Best [(.t 19), (.t 20), (.t 26)], none⟩ [] (
      .q ⟨(some 18), .mov (.t 27), none⟩ <|
        .q ⟨(some 28), .extr (.t 18) 0, none⟩ <|
        .q ⟨(some 29), .extr (.t 18) 1, none⟩ <|
        .a ⟨(some 9), .alloc T.api_Cell [(.d (.v (.string ⟨#[]⟩))), (.d (.v (.bool false))), (.d (.v (.int .i64 0))), (.d (.v (.int .i64 0)))], none⟩ [] (
        .a ⟨none, .store 4 (.t 9) (.t 28), none⟩ [] (
          .a ⟨(some 10), .mov (.t 29), none⟩ [] (
            .fin) .no) .no) .no) (
      .a ⟨(some 9), .alloc T.api_Cell [(.d (.v (.string ⟨#[]⟩))), (.d (.v (.bool false))), (.d (.v (.int .i64 0))), (.d (.v (.int .i64 0)))], none⟩ [⟨(some 26), .load false 1 (.t 25), none⟩, ⟨(some 25), .faddr 0 (.t 24), none⟩, ⟨(some 24), .iaR 5 (.t 22) (.t 23), none⟩, ⟨(some 22), .load false 1 (.t 21), none⟩, ⟨(some 21), .faddr 7 (.t 3), none⟩, ⟨(some 19), .load true 8 (.t 3), none⟩] (
        .a ⟨(some 27), .call F.clerestoryref07_Best [(.t 19), (.t 20), (.t 26)], none⟩ [] (
          .q ⟨(some 18), .mov (.t 27), none⟩ <|
            .q ⟨(some 28), .extr (.t 18) 0, none⟩ <|
            .q ⟨(some 29), .extr (.t 18) 1, none⟩ <|
            .a ⟨none, .store 4 (.t 9) (.t 28), none⟩ [] (
            .a ⟨(some 10), .mov (.t 29), none⟩ [] (
              .fin) .no) .no) .no) .no)) [1, 2, 3, 7, 8, 9, 10]) <|
    (.cut (.reg [
      ⟨(some 30), .mov (.t 10), none⟩,
      ⟨(some 31), .mov (.t 30), none⟩,
      ⟨(some 32), .load true 4 (.t 9), some (31, true)⟩,
      ⟨(some 33), .mov (.t 2), some (31, true)⟩,
      ⟨(some 34), .call F.clerestoryref06_Seen [(.t 32), (.t 33)], some (31, true)⟩,
      ⟨(some 35), .pick (.t 31) (.t 34) (.c (.d (.v (.bool false)))), none⟩] [1, 2, 3, 7, 8, 9, 35]) <|
    (.cond (.t 35)
      (.drw (
        .q ⟨(some 36), .mov (.t 7), none⟩ <|
        .q ⟨(some 37), .faddr 7 (.t 3), none⟩ <|
        .q ⟨(some 38), .load false 1 (.t 37), none⟩ <|
        .q ⟨(some 39), .mov (.t 8), none⟩ <|
        .q ⟨(some 40), .iaR 5 (.t 38) (.t 39), none⟩ <|
        .q ⟨(some 41), .faddr 0 (.t 40), none⟩ <|
        .q ⟨(some 42), .load false 1 (.t 41), none⟩ <|
        .q ⟨(some 43), .load true 4 (.t 9), none⟩ <|
        .q ⟨(some 44), .build [(.d (.v (.string ⟨#[]⟩))), (.d (.v (.string ⟨#[]⟩))), (.d (.v (.bool false))), (.d (.v (.int .i64 0))), (.d (.v (.int .i64 0)))] [(0, 1, (.t 42)), (1, 4, (.t 43))], none⟩ <|
        .a ⟨(some 45), .bslice T.api_Col 5 1 [(.d (.v (.string ⟨#[]⟩))), (.d (.v (.string ⟨#[]⟩))), (.d (.v (.bool false))), (.d (.v (.int .i64 0))), (.d (.v (.int .i64 0)))] [(0, (.t 44))], none⟩ [] (
        .a ⟨(some 46), .app T.api_Col 5 56 (.t 36) (.t 45), none⟩ [] (
          .a ⟨(some 7), .mov (.t 46), none⟩ [] (
            .fin) .no) .no) .no) [1, 2, 3, 7, 8])
      .skip)))) <|
  (.reg [
    ⟨(some 16), .mov (.t 8), none⟩,
    ⟨(some 17), .bin .add (.t 16) (.c (.d (.v (.int .i64 1)))), none⟩,
    ⟨(some 8), .mov (.t 17), none⟩] [1, 2, 3, 7, 8])))

def clerestoryref07_Seen.code : RC :=
  (.cut (.reg [
    ⟨(some 3), .box T.api_Row (.t 0), none⟩,
    ⟨(some 6), .mov (.c (.d (.v (.slice none 0 0)))), none⟩] [1, 2, 3]) <|
  (.cut (.reg [⟨(some 7), .mov (.c (.d (.v (.slice none 0 0)))), none⟩] [1, 2, 3, 7]) <|
  (.cut (.cut (.reg [⟨(some 8), .mov (.c (.d (.v (.int .i64 0)))), none⟩] [1, 2, 3, 7, 8]) <|
  (.block 0 <|
    (.loop clerestoryref07_Seen.l0))) <|
  (.cut (.reg [
    ⟨(some 47), .mov (.t 7), none⟩,
    ⟨(some 6), .mov (.t 47), none⟩] [6]) <|
  .ret))))
def clerestoryref07_Seen.rf : RF := ⟨48, [.mov (.t 6)], clerestoryref07_Seen.code⟩
theorem clerestoryref07_Seen.res : resF prog F.clerestoryref07_Seen clerestoryref07_Seen.sc = some clerestoryref07_Seen.rf := by kernel_rfl

def clerestoryref18_Seen.sc : SC := .cut (.reg [2, 3, 4]) (.cut (.reg [2, 3, 4, 7]) (.cut (.cut (.reg [2, 3, 4, 7, 8]) (.one (.one (.cut (.cut (.reg [2, 3, 4, 7, 8, 19]) (.two (.leaf) (.leaf))) (.cut (.one (.cut (.reg [2, 3, 4, 7, 8, 9]) (.cut (.reg [2, 3, 4, 7, 8, 9, 10, 11]) (.cut (.reg [2, 3, 4, 7, 8, 9, 10, 11, 12]) (.cut (.cut (.reg [2, 3, 4, 7, 8, 9, 10, 50]) (.two (.leaf) (.leaf))) (.cut (.drw (.q 0 <| .q 1 <| .q 2 <| .q 3 <| .q 4 <| .q 5 <| .q 6 <| .q 7 <| .q 8 <| .q 9 <| .q 10 <| .q 11 <| .q 12 <| .q 13 <| .q 14 <| .a 15 [10, 9, 8, 7, 6, 5, 4, 3, 2, 1, 0] (.a 16 [9, 8, 7, 6, 5, 4, 3, 2, 1, 0] (.q 17 <| .a 18 [9, 8, 7, 6, 5, 4, 3, 2, 1, 0] (.a 19 [] (.fin) .no) .no) (.a 18 [10, 9, 8, 7, 6, 5, 4, 3, 2, 1, 0] (.a 16 [9, 8, 7, 6, 5, 4, 3, 2, 1, 0] (.q 17 <| .a 19 [] (.fin) .no) .no) .no)) (.a 18 [13, 12, 11, 10, 9, 8, 7, 6, 5, 4, 3, 2, 1, 0] (.a 15 [10, 9, 8, 7, 6, 5, 4, 3, 2, 1, 0] (.a 16 [9, 8, 7, 6, 5, 4, 3, 2, 1, 0] (.q 17 <| .a 19 [] (.fin) .no) .no) .no) .no)) [2, 3, 4, 7, 8, 10, 14]) (.reg [2, 3, 4, 7, 8]))))))) (.reg [2, 3, 4, 7, 8])))))) (.cut (.reg [6]) (.leaf))))
def clerestoryref18_Seen.l0 : RC :=
  (.cut (.cut (.reg [
    ⟨(some 15), .mov (.t 8), none⟩,
    ⟨(some 16), .faddr 2 (.t 4), none⟩,
    ⟨(some 17), .load false 1 (.t 16), none⟩,
    ⟨(some 18), .lenR (.t 17), none⟩,
    ⟨(some 19), .bin .lss (.t 15) (.t 18), none⟩] [2, 3, 4, 7, 8, 19]) <|
  (.cond (.t 19)
    .skip
    (.exit 0))) <|
  (.cut (.block 1 <|
    (.cut (.reg [
      ⟨(some 22), .faddr 2 (.t 4), none⟩,
      ⟨(some 23), .load false 1 (.t 22), none⟩,
      ⟨(some 24), .mov (.t 8), none⟩,
      ⟨(some 25), .iaR 8 (.t 23) (.t 24), none⟩,
      ⟨(some 26), .load true 8 (.t 25), none⟩,
      ⟨(some 9), .alloc T.api_Row [(.d (.v (.string ⟨#[]⟩))), (.d (.v (.string ⟨#[]⟩))), (.d (.v (.bool false))), (.d (.v (.int .i64 0))), (.d (.v (.int .i64 0))), (.d (.v (.int .i64 0))), (.d (.v (.int .i64 0))), (.d (.v (.slice none 0 0)))], none⟩,
      ⟨none, .store 8 (.t 9) (.t 26), none⟩] [2, 3, 4, 7, 8, 9]) <|
    (.cut (.reg [
      ⟨(some 28), .load true 5 (.t 3), none⟩,
      ⟨(some 29), .load true 3 (.t 4), none⟩,
      ⟨(some 30), .load true 8 (.t 9), none⟩,
      ⟨(some 31), .call F.clerestoryref18_Mirror [(.t 28), (.t 29), (.t 30)], none⟩,
      ⟨(some 27), .mov (.t 31), none⟩,
      ⟨(some 32), .extr (.t 27) 0, none⟩,
      ⟨(some 33), .extr (.t 27) 1, none⟩,
      ⟨(some 10), .alloc T.api_Part [(.d (.v (.string ⟨#[]⟩))), (.d (.v (.int .i64 0))), (.d (.v (.slice none 0 0)))], none⟩,
      ⟨none, .store 3 (.t 10) (.t 32), none⟩,
      ⟨(some 11), .mov (.t 33), none⟩] [2, 3, 4, 7, 8, 9, 10, 11]) <|
    (.cut (.reg [
      ⟨(some 35), .load true 8 (.t 9), none⟩,
      ⟨(some 36), .faddr 1 (.t 4), none⟩,
      ⟨(some 37), .load false 1 (.t 36), none⟩,
      ⟨(some 38), .faddr 3 (.t 3), none⟩,
      ⟨(some 39), .load false 1 (.t 38), none⟩,
      ⟨(some 40), .call F.clerestoryref07_Best [(.t 35), (.t 37), (.t 39)], none⟩,
      ⟨(some 34), .mov (.t 40), none⟩,
      ⟨(some 41), .extr (.t 34) 0, none⟩,
      ⟨(some 42), .extr (.t 34) 1, none⟩,
      ⟨(some 12), .alloc T.api_Cell [(.d (.v (.string ⟨#[]⟩))), (.d (.v (.bool false))), (.d (.v (.int .i64 0))), (.d (.v (.int .i64 0)))], none⟩,
      ⟨none, .store 4 (.t 12) (.t 41), none⟩,
      ⟨(some 13), .mov (.t 42), none⟩] [2, 3, 4, 7, 8, 9, 10, 11, 12]) <|
    (.cut (.cut (.reg [
      ⟨(some 43), .mov (.t 11), none⟩,
      ⟨(some 44), .un .not (.t 43), none⟩,
      ⟨(some 45), .mov (.t 44), none⟩,
      ⟨(some 46), .load true 4 (.t 12), some (45, false)⟩,
      ⟨(some 47), .mov (.t 2), some (45, false)⟩,
      ⟨(some 48), .call F.clerestoryref06_Seen [(.t 46), (.t 47)], some (45, false)⟩,
      ⟨(some 49), .un .not (.t 48), some (45, false)⟩,
      ⟨(some 50), .pick (.t 45) (.c (.d (.v (.bool true)))) (.t 49), none⟩] [2, 3, 4, 7, 8, 9, 10, 50]) <|
    (.cond (.t 50)
      (.exit 1)
      .skip)) <|
    (.cut (.drw (
      .q ⟨(some 51), .faddr 2 (.t 10), none⟩ <|
      .q ⟨(some 52), .load false 1 (.t 51), none⟩ <|
      .q ⟨(some 53), .iaR 8 (.t 52) (.c (.d (.v (.int .i64 0)))), none⟩ <|
      .q ⟨(some 54), .faddr 0 (.t 53), none⟩ <|
      .q ⟨(some 55), .load false 1 (.t 54), none⟩ <|
      .q ⟨(some 56), .faddr 2 (.t 10), none⟩ <|
      .q ⟨(some 57), .load false 1 (.t 56), none⟩ <|
      .q ⟨(some 58), .iaR 8 (.t 57) (.c (.d (.v (.int .i64 0)))), none⟩ <|
      .q ⟨(some 59), .faddr 1 (.t 58), none⟩ <|
      .q ⟨(some 60), .load true 4 (.t 59), none⟩ <|
      .q ⟨(some 61), .load true 5 (.t 3), none⟩ <|
      .q ⟨(some 62), .load true 8 (.t 9), none⟩ <|
      .q ⟨(some 63), .faddr 1 (.t 4), none⟩ <|
      .q ⟨(some 64), .load false 1 (.t 63), none⟩ <|
      .q ⟨(some 65), .mov (.t 2), none⟩ <|
      .a ⟨(some 66), .call F.clerestoryref07_Seen [(.t 62), (.t 64), (.t 65)], none⟩ [⟨(some 61), .load true 5 (.t 3), none⟩, ⟨(some 60), .load true 4 (.t 59), none⟩, ⟨(some 59), .faddr 1 (.t 58), none⟩, ⟨(some 58), .iaR 8 (.t 57) (.c (.d (.v (.int .i64 0)))), none⟩, ⟨(some 57), .load false 1 (.t 56), none⟩, ⟨(some 56), .faddr 2 (.t 10), none⟩, ⟨(some 55), .load false 1 (.t 54), none⟩, ⟨(some 54), .faddr 0 (.t 53), none⟩, ⟨(some 53), .iaR 8 (.t 52) (.c (.d (.v (.int .i64 0)))), none⟩, ⟨(some 52), .load false 1 (.t 51), none⟩, ⟨(some 51), .faddr 2 (.t 10), none⟩] (
      .a ⟨(some 67), .call F.clerestoryref18_pick [(.t 61), (.t 66)], none⟩ [⟨(some 60), .load true 4 (.t 59), none⟩, ⟨(some 59), .faddr 1 (.t 58), none⟩, ⟨(some 58), .iaR 8 (.t 57) (.c (.d (.v (.int .i64 0)))), none⟩, ⟨(some 57), .load false 1 (.t 56), none⟩, ⟨(some 56), .faddr 2 (.t 10), none⟩, ⟨(some 55), .load false 1 (.t 54), none⟩, ⟨(some 54), .faddr 0 (.t 53), none⟩, ⟨(some 53), .iaR 8 (.t 52) (.c (.d (.v (.int .i64 0)))), none⟩, ⟨(some 52), .load false 1 (.t 51), none⟩, ⟨(some 51), .faddr 2 (.t 10), none⟩] (
        .q ⟨(some 68), .build [(.d (.v (.string ⟨#[]⟩))), (.d (.v (.string ⟨#[]⟩))), (.d (.v (.bool false))), (.d (.v (.int .i64 0))), (.d (.v (.int .i64 0))), (.d (.v (.int .i64 0))), (.d (.v (.int .i64 0))), (.d (.v (.slice none 0 0)))] [(0, 1, (.t 55)), (1, 4, (.t 60)), (7, 1, (.t 67))], none⟩ <|
          .a ⟨(some 14), .alloc T.api_Row [(.d (.v (.string ⟨#[]⟩))), (.d (.v (.string ⟨#[]⟩))), (.d (.v (.bool false))), (.d (.v (.int .i64 0))), (.d (.v (.int .i64 0))), (.d (.v (.int .i64 0))), (.d (.v (.int .i64 0))), (.d (.v (.slice none 0 0)))], none⟩ [⟨(some 60), .load true 4 (.t 59), none⟩, ⟨(some 59), .faddr 1 (.t 58), none⟩, ⟨(some 58), .iaR 8 (.t 57) (.c (.d (.v (.int .i64 0)))), none⟩, ⟨(some 57), .load false 1 (.t 56), none⟩, ⟨(some 56), .faddr 2 (.t 10), none⟩, ⟨(some 55), .load false 1 (.t 54), none⟩, ⟨(some 54), .faddr 0 (.t 53), none⟩, ⟨(some 53), .iaR 8 (.t 52) (.c (.d (.v (.int .i64 0)))), none⟩, ⟨(some 52), .load false 1 (.t 51), none⟩, ⟨(some 51), .faddr 2 (.t 10), none⟩] (
          .a ⟨none, .store 8 (.t 14) (.t 68), none⟩ [] (
            .fin) .no) .no) (
        .a ⟨(some 14), .alloc T.api_Row [(.d (.v (.string ⟨#[]⟩))), (.d (.v (.string ⟨#[]⟩))), (.d (.v (.bool false))), (.d (.v (.int .i64 0))), (.d (.v (.int .i64 0))), (.d (.v (.int .i64 0))), (.d (.v (.int .i64 0))), (.d (.v (.slice none 0 0)))], none⟩ [⟨(some 61), .load true 5 (.t 3), none⟩, ⟨(some 60), .load true 4 (.t 59), none⟩, ⟨(some 59), .faddr 1 (.t 58), none⟩, ⟨(some 58), .iaR 8 (.t 57) (.c (.d (.v (.int .i64 0)))), none⟩, ⟨(some 57), .load false 1 (.t 56), none⟩, ⟨(some 56), .faddr 2 (.t 10), none⟩, ⟨(some 55), .load false 1 (.t 54), none⟩, ⟨(some 54), .faddr 0 (.t 53), none⟩, ⟨(some 53), .iaR 8 (.t 52) (.c (.d (.v (.int .i64 0)))), none⟩, ⟨(some 52), .load false 1 (.t 51), none⟩, ⟨(some 51), .faddr 2 (.t 10), none⟩] (
          .a ⟨(some 67), .call F.clerestoryref18_pick [(.t 61), (.t 66)], none⟩ [⟨(some 60), .load true 4 (.t 59), none⟩, ⟨(some 59), .faddr 1 (.t 58), none⟩, ⟨(some 58), .iaR 8 (.t 57) (.c (.d (.v (.int .i64 0)))), none⟩, ⟨(some 57), .load false 1 (.t 56), none⟩, ⟨(some 56), .faddr 2 (.t 10), none⟩, ⟨(some 55), .load false 1 (.t 54), none⟩, ⟨(some 54), .faddr 0 (.t 53), none⟩, ⟨(some 53), .iaR 8 (.t 52) (.c (.d (.v (.int .i64 0)))), none⟩, ⟨(some 52), .load false 1 (.t 51), none⟩, ⟨(some 51), .faddr 2 (.t 10), none⟩] (
            .q ⟨(some 68), .build [(.d (.v (.string ⟨#[]⟩))), (.d (.v (.string ⟨#[]⟩))), (.d (.v (.bool false))), (.d (.v (.int .i64 0))), (.d (.v (.int .i64 0))), (.d (.v (.int .i64 0))), (.d (.v (.int .i64 0))), (.d (.v (.slice none 0 0)))] [(0, 1, (.t 55)), (1, 4, (.t 60)), (7, 1, (.t 67))], none⟩ <|
              .a ⟨none, .store 8 (.t 14) (.t 68), none⟩ [] (
              .fin) .no) .no) .no)) (
      .a ⟨(some 14), .alloc T.api_Row [(.d (.v (.string ⟨#[]⟩))), (.d (.v (.string ⟨#[]⟩))), (.d (.v (.bool false))), (.d (.v (.int .i64 0))), (.d (.v (.int .i64 0))), (.d (.v (.int .i64 0))), (.d (.v (.int .i64 0))), (.d (.v (.slice none 0 0)))], none⟩ [⟨(some 64), .load false 1 (.t 63), none⟩, ⟨(some 63), .faddr 1 (.t 4), none⟩, ⟨(some 62), .load true 8 (.t 9), none⟩, ⟨(some 61), .load true 5 (.t 3), none⟩, ⟨(some 60), .load true 4 (.t 59), none⟩, ⟨(some 59), .faddr 1 (.t 58), none⟩, ⟨(some 58), .iaR 8 (.t 57) (.c (.d (.v (.int .i64 0)))), none⟩, ⟨(some 57), .load false 1 (.t 56), none⟩, ⟨(some 56), .faddr 2 (.t 10), none⟩, ⟨(some 55), .load false 1 (.t 54), none⟩, ⟨(some 54), .faddr 0 (.t 53), none⟩, ⟨(some 53), .iaR 8 (.t 52) (.c (.d (.v (.int .i64 0)))), none⟩, ⟨(some 52), .load false 1 (.t 51), none⟩, ⟨(some 51), .faddr 2 (.t 10), none⟩] (
        .a ⟨(some 66), .call F.clerestoryref07_Seen [(.t 62), (.t 64), (.t 65)], none⟩ [⟨(some 61), .load true 5 (.t 3), none⟩, ⟨(some 60), .load true 4 (.t 59), none⟩, ⟨(some 59), .faddr 1 (.t 58), none⟩, ⟨(some 58), .iaR 8 (.t 57) (.c (.d (.v (.int .i64 0)))), none⟩, ⟨(some 57), .load false 1 (.t 56), none⟩, ⟨(some 56), .faddr 2 (.t 10), none⟩, ⟨(some 55), .load false 1 (.t 54), none⟩, ⟨(some 54), .faddr 0 (.t 53), none⟩, ⟨(some 53), .iaR 8 (.t 52) (.c (.d (.v (.int .i64 0)))), none⟩, ⟨(some 52), .load false 1 (.t 51), none⟩, ⟨(some 51), .faddr 2 (.t 10), none⟩] (
          .a ⟨(some 67), .call F.clerestoryref18_pick [(.t 61), (.t 66)], none⟩ [⟨(some 60), .load true 4 (.t 59), none⟩, ⟨(some 59), .faddr 1 (.t 58), none⟩, ⟨(some 58), .iaR 8 (.t 57) (.c (.d (.v (.int .i64 0)))), none⟩, ⟨(some 57), .load false 1 (.t 56), none⟩, ⟨(some 56), .faddr 2 (.t 10), none⟩, ⟨(some 55), .load false 1 (.t 54), none⟩, ⟨(some 54), .faddr 0 (.t 53), none⟩, ⟨(some 53), .iaR 8 (.t 52) (.c (.d (.v (.int .i64 0)))), none⟩, ⟨(some 52), .load false 1 (.t 51), none⟩, ⟨(some 51), .faddr 2 (.t 10), none⟩] (
            .q ⟨(some 68), .build [(.d (.v (.string ⟨#[]⟩))), (.d (.v (.string ⟨#[]⟩))), (.d (.v (.bool false))), (.d (.v (.int .i64 0))), (.d (.v (.int .i64 0))), (.d (.v (.int .i64 0))), (.d (.v (.int .i64 0))), (.d (.v (.slice none 0 0)))] [(0, 1, (.t 55)), (1, 4, (.t 60)), (7, 1, (.t 67))], none⟩ <|
              .a ⟨none, .store 8 (.t 14) (.t 68), none⟩ [] (
              .fin) .no) .no) .no) .no)) [2, 3, 4, 7, 8, 10, 14]) <|
    (.reg [
      ⟨(some 69), .mov (.t 7), none⟩,
      ⟨(some 70), .faddr 0 (.t 10), none⟩,
      ⟨(some 71), .load false 1 (.t 70), none⟩,
      ⟨(some 72), .load true 8 (.t 14), none⟩,
      ⟨(some 73), .bslice T.api_Row 8 1 [(.d (.v (.string ⟨#[]⟩))), (.d (.v (.string ⟨#[]⟩))), (.d (.v (.bool false))), (.d (.v (.int .i64 0))), (.d (.v (.int .i64 0))), (.d (.v (.int .i64 0))), (.d (.v (.int .i64 0))), (.d (.v (.slice none 0 0)))] [(0, (.t 72))], none⟩,
      ⟨(some 74), .build [(.d (.v (.string ⟨#[]⟩))), (.d (.v (.int .i64 0))), (.d (.v (.slice none 0 0)))] [(0, 1, (.t 71)), (2, 1, (.t 73))], none⟩,
      ⟨(some 75), .bslice T.api_Part 3 1 [(.d (.v (.string ⟨#[]⟩))), (.d (.v (.int .i64 0))), (.d (.v (.slice none 0 0)))] [(0, (.t 74))], none⟩,
      ⟨(some 76), .app T.api_Part 3 48 (.t 69) (.t 75), none⟩,
      ⟨(some 7), .mov (.t 76), none⟩] [2, 3, 4, 7, 8]))))))) <|
  (.reg [
    ⟨(some 20), .mov (.t 8), none⟩,
    ⟨(some 21), .bin .add (.t 20) (.c (.d (.v (.int .i64 1)))), none⟩,
    ⟨(some 8), .mov (.t 21), none⟩] [2, 3, 4, 7, 8])))

def clerestoryref18_Seen.code : RC :=
  (.cut (.reg [
    ⟨(some 3), .box T.api_View (.t 0), none⟩,
    ⟨(some 4), .box T.api_Part (.t 1), none⟩,
    ⟨(some 6), .mov (.c (.d (.v (.slice none 0 0)))), none⟩] [2, 3, 4]) <|
  (.cut (.reg [⟨(some 7), .mov (.c (.d (.v (.slice none 0 0)))), none⟩] [2, 3, 4, 7]) <|
  (.cut (.cut (.reg [⟨(some 8), .mov (.c (.d (.v (.int .i64 0)))), none⟩] [2, 3, 4, 7, 8]) <|
  (.block 0 <|
    (.loop clerestoryref18_Seen.l0))) <|
  (.cut (.reg [
    ⟨(some 77), .mov (.t 7), none⟩,
    ⟨(some 6), .mov (.t 77), none⟩] [6]) <|
  .ret))))
def clerestoryref18_Seen.rf : RF := ⟨78, [.mov (.t 6)], clerestoryref18_Seen.code⟩
theorem clerestoryref18_Seen.res : resF prog F.clerestoryref18_Seen clerestoryref18_Seen.sc = some clerestoryref18_Seen.rf := by kernel_rfl

def clerestorylaw18_ProjectAll.sc : SC := .cut (.reg [2, 3, 4, 5, 6]) (.cut (.cut (.reg [2, 3, 4, 5, 6, 41]) (.two (.cut (.reg [10]) (.leaf)) (.leaf))) (.cut (.reg [2, 3, 4, 5, 6, 11]) (.cut (.reg [2, 3, 4, 5, 6, 11, 13, 14, 15]) (.cut (.reg [2, 3, 4, 5, 6, 11, 13, 14, 15, 16, 17, 18]) (.cut (.cut (.reg [2, 5, 6, 11, 80]) (.two (.cut (.reg [10]) (.leaf)) (.leaf))) (.cut (.cut (.reg [2, 5, 6, 11, 83]) (.two (.cut (.reg [10]) (.leaf)) (.leaf))) (.cut (.cut (.reg [2, 5, 6, 11, 19]) (.one (.one (.cut (.cut (.reg [2, 5, 6, 11, 19, 89]) (.two (.leaf) (.leaf))) (.cut (.one (.cut (.drw (.q 0 <| .q 1 <| .q 2 <| .q 3 <| .q 4 <| .q 5 <| .q 6 <| .q 7 <| .a 8 [] (.q 9 <| .q 10 <| .q 11 <| .a 12 [] (.a 13 [] (.a 14 [] (.fin) .no) .no) .no) (.a 12 [7, 6, 4, 3, 2, 1, 0] (.a 8 [] (.q 9 <| .q 10 <| .q 11 <| .a 13 [] (.a 14 [] (.fin) .no) .no) .no) .no)) [2, 5, 6, 11, 19, 20, 21]) (.cut (.drw (.q 0 <| .q 1 <| .q 2 <| .q 3 <| .q 4 <| .q 5 <| .q 6 <| .a 7 [] (.q 8 <| .q 9 <| .q 10 <| .a 11 [] (.a 12 [] (.a 13 [] (.fin) .no) .no) .no) (.a 11 [6, 5, 3, 2, 1, 0] (.a 7 [] (.q 8 <| .q 9 <| .q 10 <| .a 12 [] (.a 13 [] (.fin) .no) .no) .no) .no)) [2, 5, 6, 11, 19, 20, 21, 22, 23]) (.cut (.reg [2, 5, 6, 11, 19, 123]) (.two (.cut (.reg [10]) (.leaf)) (.leaf)))))) (.reg [2, 5, 6, 11, 19])))))) (.cut (.drw (.q 0 <| .q 1 <| .q 2 <| .q 4 <| .q 5 <| .a 3 [5, 4] (.a 6 [] (.a 7 [] (.q 8 <| .q 9 <| .q 10 <| .q 11 <| .q 12 <| .q 14 <| .q 15 <| .q 16 <| .a 13 [15, 14] (.a 17 [] (.a 18 [] (.q 19 <| .q 20 <| .a 21 [] (.q 22 <| .a 23 [] (.fin) .no) .no) .no) .no) .no) .no) .no) .no) [10]) (.leaf)))))))))
def clerestorylaw18_ProjectAll.l0 : RC :=
  (.cut (.cut (.reg [
    ⟨(some 85), .mov (.t 19), none⟩,
    ⟨(some 86), .faddr 2 (.t 6), none⟩,
    ⟨(some 87), .load false 1 (.t 86), none⟩,
    ⟨(some 88), .lenR (.t 87), none⟩,
    ⟨(some 89), .bin .lss (.t 85) (.t 88), none⟩] [2, 5, 6, 11, 19, 89]) <|
  (.cond (.t 89)
    .skip
    (.exit 0))) <|
  (.cut (.block 1 <|
    (.cut (.drw (
      .q ⟨(some 93), .load true 7 (.t 11), none⟩ <|
      .q ⟨(some 94), .load true 5 (.t 5), none⟩ <|
      .q ⟨(some 95), .load true 3 (.t 6), none⟩ <|
      .q ⟨(some 96), .faddr 2 (.t 6), none⟩ <|
      .q ⟨(some 97), .load false 1 (.t 96), none⟩ <|
      .q ⟨(some 98), .mov (.t 19), none⟩ <|
      .q ⟨(some 99), .iaR 8 (.t 97) (.t 98), none⟩ <|
      .q ⟨(some 100), .load true 8 (.t 99), none⟩ <|
      .a ⟨(some 101), .call F.project_Mirror [(.t 93), (.t 94), (.t 95), (.t 100)], none⟩ [] (
      .q ⟨(some 92), .mov (.t 101), none⟩ <|
        .q ⟨(some 102), .extr (.t 92) 0, none⟩ <|
        .q ⟨(some 103), .extr (.t 92) 1, none⟩ <|
        .a ⟨(some 20), .alloc T.api_Part [(.d (.v (.string ⟨#[]⟩))), (.d (.v (.int .i64 0))), (.d (.v (.slice none 0 0)))], none⟩ [] (
        .a ⟨none, .store 3 (.t 20) (.t 102), none⟩ [] (
          .a ⟨(some 21), .mov (.t 103), none⟩ [] (
            .fin) .no) .no) .no) (
      .a ⟨(some 20), .alloc T.api_Part [(.d (.v (.string ⟨#[]⟩))), (.d (.v (.int .i64 0))), (.d (.v (.slice none 0 0)))], none⟩ [⟨(some 100), .load true 8 (.t 99), none⟩, ⟨(some 99), .iaR 8 (.t 97) (.t 98), none⟩, ⟨(some 97), .load false 1 (.t 96), none⟩, ⟨(some 96), .faddr 2 (.t 6), none⟩, ⟨(some 95), .load true 3 (.t 6), none⟩, ⟨(some 94), .load true 5 (.t 5), none⟩, ⟨(some 93), .load true 7 (.t 11), none⟩] (
        .a ⟨(some 101), .call F.project_Mirror [(.t 93), (.t 94), (.t 95), (.t 100)], none⟩ [] (
          .q ⟨(some 92), .mov (.t 101), none⟩ <|
            .q ⟨(some 102), .extr (.t 92) 0, none⟩ <|
            .q ⟨(some 103), .extr (.t 92) 1, none⟩ <|
            .a ⟨none, .store 3 (.t 20) (.t 102), none⟩ [] (
            .a ⟨(some 21), .mov (.t 103), none⟩ [] (
              .fin) .no) .no) .no) .no)) [2, 5, 6, 11, 19, 20, 21]) <|
    (.cut (.drw (
      .q ⟨(some 105), .load true 5 (.t 5), none⟩ <|
      .q ⟨(some 106), .load true 3 (.t 6), none⟩ <|
      .q ⟨(some 107), .faddr 2 (.t 6), none⟩ <|
      .q ⟨(some 108), .load false 1 (.t 107), none⟩ <|
      .q ⟨(some 109), .mov (.t 19), none⟩ <|
      .q ⟨(some 110), .iaR 8 (.t 108) (.t 109), none⟩ <|
      .q ⟨(some 111), .load true 8 (.t 110), none⟩ <|
      .a ⟨(some 112), .call F.clerestoryref18_Mirror [(.t 105), (.t 106), (.t 111)], none⟩ [] (
      .q ⟨(some 104), .mov (.t 112), none⟩ <|
        .q ⟨(some 113), .extr (.t 104) 0, none⟩ <|
        .q ⟨(some 114), .extr (.t 104) 1, none⟩ <|
        .a ⟨(some 22), .alloc T.api_Part [(.d (.v (.string ⟨#[]⟩))), (.d (.v (.int .i64 0))), (.d (.v (.slice none 0 0)))], none⟩ [] (
        .a ⟨none, .store 3 (.t 22) (.t 113), none⟩ [] (
          .a ⟨(some 23), .mov (.t 114), none⟩ [] (
            .fin) .no) .no) .no) (
      .a ⟨(some 22), .alloc T.api_Part [(.d (.v (.string ⟨#[]⟩))), (.d (.v (.int .i64 0))), (.d (.v (.slice none 0 0)))], none⟩ [⟨(some 111), .load true 8 (.t 110), none⟩, ⟨(some 110), .iaR 8 (.t 108) (.t 109), none⟩, ⟨(some 108), .load false 1 (.t 107), none⟩, ⟨(some 107), .faddr 2 (.t 6), none⟩, ⟨(some 106), .load true 3 (.t 6), none⟩, ⟨(some 105), .load true 5 (.t 5), none⟩] (
        .a ⟨(some 112), .call F.clerestoryref18_Mirror [(.t 105), (.t 106), (.t 111)], none⟩ [] (
          .q ⟨(some 104), .mov (.t 112), none⟩ <|
            .q ⟨(some 113), .extr (.t 104) 0, none⟩ <|
            .q ⟨(some 114), .extr (.t 104) 1, none⟩ <|
            .a ⟨none, .store 3 (.t 22) (.t 113), none⟩ [] (
            .a ⟨(some 23), .mov (.t 114), none⟩ [] (
              .fin) .no) .no) .no) .no)) [2, 5, 6, 11, 19, 20, 21, 22, 23]) <|
    (.cut (.reg [
      ⟨(some 115), .load true 3 (.t 20), none⟩,
      ⟨(some 116), .load true 3 (.t 22), none⟩,
      ⟨(some 117), .call F.clerestoryref08_Same [(.t 115), (.t 116)], none⟩,
      ⟨(some 118), .un .not (.t 117), none⟩,
      ⟨(some 119), .mov (.t 118), none⟩,
      ⟨(some 120), .mov (.t 21), some (119, false)⟩,
      ⟨(some 121), .mov (.t 23), some (119, false)⟩,
      ⟨(some 122), .eqb true (.t 120) (.t 121), some (119, false)⟩,
      ⟨(some 123), .pick (.t 119) (.c (.d (.v (.bool true)))) (.t 122), none⟩] [2, 5, 6, 11, 19, 123]) <|
    (.cond (.t 123)
      (.cut (.reg [⟨(some 10), .mov (.c (.d (.v (.bool false)))), none⟩] [10]) <|
      .ret)
      .skip))))) <|
  (.reg [
    ⟨(some 90), .mov (.t 19), none⟩,
    ⟨(some 91), .bin .add (.t 90) (.c (.d (.v (.int .i64 1)))), none⟩,
    ⟨(some 19), .mov (.t 91), none⟩] [2, 5, 6, 11, 19])))

def clerestorylaw18_ProjectAll.code : RC :=
  (.cut (.reg [
    ⟨(some 5), .box T.api_View (.t 0), none⟩,
    ⟨(some 6), .box T.api_Part (.t 1), none⟩,
    ⟨(some 10), .mov (.c (.d (.v (.bool false)))), none⟩] [2, 3, 4, 5, 6]) <|
  (.cut (.cut (.reg [
    ⟨(some 24), .load true 5 (.t 5), none⟩,
    ⟨(some 25), .call F.clerestorylaw18_few [(.t 24)], none⟩,
    ⟨(some 26), .un .not (.t 25), none⟩,
    ⟨(some 27), .mov (.t 26), none⟩,
    ⟨(some 28), .load true 3 (.t 6), some (27, false)⟩,
    ⟨(some 29), .call F.clerestorylaw00_FewPart [(.t 28), (.c (.d (.v (.int .i64 20))))], some (27, false)⟩,
    ⟨(some 30), .un .not (.t 29), some (27, false)⟩,
    ⟨(some 31), .pick (.t 27) (.c (.d (.v (.bool true)))) (.t 30), none⟩,
    ⟨(some 32), .mov (.t 31), none⟩,
    ⟨(some 33), .mov (.t 3), some (32, false)⟩,
    ⟨(some 34), .lenS (.t 33), some (32, false)⟩,
    ⟨(some 35), .bin .gtr (.t 34) (.c (.d (.v (.int .i64 300)))), some (32, false)⟩,
    ⟨(some 36), .pick (.t 32) (.c (.d (.v (.bool true)))) (.t 35), none⟩,
    ⟨(some 37), .mov (.t 36), none⟩,
    ⟨(some 38), .mov (.t 4), some (37, false)⟩,
    ⟨(some 39), .lenS (.t 38), some (37, false)⟩,
    ⟨(some 40), .bin .gtr (.t 39) (.c (.d (.v (.int .i64 300)))), some (37, false)⟩,
    ⟨(some 41), .pick (.t 37) (.c (.d (.v (.bool true)))) (.t 40), none⟩] [2, 3, 4, 5, 6, 41]) <|
  (.cond (.t 41)
    (.cut (.reg [
      ⟨(some 42), .call F.clerestorylaw18_awake [], none⟩,
      ⟨(some 10), .mov (.t 42), none⟩] [10]) <|
    .ret)
    .skip)) <|
  (.cut (.reg [
    ⟨(some 44), .call F.clerestorylaw00_View [], none⟩,
    ⟨(some 43), .mov (.t 44), none⟩,
    ⟨(some 45), .extr (.t 43) 0, none⟩,
    ⟨(some 46), .extr (.t 43) 1, none⟩,
    ⟨(some 11), .alloc T.api_Table [(.d (.v (.string ⟨#[]⟩))), (.d (.v (.int .i64 0))), (.d (.v (.string ⟨#[]⟩))), (.d (.v (.int .i64 0))), (.d (.v (.string ⟨#[]⟩))), (.d (.v (.int .i64 0))), (.d (.v (.slice none 0 0)))], none⟩,
    ⟨(some 12), .alloc T.api_View [(.d (.v (.string ⟨#[]⟩))), (.d (.v (.int .i64 0))), (.d (.v (.string ⟨#[]⟩))), (.d (.v (.string ⟨#[]⟩))), (.d (.v (.slice none 0 0)))], none⟩,
    ⟨none, .store 7 (.t 11) (.t 45), none⟩,
    ⟨none, .store 5 (.t 12) (.t 46), none⟩] [2, 3, 4, 5, 6, 11]) <|
  (.cut (.reg [
    ⟨(some 48), .mov (.t 3), none⟩,
    ⟨(some 49), .call F.project_Split [(.t 48)], none⟩,
    ⟨(some 47), .mov (.t 49), none⟩,
    ⟨(some 50), .extr (.t 47) 0, none⟩,
    ⟨(some 51), .extr (.t 47) 1, none⟩,
    ⟨(some 52), .extr (.t 47) 2, none⟩,
    ⟨(some 13), .mov (.t 50), none⟩,
    ⟨(some 14), .mov (.t 51), none⟩,
    ⟨(some 15), .mov (.t 52), none⟩] [2, 3, 4, 5, 6, 11, 13, 14, 15]) <|
  (.cut (.reg [
    ⟨(some 54), .mov (.t 3), none⟩,
    ⟨(some 55), .call F.clerestoryref18_Split [(.t 54)], none⟩,
    ⟨(some 53), .mov (.t 55), none⟩,
    ⟨(some 56), .extr (.t 53) 0, none⟩,
    ⟨(some 57), .extr (.t 53) 1, none⟩,
    ⟨(some 58), .extr (.t 53) 2, none⟩,
    ⟨(some 16), .mov (.t 56), none⟩,
    ⟨(some 17), .mov (.t 57), none⟩,
    ⟨(some 18), .mov (.t 58), none⟩] [2, 3, 4, 5, 6, 11, 13, 14, 15, 16, 17, 18]) <|
  (.cut (.cut (.reg [
    ⟨(some 59), .mov (.t 13), none⟩,
    ⟨(some 60), .mov (.t 16), none⟩,
    ⟨(some 61), .bin .neq (.t 59) (.t 60), none⟩,
    ⟨(some 62), .mov (.t 61), none⟩,
    ⟨(some 63), .mov (.t 14), some (62, false)⟩,
    ⟨(some 64), .mov (.t 17), some (62, false)⟩,
    ⟨(some 65), .bin .neq (.t 63) (.t 64), some (62, false)⟩,
    ⟨(some 66), .pick (.t 62) (.c (.d (.v (.bool true)))) (.t 65), none⟩,
    ⟨(some 67), .mov (.t 66), none⟩,
    ⟨(some 68), .mov (.t 15), some (67, false)⟩,
    ⟨(some 69), .mov (.t 18), some (67, false)⟩,
    ⟨(some 70), .eqb true (.t 68) (.t 69), some (67, false)⟩,
    ⟨(some 71), .pick (.t 67) (.c (.d (.v (.bool true)))) (.t 70), none⟩,
    ⟨(some 72), .mov (.t 71), none⟩,
    ⟨(some 73), .mov (.t 3), some (72, false)⟩,
    ⟨(some 74), .mov (.t 4), some (72, false)⟩,
    ⟨(some 75), .call F.project_Key [(.t 73), (.t 74)], some (72, false)⟩,
    ⟨(some 76), .mov (.t 3), some (72, false)⟩,
    ⟨(some 77), .mov (.t 4), some (72, false)⟩,
    ⟨(some 78), .call F.clerestoryref18_Key [(.t 76), (.t 77)], some (72, false)⟩,
    ⟨(some 79), .bin .neq (.t 75) (.t 78), some (72, false)⟩,
    ⟨(some 80), .pick (.t 72) (.c (.d (.v (.bool true)))) (.t 79), none⟩] [2, 5, 6, 11, 80]) <|
  (.cond (.t 80)
    (.cut (.reg [⟨(some 10), .mov (.c (.d (.v (.bool false)))), none⟩] [10]) <|
    .ret)
    .skip)) <|
  (.cut (.cut (.reg [
    ⟨(some 81), .load true 3 (.t 6), none⟩,
    ⟨(some 82), .call F.clerestoryref08_Check [(.t 81)], none⟩,
    ⟨(some 83), .un .not (.t 82), none⟩] [2, 5, 6, 11, 83]) <|
  (.cond (.t 83)
    (.cut (.reg [
      ⟨(some 84), .call F.clerestorylaw18_awake [], none⟩,
      ⟨(some 10), .mov (.t 84), none⟩] [10]) <|
    .ret)
    .skip)) <|
  (.cut (.cut (.reg [⟨(some 19), .mov (.c (.d (.v (.int .i64 0)))), none⟩] [2, 5, 6, 11, 19]) <|
  (.block 0 <|
    (.loop clerestorylaw18_ProjectAll.l0))) <|
  (.cut (.drw (
    .q ⟨(some 124), .load true 7 (.t 11), none⟩ <|
    .q ⟨(some 125), .load true 5 (.t 5), none⟩ <|
    .q ⟨(some 126), .load true 3 (.t 6), none⟩ <|
    .q ⟨(some 128), .load true 5 (.t 5), none⟩ <|
    .q ⟨(some 129), .load true 3 (.t 6), none⟩ <|
    .a ⟨(some 127), .call F.project_Full [(.t 124), (.t 125), (.t 126)], none⟩ [⟨(some 129), .load true 3 (.t 6), none⟩, ⟨(some 128), .load true 5 (.t 5), none⟩] (
    .a ⟨(some 130), .call F.clerestoryref18_Full [(.t 128), (.t 129)], none⟩ [] (
      .a ⟨(some 131), .call F.clerestorylaw00_SameParts [(.t 127), (.t 130)], none⟩ [] (
        .q ⟨(some 132), .mov (.t 131), none⟩ <|
          .q ⟨(some 133), .load true 7 (.t 11), some (132, true)⟩ <|
          .q ⟨(some 134), .load true 5 (.t 5), some (132, true)⟩ <|
          .q ⟨(some 135), .load true 3 (.t 6), some (132, true)⟩ <|
          .q ⟨(some 136), .mov (.t 2), some (132, true)⟩ <|
          .q ⟨(some 138), .load true 5 (.t 5), some (132, true)⟩ <|
          .q ⟨(some 139), .load true 3 (.t 6), some (132, true)⟩ <|
          .q ⟨(some 140), .mov (.t 2), some (132, true)⟩ <|
          .a ⟨(some 137), .call F.project_Seen [(.t 133), (.t 134), (.t 135), (.t 136)], some (132, true)⟩ [⟨(some 139), .load true 3 (.t 6), some (132, true)⟩, ⟨(some 138), .load true 5 (.t 5), some (132, true)⟩] (
          .a ⟨(some 141), .call F.clerestoryref18_Seen [(.t 138), (.t 139), (.t 140)], some (132, true)⟩ [] (
            .a ⟨(some 142), .call F.clerestorylaw00_SameParts [(.t 137), (.t 141)], some (132, true)⟩ [] (
              .q ⟨(some 143), .pick (.t 132) (.t 142) (.c (.d (.v (.bool false)))), none⟩ <|
                .q ⟨(some 144), .mov (.t 143), none⟩ <|
                .a ⟨(some 145), .call F.clerestorylaw18_awake [], some (144, true)⟩ [] (
                .q ⟨(some 146), .pick (.t 144) (.t 145) (.c (.d (.v (.bool false)))), none⟩ <|
                  .a ⟨(some 10), .mov (.t 146), none⟩ [] (
                  .fin) .no) .no) .no) .no) .no) .no) .no) .no) [10]) <|
  .ret)))))))))
def clerestorylaw18_ProjectAll.rf : RF := ⟨147, [.mov (.t 10)], clerestorylaw18_ProjectAll.code⟩
theorem clerestorylaw18_ProjectAll.res : resF prog F.clerestorylaw18_ProjectAll clerestorylaw18_ProjectAll.sc = some clerestorylaw18_ProjectAll.rf := by kernel_rfl

end Go.Eng
