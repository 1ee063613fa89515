/- Part 4 of the texts that the proof needs: the abstract machine, plain laws, contracts of the program's functions. No statement is claimed here. -/
import Derived.Test.YtbfickfpgiapmaaGreatPart3
set_option linter.unusedVariables false
set_option linter.unusedSimpArgs false
section
/- Calls of F_msg_Put in the first run, one by one. By program. -/
open Go Go.AM
namespace Go.Wk
set_option maxRecDepth 100000
set_option maxHeartbeats 0
def Puta0 : List AV := [.agg [.int .i64 1, .int .i64 100, .int .i64 1, .int .i64 0, .int .i64 0, .int .i64 0, .int .i64 0, .int .i64 0, .int .i64 0, .int .i64 1, .int .i64 0, .int .i64 0, .bool false, .bool false, .str [], .str [], .cplx .f64 0 0, .cplx .f64 0 0, .int .i64 0, .str [], .str [], .str [], .bool false, .nils, .nils, .nils, .cplx .f64 0 0, .cplx .f64 0 0, .int .i64 0, .nils, .nils]]
def Putr0 : AV := .trl 1 [[.int .u8 2], [.int .u8 200], [.int .u8 1], [.int .u8 2], [.int .u8 0], [.int .u8 0], [.int .u8 0], [.int .u8 0], [.int .u8 0], [.int .u8 0], [.int .u8 2], [.int .u8 0], [.int .u8 0], [.int .u8 0], [.int .u8 0], [.int .u8 0], [.int .u8 0], [.int .u8 0], [.int .u8 0], [.int .u8 0], [.int .u8 0], [.int .u8 0], [.int .u8 0], [.int .u8 0], [.int .u8 0], [.int .u8 0], [.int .u8 0], [.int .u8 0], [.int .u8 0], [.int .u8 0], [.int .u8 0], [.int .u8 0], [.int .u8 0], [.int .u8 0], [.int .u8 0], [.int .u8 0]]
theorem Pute0 : isAns (callT (envM mdA (orcOf [kTr])) 400 F_msg_Put Puta0) Putr0 = true := by kernel_rfl
theorem Putc0 : Contract PG F_msg_Put Puta0 [] Putr0 [] := con_tab (ak kTr_ok ank) Pute0
def Puta1 : List AV := [.agg [.int .i64 4, .int .i64 0, .int .i64 0, .int .i64 0, .int .i64 0, .int .i64 0, .int .i64 0, .int .i64 0, .int .i64 0, .int .i64 0, .int .i64 0, .int .i64 0, .bool false, .bool false, .str [], .str [], .cplx .f64 0 0, .cplx .f64 0 0, .int .i64 0, .str [], .str [], .str [], .bool false, .nils, .nils, .trl 5 [[.int .i64 0, .int .i64 0, .int .i64 0, .int .i64 0, .nils], [.int .i64 0, .int .i64 0, .int .i64 0, .int .i64 0, .nils]], .cplx .f64 0 0, .cplx .f64 0 0, .int .i64 0, .nils, .nils]]
def Putr1 : AV := .trl 1 [[.int .u8 8], [.int .u8 0], [.int .u8 0], [.int .u8 0], [.int .u8 0], [.int .u8 0], [.int .u8 0], [.int .u8 0], [.int .u8 0], [.int .u8 0], [.int .u8 0], [.int .u8 0], [.int .u8 0], [.int .u8 0], [.int .u8 0], [.int .u8 0], [.int .u8 0], [.int .u8 0], [.int .u8 0], [.int .u8 0], [.int .u8 0], [.int .u8 0], [.int .u8 0], [.int .u8 0], [.int .u8 0], [.int .u8 0], [.int .u8 0], [.int .u8 4], [.int .u8 0], [.int .u8 0], [.int .u8 0], [.int .u8 0], [.int .u8 0], [.int .u8 0], [.int .u8 0], [.int .u8 0], [.int .u8 0], [.int .u8 0], [.int .u8 0], [.int .u8 0], [.int .u8 0], [.int .u8 0], [.int .u8 0], [.int .u8 0], [.int .u8 0]]
theorem Pute1 : isAns (callT (envM mdA (orcOf [kTr])) 400 F_msg_Put Puta1) Putr1 = true := by kernel_rfl
theorem Putc1 : Contract PG F_msg_Put Puta1 [] Putr1 [] := con_tab (ak kTr_ok ank) Pute1
def Puta2 : List AV := [.agg [.int .i64 7, .int .i64 2, .int .i64 1, .int .i64 0, .int .i64 1, .int .i64 0, .int .i64 0, .int .i64 0, .int .i64 0, .int .i64 0, .int .i64 0, .int .i64 0, .bool false, .bool false, .str [], .str [], .cplx .f64 0 0, .cplx .f64 0 0, .int .i64 0, .str [], .str [], .str [], .bool false, .nils, .nils, .nils, .cplx .f64 0 0, .cplx .f64 0 0, .int .i64 0, .nils, .nils]]
def Putr2 : AV := .trl 1 [[.int .u8 14], [.int .u8 4], [.int .u8 2], [.int .u8 0], [.int .u8 2], [.int .u8 0], [.int .u8 0], [.int .u8 0], [.int .u8 0], [.int .u8 0], [.int .u8 0], [.int .u8 0], [.int .u8 0], [.int .u8 0], [.int .u8 0], [.int .u8 0], [.int .u8 0], [.int .u8 0], [.int .u8 0], [.int .u8 0], [.int .u8 0], [.int .u8 0], [.int .u8 0], [.int .u8 0], [.int .u8 0], [.int .u8 0], [.int .u8 0], [.int .u8 0], [.int .u8 0], [.int .u8 0], [.int .u8 0], [.int .u8 0], [.int .u8 0], [.int .u8 0], [.int .u8 0]]
theorem Pute2 : isAns (callT (envM mdA (orcOf [kTr])) 400 F_msg_Put Puta2) Putr2 = true := by kernel_rfl
theorem Putc2 : Contract PG F_msg_Put Puta2 [] Putr2 [] := con_tab (ak kTr_ok ank) Pute2
def Puta3 : List AV := [.agg [.int .i64 4, .int .i64 0, .int .i64 0, .int .i64 0, .int .i64 0, .int .i64 0, .int .i64 0, .int .i64 0, .int .i64 1, .int .i64 0, .int .i64 0, .int .i64 0, .bool false, .bool false, .str [], .str [], .cplx .f64 0 0, .cplx .f64 0 0, .int .i64 0, .str [], .str [], .str [], .bool false, .nils, .nils, .trl 5 [[.int .i64 0, .int .i64 0, .int .i64 0, .int .i64 0, .nils], [.int .i64 0, .int .i64 0, .int .i64 0, .int .i64 0, .nils]], .cplx .f64 0 0, .cplx .f64 0 0, .int .i64 0, .nils, .nils]]
def Putr3 : AV := .trl 1 [[.int .u8 8], [.int .u8 0], [.int .u8 0], [.int .u8 0], [.int .u8 0], [.int .u8 0], [.int .u8 0], [.int .u8 0], [.int .u8 2], [.int .u8 0], [.int .u8 0], [.int .u8 0], [.int .u8 0], [.int .u8 0], [.int .u8 0], [.int .u8 0], [.int .u8 0], [.int .u8 0], [.int .u8 0], [.int .u8 0], [.int .u8 0], [.int .u8 0], [.int .u8 0], [.int .u8 0], [.int .u8 0], [.int .u8 0], [.int .u8 0], [.int .u8 4], [.int .u8 0], [.int .u8 0], [.int .u8 0], [.int .u8 0], [.int .u8 0], [.int .u8 0], [.int .u8 0], [.int .u8 0], [.int .u8 0], [.int .u8 0], [.int .u8 0], [.int .u8 0], [.int .u8 0], [.int .u8 0], [.int .u8 0], [.int .u8 0], [.int .u8 0]]
theorem Pute3 : isAns (callT (envM mdA (orcOf [kTr])) 400 F_msg_Put Puta3) Putr3 = true := by kernel_rfl
theorem Putc3 : Contract PG F_msg_Put Puta3 [] Putr3 [] := con_tab (ak kTr_ok ank) Pute3
def Puta4 : List AV := [.agg [.int .i64 2, .int .i64 1, .int .i64 100, .int .i64 0, .int .i64 0, .int .i64 0, .int .i64 0, .int .i64 0, .int .i64 1, .int .i64 1, .int .i64 0, .int .i64 0, .bool false, .bool false, .str [], .str [], .cplx .f64 0 0, .cplx .f64 0 0, .int .i64 0, .str [], .str [], .str [], .bool false, .nils, .nils, .nils, .cplx .f64 0 0, .cplx .f64 0 0, .int .i64 0, .nils, .nils]]
def Putr4 : AV := .trl 1 [[.int .u8 4], [.int .u8 2], [.int .u8 200], [.int .u8 1], [.int .u8 0], [.int .u8 0], [.int .u8 0], [.int .u8 0], [.int .u8 0], [.int .u8 2], [.int .u8 2], [.int .u8 0], [.int .u8 0], [.int .u8 0], [.int .u8 0], [.int .u8 0], [.int .u8 0], [.int .u8 0], [.int .u8 0], [.int .u8 0], [.int .u8 0], [.int .u8 0], [.int .u8 0], [.int .u8 0], [.int .u8 0], [.int .u8 0], [.int .u8 0], [.int .u8 0], [.int .u8 0], [.int .u8 0], [.int .u8 0], [.int .u8 0], [.int .u8 0], [.int .u8 0], [.int .u8 0], [.int .u8 0]]
theorem Pute4 : isAns (callT (envM mdA (orcOf [kTr])) 400 F_msg_Put Puta4) Putr4 = true := by kernel_rfl
theorem Putc4 : Contract PG F_msg_Put Puta4 [] Putr4 [] := con_tab (ak kTr_ok ank) Pute4
def Puta5 : List AV := [.agg [.int .i64 3, .int .i64 100, .int .i64 1, .int .i64 0, .int .i64 0, .int .i64 0, .int .i64 0, .int .i64 0, .int .i64 0, .int .i64 1, .int .i64 0, .int .i64 0, .bool false, .bool false, .str [], .str [], .cplx .f64 0 0, .cplx .f64 0 0, .int .i64 0, .str [], .str [], .str [], .bool false, .nils, .nils, .nils, .cplx .f64 0 0, .cplx .f64 0 0, .int .i64 0, .nils, .nils]]
def Putr5 : AV := .trl 1 [[.int .u8 6], [.int .u8 200], [.int .u8 1], [.int .u8 2], [.int .u8 0], [.int .u8 0], [.int .u8 0], [.int .u8 0], [.int .u8 0], [.int .u8 0], [.int .u8 2], [.int .u8 0], [.int .u8 0], [.int .u8 0], [.int .u8 0], [.int .u8 0], [.int .u8 0], [.int .u8 0], [.int .u8 0], [.int .u8 0], [.int .u8 0], [.int .u8 0], [.int .u8 0], [.int .u8 0], [.int .u8 0], [.int .u8 0], [.int .u8 0], [.int .u8 0], [.int .u8 0], [.int .u8 0], [.int .u8 0], [.int .u8 0], [.int .u8 0], [.int .u8 0], [.int .u8 0], [.int .u8 0]]
theorem Pute5 : isAns (callT (envM mdA (orcOf [kTr])) 400 F_msg_Put Puta5) Putr5 = true := by kernel_rfl
theorem Putc5 : Contract PG F_msg_Put Puta5 [] Putr5 [] := con_tab (ak kTr_ok ank) Pute5
end Go.Wk
end

section
/- Calls of F_msg_Put in the first run, one by one. By program. -/
open Go Go.AM
namespace Go.Wk
set_option maxRecDepth 100000
set_option maxHeartbeats 0
def Puta6 : List AV := [.agg [.int .i64 4, .int .i64 1, .int .i64 100, .int .i64 0, .int .i64 0, .int .i64 0, .int .i64 0, .int .i64 0, .int .i64 0, .int .i64 1, .int .i64 0, .int .i64 0, .bool false, .bool false, .str [], .str [], .cplx .f64 0 0, .cplx .f64 0 0, .int .i64 0, .str [], .str [], .str [], .bool false, .nils, .nils, .nils, .cplx .f64 0 0, .cplx .f64 0 0, .int .i64 0, .nils, .nils]]
def Putr6 : AV := .trl 1 [[.int .u8 8], [.int .u8 2], [.int .u8 200], [.int .u8 1], [.int .u8 0], [.int .u8 0], [.int .u8 0], [.int .u8 0], [.int .u8 0], [.int .u8 0], [.int .u8 2], [.int .u8 0], [.int .u8 0], [.int .u8 0], [.int .u8 0], [.int .u8 0], [.int .u8 0], [.int .u8 0], [.int .u8 0], [.int .u8 0], [.int .u8 0], [.int .u8 0], [.int .u8 0], [.int .u8 0], [.int .u8 0], [.int .u8 0], [.int .u8 0], [.int .u8 0], [.int .u8 0], [.int .u8 0], [.int .u8 0], [.int .u8 0], [.int .u8 0], [.int .u8 0], [.int .u8 0], [.int .u8 0]]
theorem Pute6 : isAns (callT (envM mdA (orcOf [kTr])) 400 F_msg_Put Puta6) Putr6 = true := by kernel_rfl
theorem Putc6 : Contract PG F_msg_Put Puta6 [] Putr6 [] := con_tab (ak kTr_ok ank) Pute6
def Puta7 : List AV := [.agg [.int .i64 4, .int .i64 0, .int .i64 0, .int .i64 0, .int .i64 0, .int .i64 0, .int .i64 0, .int .i64 0, .int .i64 1, .int .i64 0, .int .i64 0, .int .i64 0, .bool false, .bool false, .str [], .str [], .cplx .f64 0 0, .cplx .f64 0 0, .int .i64 0, .str [], .str [], .str [], .bool false, .nils, .nils, .trl 5 [[.int .i64 0, .int .i64 1, .int .i64 0, .int .i64 1, .nils], [.int .i64 0, .int .i64 0, .int .i64 0, .int .i64 1, .nils]], .cplx .f64 0 0, .cplx .f64 0 0, .int .i64 0, .nils, .nils]]
def Putr7 : AV := .trl 1 [[.int .u8 8], [.int .u8 0], [.int .u8 0], [.int .u8 0], [.int .u8 0], [.int .u8 0], [.int .u8 0], [.int .u8 0], [.int .u8 2], [.int .u8 0], [.int .u8 0], [.int .u8 0], [.int .u8 0], [.int .u8 0], [.int .u8 0], [.int .u8 0], [.int .u8 0], [.int .u8 0], [.int .u8 0], [.int .u8 0], [.int .u8 0], [.int .u8 0], [.int .u8 0], [.int .u8 0], [.int .u8 0], [.int .u8 0], [.int .u8 0], [.int .u8 4], [.int .u8 0], [.int .u8 2], [.int .u8 0], [.int .u8 2], [.int .u8 0], [.int .u8 0], [.int .u8 0], [.int .u8 0], [.int .u8 2], [.int .u8 0], [.int .u8 0], [.int .u8 0], [.int .u8 0], [.int .u8 0], [.int .u8 0], [.int .u8 0], [.int .u8 0]]
theorem Pute7 : isAns (callT (envM mdA (orcOf [kTr])) 400 F_msg_Put Puta7) Putr7 = true := by kernel_rfl
theorem Putc7 : Contract PG F_msg_Put Puta7 [] Putr7 [] := con_tab (ak kTr_ok ank) Pute7
def Puta8 : List AV := [.agg [.int .i64 19, .int .i64 1, .int .i64 0, .int .i64 0, .int .i64 0, .int .i64 0, .int .i64 1, .int .i64 0, .int .i64 0, .int .i64 0, .int .i64 0, .int .i64 0, .bool false, .bool false, .str [], .str [], .cplx .f64 0 0, .cplx .f64 0 0, .int .i64 0, .str [], .str [], .str [], .bool false, .nils, .nils, .nils, .cplx .f64 0 0, .cplx .f64 0 0, .int .i64 0, .nils, .nils]]
def Putr8 : AV := .trl 1 [[.int .u8 38], [.int .u8 2], [.int .u8 0], [.int .u8 0], [.int .u8 0], [.int .u8 0], [.int .u8 2], [.int .u8 0], [.int .u8 0], [.int .u8 0], [.int .u8 0], [.int .u8 0], [.int .u8 0], [.int .u8 0], [.int .u8 0], [.int .u8 0], [.int .u8 0], [.int .u8 0], [.int .u8 0], [.int .u8 0], [.int .u8 0], [.int .u8 0], [.int .u8 0], [.int .u8 0], [.int .u8 0], [.int .u8 0], [.int .u8 0], [.int .u8 0], [.int .u8 0], [.int .u8 0], [.int .u8 0], [.int .u8 0], [.int .u8 0], [.int .u8 0], [.int .u8 0]]
theorem Pute8 : isAns (callT (envM mdA (orcOf [kTr])) 400 F_msg_Put Puta8) Putr8 = true := by kernel_rfl
theorem Putc8 : Contract PG F_msg_Put Puta8 [] Putr8 [] := con_tab (ak kTr_ok ank) Pute8
def Puta9 : List AV := [.agg [.int .i64 20, .int .i64 0, .int .i64 1, .int .i64 0, .int .i64 0, .int .i64 0, .int .i64 1, .int .i64 0, .int .i64 0, .int .i64 0, .int .i64 0, .int .i64 0, .bool false, .bool false, .str [], .str [], .cplx .f64 0 0, .cplx .f64 0 0, .int .i64 0, .str [], .str [], .str [], .bool false, .nils, .nils, .nils, .cplx .f64 0 0, .cplx .f64 0 0, .int .i64 0, .nils, .nils]]
def Putr9 : AV := .trl 1 [[.int .u8 40], [.int .u8 0], [.int .u8 2], [.int .u8 0], [.int .u8 0], [.int .u8 0], [.int .u8 2], [.int .u8 0], [.int .u8 0], [.int .u8 0], [.int .u8 0], [.int .u8 0], [.int .u8 0], [.int .u8 0], [.int .u8 0], [.int .u8 0], [.int .u8 0], [.int .u8 0], [.int .u8 0], [.int .u8 0], [.int .u8 0], [.int .u8 0], [.int .u8 0], [.int .u8 0], [.int .u8 0], [.int .u8 0], [.int .u8 0], [.int .u8 0], [.int .u8 0], [.int .u8 0], [.int .u8 0], [.int .u8 0], [.int .u8 0], [.int .u8 0], [.int .u8 0]]
theorem Pute9 : isAns (callT (envM mdA (orcOf [kTr])) 400 F_msg_Put Puta9) Putr9 = true := by kernel_rfl
theorem Putc9 : Contract PG F_msg_Put Puta9 [] Putr9 [] := con_tab (ak kTr_ok ank) Pute9
def Puta10 : List AV := [.agg [.int .i64 4, .int .i64 0, .int .i64 0, .int .i64 0, .int .i64 0, .int .i64 0, .int .i64 0, .int .i64 0, .int .i64 1, .int .i64 0, .int .i64 0, .int .i64 0, .bool false, .bool false, .str [], .str [], .cplx .f64 0 0, .cplx .f64 0 0, .int .i64 0, .str [], .str [], .str [], .bool false, .nils, .nils, .trl 5 [[.int .i64 0, .int .i64 1, .int .i64 0, .int .i64 3, .trl 2 [[.int .i64 2, .int .i64 1]]], [.int .i64 0, .int .i64 1, .int .i64 0, .int .i64 1, .trl 2 [[.int .i64 2, .int .i64 1]]]], .cplx .f64 0 0, .cplx .f64 0 0, .int .i64 0, .nils, .nils]]
def Putr10 : AV := .trl 1 [[.int .u8 8], [.int .u8 0], [.int .u8 0], [.int .u8 0], [.int .u8 0], [.int .u8 0], [.int .u8 0], [.int .u8 0], [.int .u8 2], [.int .u8 0], [.int .u8 0], [.int .u8 0], [.int .u8 0], [.int .u8 0], [.int .u8 0], [.int .u8 0], [.int .u8 0], [.int .u8 0], [.int .u8 0], [.int .u8 0], [.int .u8 0], [.int .u8 0], [.int .u8 0], [.int .u8 0], [.int .u8 0], [.int .u8 0], [.int .u8 0], [.int .u8 4], [.int .u8 0], [.int .u8 2], [.int .u8 0], [.int .u8 6], [.int .u8 2], [.int .u8 4], [.int .u8 2], [.int .u8 0], [.int .u8 2], [.int .u8 0], [.int .u8 2], [.int .u8 2], [.int .u8 4], [.int .u8 2], [.int .u8 0], [.int .u8 0], [.int .u8 0], [.int .u8 0], [.int .u8 0], [.int .u8 0], [.int .u8 0]]
theorem Pute10 : isAns (callT (envM mdA (orcOf [kTr])) 400 F_msg_Put Puta10) Putr10 = true := by kernel_rfl
theorem Putc10 : Contract PG F_msg_Put Puta10 [] Putr10 [] := con_tab (ak kTr_ok ank) Pute10
def Puta11 : List AV := [.agg [.int .i64 10, .int .i64 1, .int .i64 2, .int .i64 1, .int .i64 0, .int .i64 0, .int .i64 1, .int .i64 0, .int .i64 0, .int .i64 0, .int .i64 0, .int .i64 0, .bool false, .bool true, .str [], .str [], .cplx .f64 0 0, .cplx .f64 0 0, .int .i64 0, .str [], .str [], .str [], .bool false, .nils, .trl 2 [[.int .i64 2, .int .i64 1]], .nils, .cplx .f64 0 0, .cplx .f64 0 0, .int .i64 0, .nils, .nils]]
def Putr11 : AV := .trl 1 [[.int .u8 20], [.int .u8 2], [.int .u8 4], [.int .u8 2], [.int .u8 0], [.int .u8 0], [.int .u8 2], [.int .u8 0], [.int .u8 0], [.int .u8 0], [.int .u8 0], [.int .u8 0], [.int .u8 0], [.int .u8 1], [.int .u8 0], [.int .u8 0], [.int .u8 0], [.int .u8 0], [.int .u8 0], [.int .u8 0], [.int .u8 0], [.int .u8 0], [.int .u8 0], [.int .u8 0], [.int .u8 0], [.int .u8 0], [.int .u8 2], [.int .u8 4], [.int .u8 2], [.int .u8 0], [.int .u8 0], [.int .u8 0], [.int .u8 0], [.int .u8 0], [.int .u8 0], [.int .u8 0], [.int .u8 0]]
theorem Pute11 : isAns (callT (envM mdA (orcOf [kTr])) 400 F_msg_Put Puta11) Putr11 = true := by kernel_rfl
theorem Putc11 : Contract PG F_msg_Put Puta11 [] Putr11 [] := con_tab (ak kTr_ok ank) Pute11
end Go.Wk
end

section
/- Calls of F_msg_Put in the first run, one by one. By program. -/
open Go Go.AM
namespace Go.Wk
set_option maxRecDepth 100000
set_option maxHeartbeats 0
def Puta12 : List AV := [.agg [.int .i64 7, .int .i64 2, .int .i64 1, .int .i64 0, .int .i64 1, .int .i64 0, .int .i64 0, .int .i64 0, .int .i64 0, .int .i64 0, .int .i64 0, .int .i64 0, .bool false, .bool false, .str [], .str [], .cplx .f64 0 0, .cplx .f64 0 0, .int .i64 0, .str [], .str [], .str [], .bool false, .nils, .nils, .trl 5 [[.int .i64 0, .int .i64 1, .int .i64 0, .int .i64 3, .nils]], .cplx .f64 0 0, .cplx .f64 0 0, .int .i64 0, .nils, .nils]]
def Putr12 : AV := .trl 1 [[.int .u8 14], [.int .u8 4], [.int .u8 2], [.int .u8 0], [.int .u8 2], [.int .u8 0], [.int .u8 0], [.int .u8 0], [.int .u8 0], [.int .u8 0], [.int .u8 0], [.int .u8 0], [.int .u8 0], [.int .u8 0], [.int .u8 0], [.int .u8 0], [.int .u8 0], [.int .u8 0], [.int .u8 0], [.int .u8 0], [.int .u8 0], [.int .u8 0], [.int .u8 0], [.int .u8 0], [.int .u8 0], [.int .u8 0], [.int .u8 0], [.int .u8 2], [.int .u8 0], [.int .u8 2], [.int .u8 0], [.int .u8 6], [.int .u8 0], [.int .u8 0], [.int .u8 0], [.int .u8 0], [.int .u8 0], [.int .u8 0], [.int .u8 0], [.int .u8 0]]
theorem Pute12 : isAns (callT (envM mdA (orcOf [kTr])) 400 F_msg_Put Puta12) Putr12 = true := by kernel_rfl
theorem Putc12 : Contract PG F_msg_Put Puta12 [] Putr12 [] := con_tab (ak kTr_ok ank) Pute12
def Puta13 : List AV := [.agg [.int .i64 4, .int .i64 1, .int .i64 100, .int .i64 0, .int .i64 0, .int .i64 0, .int .i64 0, .int .i64 0, .int .i64 0, .int .i64 1, .int .i64 0, .int .i64 0, .bool false, .bool false, .str [], .str [], .cplx .f64 0 0, .cplx .f64 0 0, .int .i64 0, .str [], .str [], .str [], .bool false, .nils, .nils, .trl 5 [[.int .i64 0, .int .i64 1, .int .i64 0, .int .i64 3, .trl 2 [[.int .i64 2, .int .i64 1]]]], .cplx .f64 0 0, .cplx .f64 0 0, .int .i64 0, .nils, .nils]]
def Putr13 : AV := .trl 1 [[.int .u8 8], [.int .u8 2], [.int .u8 200], [.int .u8 1], [.int .u8 0], [.int .u8 0], [.int .u8 0], [.int .u8 0], [.int .u8 0], [.int .u8 0], [.int .u8 2], [.int .u8 0], [.int .u8 0], [.int .u8 0], [.int .u8 0], [.int .u8 0], [.int .u8 0], [.int .u8 0], [.int .u8 0], [.int .u8 0], [.int .u8 0], [.int .u8 0], [.int .u8 0], [.int .u8 0], [.int .u8 0], [.int .u8 0], [.int .u8 0], [.int .u8 0], [.int .u8 2], [.int .u8 0], [.int .u8 2], [.int .u8 0], [.int .u8 6], [.int .u8 2], [.int .u8 4], [.int .u8 2], [.int .u8 0], [.int .u8 0], [.int .u8 0], [.int .u8 0], [.int .u8 0], [.int .u8 0], [.int .u8 0]]
theorem Pute13 : isAns (callT (envM mdA (orcOf [kTr])) 400 F_msg_Put Puta13) Putr13 = true := by kernel_rfl
theorem Putc13 : Contract PG F_msg_Put Puta13 [] Putr13 [] := con_tab (ak kTr_ok ank) Pute13
def Puta14 : List AV := [.agg [.int .i64 5, .int .i64 100, .int .i64 2, .int .i64 0, .int .i64 0, .int .i64 0, .int .i64 0, .int .i64 0, .int .i64 1, .int .i64 1, .int .i64 0, .int .i64 0, .bool false, .bool false, .str [], .str [], .cplx .f64 0 0, .cplx .f64 0 0, .int .i64 2, .str [97], .str [120], .str [], .bool false, .nils, .nils, .nils, .cplx .f64 0 0, .cplx .f64 0 0, .int .i64 0, .nils, .nils]]
def Putr14 : AV := .trl 1 [[.int .u8 10], [.int .u8 200], [.int .u8 1], [.int .u8 4], [.int .u8 0], [.int .u8 0], [.int .u8 0], [.int .u8 0], [.int .u8 0], [.int .u8 2], [.int .u8 2], [.int .u8 0], [.int .u8 0], [.int .u8 0], [.int .u8 0], [.int .u8 0], [.int .u8 0], [.int .u8 0], [.int .u8 0], [.int .u8 0], [.int .u8 0], [.int .u8 4], [.int .u8 2], [.int .u8 97], [.int .u8 2], [.int .u8 120], [.int .u8 0], [.int .u8 0], [.int .u8 0], [.int .u8 0], [.int .u8 0], [.int .u8 0], [.int .u8 0], [.int .u8 0], [.int .u8 0], [.int .u8 0], [.int .u8 0], [.int .u8 0]]
theorem Pute14 : isAns (callT (envM mdA (orcOf [kTr])) 400 F_msg_Put Puta14) Putr14 = true := by kernel_rfl
theorem Putc14 : Contract PG F_msg_Put Puta14 [] Putr14 [] := con_tab (ak kTr_ok ank) Pute14
def Puta15 : List AV := [.agg [.int .i64 6, .int .i64 2, .int .i64 100, .int .i64 0, .int .i64 0, .int .i64 0, .int .i64 0, .int .i64 0, .int .i64 1, .int .i64 1, .int .i64 0, .int .i64 0, .bool false, .bool false, .str [], .str [], .cplx .f64 4607182418800017408 4607182418800017408, .cplx .f64 0 0, .int .i64 0, .str [], .str [], .str [], .bool false, .nils, .nils, .nils, .cplx .f64 0 0, .cplx .f64 0 0, .int .i64 0, .nils, .nils]]
def Putr15 : AV := .trl 1 [[.int .u8 12], [.int .u8 4], [.int .u8 200], [.int .u8 1], [.int .u8 0], [.int .u8 0], [.int .u8 0], [.int .u8 0], [.int .u8 0], [.int .u8 2], [.int .u8 2], [.int .u8 0], [.int .u8 0], [.int .u8 0], [.int .u8 0], [.int .u8 0], [.int .u8 0], [.int .u8 2], [.int .u8 2], [.int .u8 0], [.int .u8 0], [.int .u8 0], [.int .u8 0], [.int .u8 0], [.int .u8 0], [.int .u8 0], [.int .u8 0], [.int .u8 0], [.int .u8 0], [.int .u8 0], [.int .u8 0], [.int .u8 0], [.int .u8 0], [.int .u8 0], [.int .u8 0], [.int .u8 0]]
theorem Pute15 : isAns (callT (envM mdA (orcOf [kTr])) 400 F_msg_Put Puta15) Putr15 = true := by kernel_rfl
theorem Putc15 : Contract PG F_msg_Put Puta15 [] Putr15 [] := con_tab (ak kTr_ok ank) Pute15
def Puta16 : List AV := [.agg [.int .i64 15, .int .i64 2, .int .i64 0, .int .i64 0, .int .i64 1, .int .i64 0, .int .i64 1, .int .i64 0, .int .i64 0, .int .i64 1, .int .i64 0, .int .i64 0, .bool false, .bool false, .str [], .str [], .cplx .f64 0 0, .cplx .f64 4607182418800017408 0, .int .i64 0, .str [], .str [], .str [], .bool false, .trl 11 [[.cplx .f64 4607182418800017408 4607182418800017408, .int .i64 2, .str [97], .str [120], .bool true, .bool false, .int .i64 1, .int .i64 1, .int .i64 0, .str [], .bool false]], .nils, .nils, .cplx .f64 0 0, .cplx .f64 0 0, .int .i64 0, .nils, .nils]]
def Putr16 : AV := .trl 1 [[.int .u8 30], [.int .u8 4], [.int .u8 0], [.int .u8 0], [.int .u8 2], [.int .u8 0], [.int .u8 2], [.int .u8 0], [.int .u8 0], [.int .u8 2], [.int .u8 0], [.int .u8 0], [.int .u8 0], [.int .u8 0], [.int .u8 0], [.int .u8 0], [.int .u8 0], [.int .u8 0], [.int .u8 2], [.int .u8 0], [.int .u8 0], [.int .u8 0], [.int .u8 0], [.int .u8 0], [.int .u8 0], [.int .u8 2], [.int .u8 2], [.int .u8 2], [.int .u8 4], [.int .u8 2], [.int .u8 97], [.int .u8 2], [.int .u8 120], [.int .u8 1], [.int .u8 0], [.int .u8 2], [.int .u8 2], [.int .u8 0], [.int .u8 0], [.int .u8 0], [.int .u8 0], [.int .u8 0], [.int .u8 0], [.int .u8 0], [.int .u8 0], [.int .u8 0], [.int .u8 0], [.int .u8 0], [.int .u8 0]]
theorem Pute16 : isAns (callT (envM mdA (orcOf [kTr])) 400 F_msg_Put Puta16) Putr16 = true := by kernel_rfl
theorem Putc16 : Contract PG F_msg_Put Puta16 [] Putr16 [] := con_tab (ak kTr_ok ank) Pute16
def Puta17 : List AV := [.agg [.int .i64 16, .int .i64 0, .int .i64 2, .int .i64 1, .int .i64 0, .int .i64 0, .int .i64 1, .int .i64 0, .int .i64 0, .int .i64 1, .int .i64 0, .int .i64 0, .bool false, .bool false, .str [], .str [], .cplx .f64 0 0, .cplx .f64 0 0, .int .i64 0, .str [], .str [], .str [], .bool false, .nils, .nils, .nils, .cplx .f64 0 0, .cplx .f64 0 0, .int .i64 0, .nils, .nils]]
def Putr17 : AV := .trl 1 [[.int .u8 32], [.int .u8 0], [.int .u8 4], [.int .u8 2], [.int .u8 0], [.int .u8 0], [.int .u8 2], [.int .u8 0], [.int .u8 0], [.int .u8 2], [.int .u8 0], [.int .u8 0], [.int .u8 0], [.int .u8 0], [.int .u8 0], [.int .u8 0], [.int .u8 0], [.int .u8 0], [.int .u8 0], [.int .u8 0], [.int .u8 0], [.int .u8 0], [.int .u8 0], [.int .u8 0], [.int .u8 0], [.int .u8 0], [.int .u8 0], [.int .u8 0], [.int .u8 0], [.int .u8 0], [.int .u8 0], [.int .u8 0], [.int .u8 0], [.int .u8 0], [.int .u8 0]]
theorem Pute17 : isAns (callT (envM mdA (orcOf [kTr])) 400 F_msg_Put Puta17) Putr17 = true := by kernel_rfl
theorem Putc17 : Contract PG F_msg_Put Puta17 [] Putr17 [] := con_tab (ak kTr_ok ank) Pute17
end Go.Wk
end

section
/- The table of F_msg_Put in the first run. By program. -/
open Go Go.AM
namespace Go.Wk
def Puttab : List Rw := [(Puta0, Putr0), (Puta1, Putr1), (Puta2, Putr2), (Puta3, Putr3), (Puta4, Putr4), (Puta5, Putr5), (Puta6, Putr6), (Puta7, Putr7), (Puta8, Putr8), (Puta9, Putr9), (Puta10, Putr10), (Puta11, Putr11), (Puta12, Putr12), (Puta13, Putr13), (Puta14, Putr14), (Puta15, Putr15), (Puta16, Putr16), (Puta17, Putr17)]
noncomputable def kPut : Known := Known.tab F_msg_Put Puttab
theorem kPut_ok : kPut.Ok PG := Known.tab_ok fun r hr => by
  rcases List.mem_cons.1 hr with rfl | hr
  · exact Putc0
  rcases List.mem_cons.1 hr with rfl | hr
  · exact Putc1
  rcases List.mem_cons.1 hr with rfl | hr
  · exact Putc2
  rcases List.mem_cons.1 hr with rfl | hr
  · exact Putc3
  rcases List.mem_cons.1 hr with rfl | hr
  · exact Putc4
  rcases List.mem_cons.1 hr with rfl | hr
  · exact Putc5
  rcases List.mem_cons.1 hr with rfl | hr
  · exact Putc6
  rcases List.mem_cons.1 hr with rfl | hr
  · exact Putc7
  rcases List.mem_cons.1 hr with rfl | hr
  · exact Putc8
  rcases List.mem_cons.1 hr with rfl | hr
  · exact Putc9
  rcases List.mem_cons.1 hr with rfl | hr
  · exact Putc10
  rcases List.mem_cons.1 hr with rfl | hr
  · exact Putc11
  rcases List.mem_cons.1 hr with rfl | hr
  · exact Putc12
  rcases List.mem_cons.1 hr with rfl | hr
  · exact Putc13
  rcases List.mem_cons.1 hr with rfl | hr
  · exact Putc14
  rcases List.mem_cons.1 hr with rfl | hr
  · exact Putc15
  rcases List.mem_cons.1 hr with rfl | hr
  · exact Putc16
  rcases List.mem_cons.1 hr with rfl | hr
  · exact Putc17
  · cases hr
end Go.Wk
end

section
/- Calls of F_msg_Get in the first run, one by one. By program. -/
open Go Go.AM
namespace Go.Wk
set_option maxRecDepth 100000
set_option maxHeartbeats 0
def Geta0 : List AV := [.trl 1 [[.int .u8 2], [.int .u8 200], [.int .u8 1], [.int .u8 2], [.int .u8 0], [.int .u8 0], [.int .u8 0], [.int .u8 0], [.int .u8 0], [.int .u8 0], [.int .u8 2], [.int .u8 0], [.int .u8 0], [.int .u8 0], [.int .u8 0], [.int .u8 0], [.int .u8 0], [.int .u8 0], [.int .u8 0], [.int .u8 0], [.int .u8 0], [.int .u8 0], [.int .u8 0], [.int .u8 0], [.int .u8 0], [.int .u8 0], [.int .u8 0], [.int .u8 0], [.int .u8 0], [.int .u8 0], [.int .u8 0], [.int .u8 0], [.int .u8 0], [.int .u8 0], [.int .u8 0], [.int .u8 0]]]
def Getr0 : AV := .tup [.agg [.int .i64 1, .int .i64 100, .int .i64 1, .int .i64 0, .int .i64 0, .int .i64 0, .int .i64 0, .int .i64 0, .int .i64 0, .int .i64 1, .int .i64 0, .int .i64 0, .bool false, .bool false, .str [], .str [], .cplx .f64 0 0, .cplx .f64 0 0, .int .i64 0, .str [], .str [], .str [], .bool false, .nils, .nils, .nils, .cplx .f64 0 0, .cplx .f64 0 0, .int .i64 0, .nils, .nils], .bool true]
theorem Gete0 : isAns (callT (envM mdA (orcOf [kTr])) 400 F_msg_Get Geta0) Getr0 = true := by kernel_rfl
theorem Getc0 : Contract PG F_msg_Get Geta0 [] Getr0 [] := con_tab (ak kTr_ok ank) Gete0
def Geta1 : List AV := [.trl 1 [[.int .u8 14], [.int .u8 4], [.int .u8 2], [.int .u8 0], [.int .u8 2], [.int .u8 0], [.int .u8 0], [.int .u8 0], [.int .u8 0], [.int .u8 0], [.int .u8 0], [.int .u8 0], [.int .u8 0], [.int .u8 0], [.int .u8 0], [.int .u8 0], [.int .u8 0], [.int .u8 0], [.int .u8 0], [.int .u8 0], [.int .u8 0], [.int .u8 0], [.int .u8 0], [.int .u8 0], [.int .u8 0], [.int .u8 0], [.int .u8 0], [.int .u8 0], [.int .u8 0], [.int .u8 0], [.int .u8 0], [.int .u8 0], [.int .u8 0], [.int .u8 0], [.int .u8 0]]]
def Getr1 : AV := .tup [.agg [.int .i64 7, .int .i64 2, .int .i64 1, .int .i64 0, .int .i64 1, .int .i64 0, .int .i64 0, .int .i64 0, .int .i64 0, .int .i64 0, .int .i64 0, .int .i64 0, .bool false, .bool false, .str [], .str [], .cplx .f64 0 0, .cplx .f64 0 0, .int .i64 0, .str [], .str [], .str [], .bool false, .nils, .nils, .nils, .cplx .f64 0 0, .cplx .f64 0 0, .int .i64 0, .nils, .nils], .bool true]
theorem Gete1 : isAns (callT (envM mdA (orcOf [kTr])) 400 F_msg_Get Geta1) Getr1 = true := by kernel_rfl
theorem Getc1 : Contract PG F_msg_Get Geta1 [] Getr1 [] := con_tab (ak kTr_ok ank) Gete1
def Geta2 : List AV := [.trl 1 [[.int .u8 4], [.int .u8 2], [.int .u8 200], [.int .u8 1], [.int .u8 0], [.int .u8 0], [.int .u8 0], [.int .u8 0], [.int .u8 0], [.int .u8 2], [.int .u8 2], [.int .u8 0], [.int .u8 0], [.int .u8 0], [.int .u8 0], [.int .u8 0], [.int .u8 0], [.int .u8 0], [.int .u8 0], [.int .u8 0], [.int .u8 0], [.int .u8 0], [.int .u8 0], [.int .u8 0], [.int .u8 0], [.int .u8 0], [.int .u8 0], [.int .u8 0], [.int .u8 0], [.int .u8 0], [.int .u8 0], [.int .u8 0], [.int .u8 0], [.int .u8 0], [.int .u8 0], [.int .u8 0]]]
def Getr2 : AV := .tup [.agg [.int .i64 2, .int .i64 1, .int .i64 100, .int .i64 0, .int .i64 0, .int .i64 0, .int .i64 0, .int .i64 0, .int .i64 1, .int .i64 1, .int .i64 0, .int .i64 0, .bool false, .bool false, .str [], .str [], .cplx .f64 0 0, .cplx .f64 0 0, .int .i64 0, .str [], .str [], .str [], .bool false, .nils, .nils, .nils, .cplx .f64 0 0, .cplx .f64 0 0, .int .i64 0, .nils, .nils], .bool true]
theorem Gete2 : isAns (callT (envM mdA (orcOf [kTr])) 400 F_msg_Get Geta2) Getr2 = true := by kernel_rfl
theorem Getc2 : Contract PG F_msg_Get Geta2 [] Getr2 [] := con_tab (ak kTr_ok ank) Gete2
def Geta3 : List AV := [.trl 1 [[.int .u8 6], [.int .u8 200], [.int .u8 1], [.int .u8 2], [.int .u8 0], [.int .u8 0], [.int .u8 0], [.int .u8 0], [.int .u8 0], [.int .u8 0], [.int .u8 2], [.int .u8 0], [.int .u8 0], [.int .u8 0], [.int .u8 0], [.int .u8 0], [.int .u8 0], [.int .u8 0], [.int .u8 0], [.int .u8 0], [.int .u8 0], [.int .u8 0], [.int .u8 0], [.int .u8 0], [.int .u8 0], [.int .u8 0], [.int .u8 0], [.int .u8 0], [.int .u8 0], [.int .u8 0], [.int .u8 0], [.int .u8 0], [.int .u8 0], [.int .u8 0], [.int .u8 0], [.int .u8 0]]]
def Getr3 : AV := .tup [.agg [.int .i64 3, .int .i64 100, .int .i64 1, .int .i64 0, .int .i64 0, .int .i64 0, .int .i64 0, .int .i64 0, .int .i64 0, .int .i64 1, .int .i64 0, .int .i64 0, .bool false, .bool false, .str [], .str [], .cplx .f64 0 0, .cplx .f64 0 0, .int .i64 0, .str [], .str [], .str [], .bool false, .nils, .nils, .nils, .cplx .f64 0 0, .cplx .f64 0 0, .int .i64 0, .nils, .nils], .bool true]
theorem Gete3 : isAns (callT (envM mdA (orcOf [kTr])) 400 F_msg_Get Geta3) Getr3 = true := by kernel_rfl
theorem Getc3 : Contract PG F_msg_Get Geta3 [] Getr3 [] := con_tab (ak kTr_ok ank) Gete3
def Geta4 : List AV := [.trl 1 [[.int .u8 8], [.int .u8 2], [.int .u8 200], [.int .u8 1], [.int .u8 0], [.int .u8 0], [.int .u8 0], [.int .u8 0], [.int .u8 0], [.int .u8 0], [.int .u8 2], [.int .u8 0], [.int .u8 0], [.int .u8 0], [.int .u8 0], [.int .u8 0], [.int .u8 0], [.int .u8 0], [.int .u8 0], [.int .u8 0], [.int .u8 0], [.int .u8 0], [.int .u8 0], [.int .u8 0], [.int .u8 0], [.int .u8 0], [.int .u8 0], [.int .u8 0], [.int .u8 0], [.int .u8 0], [.int .u8 0], [.int .u8 0], [.int .u8 0], [.int .u8 0], [.int .u8 0], [.int .u8 0]]]
def Getr4 : AV := .tup [.agg [.int .i64 4, .int .i64 1, .int .i64 100, .int .i64 0, .int .i64 0, .int .i64 0, .int .i64 0, .int .i64 0, .int .i64 0, .int .i64 1, .int .i64 0, .int .i64 0, .bool false, .bool false, .str [], .str [], .cplx .f64 0 0, .cplx .f64 0 0, .int .i64 0, .str [], .str [], .str [], .bool false, .nils, .nils, .nils, .cplx .f64 0 0, .cplx .f64 0 0, .int .i64 0, .nils, .nils], .bool true]
theorem Gete4 : isAns (callT (envM mdA (orcOf [kTr])) 400 F_msg_Get Geta4) Getr4 = true := by kernel_rfl
theorem Getc4 : Contract PG F_msg_Get Geta4 [] Getr4 [] := con_tab (ak kTr_ok ank) Gete4
end Go.Wk
end

section
/- Calls of F_msg_Get in the first run, one by one. By program. -/
open Go Go.AM
namespace Go.Wk
set_option maxRecDepth 100000
set_option maxHeartbeats 0
def Geta5 : List AV := [.trl 1 [[.int .u8 38], [.int .u8 2], [.int .u8 0], [.int .u8 0], [.int .u8 0], [.int .u8 0], [.int .u8 2], [.int .u8 0], [.int .u8 0], [.int .u8 0], [.int .u8 0], [.int .u8 0], [.int .u8 0], [.int .u8 0], [.int .u8 0], [.int .u8 0], [.int .u8 0], [.int .u8 0], [.int .u8 0], [.int .u8 0], [.int .u8 0], [.int .u8 0], [.int .u8 0], [.int .u8 0], [.int .u8 0], [.int .u8 0], [.int .u8 0], [.int .u8 0], [.int .u8 0], [.int .u8 0], [.int .u8 0], [.int .u8 0], [.int .u8 0], [.int .u8 0], [.int .u8 0]]]
def Getr5 : AV := .tup [.agg [.int .i64 19, .int .i64 1, .int .i64 0, .int .i64 0, .int .i64 0, .int .i64 0, .int .i64 1, .int .i64 0, .int .i64 0, .int .i64 0, .int .i64 0, .int .i64 0, .bool false, .bool false, .str [], .str [], .cplx .f64 0 0, .cplx .f64 0 0, .int .i64 0, .str [], .str [], .str [], .bool false, .nils, .nils, .nils, .cplx .f64 0 0, .cplx .f64 0 0, .int .i64 0, .nils, .nils], .bool true]
theorem Gete5 : isAns (callT (envM mdA (orcOf [kTr])) 400 F_msg_Get Geta5) Getr5 = true := by kernel_rfl
theorem Getc5 : Contract PG F_msg_Get Geta5 [] Getr5 [] := con_tab (ak kTr_ok ank) Gete5
def Geta6 : List AV := [.trl 1 [[.int .u8 40], [.int .u8 0], [.int .u8 2], [.int .u8 0], [.int .u8 0], [.int .u8 0], [.int .u8 2], [.int .u8 0], [.int .u8 0], [.int .u8 0], [.int .u8 0], [.int .u8 0], [.int .u8 0], [.int .u8 0], [.int .u8 0], [.int .u8 0], [.int .u8 0], [.int .u8 0], [.int .u8 0], [.int .u8 0], [.int .u8 0], [.int .u8 0], [.int .u8 0], [.int .u8 0], [.int .u8 0], [.int .u8 0], [.int .u8 0], [.int .u8 0], [.int .u8 0], [.int .u8 0], [.int .u8 0], [.int .u8 0], [.int .u8 0], [.int .u8 0], [.int .u8 0]]]
def Getr6 : AV := .tup [.agg [.int .i64 20, .int .i64 0, .int .i64 1, .int .i64 0, .int .i64 0, .int .i64 0, .int .i64 1, .int .i64 0, .int .i64 0, .int .i64 0, .int .i64 0, .int .i64 0, .bool false, .bool false, .str [], .str [], .cplx .f64 0 0, .cplx .f64 0 0, .int .i64 0, .str [], .str [], .str [], .bool false, .nils, .nils, .nils, .cplx .f64 0 0, .cplx .f64 0 0, .int .i64 0, .nils, .nils], .bool true]
theorem Gete6 : isAns (callT (envM mdA (orcOf [kTr])) 400 F_msg_Get Geta6) Getr6 = true := by kernel_rfl
theorem Getc6 : Contract PG F_msg_Get Geta6 [] Getr6 [] := con_tab (ak kTr_ok ank) Gete6
def Geta7 : List AV := [.trl 1 [[.int .u8 20], [.int .u8 2], [.int .u8 4], [.int .u8 2], [.int .u8 0], [.int .u8 0], [.int .u8 2], [.int .u8 0], [.int .u8 0], [.int .u8 0], [.int .u8 0], [.int .u8 0], [.int .u8 0], [.int .u8 1], [.int .u8 0], [.int .u8 0], [.int .u8 0], [.int .u8 0], [.int .u8 0], [.int .u8 0], [.int .u8 0], [.int .u8 0], [.int .u8 0], [.int .u8 0], [.int .u8 0], [.int .u8 0], [.int .u8 2], [.int .u8 4], [.int .u8 2], [.int .u8 0], [.int .u8 0], [.int .u8 0], [.int .u8 0], [.int .u8 0], [.int .u8 0], [.int .u8 0], [.int .u8 0]]]
def Getr7 : AV := .tup [.agg [.int .i64 10, .int .i64 1, .int .i64 2, .int .i64 1, .int .i64 0, .int .i64 0, .int .i64 1, .int .i64 0, .int .i64 0, .int .i64 0, .int .i64 0, .int .i64 0, .bool false, .bool true, .str [], .str [], .cplx .f64 0 0, .cplx .f64 0 0, .int .i64 0, .str [], .str [], .str [], .bool false, .nils, .trl 2 [[.int .i64 2, .int .i64 1]], .nils, .cplx .f64 0 0, .cplx .f64 0 0, .int .i64 0, .nils, .nils], .bool true]
theorem Gete7 : isAns (callT (envM mdA (orcOf [kTr])) 400 F_msg_Get Geta7) Getr7 = true := by kernel_rfl
theorem Getc7 : Contract PG F_msg_Get Geta7 [] Getr7 [] := con_tab (ak kTr_ok ank) Gete7
def Geta8 : List AV := [.trl 1 [[.int .u8 14], [.int .u8 4], [.int .u8 2], [.int .u8 0], [.int .u8 2], [.int .u8 0], [.int .u8 0], [.int .u8 0], [.int .u8 0], [.int .u8 0], [.int .u8 0], [.int .u8 0], [.int .u8 0], [.int .u8 0], [.int .u8 0], [.int .u8 0], [.int .u8 0], [.int .u8 0], [.int .u8 0], [.int .u8 0], [.int .u8 0], [.int .u8 0], [.int .u8 0], [.int .u8 0], [.int .u8 0], [.int .u8 0], [.int .u8 0], [.int .u8 2], [.int .u8 0], [.int .u8 2], [.int .u8 0], [.int .u8 6], [.int .u8 0], [.int .u8 0], [.int .u8 0], [.int .u8 0], [.int .u8 0], [.int .u8 0], [.int .u8 0], [.int .u8 0]]]
def Getr8 : AV := .tup [.agg [.int .i64 7, .int .i64 2, .int .i64 1, .int .i64 0, .int .i64 1, .int .i64 0, .int .i64 0, .int .i64 0, .int .i64 0, .int .i64 0, .int .i64 0, .int .i64 0, .bool false, .bool false, .str [], .str [], .cplx .f64 0 0, .cplx .f64 0 0, .int .i64 0, .str [], .str [], .str [], .bool false, .nils, .nils, .trl 5 [[.int .i64 0, .int .i64 1, .int .i64 0, .int .i64 3, .nils]], .cplx .f64 0 0, .cplx .f64 0 0, .int .i64 0, .nils, .nils], .bool true]
theorem Gete8 : isAns (callT (envM mdA (orcOf [kTr])) 400 F_msg_Get Geta8) Getr8 = true := by kernel_rfl
theorem Getc8 : Contract PG F_msg_Get Geta8 [] Getr8 [] := con_tab (ak kTr_ok ank) Gete8
def Geta9 : List AV := [.trl 1 [[.int .u8 8], [.int .u8 2], [.int .u8 200], [.int .u8 1], [.int .u8 0], [.int .u8 0], [.int .u8 0], [.int .u8 0], [.int .u8 0], [.int .u8 0], [.int .u8 2], [.int .u8 0], [.int .u8 0], [.int .u8 0], [.int .u8 0], [.int .u8 0], [.int .u8 0], [.int .u8 0], [.int .u8 0], [.int .u8 0], [.int .u8 0], [.int .u8 0], [.int .u8 0], [.int .u8 0], [.int .u8 0], [.int .u8 0], [.int .u8 0], [.int .u8 0], [.int .u8 2], [.int .u8 0], [.int .u8 2], [.int .u8 0], [.int .u8 6], [.int .u8 2], [.int .u8 4], [.int .u8 2], [.int .u8 0], [.int .u8 0], [.int .u8 0], [.int .u8 0], [.int .u8 0], [.int .u8 0], [.int .u8 0]]]
def Getr9 : AV := .tup [.agg [.int .i64 4, .int .i64 1, .int .i64 100, .int .i64 0, .int .i64 0, .int .i64 0, .int .i64 0, .int .i64 0, .int .i64 0, .int .i64 1, .int .i64 0, .int .i64 0, .bool false, .bool false, .str [], .str [], .cplx .f64 0 0, .cplx .f64 0 0, .int .i64 0, .str [], .str [], .str [], .bool false, .nils, .nils, .trl 5 [[.int .i64 0, .int .i64 1, .int .i64 0, .int .i64 3, .trl 2 [[.int .i64 2, .int .i64 1]]]], .cplx .f64 0 0, .cplx .f64 0 0, .int .i64 0, .nils, .nils], .bool true]
theorem Gete9 : isAns (callT (envM mdA (orcOf [kTr])) 400 F_msg_Get Geta9) Getr9 = true := by kernel_rfl
theorem Getc9 : Contract PG F_msg_Get Geta9 [] Getr9 [] := con_tab (ak kTr_ok ank) Gete9
end Go.Wk
end

section
/- Calls of F_msg_Get in the first run, one by one. By program. -/
open Go Go.AM
namespace Go.Wk
set_option maxRecDepth 100000
set_option maxHeartbeats 0
def Geta10 : List AV := [.trl 1 [[.int .u8 10], [.int .u8 200], [.int .u8 1], [.int .u8 4], [.int .u8 0], [.int .u8 0], [.int .u8 0], [.int .u8 0], [.int .u8 0], [.int .u8 2], [.int .u8 2], [.int .u8 0], [.int .u8 0], [.int .u8 0], [.int .u8 0], [.int .u8 0], [.int .u8 0], [.int .u8 0], [.int .u8 0], [.int .u8 0], [.int .u8 0], [.int .u8 4], [.int .u8 2], [.int .u8 97], [.int .u8 2], [.int .u8 120], [.int .u8 0], [.int .u8 0], [.int .u8 0], [.int .u8 0], [.int .u8 0], [.int .u8 0], [.int .u8 0], [.int .u8 0], [.int .u8 0], [.int .u8 0], [.int .u8 0], [.int .u8 0]]]
def Getr10 : AV := .tup [.agg [.int .i64 5, .int .i64 100, .int .i64 2, .int .i64 0, .int .i64 0, .int .i64 0, .int .i64 0, .int .i64 0, .int .i64 1, .int .i64 1, .int .i64 0, .int .i64 0, .bool false, .bool false, .str [], .str [], .cplx .f64 0 0, .cplx .f64 0 0, .int .i64 2, .str [97], .str [120], .str [], .bool false, .nils, .nils, .nils, .cplx .f64 0 0, .cplx .f64 0 0, .int .i64 0, .nils, .nils], .bool true]
theorem Gete10 : isAns (callT (envM mdA (orcOf [kTr])) 400 F_msg_Get Geta10) Getr10 = true := by kernel_rfl
theorem Getc10 : Contract PG F_msg_Get Geta10 [] Getr10 [] := con_tab (ak kTr_ok ank) Gete10
def Geta11 : List AV := [.trl 1 [[.int .u8 12], [.int .u8 4], [.int .u8 200], [.int .u8 1], [.int .u8 0], [.int .u8 0], [.int .u8 0], [.int .u8 0], [.int .u8 0], [.int .u8 2], [.int .u8 2], [.int .u8 0], [.int .u8 0], [.int .u8 0], [.int .u8 0], [.int .u8 0], [.int .u8 0], [.int .u8 2], [.int .u8 2], [.int .u8 0], [.int .u8 0], [.int .u8 0], [.int .u8 0], [.int .u8 0], [.int .u8 0], [.int .u8 0], [.int .u8 0], [.int .u8 0], [.int .u8 0], [.int .u8 0], [.int .u8 0], [.int .u8 0], [.int .u8 0], [.int .u8 0], [.int .u8 0], [.int .u8 0]]]
def Getr11 : AV := .tup [.agg [.int .i64 6, .int .i64 2, .int .i64 100, .int .i64 0, .int .i64 0, .int .i64 0, .int .i64 0, .int .i64 0, .int .i64 1, .int .i64 1, .int .i64 0, .int .i64 0, .bool false, .bool false, .str [], .str [], .cplx .f64 4607182418800017408 4607182418800017408, .cplx .f64 0 0, .int .i64 0, .str [], .str [], .str [], .bool false, .nils, .nils, .nils, .cplx .f64 0 0, .cplx .f64 0 0, .int .i64 0, .nils, .nils], .bool true]
theorem Gete11 : isAns (callT (envM mdA (orcOf [kTr])) 400 F_msg_Get Geta11) Getr11 = true := by kernel_rfl
theorem Getc11 : Contract PG F_msg_Get Geta11 [] Getr11 [] := con_tab (ak kTr_ok ank) Gete11
def Geta12 : List AV := [.trl 1 [[.int .u8 30], [.int .u8 4], [.int .u8 0], [.int .u8 0], [.int .u8 2], [.int .u8 0], [.int .u8 2], [.int .u8 0], [.int .u8 0], [.int .u8 2], [.int .u8 0], [.int .u8 0], [.int .u8 0], [.int .u8 0], [.int .u8 0], [.int .u8 0], [.int .u8 0], [.int .u8 0], [.int .u8 2], [.int .u8 0], [.int .u8 0], [.int .u8 0], [.int .u8 0], [.int .u8 0], [.int .u8 0], [.int .u8 2], [.int .u8 2], [.int .u8 2], [.int .u8 4], [.int .u8 2], [.int .u8 97], [.int .u8 2], [.int .u8 120], [.int .u8 1], [.int .u8 0], [.int .u8 2], [.int .u8 2], [.int .u8 0], [.int .u8 0], [.int .u8 0], [.int .u8 0], [.int .u8 0], [.int .u8 0], [.int .u8 0], [.int .u8 0], [.int .u8 0], [.int .u8 0], [.int .u8 0], [.int .u8 0]]]
def Getr12 : AV := .tup [.agg [.int .i64 15, .int .i64 2, .int .i64 0, .int .i64 0, .int .i64 1, .int .i64 0, .int .i64 1, .int .i64 0, .int .i64 0, .int .i64 1, .int .i64 0, .int .i64 0, .bool false, .bool false, .str [], .str [], .cplx .f64 0 0, .cplx .f64 4607182418800017408 0, .int .i64 0, .str [], .str [], .str [], .bool false, .trl 11 [[.cplx .f64 4607182418800017408 4607182418800017408, .int .i64 2, .str [97], .str [120], .bool true, .bool false, .int .i64 1, .int .i64 1, .int .i64 0, .str [], .bool false]], .nils, .nils, .cplx .f64 0 0, .cplx .f64 0 0, .int .i64 0, .nils, .nils], .bool true]
theorem Gete12 : isAns (callT (envM mdA (orcOf [kTr])) 400 F_msg_Get Geta12) Getr12 = true := by kernel_rfl
theorem Getc12 : Contract PG F_msg_Get Geta12 [] Getr12 [] := con_tab (ak kTr_ok ank) Gete12
def Geta13 : List AV := [.trl 1 [[.int .u8 32], [.int .u8 0], [.int .u8 4], [.int .u8 2], [.int .u8 0], [.int .u8 0], [.int .u8 2], [.int .u8 0], [.int .u8 0], [.int .u8 2], [.int .u8 0], [.int .u8 0], [.int .u8 0], [.int .u8 0], [.int .u8 0], [.int .u8 0], [.int .u8 0], [.int .u8 0], [.int .u8 0], [.int .u8 0], [.int .u8 0], [.int .u8 0], [.int .u8 0], [.int .u8 0], [.int .u8 0], [.int .u8 0], [.int .u8 0], [.int .u8 0], [.int .u8 0], [.int .u8 0], [.int .u8 0], [.int .u8 0], [.int .u8 0], [.int .u8 0], [.int .u8 0]]]
def Getr13 : AV := .tup [.agg [.int .i64 16, .int .i64 0, .int .i64 2, .int .i64 1, .int .i64 0, .int .i64 0, .int .i64 1, .int .i64 0, .int .i64 0, .int .i64 1, .int .i64 0, .int .i64 0, .bool false, .bool false, .str [], .str [], .cplx .f64 0 0, .cplx .f64 0 0, .int .i64 0, .str [], .str [], .str [], .bool false, .nils, .nils, .nils, .cplx .f64 0 0, .cplx .f64 0 0, .int .i64 0, .nils, .nils], .bool true]
theorem Gete13 : isAns (callT (envM mdA (orcOf [kTr])) 400 F_msg_Get Geta13) Getr13 = true := by kernel_rfl
theorem Getc13 : Contract PG F_msg_Get Geta13 [] Getr13 [] := con_tab (ak kTr_ok ank) Gete13
end Go.Wk
end

section
/- The table of F_msg_Get in the first run. By program. -/
open Go Go.AM
namespace Go.Wk
def Gettab : List Rw := [(Geta0, Getr0), (Geta1, Getr1), (Geta2, Getr2), (Geta3, Getr3), (Geta4, Getr4), (Geta5, Getr5), (Geta6, Getr6), (Geta7, Getr7), (Geta8, Getr8), (Geta9, Getr9), (Geta10, Getr10), (Geta11, Getr11), (Geta12, Getr12), (Geta13, Getr13)]
noncomputable def kGet : Known := Known.tab F_msg_Get Gettab
theorem kGet_ok : kGet.Ok PG := Known.tab_ok fun r hr => by
  rcases List.mem_cons.1 hr with rfl | hr
  · exact Getc0
  rcases List.mem_cons.1 hr with rfl | hr
  · exact Getc1
  rcases List.mem_cons.1 hr with rfl | hr
  · exact Getc2
  rcases List.mem_cons.1 hr with rfl | hr
  · exact Getc3
  rcases List.mem_cons.1 hr with rfl | hr
  · exact Getc4
  rcases List.mem_cons.1 hr with rfl | hr
  · exact Getc5
  rcases List.mem_cons.1 hr with rfl | hr
  · exact Getc6
  rcases List.mem_cons.1 hr with rfl | hr
  · exact Getc7
  rcases List.mem_cons.1 hr with rfl | hr
  · exact Getc8
  rcases List.mem_cons.1 hr with rfl | hr
  · exact Getc9
  rcases List.mem_cons.1 hr with rfl | hr
  · exact Getc10
  rcases List.mem_cons.1 hr with rfl | hr
  · exact Getc11
  rcases List.mem_cons.1 hr with rfl | hr
  · exact Getc12
  rcases List.mem_cons.1 hr with rfl | hr
  · exact Getc13
  · cases hr
end Go.Wk
end

section
/- Calls of F_hash_Sum in the first run, one by one. By program. -/
open Go Go.AM
namespace Go.Wk
set_option maxRecDepth 100000
set_option maxHeartbeats 0
def Suma0 : List AV := [.str [0, 0, 0, 0]]
def Sumr0 : AV := .int .u64 5558979605539197941
theorem Sume0 : isAns (callT (envM mdA (orcOf [kTr])) 400 F_hash_Sum Suma0) Sumr0 = true := by kernel_rfl
theorem Sumc0 : Contract PG F_hash_Sum Suma0 [] Sumr0 [] := con_tab (ak kTr_ok ank) Sume0
def Suma1 : List AV := [.str [45, 0, 0, 0, 8, 0, 0, 0, 0, 0, 0, 0, 2, 0, 0, 0, 0, 0, 0, 0, 0, 0, 0, 0, 0, 0, 0, 0, 0, 0, 0, 4, 0, 0, 0, 0, 0, 0, 0, 0, 0, 0, 0, 0, 0, 0, 0, 0, 0]]
def Sumr1 : AV := .int .u64 5398029382417033378
theorem Sume1 : isAns (callT (envM mdA (orcOf [kTr])) 400 F_hash_Sum Suma1) Sumr1 = true := by kernel_rfl
theorem Sumc1 : Contract PG F_hash_Sum Suma1 [] Sumr1 [] := con_tab (ak kTr_ok ank) Sume1
def Suma2 : List AV := [.str [97]]
def Sumr2 : AV := .int .u64 12638187200555641996
theorem Sume2 : isAns (callT (envM mdA (orcOf [kTr])) 400 F_hash_Sum Suma2) Sumr2 = true := by kernel_rfl
theorem Sumc2 : Contract PG F_hash_Sum Suma2 [] Sumr2 [] := con_tab (ak kTr_ok ank) Sume2
def Suma3 : List AV := [.str [45, 0, 0, 0, 8, 0, 0, 0, 0, 0, 0, 0, 2, 0, 0, 0, 0, 0, 0, 0, 0, 0, 0, 0, 0, 0, 0, 0, 0, 0, 0, 4, 0, 2, 0, 2, 0, 0, 0, 0, 2, 0, 0, 0, 0, 0, 0, 0, 0]]
def Sumr3 : AV := .int .u64 9870714403770505900
theorem Sume3 : isAns (callT (envM mdA (orcOf [kTr])) 400 F_hash_Sum Suma3) Sumr3 = true := by kernel_rfl
theorem Sumc3 : Contract PG F_hash_Sum Suma3 [] Sumr3 [] := con_tab (ak kTr_ok ank) Sume3
def Suma4 : List AV := [.str [35, 0, 0, 0, 38, 2, 0, 0, 0, 0, 2, 0, 0, 0, 0, 0, 0, 0, 0, 0, 0, 0, 0, 0, 0, 0, 0, 0, 0, 0, 0, 0, 0, 0, 0, 0, 0, 0, 0]]
def Sumr4 : AV := .int .u64 8489422847495850252
theorem Sume4 : isAns (callT (envM mdA (orcOf [kTr])) 400 F_hash_Sum Suma4) Sumr4 = true := by kernel_rfl
theorem Sumc4 : Contract PG F_hash_Sum Suma4 [] Sumr4 [] := con_tab (ak kTr_ok ank) Sume4
def Suma5 : List AV := [.str [49, 0, 0, 0, 8, 0, 0, 0, 0, 0, 0, 0, 2, 0, 0, 0, 0, 0, 0, 0, 0, 0, 0, 0, 0, 0, 0, 0, 0, 0, 0, 4, 0, 2, 0, 6, 2, 4, 2, 0, 2, 0, 2, 2, 4, 2, 0, 0, 0, 0, 0, 0, 0]]
def Sumr5 : AV := .int .u64 1003745875818231402
theorem Sume5 : isAns (callT (envM mdA (orcOf [kTr])) 400 F_hash_Sum Suma5) Sumr5 = true := by kernel_rfl
theorem Sumc5 : Contract PG F_hash_Sum Suma5 [] Sumr5 [] := con_tab (ak kTr_ok ank) Sume5
def Suma6 : List AV := [.str [49, 0, 0, 0, 30, 4, 0, 0, 2, 0, 2, 0, 0, 2, 0, 0, 0, 0, 0, 0, 0, 0, 2, 0, 0, 0, 0, 0, 0, 2, 2, 2, 4, 2, 97, 2, 120, 1, 0, 2, 2, 0, 0, 0, 0, 0, 0, 0, 0, 0, 0, 0, 0]]
def Sumr6 : AV := .int .u64 713898867138351062
theorem Sume6 : isAns (callT (envM mdA (orcOf [kTr])) 400 F_hash_Sum Suma6) Sumr6 = true := by kernel_rfl
theorem Sumc6 : Contract PG F_hash_Sum Suma6 [] Sumr6 [] := con_tab (ak kTr_ok ank) Sume6
end Go.Wk
end

section
/- The table of F_hash_Sum in the first run. By program. -/
open Go Go.AM
namespace Go.Wk
def Sumtab : List Rw := [(Suma0, Sumr0), (Suma1, Sumr1), (Suma2, Sumr2), (Suma3, Sumr3), (Suma4, Sumr4), (Suma5, Sumr5), (Suma6, Sumr6)]
noncomputable def kSum : Known := Known.tab F_hash_Sum Sumtab
theorem kSum_ok : kSum.Ok PG := Known.tab_ok fun r hr => by
  rcases List.mem_cons.1 hr with rfl | hr
  · exact Sumc0
  rcases List.mem_cons.1 hr with rfl | hr
  · exact Sumc1
  rcases List.mem_cons.1 hr with rfl | hr
  · exact Sumc2
  rcases List.mem_cons.1 hr with rfl | hr
  · exact Sumc3
  rcases List.mem_cons.1 hr with rfl | hr
  · exact Sumc4
  rcases List.mem_cons.1 hr with rfl | hr
  · exact Sumc5
  rcases List.mem_cons.1 hr with rfl | hr
  · exact Sumc6
  · cases hr
end Go.Wk
end

section
/- The tables of the first run: messages' bytes. -/
end
