/- Lemmas for the statement of the last text of this claim. -/
import Derived.Test.YtcelhemfoehedaaGreatChecked
import Derived.ProofKit
import Derived.Test.YtcelhemfoehedaaGreatV7D
set_option linter.unusedSimpArgs false
set_option linter.unusedVariables false
namespace Go.Proofs.YtcelhemfoehedaaGreat
open Go Go.Abs
noncomputable section
abbrev Z3:Abs.Ty:=(.cons (.int .i64) (.cons (.int .i64) .unit))
abbrev Z8:Abs.Ty:=(.cons (.int .i64) (.cons (.int .i64) Z3))
abbrev Z9:Abs.Ty:=(.cons .str (.cons (.int .i64) (.cons Z3 (.cons (.int .i64) (.cons (.int .i64) (.cons (.row (.int .i64)) (.cons (.row Z3) Z3)))))))
abbrev Z12:Abs.Ty:=(.cons (.int .i64) (.cons (.int .i64) (.cons (.row (.int .i64)) .unit)))
abbrev Z4:Abs.Ty:=(.cons (.int .i64) (.cons (.int .i64) (.cons (.int .i64) (.cons (.int .i64) (.cons (.int .i64) (.cons (.int .i64) (.cons (.int .i64) (.cons (.int .i64) (.cons (.int .i64) (.cons (.int .i64) (.cons (.int .i64) (.cons (.row Z12) (.cons (.row (.int .i64)) (.cons (.row (.int .i64)) .unit))))))))))))))
abbrev Y13:Type:=((Int×Int×Int×Int×Int×Int×Int×Int×Int×Int×Int×Unit)×Unit)
abbrev Z14:Abs.Ty:=(.cons (.row (.int .i64)) (.cons (.int .i64) .unit))
abbrev Z15:Abs.Ty:=(.cons .str (.cons (.row (.int .i64)) .unit))
abbrev Y17:Type:=(((List Int)×Int×Unit)×Unit)
abbrev Z20:Abs.Ty:=(.cons (.int .i64) (.cons (.row Z8) .unit))
abbrev Z21:Abs.Ty:=(.cons .str (.cons (.int .i64) (.cons (.row Z3) (.cons (.int .i64) (.cons (.int .i64) (.cons .bool .unit))))))
abbrev Y22:Type:=(List (Int×Int×Unit))
abbrev Y6:Type:=(ByteArray×(List (Int×Bool×Y22×Unit))×Int×Unit)
abbrev Y10:Type:=(ByteArray×Int×(Int×Int×Unit)×Int×Int×(List Int)×Y22×Int×Int×Unit)
abbrev Y24:Type:=((Bool×Unit)×(Unit))
abbrev Y26:Type:=(Int×Int×(List Int)×Unit)
abbrev Y7:Type:=(Int×Int×Int×Int×Int×Int×Int×Int×Int×Int×Int×(List Y26)×(List Int)×(List Int)×Unit)
abbrev Z27:Abs.Ty:=(.cons .str (.cons (.row Z9) (.cons (.row (.cons (.int .i64) Z8)) .unit)))
abbrev Z28:Abs.Ty:=(.cons (.int .i64) (.cons (.int .i64) Z8))
abbrev Z11:Abs.Ty:=(.cons .str (.cons (.int .i64) (.cons (.row (.cons (.int .i64) Z28)) .unit)))
abbrev Z1:Abs.Ty:=(.cons (.row Z11) (.cons (.row Z21) (.cons (.row (.cons .str (.cons (.int .i64) (.cons (.row (.int .i64)) .unit)))) (.cons (.row Z27) .unit))))
abbrev Y29:Type:=(List (ByteArray×(List Int)×Unit))
abbrev Y18:Type:=(Y29×(List Y6)×Unit)
abbrev Y30:Type:=((Int×Int×Int×Int×Int×Int×Unit)×Unit)
abbrev Y31:Type:=(Int×Int×Int×Int×Int×Unit)
abbrev Y23:Type:=(ByteArray×(List Y10)×(List Y31)×Unit)
abbrev Y32:Type:=(List (ByteArray×Int×Y22×Int×Int×Bool×Unit))
abbrev Y33:Type:=((Int×Int×Unit)×Unit)
abbrev Y34:Type:=(Int×Int×Int×Int×Unit)
abbrev Y19:Type:=(Int×(List Y34)×Unit)
abbrev Y35:Type:=(Int×Int×Int×Unit)
abbrev Z36:Abs.Ty:=(.cons (.int .i64) (.cons .bool (.cons (.row Z3) .unit)))
abbrev Z5:Abs.Ty:=(.cons .str (.cons (.row Z36) (.cons (.int .i64) .unit)))
abbrev Z25:Abs.Ty:=(.cons (.row Z15) (.cons (.row Z5) .unit))
abbrev Y38:Type:=(List (Int×Int×Int×Int×Int×Int×Int×Unit))
abbrev Y16:Type:=(ByteArray×Int×Y38×Unit)
abbrev Y2:Type:=((List Y16)×Y32×(List (ByteArray×Int×(List Int)×Unit))×(List Y23)×Unit)
abbrev Y37:Type:=((Int×Unit)×((Y2×Unit)×(List ByteArray)×Unit))
abbrev Y39:Type:=(Y17×((Unit)×Unit)×((Unit)×Unit)×Y29×(List Y6)×Unit)
abbrev Qs2:Abs.Sh:=(.dat (.int .i64) .nil)
abbrev Qs3:Abs.Sh:=(.agg (.dat (.int .i64) (.dat (.int .i64) (.dat (.int .i64) (.dat (.int .i64) (.dat (.int .i64) (.dat (.int .i64) (.dat (.int .i64) (.dat (.int .i64) (.dat (.int .i64) (.dat (.int .i64) (.dat (.int .i64) (.st (.own Z12 (5,0)) (.st (.own (.int .i64) (6,0)) (.st (.own (.int .i64) (7,0)) .nil)))))))))))))) .nil)
abbrev Qs5:Abs.Sh:=(.dat .bool .nil)
abbrev Qs6:Abs.Sh:=(.dat (.int .i64) Qs2)
abbrev Qx7:Abs.Stt:=(.ptr (0,0) 2 0 0)
abbrev Qb8:Abs.Bks:=(.arr (.int .i64) false .nil)
abbrev Qs9:Abs.Sh:=(.dat Z14 .nil)
abbrev Qs10:Abs.Sh:=(.agg (.dat (.int .i64) (.dat (.int .i64) (.dat (.int .i64) (.dat (.int .i64) (.dat (.int .i64) (.dat (.int .i64) (.dat (.int .i64) (.dat (.int .i64) (.dat (.int .i64) (.dat (.int .i64) (.dat (.int .i64) (.st (.own Z12 (4,0)) (.st (.own (.int .i64) (5,0)) (.st (.own (.int .i64) (6,0)) .nil)))))))))))))) .nil)
abbrev Qs11:Abs.Sh:=(.agg (.dat (.int .i64) (.dat (.int .i64) (.dat (.int .i64) (.dat (.int .i64) (.dat (.int .i64) (.dat (.int .i64) (.dat (.int .i64) (.dat (.int .i64) (.dat (.int .i64) (.dat (.int .i64) (.dat (.int .i64) (.st (.own Z12 (3,0)) (.st (.own (.int .i64) (4,0)) (.st (.own (.int .i64) (5,0)) .nil)))))))))))))) .nil)
abbrev Qs12:Abs.Sh:=(.agg (.dat (.int .i64) (.dat (.int .i64) (.dat (.int .i64) (.dat (.int .i64) (.dat (.int .i64) (.dat (.int .i64) (.dat (.int .i64) (.dat (.int .i64) (.dat (.int .i64) (.dat (.int .i64) (.dat (.int .i64) (.st (.own Z12 (2,0)) (.st (.own (.int .i64) (3,0)) (.st (.own (.int .i64) (4,0)) .nil)))))))))))))) .nil)
abbrev Qx13:Abs.Stt:=(.ptr (0,0) 14 0 0)
abbrev Qs14:Abs.Sh:=(.st .nil (.st .nil .nil))
abbrev Qs1:Abs.Sh:=(.agg (.dat (.int .i64) (.dat (.int .i64) (.dat (.int .i64) (.dat (.int .i64) (.dat (.int .i64) (.dat (.int .i64) (.dat (.int .i64) (.dat (.int .i64) (.dat (.int .i64) (.dat (.int .i64) (.dat (.int .i64) (.st .nil Qs14)))))))))))) .nil)
abbrev Qx15:Abs.Stt:=(.ptr (1,0) 2 0 0)
abbrev Qb17:Abs.Bks:=(.arr Z12 false (.arr (.int .i64) false Qb8))
abbrev Qb4:Abs.Bks:=(.box 14 (.agg (.dat (.int .i64) (.dat (.int .i64) (.dat (.int .i64) (.dat (.int .i64) (.dat (.int .i64) (.dat (.int .i64) (.dat (.int .i64) (.dat (.int .i64) (.dat (.int .i64) (.dat (.int .i64) (.dat (.int .i64) (.st (.own Z12 (1,0)) (.st (.own (.int .i64) (2,0)) (.st (.own (.int .i64) (3,0)) .nil)))))))))))))) .nil) Qb17)
abbrev Qx18:Abs.Stt:=(.ptr (2,0) 2 0 0)
abbrev Qs19:Abs.Sh:=(.dat Z4 .nil)
abbrev Qb20:Abs.Bks:=(.box 2 Qs9 (.box 2 (.agg Qs14 .nil) (.box 2 (.agg (.st (.own Z15 (3,0)) (.st (.own Z5 (4,0)) .nil)) .nil) (.arr Z15 false (.arr Z5 false .nil)))))
abbrev Qx21:Abs.Stt:=(.ptr (0,0) 3 0 0)
abbrev Qx22:Abs.Stt:=(.own (.int .i64) (0,0))
abbrev Qs23:Abs.Sh:=(.dat (.int .i64) Qs6)
abbrev Qb24:Abs.Bks:=(.box 5 (.dat (.cons (.int .i64) Z8) .nil) .nil)
abbrev Qx25:Abs.Stt:=(.ptr (1,0) 14 0 0)
abbrev Qb26:Abs.Bks:=(.arr Z12 true (.arr (.int .i64) true (.arr (.int .i64) true .nil)))
abbrev Qx27:Abs.Stt:=(.ptr (1,0) 4 0 0)
abbrev Qs28:Abs.Sh:=(.dat (.int .i64) Qs5)
abbrev Qs29:Abs.Sh:=(.dat (.cons .str (.cons (.int .i64) (.cons (.row (.int .i64)) .unit))) .nil)
abbrev Qs30:Abs.Sh:=(.dat Z25 .nil)
abbrev Qs31:Abs.Sh:=(.agg (.st .nil (.st .nil Qs14)) .nil)
abbrev Qs32:Abs.Sh:=(.dat Z1 .nil)
abbrev Qb16:Abs.Bks:=(.box 4 Qs32 (.arr .str false .nil))
abbrev Qb33:Abs.Bks:=(.arr Z3 false .nil)
abbrev Qb34:Abs.Bks:=(.box 2 Qs9 .nil)
abbrev Qs35:Abs.Sh:=(.dat Z5 .nil)
abbrev Qb36:Abs.Bks:=(.box 3 (.dat Z11 .nil) .nil)
abbrev Qs37:Abs.Sh:=(.st Qx21 (.st Qx27 (.st (.own .str (2,0)) Qs2)))
abbrev Qb38:Abs.Bks:=(.box 6 (.dat Z28 .nil) .nil)
abbrev Qx39:Abs.Stt:=(.ptr (3,0) 4 0 0)
abbrev Qs40:Abs.Sh:=(.dat (.row (.int .i64)) .nil)
abbrev Qb41:Abs.Bks:=(.arr Z11 false (.arr Z21 false (.arr Z27 false .nil)))
abbrev Qs42:Abs.Sh:=(.dat .bool (.st Qx13 (.st (.ptr (1,0) 6 0 0) .nil)))
abbrev Qs43:Abs.Sh:=(.dat (.row (.int .i64)) Qs2)
abbrev Qs44:Abs.Sh:=(.dat Z3 .nil)
abbrev Qb45:Abs.Bks:=(.arr (.int .i64) false (.box 14 Qs3 (.box 14 Qs1 (.box 6 (.dat Z28 .nil) (.box 14 Qs19 Qb17)))))
abbrev Qs46:Abs.Sh:=(.agg (.st (.own Z15 (4,0)) (.st (.own Z5 (5,0)) .nil)) .nil)
abbrev Qs47:Abs.Sh:=(.agg (.st (.own Z15 (5,0)) (.st (.own Z5 (6,0)) .nil)) .nil)
abbrev Qx48:Abs.Stt:=(.ptr (0,0) 4 0 0)
abbrev Qx49:Abs.Stt:=(.ptr (4,0) 14 0 0)
abbrev Qx50:Abs.Stt:=(.ptr (1,0) 3 0 0)
abbrev Qs51:Abs.Sh:=(.dat (.int .i64) (.st Qx13 (.dat (.int .i64) (.dat (.row Z20) (.st Qx15 .nil)))))
def note:FuncId→Abs.Note
  |2=>⟨true,[],false,fun _=> []⟩
  |3=>⟨true,[0,2,3,4,5,6,7,8,9,10,11,12,13,14,15,18,47,67,90,92,93,101,112],false,fun _=> []⟩
  |4=>⟨true,[0,2,3,4,5,6,8,9,10,11,12,13,14,15,16,19,63,65,76,89],false,fun _=> []⟩
  |5=>⟨true,[0,2,3,4,5,6,7,8,9,10,11,12,13,14,15,18,38,47,64,78,82,101],false,fun|17=> [(0,7),(1,7),(2,7),(0,12),(1,12),(2,12),(7,12),(8,12)]|_=> []⟩
  |6=>⟨true,[0,2,3,4,5,6,7,8,9,10,12,14,16,17,18,20,21,22,25,26,29,54,62,63,64,65,69,70,71,72,75,76,77,78,84,86,87,88,89,144],false,fun _=> []⟩
  |7=>⟨true,[0,1,2,4,6,7,8,9,10,12,14,15,16,17,18,19,20,21,22,24,26,27,28,29,30,39,58,72,73,74,75,130,138,139,140,141,155,161,162,163,164,186],false,fun|9=> [(0,3)]|16=> [(22,23),(22,25)]|19=> [(2,4),(1,5),(2,5)]|22=> [(1,2),(7,8)]|_=> []⟩
  |8=>⟨true,[0,2],false,fun _=> []⟩
  |9=>⟨true,[0,1,2,3,4,5],false,fun _=> []⟩
  |10=>⟨true,[0,2],false,fun _=> []⟩
  |11=>⟨true,[0,2,3,4,5,6,7,8,9,10,11,20,33,50,71,91],false,fun|6=> [(3,5),(3,8),(5,8)]|17=> [(1,3),(1,4)]|18=> [(0,4),(0,5),(3,5),(0,7),(3,7),(4,7),(5,7)]|22=> [(1,3),(1,4)]|_=> []⟩
  |12=>⟨true,[0,2,3,4,5,6,7,8,9,10,14,29,48,65,78],false,fun|5=> [(0,2),(0,7),(2,7),(5,7),(0,8),(2,8),(5,8),(0,10),(2,10),(5,10),(7,10),(8,10)]|7=> [(1,3),(1,5)]|12=> [(0,2),(0,7),(2,7),(5,7),(0,8),(2,8),(5,8),(0,10),(2,10),(5,10),(7,10),(8,10)]|20=> [(1,4),(1,5)]|_=> []⟩
  |13=>⟨true,[0,1,2,3,5,6,8,9,10,11,12,13,14,15,16,17,38,46,68,91],false,fun|2=> [(0,2),(2,6),(0,9),(0,15),(2,15),(6,15),(9,15),(11,15)]|12=> [(0,5),(1,5),(2,5),(5,8),(0,10),(1,10),(2,10),(0,15),(1,15),(2,15),(5,15),(8,15),(10,15),(11,15)]|_=> []⟩
  |14=>⟨true,[0,1,2,3,4,5,6,8,9,10,11,12,13,17,32,42],false,fun _=> []⟩
  |15=>⟨true,[0,1,2,3,8,9,21,22,28],false,fun _=> []⟩
  |16=>⟨true,[0,1,2,3,5,6,7,8,9,10,11,12,13,14,23,29,37,43,57,58,62,70,77,90,108,112,128,151],false,fun|11=> [(1,4),(4,7),(5,7),(7,9)]|16=> [(1,3)]|29=> [(1,11),(3,11),(5,11),(8,11),(3,13),(5,13),(8,13),(8,15)]|31=> [(1,7),(4,7),(4,9)]|34=> [(1,3)]|_=> []⟩
  |17=>⟨true,[0,1,2,3,4,5,6,7,8,9,17,24],false,fun _=> []⟩
  |18=>⟨true,[0,1,2,3,4,5,6,7,8,9,10,11,12,14,15,16,17,21,29,34,45,65,85,100,124],false,fun|24=> [(1,6)]|25=> [(1,3),(3,6),(4,6),(6,9),(6,11)]|_=> []⟩
  |19=>⟨true,[0,1,4,5,19,40],false,fun _=> []⟩
  |20=>⟨true,[0,1,2,3,4,8,9,17,25],false,fun _=> []⟩
  |21=>⟨true,[0,1,2,4,16],false,fun _=> []⟩
  |22=>⟨true,[0,1,4],false,fun _=> []⟩
  |23=>⟨true,[0,1,2],false,fun _=> []⟩
  |24=>⟨true,[0,2,3,4,6,11],false,fun _=> []⟩
  |25=>⟨true,[0,1,2,3,5,6,7,9,11,12,13,17,19,20,21,22,26,27,28,29,38],false,fun _=> []⟩
  |26=>⟨true,[0,2,3,4,8],false,fun _=> []⟩
  |27=>⟨true,[0,1,2,4,5,6,9,13,28],false,fun _=> []⟩
  |28=>⟨true,[0,1,2,3,6,7,8,9,10,11,12,13,14,15,16,23,57,65,98,110],false,fun|10=> [(6,11),(6,12)]|_=> []⟩
  |29=>⟨true,[0,1,4,5,7,8,9,10,11,21],false,fun _=> []⟩
  |30=>⟨true,[0,1,4,5,6,12],false,fun|5=> [(1,3),(1,4)]|_=> []⟩
  |31=>⟨true,[0,1,3,4,5,9,10,16,22,28,34,40,46,52,58,64,73,82,98],false,fun|22=> [(1,3),(1,4)]|26=> [(1,3),(1,6),(3,6),(1,7),(1,9),(1,11)]|_=> []⟩
  |32=>⟨true,[0,1,2,3,4,5,6,7,12],false,fun _=> []⟩
  |33=>⟨true,[0,1,2,3,4,5,6,7,9,14],false,fun|4=> [(0,2)]|_=> []⟩
  |34=>⟨true,[0,1,2,3,4,5,6,7,8,9,17,23],false,fun _=> []⟩
  |35=>⟨true,[0,1,2,3,5,6,7,8,9,10,11,21,32,49],false,fun _=> []⟩
  |36=>⟨true,[0,1,3,4,5,6,7,8,9,10,11,12,13,18,40,61,76,91,92,102,110,118,131,136,141,162,167,177,180],false,fun|16=> [(1,6)]|19=> [(3,10)]|33=> [(1,6)]|37=> [(1,2),(1,4),(2,4)]|_=> []⟩
  |37=>⟨true,[0,1,2],false,fun _=> []⟩
  |38=>⟨true,[0,1,2],false,fun _=> []⟩
  |39=>⟨true,[0,1,2,10],false,fun _=> []⟩
  |40=>⟨true,[0,1,4,5,6,10,26],false,fun _=> []⟩
  |41=>⟨true,[0,2,3,4,21,22,32],false,fun|5=> [(1,4)]|_=> []⟩
  |42=>⟨true,[0,1,3,4,5,6,16],false,fun _=> []⟩
  |43=>⟨true,[0,1,2,3,4,6,7,43,73,100,105,117],false,fun|2=> [(14,21)]|_=> []⟩
  |44=>⟨true,[0,1,2,3,4,5,10],false,fun|9=> [(2,4)]|_=> []⟩
  |45=>⟨true,[0,1,2,3,5,6,10],false,fun _=> []⟩
  |46=>⟨true,[0,1,2,24,26,27,34,39],false,fun _=> []⟩
  |47=>⟨true,[0,1,4,5,9,17],false,fun _=> []⟩
  |48=>⟨true,[0,1,2,3,4,5,6,12,27,47],false,fun _=> []⟩
  |49=>⟨true,[0,1,2,6],false,fun _=> []⟩
  |50=>⟨true,[0,1,4,5,6,7,11,23,33,42],false,fun _=> []⟩
  |51=>⟨true,[0,1,2,3,5,6,10],false,fun _=> []⟩
  |52=>⟨true,[0,2,3,5,6,7,8,9],false,fun _=> []⟩
  |53=>⟨true,[0,1,2,4,5,6,14],false,fun _=> []⟩
  |54=>⟨true,[0,1,2,3,4,5,8,9,10,11,12,13,17,24,41,60,64,86,103],false,fun _=> []⟩
  |55=>⟨true,[0,1,2,3,4,8,9,15],true,fun _=> []⟩
  |56=>⟨true,[0,1,2,6],false,fun _=> []⟩
  |57=>⟨true,[0,1,2,4,5,6,14],false,fun _=> []⟩
  |58=>⟨true,[0,1,2,12],false,fun _=> []⟩
  |59=>⟨true,[0,1,2,3],false,fun|1=> [(0,2)]|_=> []⟩
  |60=>⟨true,[0,1,2,3,4,5,25,42],false,fun|4=> [(5,7)]|_=> []⟩
  |61=>⟨true,[0,2],false,fun _=> []⟩
  |62=>⟨true,[0,1,2],false,fun _=> []⟩
  |63=>⟨true,[0,1,4,20],false,fun _=> []⟩
  |64=>⟨true,[0,1,2,4,5,6,7,8,9,17,22,32,60],false,fun _=> []⟩
  |65=>⟨true,[0,1,3,4,5,17,25],false,fun _=> []⟩
  |66=>⟨true,[0,1,3,4,5,6,7,19],false,fun _=> []⟩
  |67=>⟨true,[0,1,4,5,6,19],false,fun _=> []⟩
  |68=>⟨true,[0,1,2],false,fun _=> []⟩
  |69=>⟨true,[0,1,2,3,5,7,8,9,10,14],false,fun _=> []⟩
  |70=>⟨true,[0,2],false,fun _=> []⟩
  |71=>⟨true,[0,2,3,4,8],false,fun _=> []⟩
  |72=>⟨true,[0,1,2,4,5,6,7,20,23],false,fun _=> []⟩
  |73=>⟨true,[0,1,2,12],false,fun _=> []⟩
  |74=>⟨true,[0,1,2,3],false,fun|1=> [(0,2)]|_=> []⟩
  |75=>⟨true,[0,1,2,3,8,18],false,fun _=> []⟩
  |76=>⟨true,[0,1,2,3,13,18,27],false,fun _=> []⟩
  |77=>⟨true,[0,1,2,3,4,13],false,fun _=> []⟩
  |78=>⟨true,[0,1,2,3,4,5,6,13,53,58],false,fun _=> []⟩
  |79=>⟨true,[0,1,4,5,9,40],false,fun _=> []⟩
  |80=>⟨true,[0,1,2,3,6],true,fun _=> []⟩
  |81=>⟨true,[0,1,2,3,4,8,9,13,23],true,fun _=> []⟩
  |82=>⟨true,[0,1,2,3,6,7,8],false,fun _=> []⟩
  |83=>⟨true,[0,1,2,3,4,6,9,10,11,33,34,35,36,42],false,fun _=> []⟩
  |84=>⟨true,[0,1,2,6],false,fun _=> []⟩
  |85=>⟨true,[0,1,2,6],false,fun _=> []⟩
  |86=>⟨true,[0,1,4],false,fun _=> []⟩
  |87=>⟨true,[0,1,2],true,fun _=> []⟩
  |88=>⟨true,[0,1,2],false,fun _=> []⟩
  |89=>⟨true,[0,1,2,3,4,6,10,11,12,13,41],false,fun _=> []⟩
  |90=>⟨true,[0,2,3,4,5,6,7,8,27],false,fun _=> []⟩
  |91=>⟨true,[0,2,3,4,5,6,7,8,16],false,fun _=> []⟩
  |92=>⟨true,[0,1,2],false,fun _=> []⟩
  |93=>⟨true,[0,1,2,3,4,9,19],false,fun _=> []⟩
  |94=>⟨true,[0,2],false,fun _=> []⟩
  |95=>⟨true,[0,1,4],false,fun _=> []⟩
  |96=>⟨true,[0,1,2],true,fun _=> []⟩
  |97=>⟨true,[0,1,2],false,fun _=> []⟩
  |98=>⟨true,[0,1,2,5],false,fun _=> []⟩
  |99=>⟨true,[0,1,2,5],false,fun _=> []⟩
  |100=>⟨true,[0,1,2,3,6,11],true,fun _=> []⟩
  |101=>⟨true,[0,1,2,3,4,5,27,31,36,41],false,fun _=> []⟩
  |102=>⟨true,[0,1,4],false,fun _=> []⟩
  |103=>⟨true,[0,1,2,4,5,6,7,15],false,fun _=> []⟩
  |104=>⟨true,[0,2,3,6,10,39,55],false,fun _=> []⟩
  |105=>⟨true,[0,1,4,5,9,27],false,fun _=> []⟩
  |106=>⟨true,[0,1,4,5,7,8,9,16],false,fun _=> []⟩
  |107=>⟨true,[0,1,4],false,fun _=> []⟩
  |108=>⟨true,[0,1,2,6],false,fun _=> []⟩
  |109=>⟨true,[0,1,4,5,7,8,9,16],false,fun _=> []⟩
  |110=>⟨true,[0,1,2,6],false,fun _=> []⟩
  |111=>⟨true,[0,1,2,3,6],true,fun _=> []⟩
  |112=>⟨true,[0,1,2,3,6,8],true,fun _=> []⟩
  |113=>⟨true,[0,1,2,3,4,5,10,26,43],false,fun _=> []⟩
  |114=>⟨true,[0,1,2,3,4,5,6,11,26,31,33,42,47],false,fun _=> []⟩
  |115=>⟨true,[0,1,2,3,4,5,6,7,8,13,30,39,43,48,58,63,77],false,fun|17=> [(1,5),(4,5)]|_=> []⟩
  |116=>⟨true,[0,1,2,3,4,5,6,7,8,9,10,11,12,17,34,45,50,66,76,82,93],false,fun _=> []⟩
  |117=>⟨true,[0,1,2,4,5,6,7,15],false,fun _=> []⟩
  |118=>⟨true,[0,1,2],false,fun|1=> [(2,5)]|_=> []⟩
  |119=>⟨true,[0,1,4,5,7,8,9,16],false,fun _=> []⟩
  |120=>⟨true,[0,1,2,3,6,7,8,9,10,21,40],true,fun _=> []⟩
  |121=>⟨true,[0,1,2,6,7,8,12,19,30,36,48],true,fun _=> []⟩
  |122=>⟨true,[0,1,4,5,11,14,25],false,fun _=> []⟩
  |123=>⟨true,[0,1,2,4],false,fun _=> []⟩
  |124=>⟨true,[0,1,2,3,4,13],false,fun _=> []⟩
  |125=>⟨true,[0,1,2,6],false,fun _=> []⟩
  |126=>⟨true,[0,2],false,fun _=> []⟩
  |127=>⟨true,[0],true,fun _=> []⟩
  |128=>⟨true,[0,1,2,3,4,5,6,15,41,46,55,68,69,74,79,93],false,fun|3=> [(2,3)]|_=> []⟩
  |129=>⟨true,[0,1,2,3,4,5,9,14,44,53,64,80],false,fun|10=> [(10,12)]|_=> []⟩
  |130=>⟨true,[0,1,2,4,5,6,7,14,17],false,fun _=> []⟩
  |131=>⟨true,[0,1,4,5],false,fun _=> []⟩
  |132=>⟨true,[0,2],true,fun _=> []⟩
  |133=>⟨true,[0,1,2,3,4,6,7,8,17],true,fun _=> []⟩
  |134=>⟨true,[0,1,2,3,6,7,8,13,41],true,fun _=> []⟩
  |135=>⟨true,[0,2,3,21,25,56],false,fun _=> []⟩
  |136=>⟨true,[0,1,2,3,4,5,6,7,8,9,10,14,18,23,32,50,59,68,111],false,fun|21=> [(4,13),(11,13)]|24=> [(2,5),(3,5)]|_=> []⟩
  |137=>⟨true,[0,2],true,fun _=> []⟩
  |138=>⟨true,[0,1,2,6],false,fun _=> []⟩
  |139=>⟨true,[0,1,2,3,6,7,8,23],false,fun _=> []⟩
  |140=>⟨true,[0,1,2,3,4,6,7,8,9,10,11,12,14,15,48,51,74],true,fun _=> []⟩
  |141=>⟨true,[0,2],false,fun _=> []⟩
  |142=>⟨true,[0,1,2],false,fun _=> []⟩
  |143=>⟨true,[0,2,3,4,5,6,8,9,13,27,78],false,fun|9=> [(6,14),(12,14)]|_=> []⟩
  |144=>⟨true,[0,1,2,3,4,6,7,11,17],true,fun _=> []⟩
  |145=>⟨true,[0,1,2,3,8,9,10,11,12,37,42,46,59],true,fun _=> []⟩
  |146=>⟨true,[0,1,2,3,4,57],true,fun _=> []⟩
  |147=>⟨true,[0,1,2,3,4,6,7,8,9,10,12,13,14,17,31,50,64,79],true,fun _=> []⟩
  |148=>⟨true,[0,1,2,3,4,5,8,15],true,fun _=> []⟩
  |149=>⟨true,[0,1,4,5,6,14,19,22],true,fun _=> []⟩
  |150=>⟨true,[0,1,2,3,4,5,6,7,8,9,10,11,12,19,23,26,30,34,40,55,74],false,fun _=> []⟩
  |151=>⟨true,[0,1,2,3,4,6,7,8,9,10,11,12,13,16,46],true,fun _=> []⟩
  |152=>⟨true,[0,1,2],true,fun|1=> [(25,30)]|_=> []⟩
  |153=>⟨true,[0,2],true,fun _=> []⟩
  |154=>⟨true,[0,2],false,fun _=> []⟩
  |_=>⟨false,[],false,fun _=> []⟩
theorem good:Abs.Good Tryz.prog note:=Abs.good_of (by kernel_rfl)
theorem foll:(Tryz.prog).follows .mixedOrders=true:=by kernel_rfl
def i8:Abs.Sg:=⟨[0],Qs40,.nil⟩
def o8:Abs.Sg:=⟨[2],Qs5,.nil⟩
def m8(v:(((List Int)×Unit)×(Unit))):Option Y24:=
some (((decide (((v.1.1.length:Int):Int)≤500)),()),())
def sp8:Abs.Spec:=⟨0,i8,o8,m8⟩
def an8:Nat→Abs.FAn
  |_=>{}
theorem ok8:Abs.SpecOK Tryz.prog 8 sp8:=
  Abs.specOK_of (n:=12) (an:=an8) (T:=Abs.tabOf []) good foll (Abs.tabOf_ok _ (fun _ h=>by cases h)) rfl (by intro v;kernel_rfl)
def i56:Abs.Sg:=⟨[0,1,2],Qs23,.nil⟩
def o56:Abs.Sg:=⟨[6],Qs5,.nil⟩
def m56(v:(Y35×(Unit))):Option Y24:=
((bif (decide ((v.1.1:Int)≥v.1.2.1))then(some (((decide ((v.1.1:Int)≤v.1.2.2.1)),()),()))
else(some ((false,()),()))):Option Y24).bind fun v1=>
some ((v1.1.1,()),())
def sp56:Abs.Spec:=⟨0,i56,o56,m56⟩
def an56:Nat→Abs.FAn
  | 0=>Abs.FAn.mk (fun
    |1=>some ⟨[6],Qs5,.nil⟩
    |_=>none) (fun _=>none) (fun _=>none) (fun _ _=>0)
  |_=>{}
theorem ok56:Abs.SpecOK Tryz.prog 56 sp56:=
  Abs.specOK_of (n:=12) (an:=an56) (T:=Abs.tabOf []) good foll (Abs.tabOf_ok _ (fun _ h=>by cases h)) rfl (by intro v;kernel_rfl)
def i20:Abs.Sg:=⟨[0,1,2,3],(.dat Z25 Qs23),.nil⟩
def o20:Abs.Sg:=⟨[8,9],(.st Qx13 Qs2),(.box 14 Qs1 .nil)⟩
def m20(v:((Y18×Int×Int×Int×Unit)×(Unit))):Option ((Int×Unit)×(Y13×Unit)):=
(((m56 ((v.1.2.1,(1,(999999,()))),())).bind fun u15=>
bif (!u15.1.1)then(some ((true,(v.1.2.2.2.1,(v.1.2.2.1,(v.1.2.1,())))),(((0,(0,(0,(0,(0,(0,(0,(0,(0,(0,(0,()))))))))))),()),((v.1.1,()),()))))
else((m56 ((v.1.2.2.2.1,(0,(8589934592,()))),())).bind fun u16=>
some (((!u16.1.1),(v.1.2.2.2.1,(v.1.2.2.1,(v.1.2.1,())))),(((0,(0,(0,(0,(0,(0,(0,(0,(0,(0,(0,()))))))))))),()),((v.1.1,()),()))))):Option ((Bool×Int×Int×Int×Unit)×(Y13×(Y18×Unit)×Unit))).bind fun v17=>
bif v17.1.1 then(some ((1,()),(((0,(0,(0,(0,(0,(0,(0,(0,(0,(0,(0,()))))))))))),()),())))
else((m56 ((v17.1.2.2.1,(0,((w64 ((v17.2.2.1.1.2.1.length:Int)-1)),()))),())).bind fun u18=>
bif (!u18.1.1)then(some ((3,()),(((0,(0,(0,(0,(0,(0,(0,(0,(0,(0,(0,()))))))))))),()),())))
else(some ((0,()),(((v17.1.2.2.2.1,(v17.1.2.2.1,(v17.1.2.1,(0,(v17.1.2.1,(0,((-1),(0,(v17.1.2.1,(0,(0,()))))))))))),()),()))))
def sp20:Abs.Spec:=⟨0,i20,o20,m20⟩
def an20:Nat→Abs.FAn
  | 0=>Abs.FAn.mk (fun
    |1=>some ⟨[17,8,3,2,1,4],(.dat .bool (.st Qx13 (.dat (.int .i64) (.dat (.int .i64) (.dat (.int .i64) (.st Qx15 .nil)))))),(.box 14 Qs1 (.box 2 Qs30 .nil))⟩
    |_=>none) (fun _=>none) (fun _=>none) (fun _ _=>0)
  |_=>{}
theorem ok20:Abs.SpecOK Tryz.prog 20 sp20:=
  Abs.specOK_of (n:=12) (an:=an20) (T:=Abs.tabOf [(56,sp56)]) good foll (Abs.tabOf_ok _ (by simp only[List.forall_mem_cons];exact⟨ok56,fun _ h=>by cases h⟩)) rfl (by intro v;kernel_rfl)
def i85:Abs.Sg:=⟨[0,1,2],Qs23,.nil⟩
def o85:Abs.Sg:=⟨[6],Qs5,.nil⟩
def m85(v:(Y35×(Unit))):Option Y24:=
((bif (decide ((v.1.1:Int)≥v.1.2.1))then(some (((decide ((v.1.1:Int)≤v.1.2.2.1)),()),()))
else(some ((false,()),()))):Option Y24).bind fun v1=>
some ((v1.1.1,()),())
def sp85:Abs.Spec:=⟨0,i85,o85,m85⟩
def an85:Nat→Abs.FAn
  | 0=>Abs.FAn.mk (fun
    |1=>some ⟨[6],Qs5,.nil⟩
    |_=>none) (fun _=>none) (fun _=>none) (fun _ _=>0)
  |_=>{}
theorem ok85:Abs.SpecOK Tryz.prog 85 sp85:=
  Abs.specOK_of (n:=12) (an:=an85) (T:=Abs.tabOf []) good foll (Abs.tabOf_ok _ (fun _ h=>by cases h)) rfl (by intro v;kernel_rfl)
def i87:Abs.Sg:=⟨[0],(.dat Z36 .nil),.nil⟩
def o87:Abs.Sg:=⟨[2],Qs5,.nil⟩
def m87(v:(((Int×Bool×Y22×Unit)×Unit)×(Unit))):Option Y24:=
(m85 ((v.1.1.1,(0,(86400,()))),())).bind fun u2=>
some (((!u2.1.1),()),())
def sp87:Abs.Spec:=⟨0,i87,o87,m87⟩
def an87:Nat→Abs.FAn
  |_=>{}
theorem ok87:Abs.SpecOK Tryz.prog 87 sp87:=
  Abs.specOK_of (n:=12) (an:=an87) (T:=Abs.tabOf [(85,sp85)]) good foll (Abs.tabOf_ok _ (by simp only[List.forall_mem_cons];exact⟨ok85,fun _ h=>by cases h⟩)) rfl (by intro v;kernel_rfl)
def i84:Abs.Sg:=⟨[0,1,2],Qs23,.nil⟩
def o84:Abs.Sg:=⟨[6],Qs5,.nil⟩
def m84(v:(Y35×(Unit))):Option Y24:=
((bif (decide ((v.1.1:Int)≥v.1.2.1))then(some (((decide ((v.1.1:Int)≤v.1.2.2.1)),()),()))
else(some ((false,()),()))):Option Y24).bind fun v1=>
some ((v1.1.1,()),())
def sp84:Abs.Spec:=⟨0,i84,o84,m84⟩
def an84:Nat→Abs.FAn
  | 0=>Abs.FAn.mk (fun
    |1=>some ⟨[6],Qs5,.nil⟩
    |_=>none) (fun _=>none) (fun _=>none) (fun _ _=>0)
  |_=>{}
theorem ok84:Abs.SpecOK Tryz.prog 84 sp84:=
  Abs.specOK_of (n:=12) (an:=an84) (T:=Abs.tabOf []) good foll (Abs.tabOf_ok _ (fun _ h=>by cases h)) rfl (by intro v;kernel_rfl)
def i58:Abs.Sg:=⟨[0],Qs35,.nil⟩
def o58:Abs.Sg:=⟨[2],Qs2,.nil⟩
def m58(v:((Y6×Unit)×(Unit))):Option ((Int×Unit)×(Unit)):=
(((m84 ((v.1.1.2.2.1,(0,(8,()))),())).bind fun u9=>
bif (!u9.1.1)then(some ((true,()),((v.1.1,()),())))
else(some (((decide (((v.1.1.2.1.length:Int):Int)>8)),()),((v.1.1,()),())))):Option ((Bool×Unit)×((Y6×Unit)×Unit))).bind fun v10=>
bif v10.1.1 then(some ((0,()),()))
else(let x11:=(w64 ((v10.2.1.1.2.1.length:Int)*(w64 (v10.2.1.1.2.2.1+1))))
some ((x11,()),()))
def sp58:Abs.Spec:=⟨0,i58,o58,m58⟩
def an58:Nat→Abs.FAn
  | 0=>Abs.FAn.mk (fun
    |1=>some ⟨[12,1],(.dat .bool (.st Qx21 .nil)),(.box 3 Qs35 .nil)⟩
    |_=>none) (fun _=>none) (fun _=>none) (fun _ _=>0)
  |_=>{}
theorem ok58:Abs.SpecOK Tryz.prog 58 sp58:=
  Abs.specOK_of (n:=12) (an:=an58) (T:=Abs.tabOf [(84,sp84)]) good foll (Abs.tabOf_ok _ (by simp only[List.forall_mem_cons];exact⟨ok84,fun _ h=>by cases h⟩)) rfl (by intro v;kernel_rfl)
def i88:Abs.Sg:=⟨[0],Qs19,.nil⟩
def o88:Abs.Sg:=⟨[2],Qs5,.nil⟩
def m88(v:((Y7×Unit)×(Unit))):Option Y24:=
(((m85 ((v.1.1.2.2.2.2.2.2.2.2.1,(v.1.1.2.2.1,(17179869184,()))),())).bind fun u11=>
bif u11.1.1 then((m85 ((v.1.1.2.2.2.2.1,(0,(17179869184,()))),())).bind fun u12=>
bif u12.1.1 then((m85 ((v.1.1.2.2.2.2.2.2.2.1,(0,(17179869184,()))),())).bind fun u13=>
bif u13.1.1 then((m85 ((v.1.1.2.2.2.2.2.2.2.2.2.1,(0,(4,()))),())).bind fun u14=>
bif u14.1.1 then((m85 ((v.1.1.2.2.2.2.2.2.2.2.2.2.1,(0,(4,()))),())).bind fun u15=>
some ((u15.1.1,()),()))
else(some ((false,()),())))
else(some ((false,()),())))
else(some ((false,()),())))
else(some ((false,()),()))):Option Y24).bind fun v16=>
some ((v16.1.1,()),())
def sp88:Abs.Spec:=⟨0,i88,o88,m88⟩
def an88:Nat→Abs.FAn
  | 0=>Abs.FAn.mk (fun
    |1=>some ⟨[2],Qs5,.nil⟩
    |_=>none) (fun _=>none) (fun _=>none) (fun _ _=>0)
  |_=>{}
theorem ok88:Abs.SpecOK Tryz.prog 88 sp88:=
  Abs.specOK_of (n:=12) (an:=an88) (T:=Abs.tabOf [(85,sp85)]) good foll (Abs.tabOf_ok _ (by simp only[List.forall_mem_cons];exact⟨ok85,fun _ h=>by cases h⟩)) rfl (by intro v;kernel_rfl)
def l90_0_2(v:((Int×(List Int)×(List Int)×Int×Unit)×(Unit))):Option (((Int×(List Int)×(List Int)×Int×Unit)×(Unit))⊕(Y24⊕((Unit)×(Unit)))):=
bif (decide ((v.1.1:Int)<v.1.2.2.2.1))then(Abs.rowAt v.1.2.2.1 v.1.1 fun e30 _=>
(((m85 ((e30,(0,(31,()))),())).bind fun u31=>
bif (!u31.1.1)then(some ((true,(v.1.2.1,(v.1.2.2.1,(v.1.2.2.2.1,(v.1.1,()))))),()))
else(bif (decide ((v.1.1:Int)>0))then(Abs.rowAt v.1.2.1 (w64 (v.1.1-1)) fun e32 _=>
some (((decide ((e30:Int)≤e32)),(v.1.2.1,(v.1.2.2.1,(v.1.2.2.2.1,(v.1.1,()))))),()))
else(some ((false,(v.1.2.1,(v.1.2.2.1,(v.1.2.2.2.1,(v.1.1,()))))),())))):Option ((Bool×(List Int)×(List Int)×Int×Int×Unit)×(Unit))).bind fun v33=>
bif v33.1.1 then(some (.inr (.inl ((false,()),()))))
else(some (.inl (((w64 (v33.1.2.2.2.2.1+1)),(v33.1.2.1,(v33.1.2.2.1,(v33.1.2.2.2.1,())))),()))))
else(some (.inr (.inr ((),()))))
def i90:Abs.Sg:=⟨[0],Qs40,.nil⟩
def o90:Abs.Sg:=⟨[2],Qs5,.nil⟩
def m90(v:(((List Int)×Unit)×(Unit))):Option Y24:=
(loopT l90_0_2 ((0,(v.1.1,(v.1.1,((v.1.1.length:Int),())))),())).bind fun d34=>
sumE d34 (fun d35=>(some ((d35.1.1,()),()))) (fun d36=>(some ((true,()),())))
def sp90:Abs.Spec:=⟨0,i90,o90,m90⟩
def an90:Nat→Abs.FAn
  | 0=>Abs.FAn.mk (fun
    |4=>some ⟨[27,0,5,6,7],(.dat .bool (.dat (.row (.int .i64)) (.dat (.row (.int .i64)) Qs6))),.nil⟩
    |_=>none) (fun _=>none) (fun
    |2=>some ⟨⟨[7,0,5,6],(.dat (.int .i64) (.dat (.row (.int .i64)) Qs43)),.nil⟩,(.more .ret ⟨[2],Qs5,.nil⟩ (.one (.exit 0) ⟨[],.nil,.nil⟩))⟩
    |_=>none) (fun _ _=>0)
  |_=>{}
theorem ok90:Abs.SpecOK Tryz.prog 90 sp90:=
  Abs.specOK_of (n:=12) (an:=an90) (T:=Abs.tabOf [(85,sp85)]) good foll (Abs.tabOf_ok _ (by simp only[List.forall_mem_cons];exact⟨ok85,fun _ h=>by cases h⟩)) rfl (by intro v;kernel_rfl)
def l89_0_3(v:((Int×Int×Int×(List Y26)×Int×Unit)×((Y7×Unit)×Unit))):Option (((Int×Int×Int×(List Y26)×Int×Unit)×((Y7×Unit)×Unit))⊕(Y24⊕((Unit)×((Y7×Unit)×Unit)))):=
bif (decide ((v.1.1:Int)<v.1.2.2.2.2.1))then(Abs.rowAt v.1.2.2.2.1 v.1.1 fun e40 _=>
((bif (decide ((e40.2.1:Int)<v.1.2.2.1))then(some ((true,(v.1.2.2.2.1,(v.1.2.2.2.2.1,(v.1.1,(v.1.2.1,()))))),((v.2.1.1,()),((e40,()),()))))
else((m90 ((e40.2.2.1,()),())).bind fun u41=>
bif (!u41.1.1)then(some ((true,(v.1.2.2.2.1,(v.1.2.2.2.2.1,(v.1.1,(v.1.2.1,()))))),((v.2.1.1,()),((e40,()),()))))
else(bif ((e40.1:Int) !=(-1))then((m85 ((e40.1,((w64 (v.1.2.1+1)),((w64 (v.2.1.1.2.2.2.1-1)),()))),())).bind fun u42=>
some (((!u42.1.1),(v.1.2.2.2.1,(v.1.2.2.2.2.1,(v.1.1,(v.1.2.1,()))))),((v.2.1.1,()),((e40,()),()))))
else(some ((false,(v.1.2.2.2.1,(v.1.2.2.2.2.1,(v.1.1,(v.1.2.1,()))))),((v.2.1.1,()),((e40,()),()))))))):Option ((Bool×(List Y26)×Int×Int×Int×Unit)×((Y7×Unit)×(Y26×Unit)×Unit))).bind fun v43=>
bif v43.1.1 then(some (.inr (.inl ((false,()),()))))
else(let x44:=(if(v43.2.2.1.1.1:Int)>v43.1.2.2.2.2.1 then v43.2.2.1.1.1 else v43.1.2.2.2.2.1)
some (.inl (((w64 (v43.1.2.2.2.1+1)),(x44,(v43.2.2.1.1.2.1,(v43.1.2.1,(v43.1.2.2.1,()))))),((v43.2.1.1,()),())))))
else(some (.inr (.inr ((),((v.2.1.1,()),())))))
def i89:Abs.Sg:=⟨[0],Qs19,.nil⟩
def o89:Abs.Sg:=⟨[2],Qs5,.nil⟩
def m89(v:((Y7×Unit)×(Unit))):Option Y24:=
(loopT l89_0_3 ((0,((-1),(v.1.1.2.2.1,(v.1.1.2.2.2.2.2.2.2.2.2.2.2.1,((v.1.1.2.2.2.2.2.2.2.2.2.2.2.1.length:Int),()))))),((v.1.1,()),()))).bind fun d45=>
sumE d45 (fun d46=>(some ((d46.1.1,()),()))) (fun d47=>(let x48:=(decide (((d47.2.1.1.2.2.2.2.2.2.2.2.2.2.2.1.length:Int):Int)≤200))
some ((x48,()),())))
def sp89:Abs.Spec:=⟨0,i89,o89,m89⟩
def an89:Nat→Abs.FAn
  | 0=>Abs.FAn.mk (fun
    |5=>some ⟨[41,1,10,11,12,6,4],(.dat .bool (.st Qx13 (.dat (.row Z12) (.dat (.int .i64) (.dat (.int .i64) (.st Qx50 Qs2)))))),(.box 14 Qs19 (.box 3 (.dat Z12 .nil) .nil))⟩
    |_=>none) (fun _=>none) (fun
    |3=>some ⟨⟨[12,4,1,3,10,11],(.dat (.int .i64) (.dat (.int .i64) (.st Qx13 (.dat (.int .i64) (.dat (.row Z12) Qs2))))),(.box 14 Qs19 .nil)⟩,(.more .ret ⟨[2],Qs5,.nil⟩ (.one (.exit 0) ⟨[1],(.st Qx13 .nil),(.box 14 Qs19 .nil)⟩))⟩
    |_=>none) (fun _ _=>0)
  |_=>{}
theorem ok89:Abs.SpecOK Tryz.prog 89 sp89:=
  Abs.specOK_of (n:=12) (an:=an89) (T:=Abs.tabOf [(90,sp90),(85,sp85)]) good foll (Abs.tabOf_ok _ (by simp only[List.forall_mem_cons];exact⟨ok90,ok85,fun _ h=>by cases h⟩)) rfl (by intro v;kernel_rfl)
def l119_0_2(v:((Int×(List Int)×Int×Int×Unit)×(Unit))):Option (((Int×(List Int)×Int×Int×Unit)×(Unit))⊕(((Int×Unit)×(Unit))⊕((Unit)×(Unit)))):=
bif (decide ((v.1.1:Int)<v.1.2.2.2.1))then(Abs.rowAt v.1.2.1 v.1.1 fun e13 _=>
bif ((v.1.2.2.1:Int)==e13)then(some (.inr (.inl ((v.1.1,()),()))))
else(some (.inl (((w64 (v.1.1+1)),(v.1.2.1,(v.1.2.2.1,(v.1.2.2.2.1,())))),()))))
else(some (.inr (.inr ((),()))))
def i119:Abs.Sg:=⟨[0,1],Qs43,.nil⟩
def o119:Abs.Sg:=⟨[4],Qs2,.nil⟩
def m119(v:(((List Int)×Int×Unit)×(Unit))):Option ((Int×Unit)×(Unit)):=
(loopT l119_0_2 ((0,(v.1.1,(v.1.2.1,((v.1.1.length:Int),())))),())).bind fun d14=>
sumE d14 (fun d15=>(some ((d15.1.1,()),()))) (fun d16=>(some (((-1),()),())))
def sp119:Abs.Spec:=⟨0,i119,o119,m119⟩
def an119:Nat→Abs.FAn
  | 0=>Abs.FAn.mk (fun _=>none) (fun _=>none) (fun
    |2=>some ⟨⟨[8,0,1,7],(.dat (.int .i64) (.dat (.row (.int .i64)) Qs6)),.nil⟩,(.more .ret ⟨[4],Qs2,.nil⟩ (.one (.exit 0) ⟨[],.nil,.nil⟩))⟩
    |_=>none) (fun _ _=>0)
  |_=>{}
theorem ok119:Abs.SpecOK Tryz.prog 119 sp119:=
  Abs.specOK_of (n:=12) (an:=an119) (T:=Abs.tabOf []) good foll (Abs.tabOf_ok _ (fun _ h=>by cases h)) rfl (by intro v;kernel_rfl)
def i107:Abs.Sg:=⟨[0,1],Qs43,.nil⟩
def o107:Abs.Sg:=⟨[4],Qs5,.nil⟩
def m107(v:(((List Int)×Int×Unit)×(Unit))):Option Y24:=
(m119 ((v.1.1,(v.1.2.1,())),())).bind fun u2=>
some (((decide ((u2.1.1:Int)≥0)),()),())
def sp107:Abs.Spec:=⟨0,i107,o107,m107⟩
def an107:Nat→Abs.FAn
  |_=>{}
theorem ok107:Abs.SpecOK Tryz.prog 107 sp107:=
  Abs.specOK_of (n:=12) (an:=an107) (T:=Abs.tabOf [(119,sp119)]) good foll (Abs.tabOf_ok _ (by simp only[List.forall_mem_cons];exact⟨ok119,fun _ h=>by cases h⟩)) rfl (by intro v;kernel_rfl)
def l91_0_2(v:((Int×(List Int)×(List Int)×Int×Unit)×(Unit))):Option (((Int×(List Int)×(List Int)×Int×Unit)×(Unit))⊕(Y24⊕(((List Int)×Unit)×(Unit)))):=
bif (decide ((v.1.1:Int)<v.1.2.2.2.1))then(Abs.rowAt v.1.2.2.1 v.1.1 fun e19 _=>
bif (decide ((0:Int)≤v.1.1))then
bif (decide (0≤v.1.1.toNat∧v.1.1.toNat≤v.1.2.1.length))then
(m107 (((v.1.2.1.take v.1.1.toNat),(e19,())),())).bind fun u20=>
bif u20.1.1 then(some (.inr (.inl ((false,()),()))))
else(some (.inl (((w64 (v.1.1+1)),(v.1.2.1,(v.1.2.2.1,(v.1.2.2.2.1,())))),())))
else none
else none)
else(some (.inr (.inr ((v.1.2.1,()),()))))
def i91:Abs.Sg:=⟨[0],Qs40,.nil⟩
def o91:Abs.Sg:=⟨[2],Qs5,.nil⟩
def m91(v:(((List Int)×Unit)×(Unit))):Option Y24:=
(loopT l91_0_2 ((0,(v.1.1,(v.1.1,((v.1.1.length:Int),())))),())).bind fun d21=>
sumE d21 (fun d22=>(some ((d22.1.1,()),()))) (fun d23=>(some (((decide (((d23.1.1.length:Int):Int)≤64)),()),())))
def sp91:Abs.Spec:=⟨0,i91,o91,m91⟩
def an91:Nat→Abs.FAn
  | 0=>Abs.FAn.mk (fun _=>none) (fun _=>none) (fun
    |2=>some ⟨⟨[7,0,5,6],(.dat (.int .i64) (.dat (.row (.int .i64)) Qs43)),.nil⟩,(.more .ret ⟨[2],Qs5,.nil⟩ (.one (.exit 0) ⟨[0],Qs40,.nil⟩))⟩
    |_=>none) (fun _ _=>0)
  |_=>{}
theorem ok91:Abs.SpecOK Tryz.prog 91 sp91:=
  Abs.specOK_of (n:=12) (an:=an91) (T:=Abs.tabOf [(107,sp107)]) good foll (Abs.tabOf_ok _ (by simp only[List.forall_mem_cons];exact⟨ok107,fun _ h=>by cases h⟩)) rfl (by intro v;kernel_rfl)
def l60_2_2(v:((Int×(List (Int×Bool×Y22×Unit))×Int×Unit)×(Unit))):Option (((Int×(List (Int×Bool×Y22×Unit))×Int×Unit)×(Unit))⊕(((Int×Unit)×(Unit))⊕((Unit)×(Unit)))):=
bif (decide ((v.1.1:Int)<v.1.2.2.1))then(Abs.rowAt v.1.2.1 v.1.1 fun e90 _=>
(m87 ((e90,()),())).bind fun u91=>
bif u91.1.1 then(some (.inr (.inl ((v.1.1,()),()))))
else(some (.inl (((w64 (v.1.1+1)),(v.1.2.1,(v.1.2.2.1,()))),()))))
else(some (.inr (.inr ((),()))))
def i60:Abs.Sg:=⟨[0,1],(.dat Z25 Qs19),.nil⟩
def o60:Abs.Sg:=⟨[4],Qs5,.nil⟩
def m60(v:((Y18×Y7×Unit)×(Unit))):Option Y24:=
(((m85 ((v.1.2.1.1,(1,(999999,()))),())).bind fun u85=>
bif (!u85.1.1)then(some ((true,()),((v.1.2.1,()),((v.1.1,()),()))))
else((m85 ((v.1.2.1.2.1,(0,((w64 ((v.1.1.2.1.length:Int)-1)),()))),())).bind fun u86=>
bif (!u86.1.1)then(some ((true,()),((v.1.2.1,()),((v.1.1,()),()))))
else((m85 ((v.1.2.1.2.2.1,(0,(8589934592,()))),())).bind fun u87=>
some (((!u87.1.1),()),((v.1.2.1,()),((v.1.1,()),())))))):Option ((Bool×Unit)×((Y7×Unit)×(Y18×Unit)×Unit))).bind fun v88=>
bif v88.1.1 then(some ((false,()),()))
else(Abs.rowAt v88.2.2.1.1.2.1 v88.2.1.1.2.1 fun e89 _=>
(((((loopT l60_2_2 ((0,(e89.2.1,((e89.2.1.length:Int),()))),())).bind fun d92=>
sumE d92 (fun d93=>(some (((decide ((d93.1.1:Int)≥0)),()),()))) (fun d94=>(some ((false,()),())))):Option Y24).bind fun v95=>
bif v95.1.1 then(some ((true,()),((v88.2.1.1,()),())))
else((m58 ((e89,()),())).bind fun u96=>
(m85 ((v88.2.1.1.2.2.2.1,(0,(u96.1.1,()))),())).bind fun u97=>
some (((!u97.1.1),()),((v88.2.1.1,()),())))):Option ((Bool×Unit)×((Y7×Unit)×Unit))).bind fun v98=>
bif v98.1.1 then(some ((false,()),()))
else((((m85 ((v98.2.1.1.2.2.2.2.2.1,(0,(4,()))),())).bind fun u99=>
bif u99.1.1 then((m85 ((v98.2.1.1.2.2.2.2.2.2.1,((-1),(31,()))),())).bind fun u100=>
bif u100.1.1 then((m88 ((v98.2.1.1,()),())).bind fun u101=>
bif u101.1.1 then((m89 ((v98.2.1.1,()),())).bind fun u102=>
bif u102.1.1 then((m90 ((v98.2.1.1.2.2.2.2.2.2.2.2.2.2.2.2.1,()),())).bind fun u103=>
bif u103.1.1 then((m91 ((v98.2.1.1.2.2.2.2.2.2.2.2.2.2.2.2.2.1,()),())).bind fun u104=>
some ((u104.1.1,()),()))
else(some ((false,()),())))
else(some ((false,()),())))
else(some ((false,()),())))
else(some ((false,()),())))
else(some ((false,()),()))):Option Y24).bind fun v105=>
some ((v105.1.1,()),())))
def sp60:Abs.Spec:=⟨0,i60,o60,m60⟩
def an60:Nat→Abs.FAn
  | 0=>Abs.FAn.mk (fun
    |6=>some ⟨[4],Qs5,.nil⟩
    |4=>some ⟨[42,3],(.dat .bool (.st Qx13 .nil)),(.box 14 Qs19 .nil)⟩
    |1=>some ⟨[25,3,2],(.dat .bool (.st Qx13 (.st Qx15 .nil))),(.box 14 Qs19 (.box 2 Qs30 .nil))⟩
    |_=>none) (fun _=>none) (fun _=>none) (fun
    |4,2=>1
    |_,_=>0)
  | 1=>Abs.FAn.mk (fun
    |1=>some ⟨[4],Qs5,.nil⟩
    |_=>none) (fun _=>none) (fun _=>none) (fun
    |1,2=>2
    |_,_=>0)
  | 2=>Abs.FAn.mk (fun _=>none) (fun _=>none) (fun
    |2=>some ⟨⟨[8,0,1,7],(.dat (.int .i64) (.dat (.row Z36) (.st (.clo 87 []) Qs2))),.nil⟩,(.more .ret ⟨[4],Qs2,.nil⟩ (.one (.exit 0) ⟨[],.nil,.nil⟩))⟩
    |_=>none) (fun _ _=>0)
  |_=>{}
theorem ok60:Abs.SpecOK Tryz.prog 60 sp60:=
  Abs.specOK_of (n:=12) (an:=an60) (T:=Abs.tabOf [(85,sp85),(87,sp87),(58,sp58),(88,sp88),(89,sp89),(90,sp90),(91,sp91)]) good foll (Abs.tabOf_ok _ (by simp only[List.forall_mem_cons];exact⟨ok85,ok87,ok58,ok88,ok89,ok90,ok91,fun _ h=>by cases h⟩)) rfl (by intro v;kernel_rfl)
def l83_0_3(v:((Int×Int×Unit)×((Y6×Unit)×(List Int)×Unit))):Option (((Int×Int×Unit)×((Y6×Unit)×(List Int)×Unit))⊕((Unit)×((List Int)×(Y6×Unit)×Unit))):=
bif (decide ((v.1.1:Int)<v.1.2.1))then(bif (decide ((0:Int)≤v.1.1∧(v.1.1:Int)<v.2.2.1.length))then
(v.2.2.1[v.1.1.toNat]?).bind fun e41=>
bif (decide ((v.2.1.1.2.1.length:Int)≠(0:Int)))then
Abs.rowAt v.2.1.1.2.1 ((v.1.1:Int).tmod (v.2.1.1.2.1.length:Int)) fun e42 _=>
bif (decide (v.2.2.1.length+ [(w64 (e41+e42.1))].length≤4294967296))then
some (.inl (((w64 (v.1.1+1)),(v.1.2.1,())),((v.2.1.1,()),((v.2.2.1++ [(w64 (e41+e42.1))]),()))))
else none
else none
else none)
else(some (.inr ((),(v.2.2.1,((v.2.1.1,()),())))))
def l83_0_8(v:((Int×(List (Int×Bool×Y22×Unit))×Int×Unit)×((List Int)×Unit))):Option (((Int×(List (Int×Bool×Y22×Unit))×Int×Unit)×((List Int)×Unit))⊕(((Unit)×((List Int)×Unit))⊕((Unit)×((List Int)×Unit)))):=
bif (decide ((v.1.1:Int)<v.1.2.2.1))then(Abs.rowAt v.1.2.1 v.1.1 fun e44 _=>
(m84 ((e44.1,(0,(86400,()))),())).bind fun u45=>
bif (!u45.1.1)then(some (.inr (.inl ((),([],())))))
else(some (.inl (((w64 (v.1.1+1)),(v.1.2.1,(v.1.2.2.1,()))),(v.2.1,())))))
else(some (.inr (.inr ((),(v.2.1,())))))
def i83:Abs.Sg:=⟨[0],Qs35,.nil⟩
def o83:Abs.Sg:=⟨[2],(.st Qx22 .nil),Qb8⟩
def m83(v:((Y6×Unit)×(Unit))):Option ((Unit)×((List Int)×Unit)):=
(m58 ((v.1.1,()),())).bind fun u40=>
(loopT l83_0_3 ((0,(u40.1.1,())),((v.1.1,()),([0],())))).bind fun d43=>
(loopT l83_0_8 ((0,(d43.2.2.1.1.2.1,((d43.2.2.1.1.2.1.length:Int),()))),(d43.2.1,()))).bind fun d46=>
sumE d46 (fun d47=>(some ((),(d47.2.1,())))) (fun d48=>(some ((),(d48.2.1,()))))
def sp83:Abs.Spec:=⟨0,i83,o83,m83⟩
def an83:Nat→Abs.FAn
  | 0=>Abs.FAn.mk (fun _=>none) (fun _=>none) (fun
    |8=>some ⟨⟨[35,33,3,34],(.dat (.int .i64) (.dat (.row Z36) (.st Qx22 Qs2))),Qb8⟩,(.more .ret ⟨[2],(.st Qx22 .nil),Qb8⟩ (.one (.exit 2) ⟨[3],(.st Qx22 .nil),Qb8⟩))⟩
    |3=>some ⟨⟨[10,1,3,9],(.dat (.int .i64) (.st Qx21 (.st (.own (.int .i64) (1,0)) Qs2))),(.box 3 Qs35 Qb8)⟩,(.one (.exit 0) ⟨[3,1],(.st Qx22 (.st Qx50 .nil)),(.arr (.int .i64) false (.box 3 Qs35 .nil))⟩)⟩
    |_=>none) (fun _ _=>0)
  |_=>{}
theorem ok83:Abs.SpecOK Tryz.prog 83 sp83:=
  Abs.specOK_of (n:=12) (an:=an83) (T:=Abs.tabOf [(58,sp58),(84,sp84)]) good foll (Abs.tabOf_ok _ (by simp only[List.forall_mem_cons];exact⟨ok58,ok84,fun _ h=>by cases h⟩)) rfl (by intro v;kernel_rfl)
def i57:Abs.Sg:=⟨[0,1],(.dat Z5 Qs2),.nil⟩
def o57:Abs.Sg:=⟨[4,5],Qs28,.nil⟩
def m57(v:((Y6×Int×Unit)×(Unit))):Option ((Int×Bool×Unit)×(Unit)):=
(m83 ((v.1.1,()),())).bind fun u9=>
(m84 ((v.1.2.1,(0,((w64 (((u9.2.1.length:Nat):Int)-1)),()))),())).bind fun u10=>
bif (!u10.1.1)then(some ((0,(false,())),()))
else(bif (decide ((0:Int)≤v.1.2.1∧(v.1.2.1:Int)<u9.2.1.length))then
(u9.2.1[v.1.2.1.toNat]?).bind fun e11=>
some ((e11,(true,())),())
else none)
def sp57:Abs.Spec:=⟨0,i57,o57,m57⟩
def an57:Nat→Abs.FAn
  |_=>{}
theorem ok57:Abs.SpecOK Tryz.prog 57 sp57:=
  Abs.specOK_of (n:=12) (an:=an57) (T:=Abs.tabOf [(83,sp83),(84,sp84)]) good foll (Abs.tabOf_ok _ (by simp only[List.forall_mem_cons];exact⟨ok83,ok84,fun _ h=>by cases h⟩)) rfl (by intro v;kernel_rfl)
def i59:Abs.Sg:=⟨[0],Qs35,.nil⟩
def o59:Abs.Sg:=⟨[2],Qs2,.nil⟩
def m59(v:((Y6×Unit)×(Unit))):Option ((Int×Unit)×(Unit)):=
(m58 ((v.1.1,()),())).bind fun u6=>
(m57 ((v.1.1,(u6.1.1,())),())).bind fun u7=>
some ((u7.1.1,()),())
def sp59:Abs.Spec:=⟨0,i59,o59,m59⟩
def an59:Nat→Abs.FAn
  |_=>{}
theorem ok59:Abs.SpecOK Tryz.prog 59 sp59:=
  Abs.specOK_of (n:=12) (an:=an59) (T:=Abs.tabOf [(58,sp58),(57,sp57)]) good foll (Abs.tabOf_ok _ (by simp only[List.forall_mem_cons];exact⟨ok58,ok57,fun _ h=>by cases h⟩)) rfl (by intro v;kernel_rfl)
def l52_0_3(v:((Int×Int×(List Int)×Int×Unit)×(Unit))):Option (((Int×Int×(List Int)×Int×Unit)×(Unit))⊕((Int×Unit)×(Unit))):=
bif (decide ((v.1.1:Int)<v.1.2.2.2.1))then(Abs.rowAt v.1.2.2.1 v.1.1 fun e9 _=>
some (.inl (((w64 (v.1.1+1)),((w64 (v.1.2.1+e9)),(v.1.2.2.1,(v.1.2.2.2.1,())))),())))
else(some (.inr ((v.1.2.1,()),())))
def i52:Abs.Sg:=⟨[0],Qs40,.nil⟩
def o52:Abs.Sg:=⟨[2],Qs2,.nil⟩
def m52(v:(((List Int)×Unit)×(Unit))):Option ((Int×Unit)×(Unit)):=
(loopT l52_0_3 ((0,(0,(v.1.1,((v.1.1.length:Int),())))),())).bind fun d10=>
some ((d10.1.1,()),())
def sp52:Abs.Spec:=⟨0,i52,o52,m52⟩
def an52:Nat→Abs.FAn
  | 0=>Abs.FAn.mk (fun _=>none) (fun _=>none) (fun
    |3=>some ⟨⟨[8,3,6,7],(.dat (.int .i64) (.dat (.int .i64) Qs43)),.nil⟩,(.one (.exit 0) ⟨[3],Qs2,.nil⟩)⟩
    |_=>none) (fun _ _=>0)
  |_=>{}
theorem ok52:Abs.SpecOK Tryz.prog 52 sp52:=
  Abs.specOK_of (n:=12) (an:=an52) (T:=Abs.tabOf []) good foll (Abs.tabOf_ok _ (fun _ h=>by cases h)) rfl (by intro v;kernel_rfl)
def i32:Abs.Sg:=⟨[0,1],(.dat Z25 Qs19),.nil⟩
def o32:Abs.Sg:=⟨[4,5],Qs28,.nil⟩
def m32(v:((Y18×Y7×Unit)×(Unit))):Option ((Int×Bool×Unit)×(Unit)):=
(m60 ((v.1.1,(v.1.2.1,())),())).bind fun u14=>
bif (!u14.1.1)then(some ((0,(false,())),()))
else(Abs.rowAt v.1.1.2.1 v.1.2.1.2.1 fun e15 _=>
(m57 ((e15,(v.1.2.1.2.2.2.1,())),())).bind fun u16=>
(m59 ((e15,()),())).bind fun u17=>
(m52 (([u17.1.1,(w64 (0-u16.1.1))],()),())).bind fun u18=>
some ((u18.1.1,(true,())),()))
def sp32:Abs.Spec:=⟨0,i32,o32,m32⟩
def an32:Nat→Abs.FAn
  |_=>{}
theorem ok32:Abs.SpecOK Tryz.prog 32 sp32:=
  Abs.specOK_of (n:=12) (an:=an32) (T:=Abs.tabOf [(60,sp60),(57,sp57),(59,sp59),(52,sp52)]) good foll (Abs.tabOf_ok _ (by simp only[List.forall_mem_cons];exact⟨ok60,ok57,ok59,ok52,fun _ h=>by cases h⟩)) rfl (by intro v;kernel_rfl)
def i51:Abs.Sg:=⟨[0],Qs19,.nil⟩
def o51:Abs.Sg:=⟨[2,3],Qs28,.nil⟩
def m51(v:((Y7×Unit)×(Unit))):Option ((Int×Bool×Unit)×(Unit)):=
bif ((v.1.1.2.2.2.2.2.1:Int)==0)then(some ((v.1.1.2.2.2.2.1,(true,())),()))
else(bif ((v.1.1.2.2.2.2.2.1:Int)==2)then(some ((v.1.1.2.2.2.2.2.2.2.1,(true,())),()))
else(some ((0,(false,())),())))
def sp51:Abs.Spec:=⟨0,i51,o51,m51⟩
def an51:Nat→Abs.FAn
  |_=>{}
theorem ok51:Abs.SpecOK Tryz.prog 51 sp51:=
  Abs.specOK_of (n:=12) (an:=an51) (T:=Abs.tabOf []) good foll (Abs.tabOf_ok _ (fun _ h=>by cases h)) rfl (by intro v;kernel_rfl)
def i17:Abs.Sg:=⟨[0,1],(.dat Z25 Qs19),.nil⟩
def o17:Abs.Sg:=⟨[4,5],Qs28,.nil⟩
def m17(v:((Y18×Y7×Unit)×(Unit))):Option ((Int×Bool×Unit)×(Unit)):=
(m32 ((v.1.1,(v.1.2.1,())),())).bind fun u8=>
bif (!u8.1.2.1)then(some ((0,(false,())),()))
else((m51 ((v.1.2.1,()),())).bind fun u9=>
bif (!u9.1.2.1)then(some ((v.1.2.1.2.2.2.2.2.2.2.2.1,(true,())),()))
else((m52 (([u9.1.1,u8.1.1],()),())).bind fun u10=>
some ((u10.1.1,(true,())),())))
def sp17:Abs.Spec:=⟨0,i17,o17,m17⟩
def an17:Nat→Abs.FAn
  |_=>{}
theorem ok17:Abs.SpecOK Tryz.prog 17 sp17:=
  Abs.specOK_of (n:=12) (an:=an17) (T:=Abs.tabOf [(32,sp32),(51,sp51),(52,sp52)]) good foll (Abs.tabOf_ok _ (by simp only[List.forall_mem_cons];exact⟨ok32,ok51,ok52,fun _ h=>by cases h⟩)) rfl (by intro v;kernel_rfl)
def i37:Abs.Sg:=⟨[0],Qs35,.nil⟩
def o37:Abs.Sg:=⟨[2],Qs2,.nil⟩
def m37(v:((Y6×Unit)×(Unit))):Option ((Int×Unit)×(Unit)):=
(m59 ((v.1.1,()),())).bind fun u2=>
some ((u2.1.1,()),())
def sp37:Abs.Spec:=⟨0,i37,o37,m37⟩
def an37:Nat→Abs.FAn
  |_=>{}
theorem ok37:Abs.SpecOK Tryz.prog 37 sp37:=
  Abs.specOK_of (n:=12) (an:=an37) (T:=Abs.tabOf [(59,sp59)]) good foll (Abs.tabOf_ok _ (by simp only[List.forall_mem_cons];exact⟨ok59,fun _ h=>by cases h⟩)) rfl (by intro v;kernel_rfl)
def i9:Abs.Sg:=⟨[],.nil,.nil⟩
def o9:Abs.Sg:=⟨[0],Qs5,.nil⟩
def m9(v:((Unit)×(Unit))):Option Y24:=
(m20 ((([],(([((bs [112]),(([(300,(false,([],()))),(600,(false,([],())))]:List (Int×Bool×Y22×Unit)),(0,())))]:List Y6),())),(1,(0,(1000,())))),())).bind fun u11=>
(m17 ((([],(([((bs [112]),(([(300,(false,([],()))),(600,(false,([],())))]:List (Int×Bool×Y22×Unit)),(0,())))]:List Y6),())),((u11.2.1.1.1,(u11.2.1.1.2.1,(u11.2.1.1.2.2.1,(u11.2.1.1.2.2.2.1,(u11.2.1.1.2.2.2.2.1,(u11.2.1.1.2.2.2.2.2.1,(u11.2.1.1.2.2.2.2.2.2.1,(u11.2.1.1.2.2.2.2.2.2.2.1,(u11.2.1.1.2.2.2.2.2.2.2.2.1,(u11.2.1.1.2.2.2.2.2.2.2.2.2.1,(u11.2.1.1.2.2.2.2.2.2.2.2.2.2.1,([],([],([],())))))))))))))),())),())).bind fun u12=>
((bif ((u11.1.1:Int)==0)then(bif u12.1.2.1 then(bif ((u12.1.1:Int)==1900)then(bif (decide ((0:Int)≤0∧(0:Int)<([((bs [112]),(([(300,(false,([],()))),(600,(false,([],())))]:List (Int×Bool×Y22×Unit)),(0,())))]:List Y6).length))then
(([((bs [112]),(([(300,(false,([],()))),(600,(false,([],())))]:List (Int×Bool×Y22×Unit)),(0,())))]:List Y6)[0]?).bind fun e13=>
(m37 ((e13,()),())).bind fun u14=>
some ((((u14.1.1:Int)==900),()),())
else none)
else(some ((false,()),())))
else(some ((false,()),())))
else(some ((false,()),()))):Option Y24).bind fun v15=>
some ((v15.1.1,()),())
def sp9:Abs.Spec:=⟨0,i9,o9,m9⟩
def an9:Nat→Abs.FAn
  | 0=>Abs.FAn.mk (fun
    |4=>some ⟨[0],Qs5,.nil⟩
    |_=>none) (fun _=>none) (fun _=>none) (fun _ _=>0)
  |_=>{}
theorem ok9:Abs.SpecOK Tryz.prog 9 sp9:=
  Abs.specOK_of (n:=12) (an:=an9) (T:=Abs.tabOf [(20,sp20),(17,sp17),(37,sp37)]) good foll (Abs.tabOf_ok _ (by simp only[List.forall_mem_cons];exact⟨ok20,ok17,ok37,fun _ h=>by cases h⟩)) rfl (by intro v;kernel_rfl)
def i10:Abs.Sg:=⟨[0],Qs40,.nil⟩
def o10:Abs.Sg:=⟨[2],(.st Qx7 .nil),Qb34⟩
def m10(v:(((List Int)×Unit)×(Unit))):Option ((Unit)×(Y17×Unit)):=
some ((),(((v.1.1,(0,())),()),()))
def sp10:Abs.Spec:=⟨0,i10,o10,m10⟩
def an10:Nat→Abs.FAn
  |_=>{}
theorem ok10:Abs.SpecOK Tryz.prog 10 sp10:=
  Abs.specOK_of (n:=12) (an:=an10) (T:=Abs.tabOf []) good foll (Abs.tabOf_ok _ (fun _ h=>by cases h)) rfl (by intro v;kernel_rfl)
def i19:Abs.Sg:=⟨[0,1],(.st Qx7 Qs2),Qb34⟩
def o19:Abs.Sg:=⟨[4],Qs2,Qb34⟩
def m19(v:((Int×Unit)×(Y17×Unit))):Option ((Int×Unit)×(Y17×Unit)):=
((let x15:=(decide ((v.2.1.1.2.1:Int)≥(v.2.1.1.1.length:Int)))
bif x15 then(some ((true,(v.1.1,())),((v.2.1.1,()),())))
else(some (((decide ((v.1.1:Int)<1)),(v.1.1,())),((v.2.1.1,()),())))):Option ((Bool×Int×Unit)×(Y17×Unit))).bind fun v16=>
bif v16.1.1 then(some ((0,()),((v16.2.1.1,()),())))
else(Abs.rowAt v16.2.1.1.1 v16.2.1.1.2.1 fun e17 _=>
bif (decide (v16.1.2.1≠(0:Int)))then
((let x18:=(decide ((((e17:Int).tmod v16.1.2.1):Int)<0))
bif x18 then(some (((w64 (((e17:Int).tmod v16.1.2.1)+v16.1.2.1)),()),(((v16.2.1.1.1,((w64 (v16.2.1.1.2.1+1)),())),()),())))
else(some ((((e17:Int).tmod v16.1.2.1),()),(((v16.2.1.1.1,((w64 (v16.2.1.1.2.1+1)),())),()),())))):Option ((Int×Unit)×(Y17×Unit))).bind fun v19=>
some ((v19.1.1,()),((v19.2.1.1,()),()))
else none)
def sp19:Abs.Spec:=⟨1,i19,o19,m19⟩
def an19:Nat→Abs.FAn
  | 0=>Abs.FAn.mk (fun
    |1=>some ⟨[19,1,0],(.dat .bool (.dat (.int .i64) (.st Qx7 .nil))),Qb34⟩
    |_=>none) (fun
    |7=>some (⟨[5],Qs2,Qb34⟩,none)
    |_=>none) (fun _=>none) (fun _ _=>0)
  |_=>{}
theorem ok19:Abs.SpecOK Tryz.prog 19 sp19:=
  Abs.specOK_of (n:=12) (an:=an19) (T:=Abs.tabOf []) good foll (Abs.tabOf_ok _ (fun _ h=>by cases h)) rfl (by intro v;kernel_rfl)
def i22:Abs.Sg:=⟨[0,1],(.st Qx7 Qs40),Qb34⟩
def o22:Abs.Sg:=⟨[4],Qs2,Qb34⟩
def m22(v:(((List Int)×Unit)×(Y17×Unit))):Option ((Int×Unit)×(Y17×Unit)):=
(m19 (((v.1.1.length:Int),()),((v.2.1.1,()),()))).bind fun u4=>
Abs.rowAt v.1.1 u4.1.1 fun e5 _=>
some ((e5,()),((u4.2.1.1,()),()))
def sp22:Abs.Spec:=⟨1,i22,o22,m22⟩
def an22:Nat→Abs.FAn
  |_=>{}
theorem ok22:Abs.SpecOK Tryz.prog 22 sp22:=
  Abs.specOK_of (n:=12) (an:=an22) (T:=Abs.tabOf [(19,sp19)]) good foll (Abs.tabOf_ok _ (by simp only[List.forall_mem_cons];exact⟨ok19,fun _ h=>by cases h⟩)) rfl (by intro v;kernel_rfl)
def i41:Abs.Sg:=⟨[0],(.st Qx7 .nil),Qb34⟩
def o41:Abs.Sg:=⟨[2],(.st (.ptr (1,0) 5 0 0) .nil),(.box 2 Qs9 Qb24)⟩
def m41(v:((Unit)×(Y17×Unit))):Option ((Unit)×(Y17×(Y31×Unit)×Unit)):=
(m22 (([0,300,1200,3600],()),((v.2.1.1,()),()))).bind fun u22=>
(m19 ((3,()),((u22.2.1.1,()),()))).bind fun u23=>
(m19 ((4,()),((u23.2.1.1,()),()))).bind fun u24=>
(m22 (([300,1800,7200],()),((u24.2.1.1,()),()))).bind fun u25=>
((bif ((u23.1.1:Int)==2)then((m19 ((3,()),((u25.2.1.1,()),()))).bind fun u26=>
let x27:=(((w64 ((w64 (u24.1.1+1))+u26.1.1)):Int).tmod 4)
some ((),((u26.2.1.1,()),(((0,(0,(0,(0,(0,()))))),()),(((u23.1.1,(u24.1.1,(x27,((w64 (864000+u22.1.1)),((w64 ((w64 (864000+u22.1.1))+u25.1.1)),()))))),()),())))))
else(bif ((u23.1.1:Int)==1)then((m19 ((5,()),((u25.2.1.1,()),()))).bind fun u28=>
some ((),((u28.2.1.1,()),(((0,(0,(0,(0,(0,()))))),()),(((u23.1.1,((w64 (u28.1.1-1)),(0,((w64 (864000+u22.1.1)),((w64 ((w64 (864000+u22.1.1))+u25.1.1)),()))))),()),())))))
else(some ((),((u25.2.1.1,()),(((0,(0,(0,(0,(0,()))))),()),(((u23.1.1,(u24.1.1,(0,((w64 (864000+u22.1.1)),((w64 ((w64 (864000+u22.1.1))+u25.1.1)),()))))),()),()))))))):Option ((Unit)×(Y17×(Y31×Unit)×(Y31×Unit)×Unit))).bind fun v29=>
some ((),((v29.2.1.1,()),((v29.2.2.2.1.1,()),())))
def sp41:Abs.Spec:=⟨1,i41,o41,m41⟩
def an41:Nat→Abs.FAn
  | 0=>Abs.FAn.mk (fun _=>none) (fun
    |8=>some (⟨[2,4],(.st (.ptr (1,0) 5 0 0) (.st (.ptr (2,0) 5 0 0) .nil)),(.box 2 Qs9 (.box 5 (.dat (.cons (.int .i64) Z8) .nil) Qb24))⟩,none)
    |_=>none) (fun _=>none) (fun _ _=>0)
  |_=>{}
theorem ok41:Abs.SpecOK Tryz.prog 41 sp41:=
  Abs.specOK_of (n:=12) (an:=an41) (T:=Abs.tabOf [(22,sp22),(19,sp19)]) good foll (Abs.tabOf_ok _ (by simp only[List.forall_mem_cons];exact⟨ok22,ok19,fun _ h=>by cases h⟩)) rfl (by intro v;kernel_rfl)
def l11_0_4(v:((Int×Unit)×(Y17×((Unit)×Unit)×(List ByteArray)×((Unit)×Unit)×(List Y16)×Y32×Unit))):Option (((Int×Unit)×(Y17×((Unit)×Unit)×(List ByteArray)×((Unit)×Unit)×(List Y16)×Y32×Unit))⊕((Unit)×(Y17×((Unit)×Unit)×((Unit)×Unit)×(List Y16)×Y32×Unit))):=
bif (decide ((v.1.1:Int)<4))then(bif (decide ((0:Int)≤v.1.1∧(v.1.1:Int)<v.2.2.2.1.length))then
(v.2.2.2.1[v.1.1.toNat]?).bind fun e248=>
(m19 ((2,()),((v.2.1.1,()),()))).bind fun u249=>
(((m19 ((4,()),((u249.2.1.1,()),()))).bind fun u250=>
bif ((u250.1.1:Int)==0)then((m22 (([0,3600],()),((u250.2.1.1,()),()))).bind fun u251=>
(m22 (([7200,86400,604800],()),((u251.2.1.1,()),()))).bind fun u252=>
some ((v.1.1,()),((u252.2.1.1,()),(((),()),(v.2.2.2.1,(((),()),(((e248,(0,(0,(0,(((u249.1.1:Int)==0),()))))),()),(v.2.2.2.2.2.1,(v.2.2.2.2.2.2.1,(([(u251.1.1,(u252.1.1,()))]:List (Int×Int×Unit)),()))))))))))
else(some ((v.1.1,()),((u250.2.1.1,()),(((),()),(v.2.2.2.1,(((),()),(((e248,(0,(0,(0,(((u249.1.1:Int)==0),()))))),()),(v.2.2.2.2.2.1,(v.2.2.2.2.2.2.1,([],()))))))))))):Option ((Int×Unit)×(Y17×((Unit)×Unit)×(List ByteArray)×((Unit)×Unit)×((ByteArray×Int×Int×Int×Bool×Unit)×Unit)×(List Y16)×Y32×Y22×Unit))).bind fun v253=>
bif (decide (v253.2.2.2.2.2.2.2.1.length+([(v253.2.2.2.2.2.1.1.1,(v253.2.2.2.2.2.1.1.2.1,(v253.2.2.2.2.2.2.2.2.1,(v253.2.2.2.2.2.1.1.2.2.1,(v253.2.2.2.2.2.1.1.2.2.2.1,(v253.2.2.2.2.2.1.1.2.2.2.2.1,()))))))]:List (ByteArray×Int×Y22×Int×Int×Bool×Unit)).length≤4294967296))then
let x254:=(v253.2.2.2.2.2.2.2.1++([(v253.2.2.2.2.2.1.1.1,(v253.2.2.2.2.2.1.1.2.1,(v253.2.2.2.2.2.2.2.2.1,(v253.2.2.2.2.2.1.1.2.2.1,(v253.2.2.2.2.2.1.1.2.2.2.1,(v253.2.2.2.2.2.1.1.2.2.2.2.1,()))))))]:List (ByteArray×Int×Y22×Int×Int×Bool×Unit)))
some (.inl (((w64 (v253.1.1+1)),()),((v253.2.1.1,()),(((),()),(v253.2.2.2.1,(((),()),(v253.2.2.2.2.2.2.1,(x254,()))))))))
else none
else none)
else(some (.inr ((),((v.2.1.1,()),(((),()),(((),()),(v.2.2.2.2.2.1,(v.2.2.2.2.2.2.1,()))))))))
def l11_0_15(v:((Int×Int×Unit)×(Y17×((ByteArray×Int×Int×Int×Int×Int×Int×Int×Unit)×Unit)×((Unit)×Unit)×((Unit)×Unit)×(List Int)×(List Y16)×Y32×(List Y23)×Unit))):Option (((Int×Int×Unit)×(Y17×((ByteArray×Int×Int×Int×Int×Int×Int×Int×Unit)×Unit)×((Unit)×Unit)×((Unit)×Unit)×(List Int)×(List Y16)×Y32×(List Y23)×Unit))⊕((Int×Unit)×(Y17×((Unit)×Unit)×((Unit)×Unit)×((ByteArray×Int×Int×Int×Int×Int×Int×Int×Unit)×Unit)×(List Y16)×Y32×(List Y23)×(List Int)×Unit))):=
bif (decide ((v.1.1:Int)>0))then((m19 ((4,()),((v.2.1.1,()),()))).bind fun u261=>
bif (decide (v.2.2.2.2.2.1.length+ [u261.1.1].length≤4294967296))then
some (.inl (((w64 (v.1.1-1)),(v.1.2.1,())),((u261.2.1.1,()),(((v.2.2.1.1.1,(v.2.2.1.1.2.1,(v.2.2.1.1.2.2.1,(v.2.2.1.1.2.2.2.1,(v.2.2.1.1.2.2.2.2.1,(v.2.2.1.1.2.2.2.2.2.1,(v.2.2.1.1.2.2.2.2.2.2.1,(v.2.2.1.1.2.2.2.2.2.2.2.1,())))))))),()),(((),()),(((),()),((v.2.2.2.2.2.1++ [u261.1.1]),(v.2.2.2.2.2.2.1,(v.2.2.2.2.2.2.2.1,(v.2.2.2.2.2.2.2.2.1,()))))))))))
else none)
else(some (.inr ((v.1.2.1,()),((v.2.1.1,()),(((),()),(((),()),(((v.2.2.1.1.1,(v.2.2.1.1.2.1,(v.2.2.1.1.2.2.1,(v.2.2.1.1.2.2.2.1,(v.2.2.1.1.2.2.2.2.1,(v.2.2.1.1.2.2.2.2.2.1,(v.2.2.1.1.2.2.2.2.2.2.1,(v.2.2.1.1.2.2.2.2.2.2.2.1,())))))))),()),(v.2.2.2.2.2.2.1,(v.2.2.2.2.2.2.2.1,(v.2.2.2.2.2.2.2.2.1,(v.2.2.2.2.2.1,())))))))))))
def l11_0_20(v:((Int×Int×Unit)×(Y17×((ByteArray×Unit)×Unit)×((Unit)×Unit)×((Unit)×Unit)×(List Y10)×(List Y31)×(List Y16)×Y32×(List Y23)×Unit))):Option (((Int×Int×Unit)×(Y17×((ByteArray×Unit)×Unit)×((Unit)×Unit)×((Unit)×Unit)×(List Y10)×(List Y31)×(List Y16)×Y32×(List Y23)×Unit))⊕((Int×Unit)×(Y17×((Unit)×Unit)×((Unit)×Unit)×((ByteArray×Unit)×Unit)×(List Y16)×Y32×(List Y23)×(List Y10)×(List Y31)×Unit))):=
bif (decide ((v.1.1:Int)>0))then((m41 ((),((v.2.1.1,()),()))).bind fun u265=>
bif (decide (v.2.2.2.2.2.2.1.length+([u265.2.2.1.1]:List Y31).length≤4294967296))then
let x266:=(v.2.2.2.2.2.2.1++([u265.2.2.1.1]:List Y31))
some (.inl (((w64 (v.1.1-1)),(v.1.2.1,())),((u265.2.1.1,()),(((v.2.2.1.1.1,()),()),(((),()),(((),()),(v.2.2.2.2.2.1,(x266,(v.2.2.2.2.2.2.2.1,(v.2.2.2.2.2.2.2.2.1,(v.2.2.2.2.2.2.2.2.2.1,())))))))))))
else none)
else(some (.inr ((v.1.2.1,()),((v.2.1.1,()),(((),()),(((),()),(((v.2.2.1.1.1,()),()),(v.2.2.2.2.2.2.2.1,(v.2.2.2.2.2.2.2.2.1,(v.2.2.2.2.2.2.2.2.2.1,(v.2.2.2.2.2.1,(v.2.2.2.2.2.2.1,()))))))))))))
def l11_0_11(v:((Int×Unit)×(Y17×((Unit)×Unit)×((Unit)×Unit)×(List Y16)×Y32×(List Y23)×Unit))):Option (((Int×Unit)×(Y17×((Unit)×Unit)×((Unit)×Unit)×(List Y16)×Y32×(List Y23)×Unit))⊕((Unit)×(Y17×((Unit)×Unit)×((Unit)×Unit)×(List Y16)×Y32×(List Y23)×Unit))):=
bif (decide ((v.1.1:Int)<2))then((m22 (([1,9,10],()),((v.2.1.1,()),()))).bind fun u256=>
(m22 (([0,1800,43200],()),((u256.2.1.1,()),()))).bind fun u257=>
(m22 (([0,0,1],()),((u257.2.1.1,()),()))).bind fun u258=>
(m19 ((3,()),((u258.2.1.1,()),()))).bind fun u259=>
(m19 ((3,()),((u259.2.1.1,()),()))).bind fun u260=>
(loopT l11_0_15 (((w64 (1+u260.1.1)),(v.1.1,())),((u260.2.1.1,()),((((bs [108]),(0,(u256.1.1,(u257.1.1,(u258.1.1,((w64 (1+u259.1.1)),(0,(0,())))))))),()),(((),()),(((),()),([],(v.2.2.2.2.1,(v.2.2.2.2.2.1,(v.2.2.2.2.2.2.1,())))))))))).bind fun d262=>
bif (decide ((0:Int)≤d262.1.1∧(d262.1.1:Int)< [(bs [102,105,114,115,116]),(bs [115,101,99,111,110,100])].length))then
([(bs [102,105,114,115,116]),(bs [115,101,99,111,110,100])][d262.1.1.toNat]?).bind fun e263=>
(m19 ((3,()),((d262.2.1.1,()),()))).bind fun u264=>
(loopT l11_0_20 ((u264.1.1,(d262.1.1,())),((u264.2.1.1,()),(((e263,()),()),(((),()),(((),()),(([(d262.2.2.2.2.1.1.1,(d262.2.2.2.2.1.1.2.1,((d262.2.2.2.2.1.1.2.2.1,(d262.2.2.2.2.1.1.2.2.2.1,())),(d262.2.2.2.2.1.1.2.2.2.2.1,(d262.2.2.2.2.1.1.2.2.2.2.2.1,(d262.2.2.2.2.2.2.2.2.1,([],(d262.2.2.2.2.1.1.2.2.2.2.2.2.1,(d262.2.2.2.2.1.1.2.2.2.2.2.2.2.1,())))))))))]:List Y10),([],(d262.2.2.2.2.2.1,(d262.2.2.2.2.2.2.1,(d262.2.2.2.2.2.2.2.1,()))))))))))).bind fun d267=>
bif (decide (d267.2.2.2.2.2.2.2.1.length+([(d267.2.2.2.2.1.1.1,(d267.2.2.2.2.2.2.2.2.1,(d267.2.2.2.2.2.2.2.2.2.1,())))]:List Y23).length≤4294967296))then
let x268:=(d267.2.2.2.2.2.2.2.1++([(d267.2.2.2.2.1.1.1,(d267.2.2.2.2.2.2.2.2.1,(d267.2.2.2.2.2.2.2.2.2.1,())))]:List Y23))
some (.inl (((w64 (d267.1.1+1)),()),((d267.2.1.1,()),(((),()),(((),()),(d267.2.2.2.2.2.1,(d267.2.2.2.2.2.2.1,(x268,()))))))))
else none
else none)
else(some (.inr ((),((v.2.1.1,()),(((),()),(((),()),(v.2.2.2.2.1,(v.2.2.2.2.2.1,(v.2.2.2.2.2.2.1,())))))))))
def i11:Abs.Sg:=⟨[0],(.st Qx7 .nil),Qb34⟩
def o11:Abs.Sg:=⟨[2],(.st Qx27 .nil),(.box 2 Qs9 (.box 4 (.agg (.st (.own Z11 (2,0)) (.st (.own Z21 (3,0)) (.st .nil (.st (.own Z27 (4,0)) .nil)))) .nil) Qb41))⟩
def m11(v:((Unit)×(Y17×Unit))):Option ((Unit)×(Y17×((Unit)×Unit)×(List Y16)×Y32×(List Y23)×Unit)):=
(m22 (([0,3600,(-7200)],()),((v.2.1.1,()),()))).bind fun u247=>
(loopT l11_0_4 ((0,()),((u247.2.1.1,()),(((),()),([(bs [97,110,110]),(bs [98,111,98]),(bs [99,97,116]),(bs [100,97,110])],(((),()),(([((bs [122]),(u247.1.1,([],())))]:List Y16),([],())))))))).bind fun d255=>
(loopT l11_0_11 ((0,()),((d255.2.1.1,()),(((),()),(((),()),(d255.2.2.2.2.1,(d255.2.2.2.2.2.1,([],())))))))).bind fun d269=>
some ((),((d269.2.1.1,()),(((),()),(d269.2.2.2.2.1,(d269.2.2.2.2.2.1,(d269.2.2.2.2.2.2.1,()))))))
def sp11:Abs.Spec:=⟨1,i11,o11,m11⟩
def an11:Nat→Abs.FAn
  | 0=>Abs.FAn.mk (fun _=>none) (fun
    |9=>some (⟨[3,0,4,2,5,6],(.st Qx27 (.st Qx7 (.st (.own .str (2,0)) (.st Qx39 (.dat (.int .i64) (.st (.ptr (4,0) 6 0 0) .nil)))))),(.box 2 Qs9 (.box 4 (.agg (.st (.own Z11 (5,0)) (.st (.own Z21 (6,0)) Qs14)) .nil) (.arr .str false (.box 4 Qs31 (.box 6 (.agg (.dat .str (.dat (.int .i64) (.st (.own Z3 (7,0)) (.dat (.int .i64) Qs28)))) .nil) (.arr Z11 false (.arr Z21 false Qb33)))))))⟩,none)
    |_=>none) (fun
    |11=>some ⟨⟨[0,7,3,2],(.st Qx7 (.dat (.int .i64) (.st Qx27 (.st (.ptr (2,0) 4 0 0) .nil)))),(.box 2 Qs9 (.box 4 (.agg (.st (.own Z11 (3,0)) (.st (.own Z21 (4,0)) (.st .nil (.st (.own Z27 (5,0)) .nil)))) .nil) (.box 4 Qs31 Qb41)))⟩,(.one (.exit 2) ⟨[2,3],(.st Qx27 (.st (.ptr (2,0) 4 0 0) .nil)),(.box 2 Qs9 (.box 4 Qs31 (.box 4 (.agg (.st (.own Z11 (3,0)) (.st (.own Z21 (4,0)) (.st .nil (.st (.own Z27 (5,0)) .nil)))) .nil) Qb41)))⟩)⟩
    |20=>some ⟨⟨[11,10,0,3,2,7],(.dat (.int .i64) (.st Qx50 (.st Qx7 (.st (.ptr (2,0) 4 0 0) (.st Qx39 Qs2))))),(.box 2 Qs9 (.box 3 (.agg (.dat .str (.st (.own Z9 (4,0)) (.st (.own (.cons (.int .i64) Z8) (5,0)) .nil))) .nil) (.box 4 (.agg (.st (.own Z11 (6,0)) (.st (.own Z21 (7,0)) (.st .nil (.st (.own Z27 (8,0)) .nil)))) .nil) (.box 4 Qs31 (.arr Z9 false (.arr (.cons (.int .i64) Z8) false Qb41))))))⟩,(.one (.exit 6) ⟨[0,3,2,7,10],(.st Qx7 (.st Qx27 (.st (.ptr (2,0) 4 0 0) (.dat (.int .i64) (.st (.ptr (3,0) 3 0 0) .nil))))),(.box 2 Qs9 (.box 4 (.agg (.st (.own Z11 (4,0)) (.st (.own Z21 (5,0)) (.st .nil (.st (.own Z27 (6,0)) .nil)))) .nil) (.box 4 Qs31 (.box 3 (.agg (.dat .str (.st (.own Z9 (7,0)) (.st (.own (.cons (.int .i64) Z8) (8,0)) .nil))) .nil) (.arr Z11 false (.arr Z21 false (.arr Z27 false (.arr Z9 false (.arr (.cons (.int .i64) Z8) false .nil)))))))))⟩)⟩
    |15=>some ⟨⟨[9,8,0,3,2,7],(.dat (.int .i64) (.st (.ptr (1,0) 10 0 0) (.st Qx7 (.st (.ptr (2,0) 4 0 0) (.st Qx39 Qs2))))),(.box 2 Qs9 (.box 10 (.agg (.dat .str (.dat (.int .i64) (.dat (.int .i64) (.dat (.int .i64) (.dat (.int .i64) (.dat (.int .i64) (.st (.own (.int .i64) (4,0)) (.st .nil Qs6)))))))) .nil) (.box 4 (.agg (.st (.own Z11 (5,0)) (.st (.own Z21 (6,0)) (.st .nil (.st (.own Z27 (7,0)) .nil)))) .nil) (.box 4 Qs31 (.arr (.int .i64) false Qb41)))))⟩,(.one (.exit 4) ⟨[0,3,2,7,8],(.st Qx7 (.st Qx27 (.st (.ptr (2,0) 4 0 0) (.dat (.int .i64) (.st (.ptr (3,0) 10 0 0) .nil))))),(.box 2 Qs9 (.box 4 (.agg (.st (.own Z11 (4,0)) (.st (.own Z21 (5,0)) (.st .nil (.st (.own Z27 (6,0)) .nil)))) .nil) (.box 4 Qs31 (.box 10 (.agg (.dat .str (.dat (.int .i64) (.dat (.int .i64) (.dat (.int .i64) (.dat (.int .i64) (.dat (.int .i64) (.st (.own (.int .i64) (7,0)) (.st .nil Qs6)))))))) .nil) (.arr Z11 false (.arr Z21 false (.arr Z27 false Qb8)))))))⟩)⟩
    |4=>some ⟨⟨[5,3,0,4,2],(.dat (.int .i64) (.st Qx27 (.st Qx7 (.st (.own .str (2,0)) (.st Qx39 .nil))))),(.box 2 Qs9 (.box 4 (.agg (.st (.own Z11 (4,0)) (.st (.own Z21 (5,0)) Qs14)) .nil) (.arr .str false (.box 4 Qs31 (.arr Z11 false (.arr Z21 false .nil))))))⟩,(.one (.exit 0) ⟨[0,3,2],(.st Qx7 (.st Qx27 (.st (.ptr (2,0) 4 0 0) .nil))),(.box 2 Qs9 (.box 4 (.agg (.st (.own Z11 (3,0)) (.st (.own Z21 (4,0)) Qs14)) .nil) (.box 4 Qs31 (.arr Z11 false (.arr Z21 false .nil)))))⟩)⟩
    |_=>none) (fun _ _=>0)
  |_=>{}
theorem ok11:Abs.SpecOK Tryz.prog 11 sp11:=
  Abs.specOK_of (n:=12) (an:=an11) (T:=Abs.tabOf [(22,sp22),(19,sp19),(41,sp41)]) good foll (Abs.tabOf_ok _ (by simp only[List.forall_mem_cons];exact⟨ok22,ok19,ok41,fun _ h=>by cases h⟩)) rfl (by intro v;kernel_rfl)
def i42:Abs.Sg:=⟨[0,1],(.st Qx7 Qs30),Qb34⟩
def o42:Abs.Sg:=⟨[4],(.st Qx15 .nil),(.box 2 Qs9 (.box 2 Qs44 .nil))⟩
def m42(v:((Y18×Unit)×(Y17×Unit))):Option ((Unit)×(Y17×Y33×Unit)):=
(m19 ((3,()),((v.2.1.1,()),()))).bind fun u12=>
((((bif ((u12.1.1:Int)==2)then(some (((((v.1.1.1.length:Int):Int)==0),(u12.1.1,())),((u12.2.1.1,()),(((0,(0,())),()),((v.1.1,()),())))))
else(some ((false,(u12.1.1,())),((u12.2.1.1,()),(((0,(0,())),()),((v.1.1,()),())))))):Option ((Bool×Int×Unit)×(Y17×Y33×(Y18×Unit)×Unit))).bind fun v13=>
bif v13.1.1 then(some ((0,()),((v13.2.1.1,()),((v13.2.2.1.1,()),((v13.2.2.2.1.1,()),())))))
else(some ((v13.1.2.1,()),((v13.2.1.1,()),((v13.2.2.1.1,()),((v13.2.2.2.1.1,()),())))))):Option ((Int×Unit)×(Y17×Y33×(Y18×Unit)×Unit))).bind fun v14=>
bif (decide ((0:Int)≤v14.1.1∧(v14.1.1:Int)< [4,2,(v14.2.2.2.1.1.1.length:Int)].length))then
([4,2,(v14.2.2.2.1.1.1.length:Int)][v14.1.1.toNat]?).bind fun e15=>
(m19 ((e15,()),((v14.2.1.1,()),()))).bind fun u16=>
some ((),((u16.2.1.1,()),(((v14.1.1,(u16.1.1,())),()),())))
else none
def sp42:Abs.Spec:=⟨1,i42,o42,m42⟩
def an42:Nat→Abs.FAn
  | 0=>Abs.FAn.mk (fun
    |2=>some ⟨[16,4,0,3,5],(.dat .bool (.st Qx15 (.st Qx7 (.st Qx18 Qs2)))),(.box 2 Qs9 (.box 2 Qs44 (.box 2 Qs30 .nil)))⟩
    |_=>none) (fun
    |4=>some (⟨[4,0,5,3],(.st Qx15 (.st Qx7 (.dat (.int .i64) (.st Qx18 .nil)))),(.box 2 Qs9 (.box 2 Qs44 (.box 2 Qs30 .nil)))⟩,none)
    |_=>none) (fun _=>none) (fun _ _=>0)
  |_=>{}
theorem ok42:Abs.SpecOK Tryz.prog 42 sp42:=
  Abs.specOK_of (n:=12) (an:=an42) (T:=Abs.tabOf [(19,sp19)]) good foll (Abs.tabOf_ok _ (by simp only[List.forall_mem_cons];exact⟨ok19,fun _ h=>by cases h⟩)) rfl (by intro v;kernel_rfl)
def l12_0_3(v:((Int×Unit)×(Y17×((Unit)×Unit)×((Unit)×Unit)×Y29×Unit))):Option (((Int×Unit)×(Y17×((Unit)×Unit)×((Unit)×Unit)×Y29×Unit))⊕((Unit)×(Y17×((Unit)×Unit)×((Unit)×Unit)×Y29×Unit))):=
bif (decide ((v.1.1:Int)>0))then(bif (decide ((0:Int)≤((v.2.2.2.2.1.length:Nat):Int)∧(((v.2.2.2.2.1.length:Nat):Int):Int)< [(bs [99,111,114,101]),(bs [119,101,98])].length))then
([(bs [99,111,114,101]),(bs [119,101,98])][((v.2.2.2.2.1.length:Nat):Int).toNat]?).bind fun e451=>
(m19 ((2,()),((v.2.1.1,()),()))).bind fun u452=>
(((m19 ((2,()),((u452.2.1.1,()),()))).bind fun u453=>
bif ((u453.1.1:Int)==0)then((m19 ((2,()),((u453.2.1.1,()),()))).bind fun u454=>
bif (decide ([u452.1.1].length+ [(w64 (2+u454.1.1))].length≤4294967296))then
some ((v.1.1,()),((u454.2.1.1,()),(((),()),(((),()),(((e451,()),()),(v.2.2.2.2.1,(([u452.1.1]++ [(w64 (2+u454.1.1))]),())))))))
else none)
else(some ((v.1.1,()),((u453.2.1.1,()),(((),()),(((),()),(((e451,()),()),(v.2.2.2.2.1,([u452.1.1],()))))))))):Option ((Int×Unit)×(Y17×((Unit)×Unit)×((Unit)×Unit)×((ByteArray×Unit)×Unit)×Y29×(List Int)×Unit))).bind fun v455=>
bif (decide (v455.2.2.2.2.2.1.length+([(v455.2.2.2.2.1.1.1,(v455.2.2.2.2.2.2.1,()))]:List (ByteArray×(List Int)×Unit)).length≤4294967296))then
let x456:=(v455.2.2.2.2.2.1++([(v455.2.2.2.2.1.1.1,(v455.2.2.2.2.2.2.1,()))]:List (ByteArray×(List Int)×Unit)))
some (.inl (((w64 (v455.1.1-1)),()),((v455.2.1.1,()),(((),()),(((),()),(x456,()))))))
else none
else none)
else(some (.inr ((),((v.2.1.1,()),(((),()),(((),()),(v.2.2.2.2.1,())))))))
def l12_0_18(v:(Y35×(Y17×((Int×Bool×Unit)×Unit)×((Unit)×Unit)×((ByteArray×Int×Unit)×Unit)×((Unit)×Unit)×Y22×Y29×(List Y6)×(List (Int×Bool×Y22×Unit))×Unit))):Option ((Y35×(Y17×((Int×Bool×Unit)×Unit)×((Unit)×Unit)×((ByteArray×Int×Unit)×Unit)×((Unit)×Unit)×Y22×Y29×(List Y6)×(List (Int×Bool×Y22×Unit))×Unit))⊕((Int×Int×Unit)×(Y17×((Unit)×Unit)×((ByteArray×Int×Unit)×Unit)×((Unit)×Unit)×((Int×Bool×Unit)×Unit)×Y29×(List Y6)×(List (Int×Bool×Y22×Unit))×Y22×Unit))):=
bif (decide ((v.1.1:Int)>0))then((m42 (((v.2.2.2.2.2.2.2.1,(v.2.2.2.2.2.2.2.2.1,())),()),((v.2.1.1,()),()))).bind fun u465=>
bif (decide (v.2.2.2.2.2.2.1.length+([u465.2.2.1.1]:List (Int×Int×Unit)).length≤4294967296))then
let x466:=(v.2.2.2.2.2.2.1++([u465.2.2.1.1]:List (Int×Int×Unit)))
some (.inl (((w64 (v.1.1-1)),(v.1.2.1,(v.1.2.2.1,()))),((u465.2.1.1,()),(((v.2.2.1.1.1,(v.2.2.1.1.2.1,())),()),(((),()),(((v.2.2.2.2.1.1.1,(v.2.2.2.2.1.1.2.1,())),()),(((),()),(x466,(v.2.2.2.2.2.2.2.1,(v.2.2.2.2.2.2.2.2.1,(v.2.2.2.2.2.2.2.2.2.1,())))))))))))
else none)
else(some (.inr ((v.1.2.1,(v.1.2.2.1,())),((v.2.1.1,()),(((),()),(((v.2.2.2.2.1.1.1,(v.2.2.2.2.1.1.2.1,())),()),(((),()),(((v.2.2.1.1.1,(v.2.2.1.1.2.1,())),()),(v.2.2.2.2.2.2.2.1,(v.2.2.2.2.2.2.2.2.1,(v.2.2.2.2.2.2.2.2.2.1,(v.2.2.2.2.2.2.1,()))))))))))))
def l12_0_14(v:((Int×Int×Unit)×(Y17×((Unit)×Unit)×((ByteArray×Int×Unit)×Unit)×((Unit)×Unit)×Y29×(List Y6)×(List (Int×Bool×Y22×Unit))×Unit))):Option (((Int×Int×Unit)×(Y17×((Unit)×Unit)×((ByteArray×Int×Unit)×Unit)×((Unit)×Unit)×Y29×(List Y6)×(List (Int×Bool×Y22×Unit))×Unit))⊕((Int×Unit)×(Y17×((Unit)×Unit)×((Unit)×Unit)×((ByteArray×Int×Unit)×Unit)×Y29×(List Y6)×(List (Int×Bool×Y22×Unit))×Unit))):=
bif (decide ((v.1.1:Int)>0))then((m22 (([0,60,300,600,900],()),((v.2.1.1,()),()))).bind fun u462=>
(m19 ((2,()),((u462.2.1.1,()),()))).bind fun u463=>
(m19 ((3,()),((u463.2.1.1,()),()))).bind fun u464=>
(loopT l12_0_18 ((u464.1.1,(v.1.2.1,(v.1.1,()))),((u464.2.1.1,()),(((u462.1.1,(((u463.1.1:Int)==0),())),()),(((),()),(((v.2.2.2.1.1.1,(v.2.2.2.1.1.2.1,())),()),(((),()),([],(v.2.2.2.2.2.1,(v.2.2.2.2.2.2.1,(v.2.2.2.2.2.2.2.1,()))))))))))).bind fun d467=>
bif (decide (d467.2.2.2.2.2.2.2.2.1.length+([(d467.2.2.2.2.2.1.1.1,(d467.2.2.2.2.2.1.1.2.1,(d467.2.2.2.2.2.2.2.2.2.1,())))]:List (Int×Bool×Y22×Unit)).length≤4294967296))then
let x468:=(d467.2.2.2.2.2.2.2.2.1++([(d467.2.2.2.2.2.1.1.1,(d467.2.2.2.2.2.1.1.2.1,(d467.2.2.2.2.2.2.2.2.2.1,())))]:List (Int×Bool×Y22×Unit)))
some (.inl (((w64 (d467.1.2.1-1)),(d467.1.1,())),((d467.2.1.1,()),(((),()),(((d467.2.2.2.1.1.1,(d467.2.2.2.1.1.2.1,())),()),(((),()),(d467.2.2.2.2.2.2.1,(d467.2.2.2.2.2.2.2.1,(x468,())))))))))
else none)
else(some (.inr ((v.1.2.1,()),((v.2.1.1,()),(((),()),(((),()),(((v.2.2.2.1.1.1,(v.2.2.2.1.1.2.1,())),()),(v.2.2.2.2.2.1,(v.2.2.2.2.2.2.1,(v.2.2.2.2.2.2.2.1,()))))))))))
def l12_0_10(v:((Int×Unit)×Y39)):Option (((Int×Unit)×Y39)⊕((Unit)×Y39)):=
bif (decide ((v.1.1:Int)>0))then(bif (decide ((0:Int)≤((v.2.2.2.2.2.1.length:Nat):Int)∧(((v.2.2.2.2.2.1.length:Nat):Int):Int)< [(bs [112]),(bs [113]),(bs [114])].length))then
([(bs [112]),(bs [113]),(bs [114])][((v.2.2.2.2.2.1.length:Nat):Int).toNat]?).bind fun e459=>
(m22 (([0,0,1,2],()),((v.2.1.1,()),()))).bind fun u460=>
(m19 ((3,()),((u460.2.1.1,()),()))).bind fun u461=>
(loopT l12_0_14 (((w64 (1+u461.1.1)),(v.1.1,())),((u461.2.1.1,()),(((),()),(((e459,(u460.1.1,())),()),(((),()),(v.2.2.2.2.1,(v.2.2.2.2.2.1,([],()))))))))).bind fun d469=>
bif (decide (d469.2.2.2.2.2.2.1.length+([(d469.2.2.2.2.1.1.1,(d469.2.2.2.2.2.2.2.1,(d469.2.2.2.2.1.1.2.1,())))]:List Y6).length≤4294967296))then
let x470:=(d469.2.2.2.2.2.2.1++([(d469.2.2.2.2.1.1.1,(d469.2.2.2.2.2.2.2.1,(d469.2.2.2.2.1.1.2.1,())))]:List Y6))
some (.inl (((w64 (d469.1.1-1)),()),((d469.2.1.1,()),(((),()),(((),()),(d469.2.2.2.2.2.1,(x470,())))))))
else none
else none)
else(some (.inr ((),((v.2.1.1,()),(((),()),(((),()),(v.2.2.2.2.1,(v.2.2.2.2.2.1,()))))))))
def i12:Abs.Sg:=⟨[0],(.st Qx7 .nil),Qb34⟩
def o12:Abs.Sg:=⟨[2],(.st Qx15 .nil),(.box 2 Qs9 (.box 2 (.agg (.st (.own Z15 (2,0)) (.st (.own Z5 (3,0)) .nil)) .nil) (.arr Z15 true (.arr Z5 true .nil))))⟩
def m12(v:((Unit)×(Y17×Unit))):Option ((Unit)×(Y17×((Unit)×Unit)×Y29×(List Y6)×Unit)):=
(m19 ((3,()),((v.2.1.1,()),()))).bind fun u450=>
(loopT l12_0_3 ((u450.1.1,()),((u450.2.1.1,()),(((),()),(((),()),([],())))))).bind fun d457=>
(m19 ((3,()),((d457.2.1.1,()),()))).bind fun u458=>
(loopT l12_0_10 (((w64 (1+u458.1.1)),()),((u458.2.1.1,()),(((),()),(((),()),(d457.2.2.2.2.1,([],()))))))).bind fun d471=>
some ((),((d471.2.1.1,()),(((),()),(d471.2.2.2.2.1,(d471.2.2.2.2.2.1,())))))
def sp12:Abs.Spec:=⟨1,i12,o12,m12⟩
def an12:Nat→Abs.FAn
  | 0=>Abs.FAn.mk (fun _=>none) (fun
    |8=>some (⟨[3,0,2,4,5],(.st Qx15 (.st Qx7 (.st Qx18 (.dat (.int .i64) (.st (.ptr (3,0) 2 0 0) .nil))))),(.box 2 Qs9 (.box 2 (.agg (.st (.own Z15 (4,0)) (.st .nil .nil)) .nil) (.box 2 (.agg Qs14 .nil) (.box 2 (.agg (.dat .str (.st (.own (.int .i64) (5,0)) .nil)) .nil) (.arr Z15 false Qb8)))))⟩,none)
    |_=>none) (fun
    |10=>some ⟨⟨[3,0,6,2],(.st Qx15 (.st Qx7 (.dat (.int .i64) (.st Qx18 .nil)))),(.box 2 Qs9 (.box 2 (.agg (.st (.own Z15 (3,0)) (.st (.own Z5 (4,0)) .nil)) .nil) (.box 2 (.agg Qs14 .nil) (.arr Z15 true (.arr Z5 true .nil)))))⟩,(.one (.exit 2) ⟨[2,3],(.st Qx15 (.st Qx18 .nil)),(.box 2 Qs9 (.box 2 (.agg Qs14 .nil) (.box 2 (.agg (.st (.own Z15 (3,0)) (.st (.own Z5 (4,0)) .nil)) .nil) (.arr Z15 true (.arr Z5 true .nil)))))⟩)⟩
    |14=>some ⟨⟨[3,0,8,7,2,6],(.st Qx15 (.st Qx7 (.dat (.int .i64) (.st (.ptr (2,0) 3 0 0) (.st (.ptr (3,0) 2 0 0) Qs2))))),(.box 2 Qs9 (.box 2 Qs46 (.box 3 (.agg (.dat .str (.st (.own Z36 (6,0)) Qs2)) .nil) (.box 2 (.agg Qs14 .nil) (.arr Z15 true (.arr Z5 true (.arr Z36 false .nil)))))))⟩,(.one (.exit 4) ⟨[3,0,2,6,7],(.st Qx15 (.st Qx7 (.st Qx18 (.dat (.int .i64) (.st (.ptr (3,0) 3 0 0) .nil))))),(.box 2 Qs9 (.box 2 Qs46 (.box 2 (.agg Qs14 .nil) (.box 3 (.agg (.dat .str (.st (.own Z36 (6,0)) Qs2)) .nil) (.arr Z15 true (.arr Z5 true (.arr Z36 false .nil)))))))⟩)⟩
    |18=>some ⟨⟨[10,9,3,0,7,2,6,8],(.dat (.int .i64) (.st Qx50 (.st Qx18 (.st Qx7 (.st (.ptr (3,0) 3 0 0) (.st (.ptr (4,0) 2 0 0) Qs6)))))),(.box 2 Qs9 (.box 3 (.agg (.dat (.int .i64) (.dat .bool (.st (.own Z3 (5,0)) .nil))) .nil) (.box 2 (.agg (.st (.own Z15 (6,0)) (.st (.own Z5 (7,0)) .nil)) .nil) (.box 3 (.agg (.dat .str (.st (.own Z36 (8,0)) Qs2)) .nil) (.box 2 (.agg Qs14 .nil) (.arr Z3 false (.arr Z15 true (.arr Z5 true (.arr Z36 false .nil)))))))))⟩,(.one (.exit 6) ⟨[3,0,7,2,6,8,9],(.st Qx15 (.st Qx7 (.st (.ptr (2,0) 3 0 0) (.st (.ptr (3,0) 2 0 0) (.dat (.int .i64) (.dat (.int .i64) (.st (.ptr (4,0) 3 0 0) .nil))))))),(.box 2 Qs9 (.box 2 Qs47 (.box 3 (.agg (.dat .str (.st (.own Z36 (7,0)) Qs2)) .nil) (.box 2 (.agg Qs14 .nil) (.box 3 (.agg (.dat (.int .i64) (.dat .bool (.st (.own Z3 (8,0)) .nil))) .nil) (.arr Z15 true (.arr Z5 true (.arr Z36 false Qb33))))))))⟩)⟩
    |3=>some ⟨⟨[4,3,0,2],(.dat (.int .i64) (.st Qx15 (.st Qx7 (.st Qx18 .nil)))),(.box 2 Qs9 (.box 2 (.agg (.st (.own Z15 (3,0)) (.st .nil .nil)) .nil) (.box 2 (.agg Qs14 .nil) (.arr Z15 false .nil))))⟩,(.one (.exit 0) ⟨[3,0,2],(.st Qx15 (.st Qx7 (.st Qx18 .nil))),(.box 2 Qs9 (.box 2 (.agg (.st (.own Z15 (3,0)) (.st .nil .nil)) .nil) (.box 2 (.agg Qs14 .nil) (.arr Z15 false .nil))))⟩)⟩
    |_=>none) (fun _ _=>0)
  |_=>{}
theorem ok12:Abs.SpecOK Tryz.prog 12 sp12:=
  Abs.specOK_of (n:=12) (an:=an12) (T:=Abs.tabOf [(19,sp19),(22,sp22),(42,sp42)]) good foll (Abs.tabOf_ok _ (by simp only[List.forall_mem_cons];exact⟨ok19,ok22,ok42,fun _ h=>by cases h⟩)) rfl (by intro v;kernel_rfl)
def l75_0_2(v:((Int×Unit)×((Y6×Unit)×Unit))):Option (((Int×Unit)×((Y6×Unit)×Unit))⊕(Y24⊕((Unit)×(Unit)))):=
let x24:=(decide ((v.1.1:Int)<(v.2.1.1.2.1.length:Int)))
bif x24 then(Abs.rowAt v.2.1.1.2.1 v.1.1 fun e25 _=>
(m56 ((e25.1,(0,(86400,()))),())).bind fun u26=>
bif (!u26.1.1)then(some (.inr (.inl ((false,()),()))))
else(some (.inl (((w64 (v.1.1+1)),()),((v.2.1.1,()),())))))
else(some (.inr (.inr ((),()))))
def i75:Abs.Sg:=⟨[0],Qs35,.nil⟩
def o75:Abs.Sg:=⟨[2],Qs5,.nil⟩
def m75(v:((Y6×Unit)×(Unit))):Option Y24:=
(loopT l75_0_2 ((0,()),((v.1.1,()),()))).bind fun d27=>
sumE d27 (fun d28=>(some ((d28.1.1,()),()))) (fun d29=>(some ((true,()),())))
def sp75:Abs.Spec:=⟨0,i75,o75,m75⟩
def an75:Nat→Abs.FAn
  | 0=>Abs.FAn.mk (fun _=>none) (fun _=>none) (fun
    |2=>some ⟨⟨[3,1],(.dat (.int .i64) (.st Qx21 .nil)),(.box 3 Qs35 .nil)⟩,(.more .ret ⟨[2],Qs5,.nil⟩ (.one (.exit 0) ⟨[],.nil,.nil⟩))⟩
    |_=>none) (fun _ _=>0)
  |_=>{}
theorem ok75:Abs.SpecOK Tryz.prog 75 sp75:=
  Abs.specOK_of (n:=12) (an:=an75) (T:=Abs.tabOf [(56,sp56)]) good foll (Abs.tabOf_ok _ (by simp only[List.forall_mem_cons];exact⟨ok56,fun _ h=>by cases h⟩)) rfl (by intro v;kernel_rfl)
def i73:Abs.Sg:=⟨[0],Qs35,.nil⟩
def o73:Abs.Sg:=⟨[2],Qs2,.nil⟩
def m73(v:((Y6×Unit)×(Unit))):Option ((Int×Unit)×(Unit)):=
(((m56 ((v.1.1.2.2.1,(0,(8,()))),())).bind fun u9=>
bif (!u9.1.1)then(some ((true,()),((v.1.1,()),())))
else(some (((decide (((v.1.1.2.1.length:Int):Int)>8)),()),((v.1.1,()),())))):Option ((Bool×Unit)×((Y6×Unit)×Unit))).bind fun v10=>
bif v10.1.1 then(some ((0,()),()))
else(let x11:=(w64 ((v10.2.1.1.2.1.length:Int)*(w64 (v10.2.1.1.2.2.1+1))))
some ((x11,()),()))
def sp73:Abs.Spec:=⟨0,i73,o73,m73⟩
def an73:Nat→Abs.FAn
  | 0=>Abs.FAn.mk (fun
    |1=>some ⟨[12,1],(.dat .bool (.st Qx21 .nil)),(.box 3 Qs35 .nil)⟩
    |_=>none) (fun _=>none) (fun _=>none) (fun _ _=>0)
  |_=>{}
theorem ok73:Abs.SpecOK Tryz.prog 73 sp73:=
  Abs.specOK_of (n:=12) (an:=an73) (T:=Abs.tabOf [(56,sp56)]) good foll (Abs.tabOf_ok _ (by simp only[List.forall_mem_cons];exact⟨ok56,fun _ h=>by cases h⟩)) rfl (by intro v;kernel_rfl)
def l79_0_2(v:((Int×(List Int)×Int×Unit)×(Unit))):Option (((Int×(List Int)×Int×Unit)×(Unit))⊕(Y24⊕((Unit)×(Unit)))):=
let x41:=(decide ((v.1.1:Int)<(v.1.2.1.length:Int)))
bif x41 then(((Abs.rowAt v.1.2.1 v.1.1 fun e42 _=>
bif (decide ((e42:Int)<0))then(some ((true,(v.1.2.1,(v.1.2.2.1,(v.1.1,())))),()))
else(Abs.rowAt v.1.2.1 v.1.1 fun e43 _=>
bif (decide ((e43:Int)≥v.1.2.2.1))then(some ((true,(v.1.2.1,(v.1.2.2.1,(v.1.1,())))),()))
else(bif (decide ((v.1.1:Int)>0))then(Abs.rowAt v.1.2.1 (w64 (v.1.1-1)) fun e44 _=>
Abs.rowAt v.1.2.1 v.1.1 fun e45 _=>
some (((decide ((e44:Int)≥e45)),(v.1.2.1,(v.1.2.2.1,(v.1.1,())))),()))
else(some ((false,(v.1.2.1,(v.1.2.2.1,(v.1.1,())))),()))))):Option ((Bool×(List Int)×Int×Int×Unit)×(Unit))).bind fun v46=>
bif v46.1.1 then(some (.inr (.inl ((false,()),()))))
else(some (.inl (((w64 (v46.1.2.2.2.1+1)),(v46.1.2.1,(v46.1.2.2.1,()))),()))))
else(some (.inr (.inr ((),()))))
def i79:Abs.Sg:=⟨[0,1],Qs43,.nil⟩
def o79:Abs.Sg:=⟨[4],Qs5,.nil⟩
def m79(v:(((List Int)×Int×Unit)×(Unit))):Option Y24:=
(loopT l79_0_2 ((0,(v.1.1,(v.1.2.1,()))),())).bind fun d47=>
sumE d47 (fun d48=>(some ((d48.1.1,()),()))) (fun d49=>(some ((true,()),())))
def sp79:Abs.Spec:=⟨0,i79,o79,m79⟩
def an79:Nat→Abs.FAn
  | 0=>Abs.FAn.mk (fun
    |4=>some ⟨[40,0,1,5],(.dat .bool (.dat (.row (.int .i64)) Qs6)),.nil⟩
    |_=>none) (fun _=>none) (fun
    |2=>some ⟨⟨[5,0,1],(.dat (.int .i64) Qs43),.nil⟩,(.more .ret ⟨[4],Qs5,.nil⟩ (.one (.exit 0) ⟨[],.nil,.nil⟩))⟩
    |_=>none) (fun _ _=>0)
  |_=>{}
theorem ok79:Abs.SpecOK Tryz.prog 79 sp79:=
  Abs.specOK_of (n:=12) (an:=an79) (T:=Abs.tabOf []) good foll (Abs.tabOf_ok _ (fun _ h=>by cases h)) rfl (by intro v;kernel_rfl)
def l78_0_3(v:(Y35×((Y7×Unit)×Unit))):Option ((Y35×((Y7×Unit)×Unit))⊕(Y24⊕((Unit)×((Y7×Unit)×Unit)))):=
let x49:=(decide ((v.1.1:Int)<(v.2.1.1.2.2.2.2.2.2.2.2.2.2.2.1.length:Int)))
bif x49 then(((Abs.rowAt v.2.1.1.2.2.2.2.2.2.2.2.2.2.2.1 v.1.1 fun e50 _=>
((bif (decide ((e50.2.1:Int)<v.1.2.2.1))then(some ((true,(v.1.1,(v.1.2.1,()))),((v.2.1.1,()),((e50,()),()))))
else(bif (decide ((e50.1:Int)<(-1)))then(some ((true,(v.1.1,(v.1.2.1,()))),((v.2.1.1,()),((e50,()),()))))
else(bif (decide ((e50.1:Int)≥0))then(bif (decide ((e50.1:Int)≤v.1.2.1))then(some ((true,(v.1.1,(v.1.2.1,()))),((v.2.1.1,()),((e50,()),()))))
else(bif (decide ((e50.1:Int)≥v.2.1.1.2.2.2.1))then(some ((true,(v.1.1,(v.1.2.1,()))),((v.2.1.1,()),((e50,()),()))))
else((m79 ((e50.2.2.1,(32,())),())).bind fun u51=>
some (((!u51.1.1),(v.1.1,(v.1.2.1,()))),((v.2.1.1,()),((e50,()),()))))))
else((m79 ((e50.2.2.1,(32,())),())).bind fun u52=>
some (((!u52.1.1),(v.1.1,(v.1.2.1,()))),((v.2.1.1,()),((e50,()),()))))))):Option ((Bool×Int×Int×Unit)×((Y7×Unit)×(Y26×Unit)×Unit))).bind fun v53=>
bif v53.1.1 then(some (.inr ((false,()),())))
else(bif (decide ((v53.2.2.1.1.1:Int)≥0))then(some (.inl ((v53.2.2.1.1.1,(v53.2.2.1.1.2.1,(v53.1.2.1,()))),((v53.2.1.1,()),()))))
else(some (.inl ((v53.1.2.2.1,(v53.2.2.1.1.2.1,(v53.1.2.1,()))),((v53.2.1.1,()),())))))):Option ((Y35×((Y7×Unit)×Unit))⊕Y24)).bind fun r56=>
sumE r56 (fun v54=>(some (.inl (((w64 (v54.1.2.2.1+1)),(v54.1.1,(v54.1.2.1,()))),((v54.2.1.1,()),()))))) (fun d55=>(some (.inr (.inl ((d55.1.1,()),()))))))
else(some (.inr (.inr ((),((v.2.1.1,()),())))))
def i78:Abs.Sg:=⟨[0],Qs19,.nil⟩
def o78:Abs.Sg:=⟨[2],Qs5,.nil⟩
def m78(v:((Y7×Unit)×(Unit))):Option Y24:=
(loopT l78_0_3 ((0,((-1),(v.1.1.2.2.1,()))),((v.1.1,()),()))).bind fun d57=>
sumE d57 (fun d58=>(some ((d58.1.1,()),()))) (fun d59=>(let x60:=(decide (((d59.2.1.1.2.2.2.2.2.2.2.2.2.2.2.1.length:Int):Int)≤200))
some ((x60,()),())))
def sp78:Abs.Spec:=⟨0,i78,o78,m78⟩
def an78:Nat→Abs.FAn
  | 0=>Abs.FAn.mk (fun
    |6=>some ⟨[53,1,5,6,3],(.dat .bool (.st Qx13 (.dat (.int .i64) (.st Qx50 Qs2)))),(.box 14 Qs19 (.box 3 (.dat Z12 .nil) .nil))⟩
    |_=>none) (fun
    |4=>some (⟨[1,3,4,5],(.st Qx13 Qs23),(.box 14 Qs19 .nil)⟩,some (.one .ret ⟨[2],Qs5,.nil⟩))
    |_=>none) (fun
    |3=>some ⟨⟨[5,1,3,4],(.dat (.int .i64) (.st Qx13 Qs6)),(.box 14 Qs19 .nil)⟩,(.more .ret ⟨[2],Qs5,.nil⟩ (.one (.exit 0) ⟨[1],(.st Qx13 .nil),(.box 14 Qs19 .nil)⟩))⟩
    |_=>none) (fun _ _=>0)
  |_=>{}
theorem ok78:Abs.SpecOK Tryz.prog 78 sp78:=
  Abs.specOK_of (n:=12) (an:=an78) (T:=Abs.tabOf [(79,sp79)]) good foll (Abs.tabOf_ok _ (by simp only[List.forall_mem_cons];exact⟨ok79,fun _ h=>by cases h⟩)) rfl (by intro v;kernel_rfl)
def l47_0_2(v:(Y26×(Unit))):Option ((Y26×(Unit))⊕(Y24⊕((Unit)×(Unit)))):=
let x18:=(decide ((v.1.1:Int)<(v.1.2.2.1.length:Int)))
bif x18 then(Abs.rowAt v.1.2.2.1 v.1.1 fun e19 _=>
bif ((e19:Int)==v.1.2.1)then(some (.inr (.inl ((true,()),()))))
else(some (.inl (((w64 (v.1.1+1)),(v.1.2.1,(v.1.2.2.1,()))),()))))
else(some (.inr (.inr ((),()))))
def i47:Abs.Sg:=⟨[0,1],Qs43,.nil⟩
def o47:Abs.Sg:=⟨[4],Qs5,.nil⟩
def m47(v:(((List Int)×Int×Unit)×(Unit))):Option Y24:=
(loopT l47_0_2 ((0,(v.1.2.1,(v.1.1,()))),())).bind fun d20=>
sumE d20 (fun d21=>(some ((d21.1.1,()),()))) (fun d22=>(some ((false,()),())))
def sp47:Abs.Spec:=⟨0,i47,o47,m47⟩
def an47:Nat→Abs.FAn
  | 0=>Abs.FAn.mk (fun _=>none) (fun _=>none) (fun
    |2=>some ⟨⟨[5,1,0],(.dat (.int .i64) (.dat (.int .i64) Qs40)),.nil⟩,(.more .ret ⟨[4],Qs5,.nil⟩ (.one (.exit 0) ⟨[],.nil,.nil⟩))⟩
    |_=>none) (fun _ _=>0)
  |_=>{}
theorem ok47:Abs.SpecOK Tryz.prog 47 sp47:=
  Abs.specOK_of (n:=12) (an:=an47) (T:=Abs.tabOf []) good foll (Abs.tabOf_ok _ (fun _ h=>by cases h)) rfl (by intro v;kernel_rfl)
def l43_0_9(v:((Int×Unit)×((Y7×Unit)×Unit))):Option (((Int×Unit)×((Y7×Unit)×Unit))⊕(Y24⊕((Unit)×(Unit)))):=
let x122:=(decide ((v.1.1:Int)<(v.2.1.1.2.2.2.2.2.2.2.2.2.2.2.2.2.1.length:Int)))
bif x122 then(bif (decide ((0:Int)≤v.1.1))then
bif (decide (0≤v.1.1.toNat∧v.1.1.toNat≤v.2.1.1.2.2.2.2.2.2.2.2.2.2.2.2.2.1.length))then
let x123:=(v.2.1.1.2.2.2.2.2.2.2.2.2.2.2.2.2.1.take v.1.1.toNat)
Abs.rowAt v.2.1.1.2.2.2.2.2.2.2.2.2.2.2.2.2.1 v.1.1 fun e124 _=>
(m47 ((x123,(e124,())),())).bind fun u125=>
bif u125.1.1 then(some (.inr (.inl ((false,()),()))))
else(some (.inl (((w64 (v.1.1+1)),()),((v.2.1.1,()),()))))
else none
else none)
else(some (.inr (.inr ((),()))))
def i43:Abs.Sg:=⟨[0,1],(.dat Z25 Qs19),.nil⟩
def o43:Abs.Sg:=⟨[4],Qs5,.nil⟩
def m43(v:((Y18×Y7×Unit)×(Unit))):Option Y24:=
(m20 ((v.1.1,(v.1.2.1.1,(v.1.2.1.2.1,(v.1.2.1.2.2.1,())))),())).bind fun u103=>
((bif ((u103.1.1:Int) !=0)then(some ((true,()),((v.1.2.1,()),())))
else(Abs.rowAt v.1.1.2.1 v.1.2.1.2.1 fun e104 _=>
(m75 ((e104,()),())).bind fun u105=>
bif (!u105.1.1)then(some ((true,()),((v.1.2.1,()),())))
else(Abs.rowAt v.1.1.2.1 v.1.2.1.2.1 fun e106 _=>
(m73 ((e106,()),())).bind fun u107=>
(m56 ((v.1.2.1.2.2.2.1,(0,(u107.1.1,()))),())).bind fun u108=>
some (((!u108.1.1),()),((v.1.2.1,()),()))))):Option ((Bool×Unit)×((Y7×Unit)×Unit))).bind fun v109=>
bif v109.1.1 then(some ((false,()),()))
else((((m56 ((v109.2.1.1.2.2.2.2.2.1,(0,(4,()))),())).bind fun u110=>
bif (!u110.1.1)then(some ((true,()),((v109.2.1.1,()),())))
else((m56 ((v109.2.1.1.2.2.2.2.2.2.1,((-1),(31,()))),())).bind fun u111=>
bif (!u111.1.1)then(some ((true,()),((v109.2.1.1,()),())))
else((m56 ((v109.2.1.1.2.2.2.2.2.2.2.2.1,(v109.2.1.1.2.2.1,(17179869184,()))),())).bind fun u112=>
bif (!u112.1.1)then(some ((true,()),((v109.2.1.1,()),())))
else((m56 ((v109.2.1.1.2.2.2.2.1,(0,(17179869184,()))),())).bind fun u113=>
bif (!u113.1.1)then(some ((true,()),((v109.2.1.1,()),())))
else((m56 ((v109.2.1.1.2.2.2.2.2.2.2.1,(0,(17179869184,()))),())).bind fun u114=>
some (((!u114.1.1),()),((v109.2.1.1,()),()))))))):Option ((Bool×Unit)×((Y7×Unit)×Unit))).bind fun v115=>
bif v115.1.1 then(some ((false,()),()))
else((((m56 ((v115.2.1.1.2.2.2.2.2.2.2.2.2.1,(0,(4,()))),())).bind fun u116=>
bif (!u116.1.1)then(some ((true,()),((v115.2.1.1,()),())))
else((m56 ((v115.2.1.1.2.2.2.2.2.2.2.2.2.2.1,(0,(4,()))),())).bind fun u117=>
bif (!u117.1.1)then(some ((true,()),((v115.2.1.1,()),())))
else((m78 ((v115.2.1.1,()),())).bind fun u118=>
bif (!u118.1.1)then(some ((true,()),((v115.2.1.1,()),())))
else((m79 ((v115.2.1.1.2.2.2.2.2.2.2.2.2.2.2.2.1,(32,())),())).bind fun u119=>
bif (!u119.1.1)then(some ((true,()),((v115.2.1.1,()),())))
else(let x120:=(decide (((v115.2.1.1.2.2.2.2.2.2.2.2.2.2.2.2.2.1.length:Int):Int)>64))
some ((x120,()),((v115.2.1.1,()),()))))))):Option ((Bool×Unit)×((Y7×Unit)×Unit))).bind fun v121=>
bif v121.1.1 then(some ((false,()),()))
else((loopT l43_0_9 ((0,()),((v121.2.1.1,()),()))).bind fun d126=>
sumE d126 (fun d127=>(some ((d127.1.1,()),()))) (fun d128=>(some ((true,()),()))))))
def sp43:Abs.Spec:=⟨0,i43,o43,m43⟩
def an43:Nat→Abs.FAn
  | 0=>Abs.FAn.mk (fun
    |6=>some ⟨[100,3],(.dat .bool (.st Qx13 .nil)),(.box 14 Qs19 .nil)⟩
    |4=>some ⟨[73,3],(.dat .bool (.st Qx13 .nil)),(.box 14 Qs19 .nil)⟩
    |2=>some ⟨[43,3],(.dat .bool (.st Qx13 .nil)),(.box 14 Qs19 .nil)⟩
    |_=>none) (fun _=>none) (fun
    |9=>some ⟨⟨[7,3],(.dat (.int .i64) (.st Qx13 .nil)),(.box 14 Qs19 .nil)⟩,(.more .ret ⟨[4],Qs5,.nil⟩ (.one (.exit 0) ⟨[],.nil,.nil⟩))⟩
    |_=>none) (fun _ _=>0)
  |_=>{}
theorem ok43:Abs.SpecOK Tryz.prog 43 sp43:=
  Abs.specOK_of (n:=12) (an:=an43) (T:=Abs.tabOf [(20,sp20),(75,sp75),(73,sp73),(56,sp56),(78,sp78),(79,sp79),(47,sp47)]) good foll (Abs.tabOf_ok _ (by simp only[List.forall_mem_cons];exact⟨ok20,ok75,ok73,ok56,ok78,ok79,ok47,fun _ h=>by cases h⟩)) rfl (by intro v;kernel_rfl)
def l44_0_3(v:((Int×Unit)×((List Y26)×(Y7×Unit)×Y13×Unit))):Option (((Int×Unit)×((List Y26)×(Y7×Unit)×Y13×Unit))⊕((Unit)×(Y13×(Y7×Unit)×(List Y26)×Unit))):=
let x19:=(decide ((v.1.1:Int)<(v.2.2.1.1.2.2.2.2.2.2.2.2.2.2.2.1.length:Int)))
bif x19 then(Abs.rowAt v.2.2.1.1.2.2.2.2.2.2.2.2.2.2.2.1 v.1.1 fun e20 _=>
bif (decide (0+e20.2.2.1.length≤4294967296))then
bif (decide (v.2.1.length+([e20]:List Y26).length≤4294967296))then
let x21:=(v.2.1++([e20]:List Y26))
some (.inl (((w64 (v.1.1+1)),()),(x21,((v.2.2.1.1,()),(((v.2.2.2.1.1.1,(v.2.2.2.1.1.2.1,(v.2.2.2.1.1.2.2.1,(v.2.2.2.1.1.2.2.2.1,(v.2.2.2.1.1.2.2.2.2.1,(v.2.2.2.1.1.2.2.2.2.2.1,(v.2.2.2.1.1.2.2.2.2.2.2.1,(v.2.2.2.1.1.2.2.2.2.2.2.2.1,(v.2.2.2.1.1.2.2.2.2.2.2.2.2.1,(v.2.2.2.1.1.2.2.2.2.2.2.2.2.2.1,(v.2.2.2.1.1.2.2.2.2.2.2.2.2.2.2.1,()))))))))))),()),())))))
else none
else none)
else(some (.inr ((),(((v.2.2.2.1.1.1,(v.2.2.2.1.1.2.1,(v.2.2.2.1.1.2.2.1,(v.2.2.2.1.1.2.2.2.1,(v.2.2.2.1.1.2.2.2.2.1,(v.2.2.2.1.1.2.2.2.2.2.1,(v.2.2.2.1.1.2.2.2.2.2.2.1,(v.2.2.2.1.1.2.2.2.2.2.2.2.1,(v.2.2.2.1.1.2.2.2.2.2.2.2.2.1,(v.2.2.2.1.1.2.2.2.2.2.2.2.2.2.1,(v.2.2.2.1.1.2.2.2.2.2.2.2.2.2.2.1,()))))))))))),()),((v.2.2.1.1,()),(v.2.1,()))))))
def i44:Abs.Sg:=⟨[0],Qs19,.nil⟩
def o44:Abs.Sg:=⟨[2],(.st Qx13 .nil),Qb4⟩
def m44(v:((Y7×Unit)×(Unit))):Option ((Unit)×(Y13×(List Y26)×(List Int)×(List Int)×Unit)):=
(loopT l44_0_3 ((0,()),([],((v.1.1,()),(((0,(0,(0,(0,(0,(0,(0,(0,(0,(0,(0,()))))))))))),()),()))))).bind fun d22=>
bif (decide (0+d22.2.2.1.1.2.2.2.2.2.2.2.2.2.2.2.2.1.length≤4294967296))then
bif (decide (0+d22.2.2.1.1.2.2.2.2.2.2.2.2.2.2.2.2.2.1.length≤4294967296))then
some ((),(((d22.2.2.1.1.1,(d22.2.2.1.1.2.1,(d22.2.2.1.1.2.2.1,(d22.2.2.1.1.2.2.2.1,(d22.2.2.1.1.2.2.2.2.1,(d22.2.2.1.1.2.2.2.2.2.1,(d22.2.2.1.1.2.2.2.2.2.2.1,(d22.2.2.1.1.2.2.2.2.2.2.2.1,(d22.2.2.1.1.2.2.2.2.2.2.2.2.1,(d22.2.2.1.1.2.2.2.2.2.2.2.2.2.1,(d22.2.2.1.1.2.2.2.2.2.2.2.2.2.2.1,()))))))))))),()),(d22.2.2.2.1,(d22.2.2.1.1.2.2.2.2.2.2.2.2.2.2.2.2.1,(d22.2.2.1.1.2.2.2.2.2.2.2.2.2.2.2.2.2.1,())))))
else none
else none
def sp44:Abs.Spec:=⟨0,i44,o44,m44⟩
def an44:Nat→Abs.FAn
  | 0=>Abs.FAn.mk (fun _=>none) (fun _=>none) (fun
    |3=>some ⟨⟨[4,3,1,2],(.dat (.int .i64) (.st (.own Z12 (0,0)) (.st Qx25 (.st (.ptr (2,0) 14 0 0) .nil)))),(.arr Z12 false (.box 14 Qs19 (.box 14 Qs1 .nil)))⟩,(.one (.exit 0) ⟨[2,1,3],(.st Qx13 (.st Qx25 (.st (.own Z12 (2,0)) .nil))),(.box 14 Qs1 (.box 14 Qs19 (.arr Z12 false .nil)))⟩)⟩
    |_=>none) (fun _ _=>0)
  |_=>{}
theorem ok44:Abs.SpecOK Tryz.prog 44 sp44:=
  Abs.specOK_of (n:=12) (an:=an44) (T:=Abs.tabOf []) good foll (Abs.tabOf_ok _ (fun _ h=>by cases h)) rfl (by intro v;kernel_rfl)
def i45:Abs.Sg:=⟨[0],Qs19,.nil⟩
def o45:Abs.Sg:=⟨[2,3],Qs28,.nil⟩
def m45(v:((Y7×Unit)×(Unit))):Option ((Int×Bool×Unit)×(Unit)):=
bif ((v.1.1.2.2.2.2.2.1:Int)==0)then(some ((v.1.1.2.2.2.2.1,(true,())),()))
else(bif ((v.1.1.2.2.2.2.2.1:Int)==2)then(some ((v.1.1.2.2.2.2.2.2.2.1,(true,())),()))
else(some ((0,(false,())),())))
def sp45:Abs.Spec:=⟨0,i45,o45,m45⟩
def an45:Nat→Abs.FAn
  |_=>{}
theorem ok45:Abs.SpecOK Tryz.prog 45 sp45:=
  Abs.specOK_of (n:=12) (an:=an45) (T:=Abs.tabOf []) good foll (Abs.tabOf_ok _ (fun _ h=>by cases h)) rfl (by intro v;kernel_rfl)
def i53:Abs.Sg:=⟨[0,1],(.dat Z5 Qs2),.nil⟩
def o53:Abs.Sg:=⟨[4,5,6],(.dat (.int .i64) Qs28),.nil⟩
def m53(v:((Y6×Int×Unit)×(Unit))):Option ((Int×Int×Bool×Unit)×(Unit)):=
((bif (decide ((v.1.2.1:Int)<0))then(some ((true,(v.1.2.1,())),((v.1.1,()),())))
else((m73 ((v.1.1,()),())).bind fun u11=>
some (((decide ((v.1.2.1:Int)≥u11.1.1)),(v.1.2.1,())),((v.1.1,()),())))):Option ((Bool×Int×Unit)×((Y6×Unit)×Unit))).bind fun v12=>
bif v12.1.1 then(some ((0,(0,(false,()))),()))
else(bif (decide ((v12.2.1.1.2.1.length:Int)≠(0:Int)))then
let x13:=((v12.1.2.1:Int).tmod (v12.2.1.1.2.1.length:Int))
bif (decide ((v12.2.1.1.2.1.length:Int)≠(0:Int)))then
let x14:=(w64 ((v12.1.2.1:Int).tdiv (v12.2.1.1.2.1.length:Int)))
some ((x13,(x14,(true,()))),())
else none
else none)
def sp53:Abs.Spec:=⟨0,i53,o53,m53⟩
def an53:Nat→Abs.FAn
  | 0=>Abs.FAn.mk (fun
    |1=>some ⟨[14,2,1],(.dat .bool (.st Qx21 Qs2)),(.box 3 Qs35 .nil)⟩
    |_=>none) (fun _=>none) (fun _=>none) (fun _ _=>0)
  |_=>{}
theorem ok53:Abs.SpecOK Tryz.prog 53 sp53:=
  Abs.specOK_of (n:=12) (an:=an53) (T:=Abs.tabOf [(73,sp73)]) good foll (Abs.tabOf_ok _ (by simp only[List.forall_mem_cons];exact⟨ok73,fun _ h=>by cases h⟩)) rfl (by intro v;kernel_rfl)
def l50_0_4(v:((Int×(List Int)×Int×Bool×Unit)×((List Int)×Unit))):Option (((Int×(List Int)×Int×Bool×Unit)×((List Int)×Unit))⊕((Int×Bool×Unit)×((List Int)×Unit))):=
let x40:=(decide ((v.1.1:Int)<(v.1.2.1.length:Int)))
bif x40 then(((((((bif (!v.1.2.2.2.1)then(Abs.rowAt v.1.2.1 v.1.1 fun e41 _=>
some (((decide ((e41:Int)≥v.1.2.2.1)),(v.1.2.1,(v.1.2.2.1,(v.1.1,(v.1.2.2.2.1,()))))),(v.2.1,())))
else(some ((false,(v.1.2.1,(v.1.2.2.1,(v.1.1,(v.1.2.2.2.1,()))))),(v.2.1,())))):Option ((Bool×(List Int)×Int×Int×Bool×Unit)×((List Int)×Unit))).bind fun v42=>
bif v42.1.1 then(bif (decide (v42.2.1.length+ [v42.1.2.2.1].length≤4294967296))then
some ((v42.1.2.1,(v42.1.2.2.1,(true,(v42.1.2.2.2.1,())))),((v42.2.1++ [v42.1.2.2.1]),()))
else none)
else(some ((v42.1.2.1,(v42.1.2.2.1,(v42.1.2.2.2.2.1,(v42.1.2.2.2.1,())))),(v42.2.1,())))):Option (((List Int)×Int×Bool×Int×Unit)×((List Int)×Unit))).bind fun v43=>
Abs.rowAt v43.1.1 v43.1.2.2.2.1 fun e44 _=>
bif ((e44:Int) !=v43.1.2.1)then(Abs.rowAt v43.1.1 v43.1.2.2.2.1 fun e45 _=>
bif (decide (v43.2.1.length+ [e45].length≤4294967296))then
some ((v43.1.1,(v43.1.2.1,(v43.1.2.2.1,(v43.1.2.2.2.1,())))),((v43.2.1++ [e45]),()))
else none)
else(some ((v43.1.1,(v43.1.2.1,(v43.1.2.2.1,(v43.1.2.2.2.1,())))),(v43.2.1,())))):Option (((List Int)×Int×Bool×Int×Unit)×((List Int)×Unit))).bind fun v46=>
some (.inl (((w64 (v46.1.2.2.2.1+1)),(v46.1.1,(v46.1.2.1,(v46.1.2.2.1,())))),(v46.2.1,()))))
else(some (.inr ((v.1.2.2.1,(v.1.2.2.2.1,())),(v.2.1,()))))
def i50:Abs.Sg:=⟨[0,1],Qs43,.nil⟩
def o50:Abs.Sg:=⟨[4],(.st Qx22 .nil),Qb8⟩
def m50(v:(((List Int)×Int×Unit)×(Unit))):Option ((Unit)×((List Int)×Unit)):=
(loopT l50_0_4 ((0,(v.1.1,(v.1.2.1,(false,())))),([],()))).bind fun d47=>
((bif (!d47.1.2.1)then(bif (decide (d47.2.1.length+ [d47.1.1].length≤4294967296))then
some ((),((d47.2.1++ [d47.1.1]),()))
else none)
else(some ((),(d47.2.1,())))):Option ((Unit)×((List Int)×Unit))).bind fun v48=>
some ((),(v48.2.1,()))
def sp50:Abs.Spec:=⟨0,i50,o50,m50⟩
def an50:Nat→Abs.FAn
  | 0=>Abs.FAn.mk (fun
    |6=>some ⟨[23,0,1,7,5,6],(.dat .bool (.dat (.row (.int .i64)) (.dat (.int .i64) (.dat (.int .i64) (.st Qx22 Qs5))))),Qb8⟩
    |_=>none) (fun
    |13=>some (⟨[5],(.st Qx22 .nil),Qb8⟩,none)
    |5=>some (⟨[0,1,5,6,7],(.dat (.row (.int .i64)) (.dat (.int .i64) (.st Qx22 (.dat .bool Qs2)))),Qb8⟩,none)
    |9=>some (⟨[0,1,6,7,5],(.dat (.row (.int .i64)) (.dat (.int .i64) (.dat .bool (.dat (.int .i64) (.st Qx22 .nil))))),Qb8⟩,none)
    |_=>none) (fun
    |4=>some ⟨⟨[7,0,1,5,6],(.dat (.int .i64) (.dat (.row (.int .i64)) (.dat (.int .i64) (.st Qx22 Qs5)))),Qb8⟩,(.one (.exit 0) ⟨[1,5,6],(.dat (.int .i64) (.st Qx22 Qs5)),Qb8⟩)⟩
    |_=>none) (fun _ _=>0)
  |_=>{}
theorem ok50:Abs.SpecOK Tryz.prog 50 sp50:=
  Abs.specOK_of (n:=12) (an:=an50) (T:=Abs.tabOf []) good foll (Abs.tabOf_ok _ (fun _ h=>by cases h)) rfl (by intro v;kernel_rfl)
def i141:Abs.Sg:=⟨[0],(.dat (.int .u8) .nil),.nil⟩
def o141:Abs.Sg:=⟨[2],Qs5,.nil⟩
def m141(v:((Int×Unit)×(Unit))):Option Y24:=
((bif (decide ((v.1.1:Int)≥48))then(some (((decide ((v.1.1:Int)≤57)),()),()))
else(some ((false,()),()))):Option Y24).bind fun v1=>
some ((v1.1.1,()),())
def sp141:Abs.Spec:=⟨0,i141,o141,m141⟩
def an141:Nat→Abs.FAn
  | 0=>Abs.FAn.mk (fun
    |1=>some ⟨[2],Qs5,.nil⟩
    |_=>none) (fun _=>none) (fun _=>none) (fun _ _=>0)
  |_=>{}
theorem ok141:Abs.SpecOK Tryz.prog 141 sp141:=
  Abs.specOK_of (n:=12) (an:=an141) (T:=Abs.tabOf []) good foll (Abs.tabOf_ok _ (fun _ h=>by cases h)) rfl (by intro v;kernel_rfl)
def l135_0_4(v:((Int×ByteArray×Unit)×(Unit))):Option (((Int×ByteArray×Unit)×(Unit))⊕(Y24⊕((Unit)×(Unit)))):=
bif (decide ((v.1.1:Int)<(v.1.2.1.size:Int)))then(((bif (decide ((0:Int)≤v.1.1∧(v.1.1:Int)<v.1.2.1.size))then
let x77:=(decide (((((v.1.2.1[v.1.1.toNat]?.getD 0).toNat:Nat):Int):Int)<97))
bif x77 then(bif (decide ((0:Int)≤v.1.1∧(v.1.1:Int)<v.1.2.1.size))then
(m141 (((((v.1.2.1[v.1.1.toNat]?.getD 0).toNat:Nat):Int),()),())).bind fun u78=>
bif (!u78.1.1)then(bif (decide ((0:Int)≤v.1.1∧(v.1.1:Int)<v.1.2.1.size))then
let x79:=(((((v.1.2.1[v.1.1.toNat]?.getD 0).toNat:Nat):Int):Int) !=95)
bif x79 then(bif (decide ((0:Int)≤v.1.1∧(v.1.1:Int)<v.1.2.1.size))then
let x80:=(((((v.1.2.1[v.1.1.toNat]?.getD 0).toNat:Nat):Int):Int) !=45)
some ((x80,(v.1.2.1,(v.1.1,()))),())
else none)
else(some ((false,(v.1.2.1,(v.1.1,()))),()))
else none)
else(some ((false,(v.1.2.1,(v.1.1,()))),()))
else none)
else(bif (decide ((0:Int)≤v.1.1∧(v.1.1:Int)<v.1.2.1.size))then
let x81:=(decide (((((v.1.2.1[v.1.1.toNat]?.getD 0).toNat:Nat):Int):Int)>122))
bif x81 then(bif (decide ((0:Int)≤v.1.1∧(v.1.1:Int)<v.1.2.1.size))then
(m141 (((((v.1.2.1[v.1.1.toNat]?.getD 0).toNat:Nat):Int),()),())).bind fun u82=>
bif (!u82.1.1)then(bif (decide ((0:Int)≤v.1.1∧(v.1.1:Int)<v.1.2.1.size))then
let x83:=(((((v.1.2.1[v.1.1.toNat]?.getD 0).toNat:Nat):Int):Int) !=95)
bif x83 then(bif (decide ((0:Int)≤v.1.1∧(v.1.1:Int)<v.1.2.1.size))then
let x84:=(((((v.1.2.1[v.1.1.toNat]?.getD 0).toNat:Nat):Int):Int) !=45)
some ((x84,(v.1.2.1,(v.1.1,()))),())
else none)
else(some ((false,(v.1.2.1,(v.1.1,()))),()))
else none)
else(some ((false,(v.1.2.1,(v.1.1,()))),()))
else none)
else(some ((false,(v.1.2.1,(v.1.1,()))),()))
else none)
else none):Option ((Bool×ByteArray×Int×Unit)×(Unit))).bind fun v85=>
bif v85.1.1 then(some (.inr (.inl ((false,()),()))))
else(some (.inl (((w64 (v85.1.2.2.1+1)),(v85.1.2.1,())),()))))
else(some (.inr (.inr ((),()))))
def i135:Abs.Sg:=⟨[0],(.dat .str .nil),.nil⟩
def o135:Abs.Sg:=⟨[2],Qs5,.nil⟩
def m135(v:((ByteArray×Unit)×(Unit))):Option Y24:=
((bif (decide (((v.1.1.size:Int):Int)<1))then(some ((true,(v.1.1,())),()))
else(bif (decide (((v.1.1.size:Int):Int)>24))then(some ((true,(v.1.1,())),()))
else(bif (decide ((0:Int)≤0∧(0:Int)<v.1.1.size))then
let x74:=(decide (((((v.1.1[0]?.getD 0).toNat:Nat):Int):Int)<97))
bif x74 then(some ((true,(v.1.1,())),()))
else(bif (decide ((0:Int)≤0∧(0:Int)<v.1.1.size))then
let x75:=(decide (((((v.1.1[0]?.getD 0).toNat:Nat):Int):Int)>122))
some ((x75,(v.1.1,())),())
else none)
else none))):Option ((Bool×ByteArray×Unit)×(Unit))).bind fun v76=>
bif v76.1.1 then(some ((false,()),()))
else((loopT l135_0_4 ((0,(v76.1.2.1,())),())).bind fun d86=>
sumE d86 (fun d87=>(some ((d87.1.1,()),()))) (fun d88=>(some ((true,()),()))))
def sp135:Abs.Spec:=⟨0,i135,o135,m135⟩
def an135:Nat→Abs.FAn
  | 0=>Abs.FAn.mk (fun
    |6=>some ⟨[56,0,3],(.dat .bool (.dat .str Qs2)),.nil⟩
    |1=>some ⟨[21,0],(.dat .bool (.dat .str .nil)),.nil⟩
    |_=>none) (fun _=>none) (fun
    |4=>some ⟨⟨[3,0],(.dat (.int .i64) (.dat .str .nil)),.nil⟩,(.more .ret ⟨[2],Qs5,.nil⟩ (.one (.exit 0) ⟨[],.nil,.nil⟩))⟩
    |_=>none) (fun _ _=>0)
  |_=>{}
theorem ok135:Abs.SpecOK Tryz.prog 135 sp135:=
  Abs.specOK_of (n:=12) (an:=an135) (T:=Abs.tabOf [(141,sp141)]) good foll (Abs.tabOf_ok _ (by simp only[List.forall_mem_cons];exact⟨ok141,fun _ h=>by cases h⟩)) rfl (by intro v;kernel_rfl)
def l122_0_4(v:((Int×Int×(List ByteArray)×Unit)×(Unit))):Option (((Int×Int×(List ByteArray)×Unit)×(Unit))⊕(((Int×Unit)×(Unit))⊕((Unit)×(Unit)))):=
bif (decide ((v.1.1:Int)<v.1.2.1))then(Abs.rowAt v.1.2.2.1 v.1.1 fun e29 _=>
Abs.rowAt v.1.2.2.1 v.1.2.1 fun e30 _=>
bif (e29.toList==e30.toList)then(some (.inr (.inl ((4,()),()))))
else(some (.inl (((w64 (v.1.1+1)),(v.1.2.1,(v.1.2.2.1,()))),()))))
else(some (.inr (.inr ((),()))))
def i122:Abs.Sg:=⟨[0,1],(.dat (.row .str) Qs2),.nil⟩
def o122:Abs.Sg:=⟨[4],Qs2,.nil⟩
def m122(v:(((List ByteArray)×Int×Unit)×(Unit))):Option ((Int×Unit)×(Unit)):=
Abs.rowAt v.1.1 v.1.2.1 fun e27 _=>
(m135 ((e27,()),())).bind fun u28=>
bif (!u28.1.1)then(some ((2,()),()))
else((loopT l122_0_4 ((0,(v.1.2.1,(v.1.1,()))),())).bind fun d31=>
sumE d31 (fun d32=>(some ((d32.1.1,()),()))) (fun d33=>(some ((0,()),()))))
def sp122:Abs.Spec:=⟨0,i122,o122,m122⟩
def an122:Nat→Abs.FAn
  | 0=>Abs.FAn.mk (fun _=>none) (fun _=>none) (fun
    |4=>some ⟨⟨[5,1,0],(.dat (.int .i64) (.dat (.int .i64) (.dat (.row .str) .nil))),.nil⟩,(.more .ret ⟨[4],Qs2,.nil⟩ (.one (.exit 0) ⟨[],.nil,.nil⟩))⟩
    |_=>none) (fun _ _=>0)
  |_=>{}
theorem ok122:Abs.SpecOK Tryz.prog 122 sp122:=
  Abs.specOK_of (n:=12) (an:=an122) (T:=Abs.tabOf [(135,sp135)]) good foll (Abs.tabOf_ok _ (by simp only[List.forall_mem_cons];exact⟨ok135,fun _ h=>by cases h⟩)) rfl (by intro v;kernel_rfl)
def i138:Abs.Sg:=⟨[0,1,2],Qs23,.nil⟩
def o138:Abs.Sg:=⟨[6],Qs5,.nil⟩
def m138(v:(Y35×(Unit))):Option Y24:=
((bif (decide ((v.1.1:Int)≥v.1.2.1))then(some (((decide ((v.1.1:Int)≤v.1.2.2.1)),()),()))
else(some ((false,()),()))):Option Y24).bind fun v1=>
some ((v1.1.1,()),())
def sp138:Abs.Spec:=⟨0,i138,o138,m138⟩
def an138:Nat→Abs.FAn
  | 0=>Abs.FAn.mk (fun
    |1=>some ⟨[6],Qs5,.nil⟩
    |_=>none) (fun _=>none) (fun _=>none) (fun _ _=>0)
  |_=>{}
theorem ok138:Abs.SpecOK Tryz.prog 138 sp138:=
  Abs.specOK_of (n:=12) (an:=an138) (T:=Abs.tabOf []) good foll (Abs.tabOf_ok _ (fun _ h=>by cases h)) rfl (by intro v;kernel_rfl)
def i142:Abs.Sg:=⟨[0],(.dat (.cons (.int .i64) Z28) .nil),.nil⟩
def o142:Abs.Sg:=⟨[2],Qs5,.nil⟩
def m142(v:(((Int×Int×Int×Int×Int×Int×Int×Unit)×Unit)×(Unit))):Option Y24:=
(((m138 ((v.1.1.1,(1970,(2240,()))),())).bind fun u15=>
bif u15.1.1 then((m138 ((v.1.1.2.1,(v.1.1.1,(2240,()))),())).bind fun u16=>
bif u16.1.1 then((m138 ((v.1.1.2.2.1,(1,(12,()))),())).bind fun u17=>
bif u17.1.1 then((m138 ((v.1.1.2.2.2.1,(1,(5,()))),())).bind fun u18=>
bif u18.1.1 then((m138 ((v.1.1.2.2.2.2.1,(0,(6,()))),())).bind fun u19=>
bif u19.1.1 then((m138 ((v.1.1.2.2.2.2.2.1,(0,(86399,()))),())).bind fun u20=>
bif u20.1.1 then((m138 ((v.1.1.2.2.2.2.2.2.1,((-64800),(64800,()))),())).bind fun u21=>
some ((u21.1.1,()),()))
else(some ((false,()),())))
else(some ((false,()),())))
else(some ((false,()),())))
else(some ((false,()),())))
else(some ((false,()),())))
else(some ((false,()),()))):Option Y24).bind fun v22=>
some ((v22.1.1,()),())
def sp142:Abs.Spec:=⟨0,i142,o142,m142⟩
def an142:Nat→Abs.FAn
  | 0=>Abs.FAn.mk (fun
    |1=>some ⟨[2],Qs5,.nil⟩
    |_=>none) (fun _=>none) (fun _=>none) (fun _ _=>0)
  |_=>{}
theorem ok142:Abs.SpecOK Tryz.prog 142 sp142:=
  Abs.specOK_of (n:=12) (an:=an142) (T:=Abs.tabOf [(138,sp138)]) good foll (Abs.tabOf_ok _ (by simp only[List.forall_mem_cons];exact⟨ok138,fun _ h=>by cases h⟩)) rfl (by intro v;kernel_rfl)
def i153:Abs.Sg:=⟨[0],Qs2,.nil⟩
def o153:Abs.Sg:=⟨[2],Qs5,.nil⟩
def m153(v:((Int×Unit)×(Unit))):Option Y24:=
((bif ((((v.1.1:Int).tmod 4):Int)==0)then(bif ((((v.1.1:Int).tmod 100):Int) !=0)then(some ((true,()),()))
else(some ((((((v.1.1:Int).tmod 400):Int)==0),()),())))
else(some ((false,()),()))):Option Y24).bind fun v1=>
some ((v1.1.1,()),())
def sp153:Abs.Spec:=⟨0,i153,o153,m153⟩
def an153:Nat→Abs.FAn
  | 0=>Abs.FAn.mk (fun
    |1=>some ⟨[2],Qs5,.nil⟩
    |_=>none) (fun _=>none) (fun _=>none) (fun _ _=>0)
  |_=>{}
theorem ok153:Abs.SpecOK Tryz.prog 153 sp153:=
  Abs.specOK_of (n:=12) (an:=an153) (T:=Abs.tabOf []) good foll (Abs.tabOf_ok _ (fun _ h=>by cases h)) rfl (by intro v;kernel_rfl)
def i149:Abs.Sg:=⟨[0,1],Qs6,.nil⟩
def o149:Abs.Sg:=⟨[4],Qs2,.nil⟩
def m149(v:((Int×Int×Unit)×(Unit))):Option ((Int×Unit)×(Unit)):=
((bif ((v.1.2.1:Int)==1)then(some ((((v.1.2.1:Int)==1),(v.1.1,(v.1.2.1,()))),()))
else(bif ((v.1.2.1:Int)==3)then(some ((((v.1.2.1:Int)==3),(v.1.1,(v.1.2.1,()))),()))
else(bif ((v.1.2.1:Int)==5)then(some ((((v.1.2.1:Int)==5),(v.1.1,(v.1.2.1,()))),()))
else(bif ((v.1.2.1:Int)==7)then(some ((((v.1.2.1:Int)==7),(v.1.1,(v.1.2.1,()))),()))
else(bif ((v.1.2.1:Int)==8)then(some ((((v.1.2.1:Int)==8),(v.1.1,(v.1.2.1,()))),()))
else(bif ((v.1.2.1:Int)==10)then(some ((((v.1.2.1:Int)==10),(v.1.1,(v.1.2.1,()))),()))
else(some ((((v.1.2.1:Int)==12),(v.1.1,(v.1.2.1,()))),())))))))):Option ((Bool×Int×Int×Unit)×(Unit))).bind fun v9=>
bif v9.1.1 then(some ((31,()),()))
else(((bif ((v9.1.2.2.1:Int)==4)then(some ((((v9.1.2.2.1:Int)==4),(v9.1.2.1,(v9.1.2.2.1,()))),()))
else(bif ((v9.1.2.2.1:Int)==6)then(some ((((v9.1.2.2.1:Int)==6),(v9.1.2.1,(v9.1.2.2.1,()))),()))
else(bif ((v9.1.2.2.1:Int)==9)then(some ((((v9.1.2.2.1:Int)==9),(v9.1.2.1,(v9.1.2.2.1,()))),()))
else(some ((((v9.1.2.2.1:Int)==11),(v9.1.2.1,(v9.1.2.2.1,()))),()))))):Option ((Bool×Int×Int×Unit)×(Unit))).bind fun v10=>
bif v10.1.1 then(some ((30,()),()))
else(bif ((v10.1.2.2.1:Int)==2)then((m153 ((v10.1.2.1,()),())).bind fun u11=>
bif u11.1.1 then(some ((29,()),()))
else(some ((28,()),())))
else(some ((0,()),()))))
def sp149:Abs.Spec:=⟨0,i149,o149,m149⟩
def an149:Nat→Abs.FAn
  | 0=>Abs.FAn.mk (fun _=>none) (fun
    |14=>some (⟨[14,0,5],(.dat .bool Qs6),.nil⟩,none)
    |9=>some (⟨[6,0,5],(.dat .bool Qs6),.nil⟩,none)
    |_=>none) (fun _=>none) (fun _ _=>0)
  |_=>{}
theorem ok149:Abs.SpecOK Tryz.prog 149 sp149:=
  Abs.specOK_of (n:=12) (an:=an149) (T:=Abs.tabOf [(153,sp153)]) good foll (Abs.tabOf_ok _ (by simp only[List.forall_mem_cons];exact⟨ok153,fun _ h=>by cases h⟩)) rfl (by intro v;kernel_rfl)
def i152:Abs.Sg:=⟨[0],(.dat (.cons (.int .i64) Z3) .nil),.nil⟩
def o152:Abs.Sg:=⟨[2],Qs5,.nil⟩
def m152(v:((Y35×Unit)×(Unit))):Option Y24:=
((bif (decide ((v.1.1.1:Int)≥1970))then(bif (decide ((v.1.1.1:Int)≤2240))then(bif (decide ((v.1.1.2.1:Int)≥1))then(bif (decide ((v.1.1.2.1:Int)≤12))then(bif (decide ((v.1.1.2.2.1:Int)≥1))then((m149 ((v.1.1.1,(v.1.1.2.1,())),())).bind fun u3=>
some (((decide ((v.1.1.2.2.1:Int)≤u3.1.1)),()),()))
else(some ((false,()),())))
else(some ((false,()),())))
else(some ((false,()),())))
else(some ((false,()),())))
else(some ((false,()),()))):Option Y24).bind fun v4=>
some ((v4.1.1,()),())
def sp152:Abs.Spec:=⟨0,i152,o152,m152⟩
def an152:Nat→Abs.FAn
  | 0=>Abs.FAn.mk (fun
    |1=>some ⟨[2],Qs5,.nil⟩
    |_=>none) (fun _=>none) (fun _=>none) (fun _ _=>0)
  |_=>{}
theorem ok152:Abs.SpecOK Tryz.prog 152 sp152:=
  Abs.specOK_of (n:=12) (an:=an152) (T:=Abs.tabOf [(149,sp149)]) good foll (Abs.tabOf_ok _ (by simp only[List.forall_mem_cons];exact⟨ok149,fun _ h=>by cases h⟩)) rfl (by intro v;kernel_rfl)
def i137:Abs.Sg:=⟨[0],Qs2,.nil⟩
def o137:Abs.Sg:=⟨[2],Qs2,.nil⟩
def m137(v:((Int×Unit)×(Unit))):Option ((Int×Unit)×(Unit)):=
let x6:=(w64 ((w64 ((w64 (v.1.1-1970))*365))+(w64 (((w64 (v.1.1-1969)):Int).tdiv 4))))
let x7:=(w64 (x6-(w64 (((w64 (v.1.1-1901)):Int).tdiv 100))))
let x8:=(w64 (x7+(w64 (((w64 (v.1.1-1601)):Int).tdiv 400))))
some ((x8,()),())
def sp137:Abs.Spec:=⟨0,i137,o137,m137⟩
def an137:Nat→Abs.FAn
  |_=>{}
theorem ok137:Abs.SpecOK Tryz.prog 137 sp137:=
  Abs.specOK_of (n:=12) (an:=an137) (T:=Abs.tabOf []) good foll (Abs.tabOf_ok _ (fun _ h=>by cases h)) rfl (by intro v;kernel_rfl)
def l148_0_5(v:((Int×Int×Unit)×((Y35×Unit)×Unit))):Option (((Int×Int×Unit)×((Y35×Unit)×Unit))⊕((Int×Unit)×((Y35×Unit)×Unit))):=
bif (decide ((v.1.1:Int)<v.2.1.1.2.1))then((m149 ((v.2.1.1.1,(v.1.1,())),())).bind fun u17=>
some (.inl (((w64 (v.1.1+1)),((w64 (v.1.2.1+u17.1.1)),())),((v.2.1.1,()),()))))
else(some (.inr ((v.1.2.1,()),((v.2.1.1,()),()))))
def i148:Abs.Sg:=⟨[0],(.dat (.cons (.int .i64) Z3) .nil),.nil⟩
def o148:Abs.Sg:=⟨[2,3],Qs6,.nil⟩
def m148(v:((Y35×Unit)×(Unit))):Option ((Int×Int×Unit)×(Unit)):=
(m152 ((v.1.1,()),())).bind fun u15=>
bif (!u15.1.1)then(some ((0,(1,())),()))
else((m137 ((v.1.1.1,()),())).bind fun u16=>
(loopT l148_0_5 ((1,(u16.1.1,())),((v.1.1,()),()))).bind fun d18=>
some (((w64 ((w64 (d18.1.1+d18.2.1.1.2.2.1))-1)),(0,())),()))
def sp148:Abs.Spec:=⟨0,i148,o148,m148⟩
def an148:Nat→Abs.FAn
  | 0=>Abs.FAn.mk (fun _=>none) (fun _=>none) (fun
    |5=>some ⟨⟨[5,1,4],(.dat (.int .i64) (.st Qx21 Qs2)),(.box 3 (.dat (.cons (.int .i64) Z3) .nil) .nil)⟩,(.one (.exit 0) ⟨[1,4],(.st Qx21 Qs2),(.box 3 (.dat (.cons (.int .i64) Z3) .nil) .nil)⟩)⟩
    |_=>none) (fun _ _=>0)
  |_=>{}
theorem ok148:Abs.SpecOK Tryz.prog 148 sp148:=
  Abs.specOK_of (n:=12) (an:=an148) (T:=Abs.tabOf [(152,sp152),(137,sp137),(149,sp149)]) good foll (Abs.tabOf_ok _ (by simp only[List.forall_mem_cons];exact⟨ok152,ok137,ok149,fun _ h=>by cases h⟩)) rfl (by intro v;kernel_rfl)
def i132:Abs.Sg:=⟨[0],Qs2,.nil⟩
def o132:Abs.Sg:=⟨[2],Qs2,.nil⟩
def m132(v:((Int×Unit)×(Unit))):Option ((Int×Unit)×(Unit)):=
let x2:=(((w64 (((v.1.1:Int).tmod 7)+10)):Int).tmod 7)
some ((x2,()),())
def sp132:Abs.Spec:=⟨0,i132,o132,m132⟩
def an132:Nat→Abs.FAn
  |_=>{}
theorem ok132:Abs.SpecOK Tryz.prog 132 sp132:=
  Abs.specOK_of (n:=12) (an:=an132) (T:=Abs.tabOf []) good foll (Abs.tabOf_ok _ (fun _ h=>by cases h)) rfl (by intro v;kernel_rfl)
def l145_0_5(v:((Int×Int×Int×Int×Int×Int×Unit)×(Unit))):Option (((Int×Int×Int×Int×Int×Int×Unit)×(Unit))⊕(Y31×(Unit))):=
(m132 ((v.1.1,()),())).bind fun u32=>
bif ((u32.1.1:Int) !=v.1.2.2.2.2.2.1)then(some (.inl (((w64 (v.1.1+1)),(v.1.2.1,(v.1.2.2.1,(v.1.2.2.2.1,(v.1.2.2.2.2.1,(v.1.2.2.2.2.2.1,())))))),())))
else(some (.inr ((v.1.2.1,(v.1.1,(v.1.2.2.1,(v.1.2.2.2.1,(v.1.2.2.2.2.1,()))))),())))
def l145_0_9(v:(Y34×(Unit))):Option ((Y34×(Unit))⊕((Int×Unit)×(Unit))):=
(m149 ((v.1.2.2.1,(v.1.2.1,())),())).bind fun u36=>
let x37:=(decide (((w64 (v.1.1+7)):Int)<(w64 (v.1.2.2.2.1+u36.1.1))))
bif x37 then(some (.inl (((w64 (v.1.1+7)),(v.1.2.1,(v.1.2.2.1,(v.1.2.2.2.1,())))),())))
else(some (.inr ((v.1.1,()),())))
def i145:Abs.Sg:=⟨[0,1,2,3],(.dat (.int .i64) Qs23),.nil⟩
def o145:Abs.Sg:=⟨[8,9],Qs6,.nil⟩
def m145(v:(Y34×(Unit))):Option ((Int×Int×Unit)×(Unit)):=
(m148 (((v.1.1,(v.1.2.1,(1,()))),()),())).bind fun u30=>
((bif ((u30.1.2.1:Int) !=0)then(some ((true,(v.1.2.2.1,(v.1.2.1,(v.1.1,(u30.1.1,(v.1.2.2.2.1,())))))),()))
else(bif (decide ((v.1.2.2.1:Int)<1))then(some ((true,(v.1.2.2.1,(v.1.2.1,(v.1.1,(u30.1.1,(v.1.2.2.2.1,())))))),()))
else(bif (decide ((v.1.2.2.1:Int)>5))then(some ((true,(v.1.2.2.1,(v.1.2.1,(v.1.1,(u30.1.1,(v.1.2.2.2.1,())))))),()))
else(bif (decide ((v.1.2.2.2.1:Int)<0))then(some ((true,(v.1.2.2.1,(v.1.2.1,(v.1.1,(u30.1.1,(v.1.2.2.2.1,())))))),()))
else(some (((decide ((v.1.2.2.2.1:Int)>6)),(v.1.2.2.1,(v.1.2.1,(v.1.1,(u30.1.1,(v.1.2.2.2.1,())))))),())))))):Option ((Bool×Int×Int×Int×Int×Int×Unit)×(Unit))).bind fun v31=>
bif v31.1.1 then(some ((0,(1,())),()))
else((loopT l145_0_5 ((v31.1.2.2.2.2.1,(v31.1.2.1,(v31.1.2.2.1,(v31.1.2.2.2.1,(v31.1.2.2.2.2.1,(v31.1.2.2.2.2.2.1,())))))),())).bind fun d33=>
bif (decide ((d33.1.1:Int)<5))then(let x35:=(w64 (d33.1.2.1+(w64 (7*(w64 (d33.1.1-1))))))
some ((x35,(0,())),()))
else((loopT l145_0_9 ((d33.1.2.1,(d33.1.2.2.1,(d33.1.2.2.2.1,(d33.1.2.2.2.2.1,())))),())).bind fun d38=>
some ((d38.1.1,(0,())),())))
def sp145:Abs.Spec:=⟨0,i145,o145,m145⟩
def an145:Nat→Abs.FAn
  | 0=>Abs.FAn.mk (fun
    |2=>some ⟨[37,2,1,0,10,3],(.dat .bool (.dat (.int .i64) (.dat (.int .i64) Qs23))),.nil⟩
    |_=>none) (fun _=>none) (fun
    |9=>some ⟨⟨[12,1,0,10],(.dat (.int .i64) Qs23),.nil⟩,(.one (.exit 2) ⟨[12],Qs2,.nil⟩)⟩
    |5=>some ⟨⟨[12,2,1,0,10,3],(.dat (.int .i64) (.dat (.int .i64) (.dat (.int .i64) Qs23))),.nil⟩,(.one (.exit 0) ⟨[2,12,1,0,10],(.dat (.int .i64) (.dat (.int .i64) Qs23)),.nil⟩)⟩
    |_=>none) (fun _ _=>0)
  |_=>{}
theorem ok145:Abs.SpecOK Tryz.prog 145 sp145:=
  Abs.specOK_of (n:=12) (an:=an145) (T:=Abs.tabOf [(148,sp148),(132,sp132),(149,sp149)]) good foll (Abs.tabOf_ok _ (by simp only[List.forall_mem_cons];exact⟨ok148,ok132,ok149,fun _ h=>by cases h⟩)) rfl (by intro v;kernel_rfl)
def l143_0_11(v:((Int×Int×Y38×Int×Unit)×(Y33×Y22×Unit))):Option (((Int×Int×Y38×Int×Unit)×(Y33×Y22×Unit))⊕((Int×Y38×Int×Int×Unit)×(Y33×Y22×Unit))):=
((bif (decide ((v.1.1:Int)>0))then(bif (decide ((0:Int)≤(w64 (v.1.1-1))∧((w64 (v.1.1-1)):Int)<v.2.2.1.length))then
(v.2.2.1[(w64 (v.1.1-1)).toNat]?).bind fun e136=>
some (((decide ((e136.1:Int)>v.2.1.1.1)),(v.1.2.1,(v.1.2.2.1,(v.1.2.2.2.1,(v.1.1,()))))),((v.2.1.1,()),(v.2.2.1,())))
else none)
else(some ((false,(v.1.2.1,(v.1.2.2.1,(v.1.2.2.2.1,(v.1.1,()))))),((v.2.1.1,()),(v.2.2.1,()))))):Option ((Bool×Int×Y38×Int×Int×Unit)×(Y33×Y22×Unit))).bind fun v137=>
bif v137.1.1 then(some (.inl (((w64 (v137.1.2.2.2.2.1-1)),(v137.1.2.1,(v137.1.2.2.1,(v137.1.2.2.2.1,())))),((v137.2.1.1,()),(v137.2.2.1,())))))
else(some (.inr ((v137.1.2.1,(v137.1.2.2.1,(v137.1.2.2.2.1,(v137.1.2.2.2.2.1,())))),((v137.2.1.1,()),(v137.2.2.1,())))))
def l143_0_6(v:((Int×Int×Y38×Unit)×(Y22×Unit))):Option (((Int×Int×Y38×Unit)×(Y22×Unit))⊕((Y38×Int×Unit)×(Y22×Unit))):=
Abs.rowAt v.1.2.2.1 v.1.2.1 fun e128 _=>
bif (decide ((v.1.1:Int)≤e128.2.1))then(Abs.rowAt v.1.2.2.1 v.1.2.1 fun e129 _=>
Abs.rowAt v.1.2.2.1 v.1.2.1 fun e130 _=>
Abs.rowAt v.1.2.2.1 v.1.2.1 fun e131 _=>
(m145 ((v.1.1,(e129.2.2.1,(e130.2.2.2.1,(e131.2.2.2.2.1,())))),())).bind fun u132=>
Abs.rowAt v.1.2.2.1 v.1.2.1 fun e133 _=>
let x134:=(w64 ((w64 (u132.1.1*86400))+e133.2.2.2.2.2.1))
Abs.rowAt v.1.2.2.1 v.1.2.1 fun e135 _=>
(loopT l143_0_11 ((((v.2.1.length:Nat):Int),(v.1.2.1,(v.1.2.2.1,(v.1.1,())))),(((x134,e135.2.2.2.2.2.2),()),(v.2.1,())))).bind fun d138=>
bif (decide (d138.2.2.1.length+([d138.2.1.1]:List (Int×Int×Unit)).length≤4294967296))then
let x139:=(d138.2.2.1++([d138.2.1.1]:List (Int×Int×Unit)))
bif (decide ((0:Int)≤(w64 (d138.1.2.2.2.1+1))))then
bif (decide ((w64 (d138.1.2.2.2.1+1)).toNat≤x139.length∧x139.length≤x139.length))then
bif (decide ((0:Int)≤d138.1.2.2.2.1))then
bif (decide (d138.1.2.2.2.1.toNat≤x139.length∧x139.length≤x139.length))then
bif (decide (d138.1.2.2.2.1.toNat+(x139.length-d138.1.2.2.2.1.toNat)≤x139.length))then
bif (decide ((w64 (d138.1.2.2.2.1+1)).toNat+(x139.length-(w64 (d138.1.2.2.2.1+1)).toNat)≤x139.length))then
let x140:=(spliceL x139 (w64 (d138.1.2.2.2.1+1)).toNat (((x139.drop d138.1.2.2.2.1.toNat).take (x139.length-d138.1.2.2.2.1.toNat)).take (x139.length-(w64 (d138.1.2.2.2.1+1)).toNat)))
bif (decide ((0:Int)≤d138.1.2.2.2.1∧(d138.1.2.2.2.1:Int)<x140.length))then
bif (decide (d138.1.2.2.2.1.toNat<x140.length))then
some (.inl (((w64 (d138.1.2.2.1+1)),(d138.1.1,(d138.1.2.1,()))),((x140.set d138.1.2.2.2.1.toNat d138.2.1.1),())))
else none
else none
else none
else none
else none
else none
else none
else none
else none)
else(some (.inr ((v.1.2.2.1,(v.1.2.1,())),(v.2.1,()))))
def l143_0_3(v:((Int×Y38×Unit)×(Y22×Unit))):Option (((Int×Y38×Unit)×(Y22×Unit))⊕((Unit)×(Y22×Unit))):=
let x126:=(decide ((v.1.1:Int)<(v.1.2.1.length:Int)))
bif x126 then(Abs.rowAt v.1.2.1 v.1.1 fun e127 _=>
(loopT l143_0_6 ((e127.1,(v.1.1,(v.1.2.1,()))),(v.2.1,()))).bind fun d141=>
some (.inl (((w64 (d141.1.2.1+1)),(d141.1.1,())),(d141.2.1,()))))
else(some (.inr ((),(v.2.1,()))))
def i143:Abs.Sg:=⟨[0],(.dat (.row (.cons (.int .i64) Z28)) .nil),.nil⟩
def o143:Abs.Sg:=⟨[2],(.st (.own Z3 (0,0)) .nil),Qb33⟩
def m143(v:((Y38×Unit)×(Unit))):Option ((Unit)×(Y22×Unit)):=
(loopT l143_0_3 ((0,(v.1.1,())),([],()))).bind fun d142=>
some ((),(d142.2.1,()))
def sp143:Abs.Spec:=⟨0,i143,o143,m143⟩
def an143:Nat→Abs.FAn
  | 0=>Abs.FAn.mk (fun
    |11=>some ⟨[78,4,0,5,8,3,9],(.dat .bool (.dat (.int .i64) (.dat (.row (.cons (.int .i64) Z28)) (.dat (.int .i64) (.st Qx7 (.st (.own Z3 (1,0)) Qs2)))))),(.box 2 Qs44 Qb33)⟩
    |_=>none) (fun _=>none) (fun
    |3=>some ⟨⟨[3,4,0],(.st (.own Z3 (0,0)) (.dat (.int .i64) (.dat (.row (.cons (.int .i64) Z28)) .nil))),Qb33⟩,(.one (.exit 0) ⟨[3],(.st (.own Z3 (0,0)) .nil),Qb33⟩)⟩
    |6=>some ⟨⟨[5,3,4,0],(.dat (.int .i64) (.st (.own Z3 (0,0)) (.dat (.int .i64) (.dat (.row (.cons (.int .i64) Z28)) .nil)))),Qb33⟩,(.one (.exit 2) ⟨[3,0,4],(.st (.own Z3 (0,0)) (.dat (.row (.cons (.int .i64) Z28)) Qs2)),Qb33⟩)⟩
    |11=>some ⟨⟨[9,4,0,5,8,3],(.dat (.int .i64) (.dat (.int .i64) (.dat (.row (.cons (.int .i64) Z28)) (.dat (.int .i64) (.st Qx7 (.st (.own Z3 (1,0)) .nil)))))),(.box 2 Qs44 Qb33)⟩,(.one (.exit 4) ⟨[4,0,5,8,9,3],(.dat (.int .i64) (.dat (.row (.cons (.int .i64) Z28)) (.dat (.int .i64) (.st Qx7 (.dat (.int .i64) (.st (.own Z3 (1,0)) .nil)))))),(.box 2 Qs44 Qb33)⟩)⟩
    |_=>none) (fun _ _=>0)
  |_=>{}
theorem ok143:Abs.SpecOK Tryz.prog 143 sp143:=
  Abs.specOK_of (n:=12) (an:=an143) (T:=Abs.tabOf [(145,sp145)]) good foll (Abs.tabOf_ok _ (by simp only[List.forall_mem_cons];exact⟨ok145,fun _ h=>by cases h⟩)) rfl (by intro v;kernel_rfl)
def l136_0_7(v:((Int×Int×Unit)×((Y16×Unit)×Unit))):Option (((Int×Int×Unit)×((Y16×Unit)×Unit))⊕(((Int×Unit)×(Y22×Unit))⊕((Int×Unit)×((Y16×Unit)×Unit)))):=
let x139:=(decide ((v.1.1:Int)<(v.2.1.1.2.2.1.length:Int)))
bif x139 then(Abs.rowAt v.2.1.1.2.2.1 v.1.1 fun e140 _=>
(m142 ((e140,()),())).bind fun u141=>
bif (!u141.1.1)then(some (.inr (.inl ((1,()),([],())))))
else(Abs.rowAt v.2.1.1.2.2.1 v.1.1 fun e142 _=>
Abs.rowAt v.2.1.1.2.2.1 v.1.1 fun e143 _=>
let x144:=(w64 (v.1.2.1+(w64 ((w64 (e142.2.1-e143.1))+1))))
some (.inl (((w64 (v.1.1+1)),(x144,())),((v.2.1.1,()),())))))
else(some (.inr (.inr ((v.1.2.1,()),((v.2.1.1,()),())))))
def l136_0_18(v:((Int×Int×Unit)×(Y22×Y22×Unit))):Option (((Int×Int×Unit)×(Y22×Y22×Unit))⊕(((Int×Unit)×(Y22×Unit))⊕((Unit)×(Y22×Unit)))):=
let x149:=(decide ((v.1.1:Int)<((v.2.2.1.length:Nat):Int)))
bif x149 then(((bif (decide ((0:Int)≤v.1.1∧(v.1.1:Int)<v.2.2.1.length))then
(v.2.2.1[v.1.1.toNat]?).bind fun e150=>
bif ((e150.2.1:Int)==v.1.2.1)then(some (.inl ((v.1.2.1,(v.1.1,())),(v.2.1,(v.2.2.1,())))))
else(bif (decide ((0:Int)≤v.1.1∧(v.1.1:Int)<v.2.2.1.length))then
(v.2.2.1[v.1.1.toNat]?).bind fun e151=>
bif (decide ((0:Int)≤v.1.1∧(v.1.1:Int)<v.2.2.1.length))then
(v.2.2.1[v.1.1.toNat]?).bind fun e152=>
(((m138 (((w64 (e152.2.1-v.1.2.1)),((-86399),(86399,()))),())).bind fun u153=>
bif (!u153.1.1)then(some ((true,(v.1.1,())),(v.2.2.1,((((w64 (e151.1-v.1.2.1)),e152.2),()),(v.2.1,())))))
else((m138 (((w64 (e151.1-v.1.2.1)),(0,(8589934592,()))),())).bind fun u154=>
bif (!u154.1.1)then(some ((true,(v.1.1,())),(v.2.2.1,((((w64 (e151.1-v.1.2.1)),e152.2),()),(v.2.1,())))))
else(let x155:=(decide ((((v.2.1.length:Nat):Int):Int)>0))
bif x155 then(bif (decide ((0:Int)≤(w64 (((v.2.1.length:Nat):Int)-1))∧((w64 (((v.2.1.length:Nat):Int)-1)):Int)<v.2.1.length))then
(v.2.1[(w64 (((v.2.1.length:Nat):Int)-1)).toNat]?).bind fun e156=>
let x157:=(decide (((w64 ((w64 (e151.1-v.1.2.1))-e156.1)):Int)<604800))
some ((x157,(v.1.1,())),(v.2.2.1,((((w64 (e151.1-v.1.2.1)),e152.2),()),(v.2.1,()))))
else none)
else(some ((false,(v.1.1,())),(v.2.2.1,((((w64 (e151.1-v.1.2.1)),e152.2),()),(v.2.1,())))))))):Option ((Bool×Int×Unit)×(Y22×Y33×Y22×Unit))).bind fun v158=>
bif v158.1.1 then(some (.inr ((6,()),([],()))))
else(bif (decide (v158.2.2.2.1.length+([v158.2.2.1.1]:List (Int×Int×Unit)).length≤4294967296))then
let x159:=(v158.2.2.2.1++([v158.2.2.1.1]:List (Int×Int×Unit)))
some (.inl ((v158.2.2.1.1.2.1,(v158.1.2.1,())),(x159,(v158.2.1,()))))
else none)
else none
else none)
else none):Option (((Int×Int×Unit)×(Y22×Y22×Unit))⊕((Int×Unit)×(Y22×Unit)))).bind fun r162=>
sumE r162 (fun v160=>(some (.inl (((w64 (v160.1.2.1+1)),(v160.1.1,())),(v160.2.1,(v160.2.2.1,())))))) (fun d161=>(some (.inr (.inl ((d161.1.1,()),(d161.2.1,())))))))
else(some (.inr (.inr ((),(v.2.1,())))))
def i136:Abs.Sg:=⟨[0],(.dat Z11 .nil),.nil⟩
def o136:Abs.Sg:=⟨[2,3],(.st (.own Z3 (0,0)) Qs2),Qb33⟩
def m136(v:((Y16×Unit)×(Unit))):Option ((Int×Unit)×(Y22×Unit)):=
(m138 ((v.1.1.2.1,((-64800),(64800,()))),())).bind fun u137=>
bif (!u137.1.1)then(some ((1,()),([],())))
else(let x138:=(decide (((v.1.1.2.2.1.length:Int):Int)>16))
bif x138 then(some ((5,()),([],())))
else((loopT l136_0_7 ((0,(0,())),((v.1.1,()),()))).bind fun d145=>
sumE d145 (fun d146=>(some ((d146.1.1,()),(d146.2.1,())))) (fun d147=>(bif (decide ((d147.1.1:Int)>640))then(some ((5,()),([],())))
else((m143 ((d147.2.1.1.2.2.1,()),())).bind fun u148=>
(loopT l136_0_18 ((0,(d147.2.1.1.2.1,())),([],(u148.2.1,())))).bind fun d163=>
sumE d163 (fun d164=>(some ((d164.1.1,()),(d164.2.1,())))) (fun d165=>(some ((0,()),(d165.2.1,())))))))))
def sp136:Abs.Spec:=⟨0,i136,o136,m136⟩
def an136:Nat→Abs.FAn
  | 0=>Abs.FAn.mk (fun
    |22=>some ⟨[111,7,9,10,6],(.dat .bool (.st (.own Z3 (0,0)) (.dat (.int .i64) (.st Qx15 (.st (.own Z3 (2,0)) .nil))))),(.arr Z3 false (.box 2 Qs44 Qb33))⟩
    |_=>none) (fun
    |19=>some (⟨[6,8,7,9],(.st (.own Z3 (0,0)) (.dat (.int .i64) (.st (.own Z3 (1,0)) Qs2))),(.arr Z3 false Qb33)⟩,some (.one .ret ⟨[2,3],(.st (.own Z3 (0,0)) Qs2),Qb33⟩))
    |_=>none) (fun
    |18=>some ⟨⟨[9,6,8,7],(.dat (.int .i64) (.st (.own Z3 (0,0)) (.dat (.int .i64) (.st (.own Z3 (1,0)) .nil)))),(.arr Z3 false Qb33)⟩,(.more .ret ⟨[2,3],(.st (.own Z3 (0,0)) Qs2),Qb33⟩ (.one (.exit 2) ⟨[6],(.st (.own Z3 (0,0)) .nil),Qb33⟩))⟩
    |7=>some ⟨⟨[5,1,4],(.dat (.int .i64) (.st Qx21 Qs2)),Qb36⟩,(.more .ret ⟨[2,3],(.st (.own Z3 (0,0)) Qs2),Qb33⟩ (.one (.exit 0) ⟨[1,4],(.st Qx21 Qs2),Qb36⟩))⟩
    |_=>none) (fun _ _=>0)
  |_=>{}
theorem ok136:Abs.SpecOK Tryz.prog 136 sp136:=
  Abs.specOK_of (n:=12) (an:=an136) (T:=Abs.tabOf [(138,sp138),(142,sp142),(143,sp143)]) good foll (Abs.tabOf_ok _ (by simp only[List.forall_mem_cons];exact⟨ok138,ok142,ok143,fun _ h=>by cases h⟩)) rfl (by intro v;kernel_rfl)
def i123:Abs.Sg:=⟨[0],(.dat Z11 .nil),.nil⟩
def o123:Abs.Sg:=⟨[2],Qs2,.nil⟩
def m123(v:((Y16×Unit)×(Unit))):Option ((Int×Unit)×(Unit)):=
(m136 ((v.1.1,()),())).bind fun u3=>
some ((u3.1.1,()),())
def sp123:Abs.Spec:=⟨0,i123,o123,m123⟩
def an123:Nat→Abs.FAn
  |_=>{}
theorem ok123:Abs.SpecOK Tryz.prog 123 sp123:=
  Abs.specOK_of (n:=12) (an:=an123) (T:=Abs.tabOf [(136,sp136)]) good foll (Abs.tabOf_ok _ (by simp only[List.forall_mem_cons];exact⟨ok136,fun _ h=>by cases h⟩)) rfl (by intro v;kernel_rfl)
def l124_0_3(v:((Int×Bool×Unit)×((Y16×Unit)×Unit))):Option (((Int×Bool×Unit)×((Y16×Unit)×Unit))⊕Y24):=
let x22:=(decide ((v.1.1:Int)<(v.2.1.1.2.2.1.length:Int)))
bif x22 then(((bif v.1.2.1 then(Abs.rowAt v.2.1.1.2.2.1 v.1.1 fun e23 _=>
let x24:=((((e23.2.2.2.2.2.2.1:Int).tmod 60):Int)==0)
some ((x24,(v.1.1,())),((v.2.1.1,()),())))
else(some ((false,(v.1.1,())),((v.2.1.1,()),())))):Option ((Bool×Int×Unit)×((Y16×Unit)×Unit))).bind fun v25=>
some (.inl (((w64 (v25.1.2.1+1)),(v25.1.1,())),((v25.2.1.1,()),()))))
else(some (.inr ((v.1.2.1,()),())))
def i124:Abs.Sg:=⟨[0],(.dat Z11 .nil),.nil⟩
def o124:Abs.Sg:=⟨[2],Qs5,.nil⟩
def m124(v:((Y16×Unit)×(Unit))):Option Y24:=
(loopT l124_0_3 ((0,(((((v.1.1.2.1:Int).tmod 60):Int)==0),())),((v.1.1,()),()))).bind fun d26=>
some ((d26.1.1,()),())
def sp124:Abs.Spec:=⟨0,i124,o124,m124⟩
def an124:Nat→Abs.FAn
  | 0=>Abs.FAn.mk (fun
    |5=>some ⟨[1,3,4],(.st Qx21 (.dat .bool Qs2)),Qb36⟩
    |_=>none) (fun _=>none) (fun
    |3=>some ⟨⟨[4,1,3],(.dat (.int .i64) (.st Qx21 Qs5)),Qb36⟩,(.one (.exit 0) ⟨[3],Qs5,.nil⟩)⟩
    |_=>none) (fun _ _=>0)
  |_=>{}
theorem ok124:Abs.SpecOK Tryz.prog 124 sp124:=
  Abs.specOK_of (n:=12) (an:=an124) (T:=Abs.tabOf []) good foll (Abs.tabOf_ok _ (fun _ h=>by cases h)) rfl (by intro v;kernel_rfl)
def l113_0_3(v:Y37):Option (Y37⊕(((Int×Unit)×(Unit))⊕((Unit)×(Unit)))):=
let x54:=(decide ((v.1.1:Int)<(v.2.1.1.1.length:Int)))
bif x54 then(Abs.rowAt v.2.1.1.1 v.1.1 fun e55 _=>
bif (decide (v.2.2.1.length+ [e55.1].length≤4294967296))then
(m122 (((v.2.2.1++ [e55.1]),(v.1.1,())),())).bind fun u56=>
bif ((u56.1.1:Int) !=0)then(some (.inr (.inl ((u56.1.1,()),()))))
else(((Abs.rowAt v.2.1.1.1 v.1.1 fun e57 _=>
(m123 ((e57,()),())).bind fun u58=>
bif ((u58.1.1:Int) !=0)then(some ((true,(v.1.1,())),((v.2.1.1,()),((v.2.2.1++ [e55.1]),()))))
else(Abs.rowAt v.2.1.1.1 v.1.1 fun e59 _=>
(m124 ((e59,()),())).bind fun u60=>
some (((!u60.1.1),(v.1.1,())),((v.2.1.1,()),((v.2.2.1++ [e55.1]),()))))):Option ((Bool×Int×Unit)×((Y2×Unit)×(List ByteArray)×Unit))).bind fun v61=>
bif v61.1.1 then(some (.inr (.inl ((8,()),()))))
else(some (.inl (((w64 (v61.1.2.1+1)),()),((v61.2.1.1,()),(v61.2.2.1,()))))))
else none)
else(some (.inr (.inr ((),()))))
def i113:Abs.Sg:=⟨[0],Qs32,.nil⟩
def o113:Abs.Sg:=⟨[2],Qs2,.nil⟩
def m113(v:((Y2×Unit)×(Unit))):Option ((Int×Unit)×(Unit)):=
(loopT l113_0_3 ((0,()),((v.1.1,()),([],())))).bind fun d62=>
sumE d62 (fun d63=>(some ((d63.1.1,()),()))) (fun d64=>(some ((0,()),())))
def sp113:Abs.Spec:=⟨0,i113,o113,m113⟩
def an113:Nat→Abs.FAn
  | 0=>Abs.FAn.mk (fun
    |9=>some ⟨[43,1,3,4],(.dat .bool (.st Qx48 (.st (.own .str (1,0)) Qs2))),Qb16⟩
    |_=>none) (fun _=>none) (fun
    |3=>some ⟨⟨[4,1,3],(.dat (.int .i64) (.st Qx48 (.st (.own .str (1,0)) .nil))),Qb16⟩,(.more .ret ⟨[2],Qs2,.nil⟩ (.one (.exit 0) ⟨[],.nil,.nil⟩))⟩
    |_=>none) (fun _ _=>0)
  |_=>{}
theorem ok113:Abs.SpecOK Tryz.prog 113 sp113:=
  Abs.specOK_of (n:=12) (an:=an113) (T:=Abs.tabOf [(122,sp122),(123,sp123),(124,sp124)]) good foll (Abs.tabOf_ok _ (by simp only[List.forall_mem_cons];exact⟨ok122,ok123,ok124,fun _ h=>by cases h⟩)) rfl (by intro v;kernel_rfl)
def i125:Abs.Sg:=⟨[0,1,2],Qs23,.nil⟩
def o125:Abs.Sg:=⟨[6],Qs5,.nil⟩
def m125(v:(Y35×(Unit))):Option Y24:=
((bif (decide ((v.1.1:Int)≥v.1.2.1))then(some (((decide ((v.1.1:Int)≤v.1.2.2.1)),()),()))
else(some ((false,()),()))):Option Y24).bind fun v1=>
some ((v1.1.1,()),())
def sp125:Abs.Spec:=⟨0,i125,o125,m125⟩
def an125:Nat→Abs.FAn
  | 0=>Abs.FAn.mk (fun
    |1=>some ⟨[6],Qs5,.nil⟩
    |_=>none) (fun _=>none) (fun _=>none) (fun _ _=>0)
  |_=>{}
theorem ok125:Abs.SpecOK Tryz.prog 125 sp125:=
  Abs.specOK_of (n:=12) (an:=an125) (T:=Abs.tabOf []) good foll (Abs.tabOf_ok _ (fun _ h=>by cases h)) rfl (by intro v;kernel_rfl)
def l104_0_4(v:((Int×Y22×Unit)×(Unit))):Option (((Int×Y22×Unit)×(Unit))⊕(((Int×Unit)×(Unit))⊕((Unit)×(Unit)))):=
let x63:=(decide ((v.1.1:Int)<(v.1.2.1.length:Int)))
bif x63 then(((Abs.rowAt v.1.2.1 v.1.1 fun e64 _=>
bif (decide ((e64.1:Int)<0))then(some ((true,(v.1.2.1,(v.1.1,()))),()))
else(Abs.rowAt v.1.2.1 v.1.1 fun e65 _=>
Abs.rowAt v.1.2.1 v.1.1 fun e66 _=>
bif (decide ((e65.1:Int)≥e66.2.1))then(some ((true,(v.1.2.1,(v.1.1,()))),()))
else(Abs.rowAt v.1.2.1 v.1.1 fun e67 _=>
some (((decide ((e67.2.1:Int)>604800)),(v.1.2.1,(v.1.1,()))),())))):Option ((Bool×Y22×Int×Unit)×(Unit))).bind fun v68=>
bif v68.1.1 then(some (.inr (.inl ((1,()),()))))
else(((bif (decide ((v68.1.2.2.1:Int)>0))then(Abs.rowAt v68.1.2.1 v68.1.2.2.1 fun e69 _=>
Abs.rowAt v68.1.2.1 (w64 (v68.1.2.2.1-1)) fun e70 _=>
some (((decide ((e69.1:Int)<e70.2.1)),(v68.1.2.1,(v68.1.2.2.1,()))),()))
else(some ((false,(v68.1.2.1,(v68.1.2.2.1,()))),()))):Option ((Bool×Y22×Int×Unit)×(Unit))).bind fun v71=>
bif v71.1.1 then(some (.inr (.inl ((6,()),()))))
else(some (.inl (((w64 (v71.1.2.2.1+1)),(v71.1.2.1,())),())))))
else(some (.inr (.inr ((),()))))
def i104:Abs.Sg:=⟨[0],(.dat (.row Z3) .nil),.nil⟩
def o104:Abs.Sg:=⟨[2],Qs2,.nil⟩
def m104(v:((Y22×Unit)×(Unit))):Option ((Int×Unit)×(Unit)):=
bif (decide (((v.1.1.length:Int):Int)>14))then(some ((5,()),()))
else((loopT l104_0_4 ((0,(v.1.1,())),())).bind fun d72=>
sumE d72 (fun d73=>(some ((d73.1.1,()),()))) (fun d74=>(some ((0,()),()))))
def sp104:Abs.Spec:=⟨0,i104,o104,m104⟩
def an104:Nat→Abs.FAn
  | 0=>Abs.FAn.mk (fun
    |8=>some ⟨[55,0,3],(.dat .bool (.dat (.row Z3) Qs2)),.nil⟩
    |6=>some ⟨[39,0,3],(.dat .bool (.dat (.row Z3) Qs2)),.nil⟩
    |_=>none) (fun _=>none) (fun
    |4=>some ⟨⟨[3,0],(.dat (.int .i64) (.dat (.row Z3) .nil)),.nil⟩,(.more .ret ⟨[2],Qs2,.nil⟩ (.one (.exit 0) ⟨[],.nil,.nil⟩))⟩
    |_=>none) (fun _ _=>0)
  |_=>{}
theorem ok104:Abs.SpecOK Tryz.prog 104 sp104:=
  Abs.specOK_of (n:=12) (an:=an104) (T:=Abs.tabOf []) good foll (Abs.tabOf_ok _ (fun _ h=>by cases h)) rfl (by intro v;kernel_rfl)
def i126:Abs.Sg:=⟨[0],Qs2,.nil⟩
def o126:Abs.Sg:=⟨[2],Qs5,.nil⟩
def m126(v:((Int×Unit)×(Unit))):Option Y24:=
(((m125 ((v.1.1,(0,(604800,()))),())).bind fun u3=>
bif u3.1.1 then(some ((((((v.1.1:Int).tmod 3600):Int)==0),()),()))
else(some ((false,()),()))):Option Y24).bind fun v4=>
some ((v4.1.1,()),())
def sp126:Abs.Spec:=⟨0,i126,o126,m126⟩
def an126:Nat→Abs.FAn
  | 0=>Abs.FAn.mk (fun
    |1=>some ⟨[2],Qs5,.nil⟩
    |_=>none) (fun _=>none) (fun _=>none) (fun _ _=>0)
  |_=>{}
theorem ok126:Abs.SpecOK Tryz.prog 126 sp126:=
  Abs.specOK_of (n:=12) (an:=an126) (T:=Abs.tabOf [(125,sp125)]) good foll (Abs.tabOf_ok _ (by simp only[List.forall_mem_cons];exact⟨ok125,fun _ h=>by cases h⟩)) rfl (by intro v;kernel_rfl)
def l114_0_3(v:Y37):Option (Y37⊕(((Int×Unit)×(Unit))⊕((Unit)×(Unit)))):=
let x54:=(decide ((v.1.1:Int)<(v.2.1.1.2.1.length:Int)))
bif x54 then(Abs.rowAt v.2.1.1.2.1 v.1.1 fun e55 _=>
bif (decide (v.2.2.1.length+ [e55.1].length≤4294967296))then
bif (e55.1.toList==(bs [110,111,98,111,100,121]).toList)then(some (.inr (.inl ((2,()),()))))
else((m122 (((v.2.2.1++ [e55.1]),(v.1.1,())),())).bind fun u56=>
bif ((u56.1.1:Int) !=0)then(some (.inr (.inl ((u56.1.1,()),()))))
else((m125 ((e55.2.1,(0,((w64 ((v.2.1.1.1.length:Int)-1)),()))),())).bind fun u57=>
bif (!u57.1.1)then(some (.inr (.inl ((3,()),()))))
else((m104 ((e55.2.2.1,()),())).bind fun u58=>
bif ((u58.1.1:Int) !=0)then(some (.inr (.inl ((8,()),()))))
else((((m126 ((e55.2.2.2.1,()),())).bind fun u59=>
bif (!u59.1.1)then(some ((true,(v.1.1,())),((v.2.1.1,()),((v.2.2.1++ [e55.1]),()))))
else((m126 ((e55.2.2.2.2.1,()),())).bind fun u60=>
some (((!u60.1.1),(v.1.1,())),((v.2.1.1,()),((v.2.2.1++ [e55.1]),()))))):Option ((Bool×Int×Unit)×((Y2×Unit)×(List ByteArray)×Unit))).bind fun v61=>
bif v61.1.1 then(some (.inr (.inl ((1,()),()))))
else(some (.inl (((w64 (v61.1.2.1+1)),()),((v61.2.1.1,()),(v61.2.2.1,())))))))))
else none)
else(some (.inr (.inr ((),()))))
def i114:Abs.Sg:=⟨[0],Qs32,.nil⟩
def o114:Abs.Sg:=⟨[2],Qs2,.nil⟩
def m114(v:((Y2×Unit)×(Unit))):Option ((Int×Unit)×(Unit)):=
(loopT l114_0_3 ((0,()),((v.1.1,()),([],())))).bind fun d62=>
sumE d62 (fun d63=>(some ((d63.1.1,()),()))) (fun d64=>(some ((0,()),())))
def sp114:Abs.Spec:=⟨0,i114,o114,m114⟩
def an114:Nat→Abs.FAn
  | 0=>Abs.FAn.mk (fun
    |16=>some ⟨[47,1,3,4],(.dat .bool (.st Qx48 (.st (.own .str (1,0)) Qs2))),Qb16⟩
    |_=>none) (fun _=>none) (fun
    |3=>some ⟨⟨[4,1,3],(.dat (.int .i64) (.st Qx48 (.st (.own .str (1,0)) .nil))),Qb16⟩,(.more .ret ⟨[2],Qs2,.nil⟩ (.one (.exit 0) ⟨[],.nil,.nil⟩))⟩
    |_=>none) (fun _ _=>0)
  |_=>{}
theorem ok114:Abs.SpecOK Tryz.prog 114 sp114:=
  Abs.specOK_of (n:=12) (an:=an114) (T:=Abs.tabOf [(122,sp122),(125,sp125),(104,sp104),(126,sp126)]) good foll (Abs.tabOf_ok _ (by simp only[List.forall_mem_cons];exact⟨ok122,ok125,ok104,ok126,fun _ h=>by cases h⟩)) rfl (by intro v;kernel_rfl)
def i127:Abs.Sg:=⟨[],.nil,.nil⟩
def o127:Abs.Sg:=⟨[0],Qs2,.nil⟩
def m127(v:((Unit)×(Unit))):Option ((Int×Unit)×(Unit)):=
(m137 ((2241,()),())).bind fun u2=>
some (((w64 (u2.1.1-1)),()),())
def sp127:Abs.Spec:=⟨0,i127,o127,m127⟩
def an127:Nat→Abs.FAn
  |_=>{}
theorem ok127:Abs.SpecOK Tryz.prog 127 sp127:=
  Abs.specOK_of (n:=12) (an:=an127) (T:=Abs.tabOf [(137,sp137)]) good foll (Abs.tabOf_ok _ (by simp only[List.forall_mem_cons];exact⟨ok137,fun _ h=>by cases h⟩)) rfl (by intro v;kernel_rfl)
def l115_0_15(v:((Int×Int×Unit)×(((ByteArray×Int×(List Int)×Unit)×Unit)×(Y2×Unit)×(List ByteArray)×Unit))):Option (((Int×Int×Unit)×(((ByteArray×Int×(List Int)×Unit)×Unit)×(Y2×Unit)×(List ByteArray)×Unit))⊕(((Int×Unit)×(Unit))⊕((Int×Unit)×(((ByteArray×Int×(List Int)×Unit)×Unit)×(Y2×Unit)×(List ByteArray)×Unit)))):=
let x125:=(decide ((v.1.1:Int)<(v.2.1.1.2.2.1.length:Int)))
bif x125 then(Abs.rowAt v.2.1.1.2.2.1 v.1.1 fun e126 _=>
(m127 ((),())).bind fun u127=>
(m125 ((e126,(0,(u127.1.1,()))),())).bind fun u128=>
bif (!u128.1.1)then(some (.inr (.inl ((1,()),()))))
else(some (.inl (((w64 (v.1.1+1)),(v.1.2.1,())),((v.2.1.1,()),((v.2.2.1.1,()),(v.2.2.2.1,())))))))
else(some (.inr (.inr ((v.1.2.1,()),((v.2.1.1,()),((v.2.2.1.1,()),(v.2.2.2.1,())))))))
def l115_0_20(v:((Int×Int×Unit)×(((ByteArray×Int×(List Int)×Unit)×Unit)×(Y2×Unit)×(List ByteArray)×Unit))):Option (((Int×Int×Unit)×(((ByteArray×Int×(List Int)×Unit)×Unit)×(Y2×Unit)×(List ByteArray)×Unit))⊕(((Int×Unit)×(Unit))⊕Y37)):=
let x132:=(decide ((v.1.1:Int)<(v.2.1.1.2.2.1.length:Int)))
bif x132 then(Abs.rowAt v.2.1.1.2.2.1 v.1.1 fun e133 _=>
Abs.rowAt v.2.1.1.2.2.1 (w64 (v.1.1-1)) fun e134 _=>
bif (decide ((e133:Int)≤e134))then(some (.inr (.inl ((6,()),()))))
else(some (.inl (((w64 (v.1.1+1)),(v.1.2.1,())),((v.2.1.1,()),((v.2.2.1.1,()),(v.2.2.2.1,())))))))
else(some (.inr (.inr ((v.1.2.1,()),((v.2.2.1.1,()),(v.2.2.2.1,()))))))
def l115_0_3(v:Y37):Option (Y37⊕(((Int×Unit)×(Unit))⊕((Unit)×(Unit)))):=
let x120:=(decide ((v.1.1:Int)<(v.2.1.1.2.2.1.length:Int)))
bif x120 then(Abs.rowAt v.2.1.1.2.2.1 v.1.1 fun e121 _=>
bif (decide (v.2.2.1.length+ [e121.1].length≤4294967296))then
(m122 (((v.2.2.1++ [e121.1]),(v.1.1,())),())).bind fun u122=>
bif ((u122.1.1:Int) !=0)then(some (.inr (.inl ((u122.1.1,()),()))))
else((m125 ((e121.2.1,(0,((w64 ((v.2.1.1.1.length:Int)-1)),()))),())).bind fun u123=>
bif (!u123.1.1)then(some (.inr (.inl ((3,()),()))))
else(let x124:=(decide (((e121.2.2.1.length:Int):Int)>64))
bif x124 then(some (.inr (.inl ((5,()),()))))
else((loopT l115_0_15 ((0,(v.1.1,())),((e121,()),(((v.2.1.1.1,(v.2.1.1.2.1,(v.2.1.1.2.2.1,v.2.1.1.2.2.2))),()),((v.2.2.1++ [e121.1]),()))))).bind fun d129=>
sumE d129 (fun d130=>(some (.inr (.inl ((d130.1.1,()),()))))) (fun d131=>((loopT l115_0_20 ((1,(d131.1.1,())),((d131.2.1.1,()),((d131.2.2.1.1,()),(d131.2.2.2.1,()))))).bind fun d135=>
sumE d135 (fun d136=>(some (.inr (.inl ((d136.1.1,()),()))))) (fun d137=>(some (.inl (((w64 (d137.1.1+1)),()),((d137.2.1.1,()),(d137.2.2.1,())))))))))))
else none)
else(some (.inr (.inr ((),()))))
def i115:Abs.Sg:=⟨[0],Qs32,.nil⟩
def o115:Abs.Sg:=⟨[2],Qs2,.nil⟩
def m115(v:((Y2×Unit)×(Unit))):Option ((Int×Unit)×(Unit)):=
(loopT l115_0_3 ((0,()),((v.1.1,()),([],())))).bind fun d138=>
sumE d138 (fun d139=>(some ((d139.1.1,()),()))) (fun d140=>(some ((0,()),())))
def sp115:Abs.Spec:=⟨0,i115,o115,m115⟩
def an115:Nat→Abs.FAn
  | 0=>Abs.FAn.mk (fun _=>none) (fun _=>none) (fun
    |3=>some ⟨⟨[4,1,3],(.dat (.int .i64) (.st Qx48 (.st (.own .str (1,0)) .nil))),Qb16⟩,(.more .ret ⟨[2],Qs2,.nil⟩ (.one (.exit 0) ⟨[],.nil,.nil⟩))⟩
    |20=>some ⟨⟨[8,5,1,3,4],(.dat (.int .i64) Qs37),(.box 3 Qs29 Qb16)⟩,(.more .ret ⟨[2],Qs2,.nil⟩ (.one (.exit 4) ⟨[1,3,4],(.st Qx48 (.st (.own .str (1,0)) Qs2)),Qb16⟩))⟩
    |15=>some ⟨⟨[7,5,1,3,4],(.dat (.int .i64) Qs37),(.box 3 Qs29 Qb16)⟩,(.more .ret ⟨[2],Qs2,.nil⟩ (.one (.exit 2) ⟨[5,1,3,4],Qs37,(.box 3 Qs29 Qb16)⟩))⟩
    |_=>none) (fun _ _=>0)
  |_=>{}
theorem ok115:Abs.SpecOK Tryz.prog 115 sp115:=
  Abs.specOK_of (n:=12) (an:=an115) (T:=Abs.tabOf [(122,sp122),(125,sp125),(127,sp127)]) good foll (Abs.tabOf_ok _ (by simp only[List.forall_mem_cons];exact⟨ok122,ok125,ok127,fun _ h=>by cases h⟩)) rfl (by intro v;kernel_rfl)
def l128_0_10(v:((Int×Unit)×((Y2×Unit)×(Y10×Unit)×Unit))):Option (((Int×Unit)×((Y2×Unit)×(Y10×Unit)×Unit))⊕(((Int×Unit)×(Unit))⊕((Unit)×((Y10×Unit)×(Y2×Unit)×Unit)))):=
let x86:=(decide ((v.1.1:Int)<(v.2.2.1.1.2.2.2.2.2.1.length:Int)))
bif x86 then(Abs.rowAt v.2.2.1.1.2.2.2.2.2.1 v.1.1 fun e87 _=>
(m125 ((e87,(0,((w64 ((v.2.1.1.2.1.length:Int)-1)),()))),())).bind fun u88=>
bif (!u88.1.1)then(some (.inr (.inl ((3,()),()))))
else(some (.inl (((w64 (v.1.1+1)),()),((v.2.1.1,()),((v.2.2.1.1,()),()))))))
else(some (.inr (.inr ((),((v.2.2.1.1,()),((v.2.1.1,()),()))))))
def i128:Abs.Sg:=⟨[0,1],(.dat Z1 (.dat Z9 .nil)),.nil⟩
def o128:Abs.Sg:=⟨[4],Qs2,.nil⟩
def m128(v:((Y2×Y10×Unit)×(Unit))):Option ((Int×Unit)×(Unit)):=
(m125 ((v.1.2.1.2.1,(0,((w64 ((v.1.1.1.length:Int)-1)),()))),())).bind fun u77=>
bif (!u77.1.1)then(some ((3,()),()))
else((((m127 ((),())).bind fun u78=>
(m125 ((v.1.2.1.2.2.1.1,(1,(u78.1.1,()))),())).bind fun u79=>
bif (!u79.1.1)then(some ((true,()),((v.1.1,()),((v.1.2.1,()),()))))
else((m125 ((v.1.2.1.2.2.1.2.1,(0,(86399,()))),())).bind fun u80=>
bif (!u80.1.1)then(some ((true,()),((v.1.1,()),((v.1.2.1,()),()))))
else((m125 ((v.1.2.1.2.2.2.1,(0,(2,()))),())).bind fun u81=>
bif (!u81.1.1)then(some ((true,()),((v.1.1,()),((v.1.2.1,()),()))))
else((m125 ((v.1.2.1.2.2.2.2.1,(1,(400,()))),())).bind fun u82=>
some (((!u82.1.1),()),((v.1.1,()),((v.1.2.1,()),()))))))):Option ((Bool×Unit)×((Y2×Unit)×(Y10×Unit)×Unit))).bind fun v83=>
bif v83.1.1 then(some ((1,()),()))
else(let x84:=(((v83.2.2.1.1.2.2.2.2.2.1.length:Int):Int)==0)
bif x84 then(some ((7,()),()))
else(let x85:=(decide (((v83.2.2.1.1.2.2.2.2.2.1.length:Int):Int)>12))
bif x85 then(some ((5,()),()))
else((loopT l128_0_10 ((0,()),((v83.2.1.1,()),((v83.2.2.1.1,()),())))).bind fun d89=>
sumE d89 (fun d90=>(some ((d90.1.1,()),()))) (fun d91=>((m104 ((d91.2.1.1.2.2.2.2.2.2.1,()),())).bind fun u92=>
bif ((u92.1.1:Int) !=0)then(some ((8,()),()))
else((m125 ((d91.2.1.1.2.2.2.2.2.2.2.2.1,(0,(2,()))),())).bind fun u93=>
bif (!u93.1.1)then(some ((1,()),()))
else(((bif ((d91.2.1.1.2.2.2.2.2.2.2.2.1:Int) !=0)then((m125 ((d91.2.1.1.2.2.2.2.2.2.2.1,(0,((w64 ((d91.2.2.1.1.2.2.1.length:Int)-1)),()))),())).bind fun u94=>
some (((!u94.1.1),()),((d91.2.1.1,()),())))
else(some ((false,()),((d91.2.1.1,()),())))):Option ((Bool×Unit)×((Y10×Unit)×Unit))).bind fun v95=>
bif v95.1.1 then(some ((3,()),()))
else(((bif ((v95.2.1.1.2.2.2.2.2.2.2.2.1:Int)==0)then(some ((((v95.2.1.1.2.2.2.2.2.2.2.1:Int) !=0),()),()))
else(some ((false,()),()))):Option Y24).bind fun v96=>
bif v96.1.1 then(some ((1,()),()))
else(some ((0,()),())))))))))))
def sp128:Abs.Spec:=⟨0,i128,o128,m128⟩
def an128:Nat→Abs.FAn
  | 0=>Abs.FAn.mk (fun
    |20=>some ⟨[93],Qs5,.nil⟩
    |18=>some ⟨[79,3],(.dat .bool (.st (.ptr (0,0) 10 0 0) .nil)),(.box 10 (.dat Z9 .nil) .nil)⟩
    |3=>some ⟨[15,2,3],(.dat .bool (.st Qx48 (.st (.ptr (1,0) 10 0 0) .nil))),(.box 4 Qs32 (.box 10 (.dat Z9 .nil) .nil))⟩
    |_=>none) (fun _=>none) (fun
    |10=>some ⟨⟨[5,2,3],(.dat (.int .i64) (.st Qx48 (.st (.ptr (1,0) 10 0 0) .nil))),(.box 4 Qs32 (.box 10 (.dat Z9 .nil) .nil))⟩,(.more .ret ⟨[4],Qs2,.nil⟩ (.one (.exit 1) ⟨[3,2],(.st (.ptr (0,0) 10 0 0) (.st Qx27 .nil)),(.box 10 (.dat Z9 .nil) (.box 4 Qs32 .nil))⟩))⟩
    |_=>none) (fun _ _=>0)
  |_=>{}
theorem ok128:Abs.SpecOK Tryz.prog 128 sp128:=
  Abs.specOK_of (n:=12) (an:=an128) (T:=Abs.tabOf [(125,sp125),(127,sp127),(104,sp104)]) good foll (Abs.tabOf_ok _ (by simp only[List.forall_mem_cons];exact⟨ok125,ok127,ok104,fun _ h=>by cases h⟩)) rfl (by intro v;kernel_rfl)
def i129:Abs.Sg:=⟨[0,1],(.dat Z1 (.dat (.cons (.int .i64) Z8) .nil)),.nil⟩
def o129:Abs.Sg:=⟨[4],Qs2,.nil⟩
def m129(v:((Y2×Y31×Unit)×(Unit))):Option ((Int×Unit)×(Unit)):=
(m125 ((v.1.2.1.1,(0,(2,()))),())).bind fun u40=>
bif (!u40.1.1)then(some ((1,()),()))
else((((m125 ((v.1.2.1.2.1,(0,((w64 ((v.1.1.2.1.length:Int)-1)),()))),())).bind fun u41=>
bif (!u41.1.1)then(bif ((v.1.2.1.1:Int) !=1)then(some ((true,()),((v.1.2.1,()),())))
else(bif ((v.1.2.1.2.1:Int) !=(-1))then(some ((true,()),((v.1.2.1,()),())))
else(bif ((v.1.2.1.1:Int)==2)then((m125 ((v.1.2.1.2.2.1,(0,((w64 ((v.1.1.2.1.length:Int)-1)),()))),())).bind fun u42=>
some (((!u42.1.1),()),((v.1.2.1,()),())))
else(some ((false,()),((v.1.2.1,()),()))))))
else(bif ((v.1.2.1.1:Int)==2)then((m125 ((v.1.2.1.2.2.1,(0,((w64 ((v.1.1.2.1.length:Int)-1)),()))),())).bind fun u43=>
some (((!u43.1.1),()),((v.1.2.1,()),())))
else(some ((false,()),((v.1.2.1,()),()))))):Option ((Bool×Unit)×((Y31×Unit)×Unit))).bind fun v44=>
bif v44.1.1 then(some ((3,()),()))
else(((bif ((v44.2.1.1.1:Int) !=2)then(some ((((v44.2.1.1.2.2.1:Int) !=0),()),((v44.2.1.1,()),())))
else(some ((false,()),((v44.2.1.1,()),())))):Option ((Bool×Unit)×((Y31×Unit)×Unit))).bind fun v45=>
bif v45.1.1 then(some ((1,()),()))
else(((bif ((v45.2.1.1.1:Int)==2)then(some ((((v45.2.1.1.2.1:Int)==v45.2.1.1.2.2.1),()),((v45.2.1.1,()),())))
else(some ((false,()),((v45.2.1.1,()),())))):Option ((Bool×Unit)×((Y31×Unit)×Unit))).bind fun v46=>
bif v46.1.1 then(some ((4,()),()))
else(((bif (decide ((v46.2.1.1.2.2.2.1:Int)<0))then(some ((true,()),((v46.2.1.1,()),())))
else(bif (decide ((v46.2.1.1.2.2.2.2.1:Int)<0))then(some ((true,()),((v46.2.1.1,()),())))
else((m127 ((),())).bind fun u47=>
let x48:=(decide (((w64 ((v46.2.1.1.2.2.2.2.1:Int).tdiv 86400)):Int)>u47.1.1))
some ((x48,()),((v46.2.1.1,()),()))))):Option ((Bool×Unit)×((Y31×Unit)×Unit))).bind fun v49=>
bif v49.1.1 then(some ((1,()),()))
else(let x50:=(decide ((v49.2.1.1.2.2.2.1:Int)≥v49.2.1.1.2.2.2.2.1))
bif x50 then(some ((6,()),()))
else(some ((0,()),())))))))
def sp129:Abs.Spec:=⟨0,i129,o129,m129⟩
def an129:Nat→Abs.FAn
  | 0=>Abs.FAn.mk (fun
    |10=>some ⟨[64,3],(.dat .bool (.st (.ptr (0,0) 5 0 0) .nil)),Qb24⟩
    |8=>some ⟨[53,3],(.dat .bool (.st (.ptr (0,0) 5 0 0) .nil)),Qb24⟩
    |6=>some ⟨[44,3],(.dat .bool (.st (.ptr (0,0) 5 0 0) .nil)),Qb24⟩
    |4=>some ⟨[14,3],(.dat .bool (.st (.ptr (0,0) 5 0 0) .nil)),Qb24⟩
    |_=>none) (fun _=>none) (fun _=>none) (fun _ _=>0)
  |_=>{}
theorem ok129:Abs.SpecOK Tryz.prog 129 sp129:=
  Abs.specOK_of (n:=12) (an:=an129) (T:=Abs.tabOf [(125,sp125),(127,sp127)]) good foll (Abs.tabOf_ok _ (by simp only[List.forall_mem_cons];exact⟨ok125,ok127,fun _ h=>by cases h⟩)) rfl (by intro v;kernel_rfl)
def l116_0_14(v:((Int×Int×Unit)×((Y23×Unit)×(Y2×Unit)×(List ByteArray)×(List ByteArray)×Unit))):Option (((Int×Int×Unit)×((Y23×Unit)×(Y2×Unit)×(List ByteArray)×(List ByteArray)×Unit))⊕(((Int×Unit)×(Unit))⊕((Int×Unit)×((Y23×Unit)×(Y2×Unit)×(List ByteArray)×Unit)))):=
let x134:=(decide ((v.1.1:Int)<(v.2.1.1.2.1.length:Int)))
bif x134 then(Abs.rowAt v.2.1.1.2.1 v.1.1 fun e135 _=>
bif (decide (v.2.2.2.1.length+ [e135.1].length≤4294967296))then
(m122 (((v.2.2.2.1++ [e135.1]),(v.1.1,())),())).bind fun u136=>
bif ((u136.1.1:Int) !=0)then(some (.inr (.inl ((u136.1.1,()),()))))
else(Abs.rowAt v.2.1.1.2.1 v.1.1 fun e137 _=>
(m128 ((v.2.2.1.1,(e137,())),())).bind fun u138=>
bif ((u138.1.1:Int) !=0)then(some (.inr (.inl ((u138.1.1,()),()))))
else(some (.inl (((w64 (v.1.1+1)),(v.1.2.1,())),((v.2.1.1,()),((v.2.2.1.1,()),((v.2.2.2.1++ [e135.1]),(v.2.2.2.2.1,()))))))))
else none)
else(some (.inr (.inr ((v.1.2.1,()),((v.2.1.1,()),((v.2.2.1.1,()),(v.2.2.2.2.1,())))))))
def l116_0_24(v:((Int×Int×Unit)×((Y23×Unit)×(Y2×Unit)×(List ByteArray)×Unit))):Option (((Int×Int×Unit)×((Y23×Unit)×(Y2×Unit)×(List ByteArray)×Unit))⊕(((Int×Unit)×(Unit))⊕Y37)):=
let x142:=(decide ((v.1.1:Int)<(v.2.1.1.2.2.1.length:Int)))
bif x142 then(Abs.rowAt v.2.1.1.2.2.1 v.1.1 fun e143 _=>
(m129 ((v.2.2.1.1,(e143,())),())).bind fun u144=>
bif ((u144.1.1:Int) !=0)then(some (.inr (.inl ((u144.1.1,()),()))))
else(some (.inl (((w64 (v.1.1+1)),(v.1.2.1,())),((v.2.1.1,()),((v.2.2.1.1,()),(v.2.2.2.1,())))))))
else(some (.inr (.inr ((v.1.2.1,()),((v.2.2.1.1,()),(v.2.2.2.1,()))))))
def l116_0_3(v:Y37):Option (Y37⊕(((Int×Unit)×(Unit))⊕((Unit)×(Unit)))):=
let x129:=(decide ((v.1.1:Int)<(v.2.1.1.2.2.2.1.length:Int)))
bif x129 then(Abs.rowAt v.2.1.1.2.2.2.1 v.1.1 fun e130 _=>
bif (decide (v.2.2.1.length+ [e130.1].length≤4294967296))then
(m122 (((v.2.2.1++ [e130.1]),(v.1.1,())),())).bind fun u131=>
bif ((u131.1.1:Int) !=0)then(some (.inr (.inl ((u131.1.1,()),()))))
else(((bif (decide (((e130.2.1.length:Int):Int)>6))then(some ((true,(v.1.1,())),((e130,()),((v.2.1.1,()),((v.2.2.1++ [e130.1]),())))))
else(let x132:=(decide (((e130.2.2.1.length:Int):Int)>48))
some ((x132,(v.1.1,())),((e130,()),((v.2.1.1,()),((v.2.2.1++ [e130.1]),())))))):Option ((Bool×Int×Unit)×((Y23×Unit)×(Y2×Unit)×(List ByteArray)×Unit))).bind fun v133=>
bif v133.1.1 then(some (.inr (.inl ((5,()),()))))
else((loopT l116_0_14 ((0,(v133.1.2.1,())),((v133.2.1.1,()),((v133.2.2.1.1,()),([],(v133.2.2.2.1,())))))).bind fun d139=>
sumE d139 (fun d140=>(some (.inr (.inl ((d140.1.1,()),()))))) (fun d141=>((loopT l116_0_24 ((0,(d141.1.1,())),((d141.2.1.1,()),((d141.2.2.1.1,()),(d141.2.2.2.1,()))))).bind fun d145=>
sumE d145 (fun d146=>(some (.inr (.inl ((d146.1.1,()),()))))) (fun d147=>(some (.inl (((w64 (d147.1.1+1)),()),((d147.2.1.1,()),(d147.2.2.1,()))))))))))
else none)
else(some (.inr (.inr ((),()))))
def i116:Abs.Sg:=⟨[0],Qs32,.nil⟩
def o116:Abs.Sg:=⟨[2],Qs2,.nil⟩
def m116(v:((Y2×Unit)×(Unit))):Option ((Int×Unit)×(Unit)):=
(loopT l116_0_3 ((0,()),((v.1.1,()),([],())))).bind fun d148=>
sumE d148 (fun d149=>(some ((d149.1.1,()),()))) (fun d150=>(some ((0,()),())))
def sp116:Abs.Spec:=⟨0,i116,o116,m116⟩
def an116:Nat→Abs.FAn
  | 0=>Abs.FAn.mk (fun
    |10=>some ⟨[45,5,1,3,4],(.dat .bool Qs37),(.box 3 (.dat Z27 .nil) Qb16)⟩
    |_=>none) (fun _=>none) (fun
    |3=>some ⟨⟨[1,4,3],(.st Qx48 (.dat (.int .i64) (.st (.own .str (1,0)) .nil))),Qb16⟩,(.more .ret ⟨[2],Qs2,.nil⟩ (.one (.exit 0) ⟨[],.nil,.nil⟩))⟩
    |24=>some ⟨⟨[11,5,1,3,4],(.dat (.int .i64) Qs37),(.box 3 (.dat Z27 .nil) Qb16)⟩,(.more .ret ⟨[2],Qs2,.nil⟩ (.one (.exit 4) ⟨[1,3,4],(.st Qx48 (.st (.own .str (1,0)) Qs2)),Qb16⟩))⟩
    |14=>some ⟨⟨[8,5,1,7,3,4],(.dat (.int .i64) (.st Qx21 (.st Qx27 (.st (.own .str (2,0)) (.st (.own .str (3,0)) Qs2))))),(.box 3 (.dat Z27 .nil) (.box 4 Qs32 (.arr .str false (.arr .str false .nil))))⟩,(.more .ret ⟨[2],Qs2,.nil⟩ (.one (.exit 2) ⟨[5,1,3,4],Qs37,(.box 3 (.dat Z27 .nil) Qb16)⟩))⟩
    |_=>none) (fun _ _=>0)
  |_=>{}
theorem ok116:Abs.SpecOK Tryz.prog 116 sp116:=
  Abs.specOK_of (n:=12) (an:=an116) (T:=Abs.tabOf [(122,sp122),(128,sp128),(129,sp129)]) good foll (Abs.tabOf_ok _ (by simp only[List.forall_mem_cons];exact⟨ok122,ok128,ok129,fun _ h=>by cases h⟩)) rfl (by intro v;kernel_rfl)
def i101:Abs.Sg:=⟨[0],Qs32,.nil⟩
def o101:Abs.Sg:=⟨[2],Qs2,.nil⟩
def m101(v:((Y2×Unit)×(Unit))):Option ((Int×Unit)×(Unit)):=
((bif (decide (((v.1.1.1.length:Int):Int)>16))then(some ((true,()),((v.1.1,()),())))
else(bif (decide (((v.1.1.2.1.length:Int):Int)>32))then(some ((true,()),((v.1.1,()),())))
else(let x25:=(decide (((v.1.1.2.2.1.length:Int):Int)>8))
bif x25 then(some ((true,()),((v.1.1,()),())))
else(let x26:=(decide (((v.1.1.2.2.2.1.length:Int):Int)>12))
some ((x26,()),((v.1.1,()),())))))):Option ((Bool×Unit)×((Y2×Unit)×Unit))).bind fun v27=>
bif v27.1.1 then(some ((5,()),()))
else((m113 ((v27.2.1.1,()),())).bind fun u28=>
bif ((u28.1.1:Int) !=0)then(some ((u28.1.1,()),()))
else((m114 ((v27.2.1.1,()),())).bind fun u29=>
bif ((u29.1.1:Int) !=0)then(some ((u29.1.1,()),()))
else((m115 ((v27.2.1.1,()),())).bind fun u30=>
bif ((u30.1.1:Int) !=0)then(some ((u30.1.1,()),()))
else((m116 ((v27.2.1.1,()),())).bind fun u31=>
some ((u31.1.1,()),())))))
def sp101:Abs.Spec:=⟨0,i101,o101,m101⟩
def an101:Nat→Abs.FAn
  | 0=>Abs.FAn.mk (fun
    |1=>some ⟨[27,1],(.dat .bool (.st Qx48 .nil)),(.box 4 Qs32 .nil)⟩
    |_=>none) (fun _=>none) (fun _=>none) (fun _ _=>0)
  |_=>{}
theorem ok101:Abs.SpecOK Tryz.prog 101 sp101:=
  Abs.specOK_of (n:=12) (an:=an101) (T:=Abs.tabOf [(113,sp113),(114,sp114),(115,sp115),(116,sp116)]) good foll (Abs.tabOf_ok _ (by simp only[List.forall_mem_cons];exact⟨ok113,ok114,ok115,ok116,fun _ h=>by cases h⟩)) rfl (by intro v;kernel_rfl)
def i111:Abs.Sg:=⟨[0,1,2],(.dat Z1 Qs6),.nil⟩
def o111:Abs.Sg:=⟨[6],Qs5,.nil⟩
def m111(v:((Y2×Int×Int×Unit)×(Unit))):Option Y24:=
((bif (decide ((v.1.2.1:Int)≥0))then(let x5:=(decide ((v.1.2.1:Int)<(v.1.1.2.2.2.1.length:Int)))
bif x5 then(bif (decide ((v.1.2.2.1:Int)≥0))then(bif (decide ((v.1.2.2.1:Int)≤8589934592))then((m101 ((v.1.1,()),())).bind fun u6=>
some ((((u6.1.1:Int)==0),()),()))
else(some ((false,()),())))
else(some ((false,()),())))
else(some ((false,()),())))
else(some ((false,()),()))):Option Y24).bind fun v7=>
some ((v7.1.1,()),())
def sp111:Abs.Spec:=⟨0,i111,o111,m111⟩
def an111:Nat→Abs.FAn
  | 0=>Abs.FAn.mk (fun
    |1=>some ⟨[6],Qs5,.nil⟩
    |_=>none) (fun _=>none) (fun _=>none) (fun _ _=>0)
  |_=>{}
theorem ok111:Abs.SpecOK Tryz.prog 111 sp111:=
  Abs.specOK_of (n:=12) (an:=an111) (T:=Abs.tabOf [(101,sp101)]) good foll (Abs.tabOf_ok _ (by simp only[List.forall_mem_cons];exact⟨ok101,fun _ h=>by cases h⟩)) rfl (by intro v;kernel_rfl)
def i146:Abs.Sg:=⟨[0,1],(.dat Z11 (.dat Z9 .nil)),.nil⟩
def o146:Abs.Sg:=⟨[4],Qs2,.nil⟩
def m146(v:((Y16×Y10×Unit)×(Unit))):Option ((Int×Unit)×(Unit)):=
(((m123 ((v.1.1,()),())).bind fun u11=>
bif ((u11.1.1:Int) !=0)then(some ((true,()),()))
else(bif (decide ((v.1.2.1.2.2.1.1:Int)<1))then(some ((true,()),()))
else(bif (decide ((v.1.2.1.2.2.1.1:Int)>100000))then(some ((true,()),()))
else(bif (decide ((v.1.2.1.2.2.1.2.1:Int)<0))then(some ((true,()),()))
else(bif (decide ((v.1.2.1.2.2.1.2.1:Int)≥86400))then(some ((true,()),()))
else(bif (decide ((v.1.2.1.2.2.2.1:Int)<0))then(some ((true,()),()))
else(bif (decide ((v.1.2.1.2.2.2.1:Int)>2))then(some ((true,()),()))
else(bif (decide ((v.1.2.1.2.2.2.2.1:Int)<1))then(some ((true,()),()))
else(bif (decide ((v.1.2.1.2.2.2.2.1:Int)>400))then(some ((true,()),()))
else(let x12:=(((v.1.2.1.2.2.2.2.2.1.length:Int):Int)==0)
some ((x12,()),()))))))))))):Option Y24).bind fun v13=>
bif v13.1.1 then(some ((8,()),()))
else(some ((0,()),()))
def sp146:Abs.Spec:=⟨0,i146,o146,m146⟩
def an146:Nat→Abs.FAn
  | 0=>Abs.FAn.mk (fun
    |1=>some ⟨[57],Qs5,.nil⟩
    |_=>none) (fun _=>none) (fun _=>none) (fun _ _=>0)
  |_=>{}
theorem ok146:Abs.SpecOK Tryz.prog 146 sp146:=
  Abs.specOK_of (n:=12) (an:=an146) (T:=Abs.tabOf [(123,sp123)]) good foll (Abs.tabOf_ok _ (by simp only[List.forall_mem_cons];exact⟨ok123,fun _ h=>by cases h⟩)) rfl (by intro v;kernel_rfl)
def i154:Abs.Sg:=⟨[0],Qs2,.nil⟩
def o154:Abs.Sg:=⟨[2],Qs5,.nil⟩
def m154(v:((Int×Unit)×(Unit))):Option Y24:=
(m138 ((v.1.1,((-2),(99422,()))),())).bind fun u2=>
some ((u2.1.1,()),())
def sp154:Abs.Spec:=⟨0,i154,o154,m154⟩
def an154:Nat→Abs.FAn
  |_=>{}
theorem ok154:Abs.SpecOK Tryz.prog 154 sp154:=
  Abs.specOK_of (n:=12) (an:=an154) (T:=Abs.tabOf [(138,sp138)]) good foll (Abs.tabOf_ok _ (by simp only[List.forall_mem_cons];exact⟨ok138,fun _ h=>by cases h⟩)) rfl (by intro v;kernel_rfl)
def l150_0_11(v:((Int×Unit)×(Y33×Y22×(Y16×Unit)×Unit))):Option (((Int×Unit)×(Y33×Y22×(Y16×Unit)×Unit))⊕(((Int×Int×Unit)×(Unit))⊕((Unit)×(Unit)))):=
let x71:=(decide ((v.1.1:Int)<((v.2.2.1.length:Nat):Int)))
bif x71 then(((bif (decide ((v.1.1:Int)≥0))then(bif (decide ((0:Int)≤v.1.1∧(v.1.1:Int)<v.2.2.1.length))then
(v.2.2.1[v.1.1.toNat]?).bind fun e72=>
bif (decide ((0:Int)≤v.1.1∧(v.1.1:Int)<v.2.2.1.length))then
(v.2.2.1[v.1.1.toNat]?).bind fun e73=>
some ((v.1.1,(e72.2.1,(e73.1,(8589934593,())))),((v.2.1.1,()),(v.2.2.1,((v.2.2.2.1.1,()),()))))
else none
else none)
else(some ((v.1.1,(v.2.2.2.1.1.2.1,(0,(8589934593,())))),((v.2.1.1,()),(v.2.2.1,((v.2.2.2.1.1,()),())))))):Option (Y34×(Y33×Y22×(Y16×Unit)×Unit))).bind fun v74=>
((let x75:=(decide (((w64 (v74.1.1+1)):Int)<((v74.2.2.1.length:Nat):Int)))
bif x75 then(bif (decide ((0:Int)≤(w64 (v74.1.1+1))∧((w64 (v74.1.1+1)):Int)<v74.2.2.1.length))then
(v74.2.2.1[(w64 (v74.1.1+1)).toNat]?).bind fun e76=>
some ((v74.1.1,(e76.1,(v74.1.2.1,(v74.1.2.2.1,())))),((v74.2.1.1,()),(v74.2.2.1,((v74.2.2.2.1.1,()),()))))
else none)
else(some ((v74.1.1,(v74.1.2.2.2.1,(v74.1.2.1,(v74.1.2.2.1,())))),((v74.2.1.1,()),(v74.2.2.1,((v74.2.2.2.1.1,()),())))))):Option (Y34×(Y33×Y22×(Y16×Unit)×Unit))).bind fun v77=>
let x78:=(w64 ((w64 (v77.2.1.1.1*86400))+v77.2.1.1.2.1))
let x79:=(if((w64 (x78-v77.1.2.2.1)):Int)>v77.1.2.2.2.1 then(w64 (x78-v77.1.2.2.1))else v77.1.2.2.2.1)
bif (decide ((x79:Int)<v77.1.2.1))then(some (.inr (.inl ((x79,(0,())),()))))
else(some (.inl (((w64 (v77.1.1+1)),()),((v77.2.1.1,()),(v77.2.2.1,((v77.2.2.2.1.1,()),())))))))
else(some (.inr (.inr ((),()))))
def i150:Abs.Sg:=⟨[0,1],(.dat Z11 Qs44),.nil⟩
def o150:Abs.Sg:=⟨[4,5],Qs6,.nil⟩
def m150(v:((Y16×(Int×Int×Unit)×Unit)×(Unit))):Option ((Int×Int×Unit)×(Unit)):=
(m136 ((v.1.1,()),())).bind fun u68=>
bif ((u68.1.1:Int) !=0)then(some ((0,(8,())),()))
else((m138 ((v.1.2.1.2.1,(0,(86399,()))),())).bind fun u69=>
bif (!u69.1.1)then(some ((0,(1,())),()))
else(bif (decide ((v.1.2.1.1:Int)<(-2)))then(some ((0,(0,())),()))
else((m154 ((v.1.2.1.1,()),())).bind fun u70=>
bif (!u70.1.1)then(some ((0,(10,())),()))
else((loopT l150_0_11 (((-1),()),((v.1.2.1,()),(u68.2.1,((v.1.1,()),()))))).bind fun d80=>
sumE d80 (fun d81=>(some ((d81.1.1,(d81.1.2.1,())),()))) (fun d82=>(some ((0,(10,())),())))))))
def sp150:Abs.Spec:=⟨0,i150,o150,m150⟩
def an150:Nat→Abs.FAn
  | 0=>Abs.FAn.mk (fun _=>none) (fun
    |18=>some (⟨[3,6,2,8,11,9,10],(.st Qx7 (.st (.own Z3 (1,0)) (.st (.ptr (2,0) 3 0 0) (.dat (.int .i64) Qs23)))),(.box 2 Qs44 (.arr Z3 false Qb36))⟩,none)
    |16=>some (⟨[3,6,2,8,9,10,11],(.st Qx7 (.st (.own Z3 (1,0)) (.st (.ptr (2,0) 3 0 0) (.dat (.int .i64) Qs23)))),(.box 2 Qs44 (.arr Z3 false Qb36))⟩,none)
    |_=>none) (fun
    |11=>some ⟨⟨[8,3,6,2],(.dat (.int .i64) (.st Qx7 (.st (.own Z3 (1,0)) (.st (.ptr (2,0) 3 0 0) .nil)))),(.box 2 Qs44 (.arr Z3 false Qb36))⟩,(.more .ret ⟨[4,5],Qs6,.nil⟩ (.one (.exit 0) ⟨[],.nil,.nil⟩))⟩
    |_=>none) (fun _ _=>0)
  |_=>{}
theorem ok150:Abs.SpecOK Tryz.prog 150 sp150:=
  Abs.specOK_of (n:=12) (an:=an150) (T:=Abs.tabOf [(136,sp136),(138,sp138),(154,sp154)]) good foll (Abs.tabOf_ok _ (by simp only[List.forall_mem_cons];exact⟨ok136,ok138,ok154,fun _ h=>by cases h⟩)) rfl (by intro v;kernel_rfl)
def l139_0_3(v:((Int×Y22×Int×Int×Unit)×(Unit))):Option (((Int×Y22×Int×Int×Unit)×(Unit))⊕((Int×Unit)×(Unit))):=
((let x22:=(decide ((v.1.1:Int)<(v.1.2.1.length:Int)))
bif x22 then(Abs.rowAt v.1.2.1 v.1.1 fun e23 _=>
some (((decide ((e23.1:Int)≤v.1.2.2.2.1)),(v.1.2.1,(v.1.2.2.2.1,(v.1.1,(v.1.2.2.1,()))))),()))
else(some ((false,(v.1.2.1,(v.1.2.2.2.1,(v.1.1,(v.1.2.2.1,()))))),()))):Option ((Bool×Y22×Int×Int×Int×Unit)×(Unit))).bind fun v24=>
bif v24.1.1 then(Abs.rowAt v24.1.2.1 v24.1.2.2.2.1 fun e25 _=>
some (.inl (((w64 (v24.1.2.2.2.1+1)),(v24.1.2.1,(e25.2.1,(v24.1.2.2.1,())))),())))
else(some (.inr ((v24.1.2.2.2.2.1,()),())))
def i139:Abs.Sg:=⟨[0,1,2],(.dat Z11 (.dat (.row Z3) Qs2)),.nil⟩
def o139:Abs.Sg:=⟨[6],Qs2,.nil⟩
def m139(v:((Y16×Y22×Int×Unit)×(Unit))):Option ((Int×Unit)×(Unit)):=
(loopT l139_0_3 ((0,(v.1.2.1,(v.1.1.2.1,(v.1.2.2.1,())))),())).bind fun d26=>
some ((d26.1.1,()),())
def sp139:Abs.Spec:=⟨0,i139,o139,m139⟩
def an139:Nat→Abs.FAn
  | 0=>Abs.FAn.mk (fun
    |3=>some ⟨[23,1,2,8,7],(.dat .bool (.dat (.row Z3) Qs23)),.nil⟩
    |_=>none) (fun _=>none) (fun
    |3=>some ⟨⟨[8,1,7,2],(.dat (.int .i64) (.dat (.row Z3) Qs6)),.nil⟩,(.one (.exit 0) ⟨[7],Qs2,.nil⟩)⟩
    |_=>none) (fun _ _=>0)
  |_=>{}
theorem ok139:Abs.SpecOK Tryz.prog 139 sp139:=
  Abs.specOK_of (n:=12) (an:=an139) (T:=Abs.tabOf []) good foll (Abs.tabOf_ok _ (fun _ h=>by cases h)) rfl (by intro v;kernel_rfl)
def i130:Abs.Sg:=⟨[0,1],(.dat Z11 Qs2),.nil⟩
def o130:Abs.Sg:=⟨[4,5],Qs6,.nil⟩
def m130(v:((Y16×Int×Unit)×(Unit))):Option ((Int×Int×Unit)×(Unit)):=
(m136 ((v.1.1,()),())).bind fun u9=>
bif ((u9.1.1:Int) !=0)then(some ((0,(8,())),()))
else((m138 ((v.1.2.1,(0,(8589934592,()))),())).bind fun u10=>
bif (!u10.1.1)then(some ((0,(1,())),()))
else((m139 ((v.1.1,(u9.2.1,(v.1.2.1,()))),())).bind fun u11=>
some ((u11.1.1,(0,())),())))
def sp130:Abs.Spec:=⟨0,i130,o130,m130⟩
def an130:Nat→Abs.FAn
  |_=>{}
theorem ok130:Abs.SpecOK Tryz.prog 130 sp130:=
  Abs.specOK_of (n:=12) (an:=an130) (T:=Abs.tabOf [(136,sp136),(138,sp138),(139,sp139)]) good foll (Abs.tabOf_ok _ (by simp only[List.forall_mem_cons];exact⟨ok136,ok138,ok139,fun _ h=>by cases h⟩)) rfl (by intro v;kernel_rfl)
def i131:Abs.Sg:=⟨[0,1],Qs6,.nil⟩
def o131:Abs.Sg:=⟨[4],(.st Qx7 .nil),(.box 2 Qs44 .nil)⟩
def m131(v:((Int×Int×Unit)×(Unit))):Option ((Unit)×(Y33×Unit)):=
let x4:=(w64 (((w64 ((w64 (v.1.1+v.1.2.1))+864000)):Int).tdiv 86400))
let x5:=(((w64 ((w64 (v.1.1+v.1.2.1))+864000)):Int).tmod 86400)
some ((),((((w64 (x4-10)),(x5,())),()),()))
def sp131:Abs.Spec:=⟨0,i131,o131,m131⟩
def an131:Nat→Abs.FAn
  |_=>{}
theorem ok131:Abs.SpecOK Tryz.prog 131 sp131:=
  Abs.specOK_of (n:=12) (an:=an131) (T:=Abs.tabOf []) good foll (Abs.tabOf_ok _ (fun _ h=>by cases h)) rfl (by intro v;kernel_rfl)
def i117:Abs.Sg:=⟨[0,1],(.dat Z11 Qs2),.nil⟩
def o117:Abs.Sg:=⟨[4,5],(.st Qx7 Qs2),(.box 2 Qs44 .nil)⟩
def m117(v:((Y16×Int×Unit)×(Unit))):Option ((Int×Unit)×(Y33×Unit)):=
(m130 ((v.1.1,(v.1.2.1,())),())).bind fun u5=>
bif ((u5.1.2.1:Int) !=0)then(some ((u5.1.2.1,()),(((0,(0,())),()),())))
else((m131 ((v.1.2.1,(u5.1.1,())),())).bind fun u6=>
some ((0,()),((u6.2.1.1,()),())))
def sp117:Abs.Spec:=⟨0,i117,o117,m117⟩
def an117:Nat→Abs.FAn
  |_=>{}
theorem ok117:Abs.SpecOK Tryz.prog 117 sp117:=
  Abs.specOK_of (n:=12) (an:=an117) (T:=Abs.tabOf [(130,sp130),(131,sp131)]) good foll (Abs.tabOf_ok _ (by simp only[List.forall_mem_cons];exact⟨ok130,ok131,fun _ h=>by cases h⟩)) rfl (by intro v;kernel_rfl)
def i151:Abs.Sg:=⟨[0,1,2],(.dat Z11 (.dat Z9 Qs2)),.nil⟩
def o151:Abs.Sg:=⟨[6,7],Qs28,.nil⟩
def m151(v:((Y16×Y10×Int×Unit)×(Unit))):Option ((Int×Bool×Unit)×(Unit)):=
bif ((v.1.2.1.2.2.2.1:Int)==0)then((m150 ((v.1.1,(v.1.2.1.2.2.1,())),())).bind fun u20=>
let x21:=(w64 ((w64 (v.1.2.2.1*v.1.2.1.2.2.2.2.1))*3600))
((bif ((u20.1.2.1:Int)==0)then(let x22:=(decide (((w64 (u20.1.1+x21)):Int)≤8589934592))
some (((w64 (u20.1.1+x21)),(x22,())),()))
else(some (((w64 (u20.1.1+x21)),(false,())),()))):Option ((Int×Bool×Unit)×(Unit))).bind fun v23=>
some ((v23.1.1,(v23.1.2.1,())),()))
else(((bif ((v.1.2.1.2.2.2.1:Int)==2)then(let x24:=(w64 ((w64 (v.1.2.2.1*v.1.2.1.2.2.2.2.1))*7))
some ((x24,()),((v.1.2.1,()),((v.1.1,()),()))))
else(some (((w64 (v.1.2.2.1*v.1.2.1.2.2.2.2.1)),()),((v.1.2.1,()),((v.1.1,()),()))))):Option ((Int×Unit)×((Y10×Unit)×(Y16×Unit)×Unit))).bind fun v25=>
(m150 ((v25.2.2.1.1,(((w64 (v25.2.1.1.2.2.1.1+v25.1.1)),v25.2.1.1.2.2.1.2),())),())).bind fun u26=>
some ((u26.1.1,(((u26.1.2.1:Int)==0),())),()))
def sp151:Abs.Spec:=⟨0,i151,o151,m151⟩
def an151:Nat→Abs.FAn
  | 0=>Abs.FAn.mk (fun
    |4=>some ⟨[6,7],Qs28,.nil⟩
    |_=>none) (fun
    |8=>some (⟨[4,11,3],(.st (.ptr (0,0) 10 0 0) (.dat (.int .i64) (.st Qx50 .nil))),(.box 10 (.dat Z9 .nil) Qb36)⟩,none)
    |_=>none) (fun _=>none) (fun _ _=>0)
  |_=>{}
theorem ok151:Abs.SpecOK Tryz.prog 151 sp151:=
  Abs.specOK_of (n:=12) (an:=an151) (T:=Abs.tabOf [(150,sp150)]) good foll (Abs.tabOf_ok _ (by simp only[List.forall_mem_cons];exact⟨ok150,fun _ h=>by cases h⟩)) rfl (by intro v;kernel_rfl)
def l147_0_12(v:((Int×Int×Unit)×((Y10×Unit)×(Y16×Unit)×Unit))):Option (((Int×Int×Unit)×((Y10×Unit)×(Y16×Unit)×Unit))⊕((Int×Unit)×(Unit))):=
bif (decide ((v.1.1:Int)≥0))then((m151 ((v.2.2.1.1,(v.2.1.1,(v.1.1,()))),())).bind fun u50=>
((bif u50.1.2.1 then(some (((decide ((u50.1.1:Int)≤v.1.2.1)),(v.1.1,(v.1.2.1,()))),((v.2.1.1,()),((v.2.2.1.1,()),()))))
else(some ((false,(v.1.1,(v.1.2.1,()))),((v.2.1.1,()),((v.2.2.1.1,()),()))))):Option ((Bool×Int×Int×Unit)×((Y10×Unit)×(Y16×Unit)×Unit))).bind fun v51=>
bif v51.1.1 then(some (.inr ((v51.1.2.1,()),())))
else(some (.inl (((w64 (v51.1.2.1-1)),(v51.1.2.2.1,())),((v51.2.1.1,()),((v51.2.2.1.1,()),()))))))
else(some (.inr ((v.1.1,()),())))
def i147:Abs.Sg:=⟨[0,1,2],(.dat Z11 (.dat Z9 Qs2)),.nil⟩
def o147:Abs.Sg:=⟨[6],Qs2,.nil⟩
def m147(v:((Y16×Y10×Int×Unit)×(Unit))):Option ((Int×Unit)×(Unit)):=
bif ((v.1.2.1.2.2.2.1:Int)==0)then((((m150 ((v.1.1,(v.1.2.1.2.2.1,())),())).bind fun u42=>
((bif ((u42.1.2.1:Int)==0)then(some (((decide ((u42.1.1:Int)≤v.1.2.2.1)),(u42.1.1,(v.1.2.2.1,((-1),())))),((v.1.2.1,()),())))
else(some ((false,(u42.1.1,(v.1.2.2.1,((-1),())))),((v.1.2.1,()),())))):Option ((Bool×Int×Int×Int×Unit)×((Y10×Unit)×Unit))).bind fun v43=>
bif v43.1.1 then(bif (decide ((w64 (3600*v43.2.1.1.2.2.2.2.1))≠(0:Int)))then
let x44:=(w64 (((w64 (v43.1.2.2.1-v43.1.2.1)):Int).tdiv (w64 (3600*v43.2.1.1.2.2.2.2.1))))
some ((x44,()),())
else none)
else(some ((v43.1.2.2.2.1,()),()))):Option ((Int×Unit)×(Unit))).bind fun v45=>
some ((v45.1.1,()),()))
else((m117 ((v.1.1,(v.1.2.2.1,())),())).bind fun u46=>
((bif ((v.1.2.1.2.2.2.1:Int)==2)then(some ((v.1.2.2.1,((w64 (v.1.2.1.2.2.2.2.1*7)),())),((v.1.2.1,()),((v.1.1,()),((u46.2.1.1,()),())))))
else(some ((v.1.2.2.1,(v.1.2.1.2.2.2.2.1,())),((v.1.2.1,()),((v.1.1,()),((u46.2.1.1,()),())))))):Option ((Int×Int×Unit)×((Y10×Unit)×(Y16×Unit)×Y33×Unit))).bind fun v47=>
let x48:=(w64 ((w64 (v47.2.2.2.1.1.1+2))-v47.2.1.1.2.2.1.1))
bif (decide (v47.1.2.1≠(0:Int)))then
let x49:=(w64 (((if(0:Int)>x48 then 0 else x48):Int).tdiv v47.1.2.1))
(loopT l147_0_12 ((x49,(v47.1.1,())),((v47.2.1.1,()),((v47.2.2.1.1,()),())))).bind fun d52=>
some ((d52.1.1,()),())
else none)
def sp147:Abs.Spec:=⟨0,i147,o147,m147⟩
def an147:Nat→Abs.FAn
  | 0=>Abs.FAn.mk (fun
    |15=>some ⟨[79,7,2,4,3],(.dat .bool (.dat (.int .i64) (.dat (.int .i64) (.st (.ptr (0,0) 10 0 0) (.st Qx50 .nil))))),(.box 10 (.dat Z9 .nil) Qb36)⟩
    |4=>some ⟨[31,4,8,2,7],(.dat .bool (.st (.ptr (0,0) 10 0 0) Qs23)),(.box 10 (.dat Z9 .nil) .nil)⟩
    |_=>none) (fun
    |11=>some (⟨[2,4,3,12,10],(.dat (.int .i64) (.st (.ptr (0,0) 10 0 0) (.st Qx50 (.dat (.int .i64) (.st Qx18 .nil))))),(.box 10 (.dat Z9 .nil) (.box 3 (.dat Z11 .nil) (.box 2 Qs44 .nil)))⟩,none)
    |6=>some (⟨[7],Qs2,.nil⟩,none)
    |_=>none) (fun
    |12=>some ⟨⟨[7,2,4,3],(.dat (.int .i64) (.dat (.int .i64) (.st (.ptr (0,0) 10 0 0) (.st Qx50 .nil)))),(.box 10 (.dat Z9 .nil) Qb36)⟩,(.one (.exit 0) ⟨[7],Qs2,.nil⟩)⟩
    |_=>none) (fun _ _=>0)
  |_=>{}
theorem ok147:Abs.SpecOK Tryz.prog 147 sp147:=
  Abs.specOK_of (n:=12) (an:=an147) (T:=Abs.tabOf [(150,sp150),(117,sp117),(151,sp151)]) good foll (Abs.tabOf_ok _ (by simp only[List.forall_mem_cons];exact⟨ok150,ok117,ok151,fun _ h=>by cases h⟩)) rfl (by intro v;kernel_rfl)
def i144:Abs.Sg:=⟨[0,1,2],(.dat Z11 (.dat Z9 Qs2)),.nil⟩
def o144:Abs.Sg:=⟨[6,7],Qs6,.nil⟩
def m144(v:((Y16×Y10×Int×Unit)×(Unit))):Option ((Int×Int×Unit)×(Unit)):=
(m146 ((v.1.1,(v.1.2.1,())),())).bind fun u9=>
bif ((u9.1.1:Int) !=0)then(some ((0,(8,())),()))
else(((bif (decide ((v.1.2.2.1:Int)<0))then(some ((true,(v.1.2.2.1,())),((v.1.2.1,()),((v.1.1,()),()))))
else(some (((decide ((v.1.2.2.1:Int)>8589934592)),(v.1.2.2.1,())),((v.1.2.1,()),((v.1.1,()),()))))):Option ((Bool×Int×Unit)×((Y10×Unit)×(Y16×Unit)×Unit))).bind fun v10=>
bif v10.1.1 then(some ((0,(1,())),()))
else((m147 ((v10.2.2.1.1,(v10.2.1.1,(v10.1.2.1,()))),())).bind fun u11=>
some ((u11.1.1,(0,())),())))
def sp144:Abs.Spec:=⟨0,i144,o144,m144⟩
def an144:Nat→Abs.FAn
  | 0=>Abs.FAn.mk (fun
    |3=>some ⟨[17,2,4,3],(.dat .bool (.dat (.int .i64) (.st (.ptr (0,0) 10 0 0) (.st Qx50 .nil)))),(.box 10 (.dat Z9 .nil) Qb36)⟩
    |_=>none) (fun _=>none) (fun _=>none) (fun _ _=>0)
  |_=>{}
theorem ok144:Abs.SpecOK Tryz.prog 144 sp144:=
  Abs.specOK_of (n:=12) (an:=an144) (T:=Abs.tabOf [(146,sp146),(147,sp147)]) good foll (Abs.tabOf_ok _ (by simp only[List.forall_mem_cons];exact⟨ok146,ok147,fun _ h=>by cases h⟩)) rfl (by intro v;kernel_rfl)
def i118:Abs.Sg:=⟨[0],Qs44,.nil⟩
def o118:Abs.Sg:=⟨[2],Qs2,.nil⟩
def m118(v:(Y33×(Unit))):Option ((Int×Unit)×(Unit)):=
(m132 ((v.1.1.1,()),())).bind fun u2=>
some (((w64 ((w64 (u2.1.1*86400))+v.1.1.2.1)),()),())
def sp118:Abs.Spec:=⟨0,i118,o118,m118⟩
def an118:Nat→Abs.FAn
  |_=>{}
theorem ok118:Abs.SpecOK Tryz.prog 118 sp118:=
  Abs.specOK_of (n:=12) (an:=an118) (T:=Abs.tabOf [(132,sp132)]) good foll (Abs.tabOf_ok _ (by simp only[List.forall_mem_cons];exact⟨ok132,fun _ h=>by cases h⟩)) rfl (by intro v;kernel_rfl)
def i103:Abs.Sg:=⟨[0,1],(.dat Z11 Qs2),.nil⟩
def o103:Abs.Sg:=⟨[4,5],Qs6,.nil⟩
def m103(v:((Y16×Int×Unit)×(Unit))):Option ((Int×Int×Unit)×(Unit)):=
(m117 ((v.1.1,(v.1.2.1,())),())).bind fun u5=>
bif ((u5.1.1:Int) !=0)then(some ((0,(u5.1.1,())),()))
else((m118 ((u5.2.1.1,()),())).bind fun u6=>
some ((u6.1.1,(0,())),()))
def sp103:Abs.Spec:=⟨0,i103,o103,m103⟩
def an103:Nat→Abs.FAn
  |_=>{}
theorem ok103:Abs.SpecOK Tryz.prog 103 sp103:=
  Abs.specOK_of (n:=12) (an:=an103) (T:=Abs.tabOf [(117,sp117),(118,sp118)]) good foll (Abs.tabOf_ok _ (by simp only[List.forall_mem_cons];exact⟨ok117,ok118,fun _ h=>by cases h⟩)) rfl (by intro v;kernel_rfl)
def l105_0_2(v:((Int×Y22×Int×Unit)×(Unit))):Option (((Int×Y22×Int×Unit)×(Unit))⊕(Y24⊕((Unit)×(Unit)))):=
let x29:=(decide ((v.1.1:Int)<(v.1.2.1.length:Int)))
bif x29 then(((Abs.rowAt v.1.2.1 v.1.1 fun e30 _=>
bif (decide ((v.1.2.2.1:Int)≥e30.1))then(Abs.rowAt v.1.2.1 v.1.1 fun e31 _=>
some (((decide ((v.1.2.2.1:Int)<e31.2.1)),(v.1.2.1,(v.1.2.2.1,(v.1.1,())))),()))
else(some ((false,(v.1.2.1,(v.1.2.2.1,(v.1.1,())))),()))):Option ((Bool×Y22×Int×Int×Unit)×(Unit))).bind fun v32=>
bif v32.1.1 then(some (.inr (.inl ((true,()),()))))
else(some (.inl (((w64 (v32.1.2.2.2.1+1)),(v32.1.2.1,(v32.1.2.2.1,()))),()))))
else(some (.inr (.inr ((),()))))
def i105:Abs.Sg:=⟨[0,1],(.dat (.row Z3) Qs2),.nil⟩
def o105:Abs.Sg:=⟨[4],Qs5,.nil⟩
def m105(v:((Y22×Int×Unit)×(Unit))):Option Y24:=
(loopT l105_0_2 ((0,(v.1.1,(v.1.2.1,()))),())).bind fun d33=>
sumE d33 (fun d34=>(some ((d34.1.1,()),()))) (fun d35=>(some ((false,()),())))
def sp105:Abs.Spec:=⟨0,i105,o105,m105⟩
def an105:Nat→Abs.FAn
  | 0=>Abs.FAn.mk (fun
    |4=>some ⟨[27,0,1,5],(.dat .bool (.dat (.row Z3) Qs6)),.nil⟩
    |_=>none) (fun _=>none) (fun
    |2=>some ⟨⟨[5,0,1],(.dat (.int .i64) (.dat (.row Z3) Qs2)),.nil⟩,(.more .ret ⟨[4],Qs5,.nil⟩ (.one (.exit 0) ⟨[],.nil,.nil⟩))⟩
    |_=>none) (fun _ _=>0)
  |_=>{}
theorem ok105:Abs.SpecOK Tryz.prog 105 sp105:=
  Abs.specOK_of (n:=12) (an:=an105) (T:=Abs.tabOf []) good foll (Abs.tabOf_ok _ (fun _ h=>by cases h)) rfl (by intro v;kernel_rfl)
def i82:Abs.Sg:=⟨[0,1,2],(.dat Z11 (.dat (.row Z3) Qs2)),.nil⟩
def o82:Abs.Sg:=⟨[6],Qs5,.nil⟩
def m82(v:((Y16×Y22×Int×Unit)×(Unit))):Option Y24:=
(m103 ((v.1.1,(v.1.2.2.1,())),())).bind fun u8=>
((bif ((u8.1.2.1:Int)==0)then((m104 ((v.1.2.1,()),())).bind fun u9=>
bif ((u9.1.1:Int)==0)then((m105 ((v.1.2.1,(u8.1.1,())),())).bind fun u10=>
some ((u10.1.1,()),()))
else(some ((false,()),())))
else(some ((false,()),()))):Option Y24).bind fun v11=>
some ((v11.1.1,()),())
def sp82:Abs.Spec:=⟨0,i82,o82,m82⟩
def an82:Nat→Abs.FAn
  | 0=>Abs.FAn.mk (fun
    |2=>some ⟨[6],Qs5,.nil⟩
    |_=>none) (fun _=>none) (fun _=>none) (fun _ _=>0)
  |_=>{}
theorem ok82:Abs.SpecOK Tryz.prog 82 sp82:=
  Abs.specOK_of (n:=12) (an:=an82) (T:=Abs.tabOf [(103,sp103),(104,sp104),(105,sp105)]) good foll (Abs.tabOf_ok _ (by simp only[List.forall_mem_cons];exact⟨ok103,ok104,ok105,fun _ h=>by cases h⟩)) rfl (by intro v;kernel_rfl)
def l140_0_11(v:((Int×Bool×Int×Unit)×(Y33×((ByteArray×Int×(List Int)×Unit)×Unit)×(Y10×Unit)×Unit))):Option (((Int×Bool×Int×Unit)×(Y33×((ByteArray×Int×(List Int)×Unit)×Unit)×(Y10×Unit)×Unit))⊕((Bool×Int×Unit)×((Y10×Unit)×Unit))):=
let x53:=(decide ((v.1.1:Int)<(v.2.2.1.1.2.2.1.length:Int)))
bif x53 then(((bif v.1.2.1 then(some ((true,(v.1.2.2.1,(v.1.1,()))),((v.2.1.1,()),((v.2.2.1.1,()),((v.2.2.2.1.1,()),())))))
else(Abs.rowAt v.2.2.1.1.2.2.1 v.1.1 fun e54 _=>
some ((((e54:Int)==v.2.1.1.1),(v.1.2.2.1,(v.1.1,()))),((v.2.1.1,()),((v.2.2.1.1,()),((v.2.2.2.1.1,()),())))))):Option ((Bool×Int×Int×Unit)×(Y33×((ByteArray×Int×(List Int)×Unit)×Unit)×(Y10×Unit)×Unit))).bind fun v55=>
some (.inl (((w64 (v55.1.2.2.1+1)),(v55.1.1,(v55.1.2.1,()))),((v55.2.1.1,()),((v55.2.2.1.1,()),((v55.2.2.2.1.1,()),()))))))
else(some (.inr ((v.1.2.1,(v.1.2.2.1,())),((v.2.2.2.1.1,()),()))))
def i140:Abs.Sg:=⟨[0,1,2],(.dat Z1 (.dat Z9 Qs2)),.nil⟩
def o140:Abs.Sg:=⟨[6,7],Qs28,.nil⟩
def m140(v:((Y2×Y10×Int×Unit)×(Unit))):Option ((Int×Bool×Unit)×(Unit)):=
Abs.rowAt v.1.1.1 v.1.2.1.2.1 fun e45 _=>
(m144 ((e45,(v.1.2.1,(v.1.2.2.1,()))),())).bind fun u46=>
((bif ((u46.1.2.1:Int) !=0)then(some ((true,(u46.1.1,(v.1.2.2.1,()))),((v.1.2.1,()),((v.1.1,()),()))))
else(bif (decide ((u46.1.1:Int)<0))then(some ((true,(u46.1.1,(v.1.2.2.1,()))),((v.1.2.1,()),((v.1.1,()),()))))
else(let x47:=(decide (((v.1.2.1.2.2.2.2.2.2.1.length:Int):Int)>0))
bif x47 then((m82 ((e45,(v.1.2.1.2.2.2.2.2.2.1,(v.1.2.2.1,()))),())).bind fun u48=>
some (((!u48.1.1),(u46.1.1,(v.1.2.2.1,()))),((v.1.2.1,()),((v.1.1,()),()))))
else(some ((false,(u46.1.1,(v.1.2.2.1,()))),((v.1.2.1,()),((v.1.1,()),()))))))):Option ((Bool×Int×Int×Unit)×((Y10×Unit)×(Y2×Unit)×Unit))).bind fun v49=>
bif v49.1.1 then(some ((0,(false,())),()))
else(bif ((v49.2.1.1.2.2.2.2.2.2.2.2.1:Int)==0)then(some ((v49.1.2.1,(true,())),()))
else(Abs.rowAt v49.2.2.1.1.2.2.1 v49.2.1.1.2.2.2.2.2.2.2.1 fun e50 _=>
Abs.rowAt v49.2.2.1.1.1 e50.2.1 fun e51 _=>
(m117 ((e51,(v49.1.2.2.1,())),())).bind fun u52=>
(loopT l140_0_11 ((0,(false,(v49.1.2.1,()))),((u52.2.1.1,()),((e50,()),((v49.2.1.1,()),()))))).bind fun d56=>
let x57:=(d56.1.1==((d56.2.1.1.2.2.2.2.2.2.2.2.1:Int)==2))
some ((d56.1.2.1,(x57,())),())))
def sp140:Abs.Spec:=⟨0,i140,o140,m140⟩
def an140:Nat→Abs.FAn
  | 0=>Abs.FAn.mk (fun
    |13=>some ⟨[12,11,14,4,9,15],(.st Qx7 (.st Qx50 (.dat .bool (.st (.ptr (2,0) 10 0 0) Qs6)))),(.box 2 Qs44 (.box 3 Qs29 (.box 10 (.dat Z9 .nil) .nil)))⟩
    |3=>some ⟨[48,9,4,2,3],(.dat .bool (.dat (.int .i64) (.st (.ptr (0,0) 10 0 0) (.dat (.int .i64) (.st Qx27 .nil))))),(.box 10 (.dat Z9 .nil) (.box 4 Qs32 .nil))⟩
    |_=>none) (fun _=>none) (fun
    |11=>some ⟨⟨[15,12,11,14,4,9],(.dat (.int .i64) (.st Qx7 (.st Qx50 (.dat .bool (.st (.ptr (2,0) 10 0 0) Qs2))))),(.box 2 Qs44 (.box 3 Qs29 (.box 10 (.dat Z9 .nil) .nil)))⟩,(.one (.exit 0) ⟨[4,14,9],(.st (.ptr (0,0) 10 0 0) (.dat .bool Qs2)),(.box 10 (.dat Z9 .nil) .nil)⟩)⟩
    |_=>none) (fun _ _=>0)
  |_=>{}
theorem ok140:Abs.SpecOK Tryz.prog 140 sp140:=
  Abs.specOK_of (n:=12) (an:=an140) (T:=Abs.tabOf [(144,sp144),(82,sp82),(117,sp117)]) good foll (Abs.tabOf_ok _ (by simp only[List.forall_mem_cons];exact⟨ok144,ok82,ok117,fun _ h=>by cases h⟩)) rfl (by intro v;kernel_rfl)
def i133:Abs.Sg:=⟨[0,1,2],(.dat Z1 (.dat Z9 Qs2)),.nil⟩
def o133:Abs.Sg:=⟨[6],Qs2,.nil⟩
def m133(v:((Y2×Y10×Int×Unit)×(Unit))):Option ((Int×Unit)×(Unit)):=
(m140 ((v.1.1,(v.1.2.1,(v.1.2.2.1,()))),())).bind fun u7=>
bif (!u7.1.2.1)then(some (((-1),()),()))
else(bif (decide ((v.1.2.1.2.2.2.2.2.1.length:Int)≠(0:Int)))then
let x8:=((u7.1.1:Int).tmod (v.1.2.1.2.2.2.2.2.1.length:Int))
Abs.rowAt v.1.2.1.2.2.2.2.2.1 x8 fun e9 _=>
some ((e9,()),())
else none)
def sp133:Abs.Spec:=⟨0,i133,o133,m133⟩
def an133:Nat→Abs.FAn
  |_=>{}
theorem ok133:Abs.SpecOK Tryz.prog 133 sp133:=
  Abs.specOK_of (n:=12) (an:=an133) (T:=Abs.tabOf [(140,sp140)]) good foll (Abs.tabOf_ok _ (by simp only[List.forall_mem_cons];exact⟨ok140,fun _ h=>by cases h⟩)) rfl (by intro v;kernel_rfl)
def l134_0_2(v:(Y35×((Y23×Unit)×Unit))):Option ((Y35×((Y23×Unit)×Unit))⊕(Y24⊕((Unit)×(Unit)))):=
let x23:=(decide ((v.1.1:Int)<(v.2.1.1.2.2.1.length:Int)))
bif x23 then(Abs.rowAt v.2.1.1.2.2.1 v.1.1 fun e24 _=>
((bif ((e24.1:Int)==0)then(bif ((e24.2.1:Int)==v.1.2.2.1)then(bif (decide ((e24.2.2.2.1:Int)≤v.1.2.1))then(some (((decide ((v.1.2.1:Int)<e24.2.2.2.2.1)),(v.1.2.1,(v.1.2.2.1,(v.1.1,())))),((v.2.1.1,()),())))
else(some ((false,(v.1.2.1,(v.1.2.2.1,(v.1.1,())))),((v.2.1.1,()),()))))
else(some ((false,(v.1.2.1,(v.1.2.2.1,(v.1.1,())))),((v.2.1.1,()),()))))
else(some ((false,(v.1.2.1,(v.1.2.2.1,(v.1.1,())))),((v.2.1.1,()),())))):Option ((Bool×Int×Int×Int×Unit)×((Y23×Unit)×Unit))).bind fun v25=>
bif v25.1.1 then(some (.inr (.inl ((true,()),()))))
else(some (.inl (((w64 (v25.1.2.2.2.1+1)),(v25.1.2.1,(v25.1.2.2.1,()))),((v25.2.1.1,()),())))))
else(some (.inr (.inr ((),()))))
def i134:Abs.Sg:=⟨[0,1,2],(.dat Z27 Qs6),.nil⟩
def o134:Abs.Sg:=⟨[6],Qs5,.nil⟩
def m134(v:((Y23×Int×Int×Unit)×(Unit))):Option Y24:=
(loopT l134_0_2 ((0,(v.1.2.2.1,(v.1.2.1,()))),((v.1.1,()),()))).bind fun d26=>
sumE d26 (fun d27=>(some ((d27.1.1,()),()))) (fun d28=>(some ((false,()),())))
def sp134:Abs.Spec:=⟨0,i134,o134,m134⟩
def an134:Nat→Abs.FAn
  | 0=>Abs.FAn.mk (fun
    |5=>some ⟨[41,2,1,3,7],(.dat .bool (.dat (.int .i64) (.dat (.int .i64) (.st Qx21 Qs2)))),(.box 3 (.dat Z27 .nil) .nil)⟩
    |_=>none) (fun _=>none) (fun
    |2=>some ⟨⟨[7,2,1,3],(.dat (.int .i64) (.dat (.int .i64) (.dat (.int .i64) (.st Qx21 .nil)))),(.box 3 (.dat Z27 .nil) .nil)⟩,(.more .ret ⟨[6],Qs5,.nil⟩ (.one (.exit 0) ⟨[],.nil,.nil⟩))⟩
    |_=>none) (fun _ _=>0)
  |_=>{}
theorem ok134:Abs.SpecOK Tryz.prog 134 sp134:=
  Abs.specOK_of (n:=12) (an:=an134) (T:=Abs.tabOf []) good foll (Abs.tabOf_ok _ (fun _ h=>by cases h)) rfl (by intro v;kernel_rfl)
def l120_0_3(v:((Int×Int×Unit)×((Y23×Unit)×(Y2×Unit)×Unit))):Option (((Int×Int×Unit)×((Y23×Unit)×(Y2×Unit)×Unit))⊕(((Int×Int×Unit)×(Unit))⊕((Unit)×(Unit)))):=
bif (decide ((v.1.1:Int)≥0))then(Abs.rowAt v.2.1.1.2.1 v.1.1 fun e34 _=>
(m133 ((v.2.2.1.1,(e34,(v.1.2.1,()))),())).bind fun u35=>
((bif (decide ((u35.1.1:Int)≥0))then((m134 ((v.2.1.1,(u35.1.1,(v.1.2.1,()))),())).bind fun u36=>
some (((!u36.1.1),(u35.1.1,(v.1.1,(v.1.2.1,())))),((v.2.1.1,()),((v.2.2.1.1,()),()))))
else(some ((false,(u35.1.1,(v.1.1,(v.1.2.1,())))),((v.2.1.1,()),((v.2.2.1.1,()),()))))):Option ((Bool×Int×Int×Int×Unit)×((Y23×Unit)×(Y2×Unit)×Unit))).bind fun v37=>
bif v37.1.1 then(some (.inr (.inl ((v37.1.2.2.1,(v37.1.2.1,())),()))))
else(some (.inl (((w64 (v37.1.2.2.1-1)),(v37.1.2.2.2.1,())),((v37.2.1.1,()),((v37.2.2.1.1,()),()))))))
else(some (.inr (.inr ((),()))))
def i120:Abs.Sg:=⟨[0,1,2],(.dat Z1 Qs6),.nil⟩
def o120:Abs.Sg:=⟨[6,7],Qs6,.nil⟩
def m120(v:((Y2×Int×Int×Unit)×(Unit))):Option ((Int×Int×Unit)×(Unit)):=
Abs.rowAt v.1.1.2.2.2.1 v.1.2.1 fun e33 _=>
(loopT l120_0_3 (((w64 ((e33.2.1.length:Int)-1)),(v.1.2.2.1,())),((e33,()),((v.1.1,()),())))).bind fun d38=>
sumE d38 (fun d39=>(some ((d39.1.1,(d39.1.2.1,())),()))) (fun d40=>(some (((-1),((-1),())),())))
def sp120:Abs.Spec:=⟨0,i120,o120,m120⟩
def an120:Nat→Abs.FAn
  | 0=>Abs.FAn.mk (fun
    |6=>some ⟨[40,10,9,2,8,3],(.dat .bool (.dat (.int .i64) (.dat (.int .i64) (.dat (.int .i64) (.st Qx21 (.st Qx27 .nil)))))),(.box 3 (.dat Z27 .nil) (.box 4 Qs32 .nil))⟩
    |_=>none) (fun _=>none) (fun
    |3=>some ⟨⟨[9,2,8,3],(.dat (.int .i64) (.dat (.int .i64) (.st Qx21 (.st Qx27 .nil)))),(.box 3 (.dat Z27 .nil) (.box 4 Qs32 .nil))⟩,(.more .ret ⟨[6,7],Qs6,.nil⟩ (.one (.exit 0) ⟨[],.nil,.nil⟩))⟩
    |_=>none) (fun _ _=>0)
  |_=>{}
theorem ok120:Abs.SpecOK Tryz.prog 120 sp120:=
  Abs.specOK_of (n:=12) (an:=an120) (T:=Abs.tabOf [(133,sp133),(134,sp134)]) good foll (Abs.tabOf_ok _ (by simp only[List.forall_mem_cons];exact⟨ok133,ok134,fun _ h=>by cases h⟩)) rfl (by intro v;kernel_rfl)
def l121_0_2(v:((Int×Int×Int×(List Y31)×Unit)×(Unit))):Option (((Int×Int×Int×(List Y31)×Unit)×(Unit))⊕((Int×Unit)×(Unit))):=
let x32:=(decide ((v.1.1:Int)<(v.1.2.2.2.1.length:Int)))
bif x32 then(((Abs.rowAt v.1.2.2.2.1 v.1.1 fun e33 _=>
((bif (decide ((v.1.2.2.1:Int)<e33.2.2.2.1))then(some ((true,(v.1.2.1,(v.1.2.2.1,(v.1.2.2.2.1,(v.1.1,()))))),((e33,()),())))
else(some (((decide ((v.1.2.2.1:Int)≥e33.2.2.2.2.1)),(v.1.2.1,(v.1.2.2.1,(v.1.2.2.2.1,(v.1.1,()))))),((e33,()),())))):Option ((Bool×Int×Int×(List Y31)×Int×Unit)×((Y31×Unit)×Unit))).bind fun v34=>
bif v34.1.1 then(some ((v34.1.2.1,(v34.1.2.2.1,(v34.1.2.2.2.1,(v34.1.2.2.2.2.1,())))),()))
else(bif ((v34.2.1.1.1:Int)==1)then(some ((v34.2.1.1.2.1,(v34.1.2.2.1,(v34.1.2.2.2.1,(v34.1.2.2.2.2.1,())))),()))
else(((bif ((v34.2.1.1.1:Int)==2)then(some ((((v34.1.2.1:Int)==v34.2.1.1.2.1),(v34.1.2.2.1,(v34.1.2.2.2.1,(v34.1.2.2.2.2.1,(v34.1.2.1,()))))),((v34.2.1.1,()),())))
else(some ((false,(v34.1.2.2.1,(v34.1.2.2.2.1,(v34.1.2.2.2.2.1,(v34.1.2.1,()))))),((v34.2.1.1,()),())))):Option ((Bool×Int×(List Y31)×Int×Int×Unit)×((Y31×Unit)×Unit))).bind fun v35=>
bif v35.1.1 then(some ((v35.2.1.1.2.2.1,(v35.1.2.1,(v35.1.2.2.1,(v35.1.2.2.2.1,())))),()))
else(((bif ((v35.2.1.1.1:Int)==2)then(some ((((v35.1.2.2.2.2.1:Int)==v35.2.1.1.2.2.1),(v35.1.2.1,(v35.1.2.2.1,(v35.1.2.2.2.1,(v35.1.2.2.2.2.1,()))))),((v35.2.1.1,()),())))
else(some ((false,(v35.1.2.1,(v35.1.2.2.1,(v35.1.2.2.2.1,(v35.1.2.2.2.2.1,()))))),((v35.2.1.1,()),())))):Option ((Bool×Int×(List Y31)×Int×Int×Unit)×((Y31×Unit)×Unit))).bind fun v36=>
bif v36.1.1 then(some ((v36.2.1.1.2.1,(v36.1.2.1,(v36.1.2.2.1,(v36.1.2.2.2.1,())))),()))
else(some ((v36.1.2.2.2.2.1,(v36.1.2.1,(v36.1.2.2.1,(v36.1.2.2.2.1,())))),())))))):Option ((Int×Int×(List Y31)×Int×Unit)×(Unit))).bind fun v37=>
some (.inl (((w64 (v37.1.2.2.2.1+1)),(v37.1.1,(v37.1.2.1,(v37.1.2.2.1,())))),())))
else(some (.inr ((v.1.2.1,()),())))
def i121:Abs.Sg:=⟨[0,1,2],(.dat (.row (.cons (.int .i64) Z8)) Qs6),.nil⟩
def o121:Abs.Sg:=⟨[6],Qs2,.nil⟩
def m121(v:(((List Y31)×Int×Int×Unit)×(Unit))):Option ((Int×Unit)×(Unit)):=
(loopT l121_0_2 ((0,(v.1.2.1,(v.1.2.2.1,(v.1.1,())))),())).bind fun d38=>
some ((d38.1.1,()),())
def sp121:Abs.Spec:=⟨0,i121,o121,m121⟩
def an121:Nat→Abs.FAn
  | 0=>Abs.FAn.mk (fun
    |10=>some ⟨[48,2,0,7,8,1],(.dat .bool (.dat (.int .i64) (.dat (.row (.cons (.int .i64) Z8)) (.dat (.int .i64) (.st (.ptr (0,0) 5 0 0) Qs2))))),Qb24⟩
    |8=>some ⟨[36,2,0,7,8,1],(.dat .bool (.dat (.int .i64) (.dat (.row (.cons (.int .i64) Z8)) (.dat (.int .i64) (.st (.ptr (0,0) 5 0 0) Qs2))))),Qb24⟩
    |5=>some ⟨[19,1,2,0,7,8],(.dat .bool (.dat (.int .i64) (.dat (.int .i64) (.dat (.row (.cons (.int .i64) Z8)) (.dat (.int .i64) (.st (.ptr (0,0) 5 0 0) .nil)))))),Qb24⟩
    |_=>none) (fun
    |3=>some (⟨[1,2,0,7],(.dat (.int .i64) (.dat (.int .i64) (.dat (.row (.cons (.int .i64) Z8)) Qs2))),.nil⟩,none)
    |_=>none) (fun
    |2=>some ⟨⟨[7,1,2,0],(.dat (.int .i64) (.dat (.int .i64) (.dat (.int .i64) (.dat (.row (.cons (.int .i64) Z8)) .nil)))),.nil⟩,(.one (.exit 0) ⟨[1],Qs2,.nil⟩)⟩
    |_=>none) (fun _ _=>0)
  |_=>{}
theorem ok121:Abs.SpecOK Tryz.prog 121 sp121:=
  Abs.specOK_of (n:=12) (an:=an121) (T:=Abs.tabOf []) good foll (Abs.tabOf_ok _ (fun _ h=>by cases h)) rfl (by intro v;kernel_rfl)
def i112:Abs.Sg:=⟨[0,1,2],(.dat Z1 Qs6),.nil⟩
def o112:Abs.Sg:=⟨[6],Qs2,.nil⟩
def m112(v:((Y2×Int×Int×Unit)×(Unit))):Option ((Int×Unit)×(Unit)):=
(m120 ((v.1.1,(v.1.2.1,(v.1.2.2.1,()))),())).bind fun u7=>
Abs.rowAt v.1.1.2.2.2.1 v.1.2.1 fun e8 _=>
(m121 ((e8.2.2.1,(u7.1.2.1,(v.1.2.2.1,()))),())).bind fun u9=>
some ((u9.1.1,()),())
def sp112:Abs.Spec:=⟨0,i112,o112,m112⟩
def an112:Nat→Abs.FAn
  |_=>{}
theorem ok112:Abs.SpecOK Tryz.prog 112 sp112:=
  Abs.specOK_of (n:=12) (an:=an112) (T:=Abs.tabOf [(120,sp120),(121,sp121)]) good foll (Abs.tabOf_ok _ (by simp only[List.forall_mem_cons];exact⟨ok120,ok121,fun _ h=>by cases h⟩)) rfl (by intro v;kernel_rfl)
def i100:Abs.Sg:=⟨[0,1,2],(.dat Z1 Qs6),.nil⟩
def o100:Abs.Sg:=⟨[6],Qs2,.nil⟩
def m100(v:((Y2×Int×Int×Unit)×(Unit))):Option ((Int×Unit)×(Unit)):=
(m111 ((v.1.1,(v.1.2.1,(v.1.2.2.1,()))),())).bind fun u6=>
bif (!u6.1.1)then(some (((-1),()),()))
else((m112 ((v.1.1,(v.1.2.1,(v.1.2.2.1,()))),())).bind fun u7=>
some ((u7.1.1,()),()))
def sp100:Abs.Spec:=⟨0,i100,o100,m100⟩
def an100:Nat→Abs.FAn
  |_=>{}
theorem ok100:Abs.SpecOK Tryz.prog 100 sp100:=
  Abs.specOK_of (n:=12) (an:=an100) (T:=Abs.tabOf [(111,sp111),(112,sp112)]) good foll (Abs.tabOf_ok _ (by simp only[List.forall_mem_cons];exact⟨ok111,ok112,fun _ h=>by cases h⟩)) rfl (by intro v;kernel_rfl)
def i80:Abs.Sg:=⟨[0,1,2],(.dat Z1 Qs6),.nil⟩
def o80:Abs.Sg:=⟨[6],Qs2,.nil⟩
def m80(v:((Y2×Int×Int×Unit)×(Unit))):Option ((Int×Unit)×(Unit)):=
(m100 ((v.1.1,(v.1.2.1,(v.1.2.2.1,()))),())).bind fun u2=>
some ((u2.1.1,()),())
def sp80:Abs.Spec:=⟨0,i80,o80,m80⟩
def an80:Nat→Abs.FAn
  |_=>{}
theorem ok80:Abs.SpecOK Tryz.prog 80 sp80:=
  Abs.specOK_of (n:=12) (an:=an80) (T:=Abs.tabOf [(100,sp100)]) good foll (Abs.tabOf_ok _ (by simp only[List.forall_mem_cons];exact⟨ok100,fun _ h=>by cases h⟩)) rfl (by intro v;kernel_rfl)
def l54_0_14(v:((Int×Int×Y22×Int×Unit)×(Y33×(Y18×Unit)×(List Int)×(Y2×Unit)×Unit))):Option (((Int×Int×Y22×Int×Unit)×(Y33×(Y18×Unit)×(List Int)×(Y2×Unit)×Unit))⊕((Int×Y22×Int×Unit)×((List Int)×(Y2×Unit)×(Y18×Unit)×Unit))):=
Abs.rowAt v.2.2.1.1.1 v.2.1.1.2.1 fun e146 _=>
let x147:=(decide ((v.1.1:Int)<(e146.2.1.length:Int)))
bif x147 then(((Abs.rowAt v.2.2.1.1.1 v.2.1.1.2.1 fun e148 _=>
Abs.rowAt e148.2.1 v.1.1 fun e149 _=>
(m56 ((e149,(0,((w64 ((v.2.2.2.2.1.1.2.1.length:Int)-1)),()))),())).bind fun u150=>
bif u150.1.1 then(Abs.rowAt v.2.2.1.1.1 v.2.1.1.2.1 fun e151 _=>
Abs.rowAt e151.2.1 v.1.1 fun e152 _=>
(m50 ((v.2.2.2.1,(e152,())),())).bind fun u153=>
some ((v.1.2.1,(v.1.2.2.1,(v.1.2.2.2.1,(v.1.1,())))),((v.2.1.1,()),((v.2.2.1.1,()),(u153.2.1,((v.2.2.2.2.1.1,()),()))))))
else(some ((v.1.2.1,(v.1.2.2.1,(v.1.2.2.2.1,(v.1.1,())))),((v.2.1.1,()),((v.2.2.1.1,()),(v.2.2.2.1,((v.2.2.2.2.1.1,()),()))))))):Option ((Int×Y22×Int×Int×Unit)×(Y33×(Y18×Unit)×(List Int)×(Y2×Unit)×Unit))).bind fun v154=>
some (.inl (((w64 (v154.1.2.2.2.1+1)),(v154.1.1,(v154.1.2.1,(v154.1.2.2.1,())))),((v154.2.1.1,()),((v154.2.2.1.1,()),(v154.2.2.2.1,((v154.2.2.2.2.1.1,()),())))))))
else(some (.inr ((v.1.2.1,(v.1.2.2.1,(v.1.2.2.2.1,()))),(v.2.2.2.1,((v.2.2.2.2.1.1,()),((v.2.2.1.1,()),()))))))
def l54_0_3(v:((Int×Int×Y22×Unit)×((List Int)×(Y2×Unit)×(Y18×Unit)×Unit))):Option (((Int×Int×Y22×Unit)×((List Int)×(Y2×Unit)×(Y18×Unit)×Unit))⊕((Unit)×((List Int)×Unit))):=
let x135:=(decide ((v.1.1:Int)<(v.1.2.2.1.length:Int)))
bif x135 then(((Abs.rowAt v.1.2.2.1 v.1.1 fun e136 _=>
((bif ((e136.1:Int)==0)then((m56 ((e136.2.1,(0,((w64 ((v.2.2.1.1.2.1.length:Int)-1)),()))),())).bind fun u137=>
some ((u137.1.1,(v.1.2.1,(v.1.2.2.1,(v.1.1,())))),((v.2.2.1.1,()),((v.2.2.2.1.1,()),((e136,()),(v.2.1,()))))))
else(some ((false,(v.1.2.1,(v.1.2.2.1,(v.1.1,())))),((v.2.2.1.1,()),((v.2.2.2.1.1,()),((e136,()),(v.2.1,()))))))):Option ((Bool×Int×Y22×Int×Unit)×((Y2×Unit)×(Y18×Unit)×Y33×(List Int)×Unit))).bind fun v138=>
bif v138.1.1 then((m50 ((v138.2.2.2.2.1,(v138.2.2.2.1.1.2.1,())),())).bind fun u139=>
some ((v138.1.2.1,(v138.1.2.2.1,(v138.1.2.2.2.1,()))),(u139.2.1,((v138.2.1.1,()),((v138.2.2.1.1,()),())))))
else(((bif ((v138.2.2.2.1.1.1:Int)==1)then((m56 ((v138.2.2.2.1.1.2.1,(0,((w64 ((v138.2.1.1.2.2.2.1.length:Int)-1)),()))),())).bind fun u140=>
some ((u140.1.1,(v138.1.2.1,(v138.1.2.2.1,(v138.1.2.2.2.1,())))),((v138.2.1.1,()),((v138.2.2.1.1,()),(v138.2.2.2.2.1,((v138.2.2.2.1.1,()),()))))))
else(some ((false,(v138.1.2.1,(v138.1.2.2.1,(v138.1.2.2.2.1,())))),((v138.2.1.1,()),((v138.2.2.1.1,()),(v138.2.2.2.2.1,((v138.2.2.2.1.1,()),()))))))):Option ((Bool×Int×Y22×Int×Unit)×((Y2×Unit)×(Y18×Unit)×(List Int)×Y33×Unit))).bind fun v141=>
bif v141.1.1 then((m80 ((v141.2.1.1,(v141.2.2.2.2.1.1.2.1,(v141.1.2.1,()))),())).bind fun u142=>
bif (decide ((u142.1.1:Int)≥0))then((m50 ((v141.2.2.2.1,(u142.1.1,())),())).bind fun u143=>
some ((v141.1.2.1,(v141.1.2.2.1,(v141.1.2.2.2.1,()))),(u143.2.1,((v141.2.1.1,()),((v141.2.2.1.1,()),())))))
else(some ((v141.1.2.1,(v141.1.2.2.1,(v141.1.2.2.2.1,()))),(v141.2.2.2.1,((v141.2.1.1,()),((v141.2.2.1.1,()),()))))))
else(((bif ((v141.2.2.2.2.1.1.1:Int)==2)then((m56 ((v141.2.2.2.2.1.1.2.1,(0,((w64 ((v141.2.2.1.1.1.length:Int)-1)),()))),())).bind fun u144=>
some ((u144.1.1,(v141.1.2.1,(v141.1.2.2.1,(v141.1.2.2.2.1,())))),((v141.2.2.2.2.1.1,()),((v141.2.2.1.1,()),(v141.2.2.2.1,((v141.2.1.1,()),()))))))
else(some ((false,(v141.1.2.1,(v141.1.2.2.1,(v141.1.2.2.2.1,())))),((v141.2.2.2.2.1.1,()),((v141.2.2.1.1,()),(v141.2.2.2.1,((v141.2.1.1,()),()))))))):Option ((Bool×Int×Y22×Int×Unit)×(Y33×(Y18×Unit)×(List Int)×(Y2×Unit)×Unit))).bind fun v145=>
bif v145.1.1 then((loopT l54_0_14 ((0,(v145.1.2.1,(v145.1.2.2.1,(v145.1.2.2.2.1,())))),((v145.2.1.1,()),((v145.2.2.1.1,()),(v145.2.2.2.1,((v145.2.2.2.2.1.1,()),())))))).bind fun d155=>
some ((d155.1.1,(d155.1.2.1,(d155.1.2.2.1,()))),(d155.2.1,((d155.2.2.1.1,()),((d155.2.2.2.1.1,()),())))))
else(some ((v145.1.2.1,(v145.1.2.2.1,(v145.1.2.2.2.1,()))),(v145.2.2.2.1,((v145.2.2.2.2.1.1,()),((v145.2.2.1.1,()),())))))))):Option ((Int×Y22×Int×Unit)×((List Int)×(Y2×Unit)×(Y18×Unit)×Unit))).bind fun v156=>
some (.inl (((w64 (v156.1.2.2.1+1)),(v156.1.1,(v156.1.2.1,()))),(v156.2.1,((v156.2.2.1.1,()),((v156.2.2.2.1.1,()),()))))))
else(some (.inr ((),(v.2.1,()))))
def i54:Abs.Sg:=⟨[0,1,2,3],(.dat Z1 (.dat Z25 (.dat (.row Z3) Qs2))),.nil⟩
def o54:Abs.Sg:=⟨[8],(.st Qx22 .nil),Qb8⟩
def m54(v:((Y2×Y18×Y22×Int×Unit)×(Unit))):Option ((Unit)×((List Int)×Unit)):=
(loopT l54_0_3 ((0,(v.1.2.2.2.1,(v.1.2.2.1,()))),([],((v.1.1,()),((v.1.2.1,()),()))))).bind fun d157=>
some ((),(d157.2.1,()))
def sp54:Abs.Spec:=⟨0,i54,o54,m54⟩
def an54:Nat→Abs.FAn
  | 0=>Abs.FAn.mk (fun
    |12=>some ⟨[64,11,5,9,4,3,2,10],(.dat .bool (.st Qx7 (.st Qx15 (.st (.own (.int .i64) (2,0)) (.st Qx39 (.dat (.int .i64) (.dat (.row Z3) Qs2))))))),(.box 2 Qs44 (.box 2 Qs30 (.arr (.int .i64) false (.box 4 Qs32 .nil))))⟩
    |8=>some ⟨[41,3,4,5,2,10,9,11],(.dat .bool (.dat (.int .i64) (.st Qx48 (.st Qx15 (.dat (.row Z3) (.dat (.int .i64) (.st (.own (.int .i64) (2,0)) (.st (.ptr (3,0) 2 0 0) .nil)))))))),(.box 4 Qs32 (.box 2 Qs30 (.arr (.int .i64) false (.box 2 Qs44 .nil))))⟩
    |6=>some ⟨[24,3,4,5,2,10,11,9],(.dat .bool (.dat (.int .i64) (.st Qx48 (.st Qx15 (.dat (.row Z3) (.dat (.int .i64) (.st Qx18 (.st (.own (.int .i64) (3,0)) .nil)))))))),(.box 4 Qs32 (.box 2 Qs30 (.box 2 Qs44 Qb8)))⟩
    |_=>none) (fun
    |4=>some (⟨[9,3,4,5,2,10],(.st Qx22 (.dat (.int .i64) (.st Qx27 (.st Qx18 (.dat (.row Z3) Qs2))))),(.arr (.int .i64) false (.box 4 Qs32 (.box 2 Qs30 .nil)))⟩,none)
    |15=>some (⟨[11,5,9,4,3,2,10,13],(.st Qx7 (.st Qx15 (.st (.own (.int .i64) (2,0)) (.st Qx39 (.dat (.int .i64) (.dat (.row Z3) Qs6)))))),(.box 2 Qs44 (.box 2 Qs30 (.arr (.int .i64) false (.box 4 Qs32 .nil))))⟩,none)
    |_=>none) (fun
    |3=>some ⟨⟨[10,9,3,4,5,2],(.dat (.int .i64) (.st Qx22 (.dat (.int .i64) (.st Qx27 (.st Qx18 (.dat (.row Z3) .nil)))))),(.arr (.int .i64) false (.box 4 Qs32 (.box 2 Qs30 .nil)))⟩,(.one (.exit 0) ⟨[9],(.st Qx22 .nil),Qb8⟩)⟩
    |14=>some ⟨⟨[13,11,5,9,4,3,2,10],(.dat (.int .i64) (.st Qx7 (.st Qx15 (.st (.own (.int .i64) (2,0)) (.st Qx39 (.dat (.int .i64) (.dat (.row Z3) Qs2))))))),(.box 2 Qs44 (.box 2 Qs30 (.arr (.int .i64) false (.box 4 Qs32 .nil))))⟩,(.one (.exit 3) ⟨[9,3,4,5,2,10],(.st Qx22 (.dat (.int .i64) (.st Qx27 (.st Qx18 (.dat (.row Z3) Qs2))))),(.arr (.int .i64) false (.box 4 Qs32 (.box 2 Qs30 .nil)))⟩)⟩
    |_=>none) (fun _ _=>0)
  |_=>{}
theorem ok54:Abs.SpecOK Tryz.prog 54 sp54:=
  Abs.specOK_of (n:=12) (an:=an54) (T:=Abs.tabOf [(56,sp56),(50,sp50),(80,sp80)]) good foll (Abs.tabOf_ok _ (by simp only[List.forall_mem_cons];exact⟨ok56,ok50,ok80,fun _ h=>by cases h⟩)) rfl (by intro v;kernel_rfl)
def i102:Abs.Sg:=⟨[0,1],Qs6,.nil⟩
def o102:Abs.Sg:=⟨[4],Qs5,.nil⟩
def m102(v:((Int×Int×Unit)×(Unit))):Option Y24:=
((bif (decide ((v.1.1:Int)≥0))then(bif (decide ((v.1.1:Int)≤8589934592))then(bif (decide ((v.1.2.1:Int)≥v.1.1))then(bif (decide ((v.1.2.1:Int)≤8589934592))then(let x3:=(decide (((w64 (v.1.2.1-v.1.1)):Int)≤34560000))
some ((x3,()),()))
else(some ((false,()),())))
else(some ((false,()),())))
else(some ((false,()),())))
else(some ((false,()),()))):Option Y24).bind fun v4=>
some ((v4.1.1,()),())
def sp102:Abs.Spec:=⟨0,i102,o102,m102⟩
def an102:Nat→Abs.FAn
  | 0=>Abs.FAn.mk (fun
    |1=>some ⟨[4],Qs5,.nil⟩
    |_=>none) (fun _=>none) (fun _=>none) (fun _ _=>0)
  |_=>{}
theorem ok102:Abs.SpecOK Tryz.prog 102 sp102:=
  Abs.specOK_of (n:=12) (an:=an102) (T:=Abs.tabOf []) good foll (Abs.tabOf_ok _ (fun _ h=>by cases h)) rfl (by intro v;kernel_rfl)
def i81:Abs.Sg:=⟨[0,1,2,3],(.dat Z1 Qs23),.nil⟩
def o81:Abs.Sg:=⟨[8],Qs2,.nil⟩
def m81(v:((Y2×Int×Int×Int×Unit)×(Unit))):Option ((Int×Unit)×(Unit)):=
(m101 ((v.1.1,()),())).bind fun u15=>
bif ((u15.1.1:Int) !=0)then(some ((8,()),()))
else(((bif (decide ((v.1.2.1:Int)<0))then(some ((true,(v.1.2.2.2.1,(v.1.2.2.1,()))),()))
else(let x16:=(decide ((v.1.2.1:Int)≥(v.1.1.2.1.length:Int)))
some ((x16,(v.1.2.2.2.1,(v.1.2.2.1,()))),()))):Option ((Bool×Int×Int×Unit)×(Unit))).bind fun v17=>
bif v17.1.1 then(some ((3,()),()))
else((m102 ((v17.1.2.2.1,(v17.1.2.1,())),())).bind fun u18=>
bif (!u18.1.1)then(some ((1,()),()))
else(some ((0,()),()))))
def sp81:Abs.Spec:=⟨0,i81,o81,m81⟩
def an81:Nat→Abs.FAn
  | 0=>Abs.FAn.mk (fun
    |3=>some ⟨[13,3,2],(.dat .bool Qs6),.nil⟩
    |_=>none) (fun _=>none) (fun _=>none) (fun _ _=>0)
  |_=>{}
theorem ok81:Abs.SpecOK Tryz.prog 81 sp81:=
  Abs.specOK_of (n:=12) (an:=an81) (T:=Abs.tabOf [(101,sp101),(102,sp102)]) good foll (Abs.tabOf_ok _ (by simp only[List.forall_mem_cons];exact⟨ok101,ok102,fun _ h=>by cases h⟩)) rfl (by intro v;kernel_rfl)
def i55:Abs.Sg:=⟨[0,1,2,3],(.dat Z1 (.dat (.int .i64) Qs28)),.nil⟩
def o55:Abs.Sg:=⟨[8],Qs5,.nil⟩
def m55(v:((Y2×Int×Int×Bool×Unit)×(Unit))):Option Y24:=
(m81 ((v.1.1,(v.1.2.1,(v.1.2.2.1,(v.1.2.2.1,())))),())).bind fun u12=>
bif ((u12.1.1:Int) !=0)then(some ((false,()),()))
else(Abs.rowAt v.1.1.2.1 v.1.2.1 fun e13 _=>
((Abs.rowAt v.1.1.1 e13.2.1 fun e14 _=>
(m82 ((e14,(e13.2.2.1,(v.1.2.2.1,()))),())).bind fun u15=>
bif (!u15.1.1)then(some ((true,()),()))
else(bif v.1.2.2.2.1 then(some ((e13.2.2.2.2.2.1,()),()))
else(some ((false,()),())))):Option Y24).bind fun v16=>
some ((v16.1.1,()),()))
def sp55:Abs.Spec:=⟨0,i55,o55,m55⟩
def an55:Nat→Abs.FAn
  | 0=>Abs.FAn.mk (fun
    |4=>some ⟨[8],Qs5,.nil⟩
    |_=>none) (fun _=>none) (fun _=>none) (fun _ _=>0)
  |_=>{}
theorem ok55:Abs.SpecOK Tryz.prog 55 sp55:=
  Abs.specOK_of (n:=12) (an:=an55) (T:=Abs.tabOf [(81,sp81),(82,sp82)]) good foll (Abs.tabOf_ok _ (by simp only[List.forall_mem_cons];exact⟨ok81,ok82,fun _ h=>by cases h⟩)) rfl (by intro v;kernel_rfl)
def l18_0_21(v:(Y35×(Y33×(List Int)×(Y6×Unit)×(Y2×Unit)×Y13×Y13×(Y7×Unit)×(List Int)×(List Y26)×(List Int)×(List Int)×Unit))):Option ((Y35×(Y33×(List Int)×(Y6×Unit)×(Y2×Unit)×Y13×Y13×(Y7×Unit)×(List Int)×(List Y26)×(List Int)×(List Int)×Unit))⊕((Int×Unit)×(Y13×Y13×(Y6×Unit)×Y33×(Y7×Unit)×(List Y26)×(List Int)×(List Int)×(List Int)×Unit))):=
let x103:=(decide ((v.1.1:Int)<((v.2.2.1.length:Nat):Int)))
bif x103 then(((bif (decide ((0:Int)≤v.1.1∧(v.1.1:Int)<v.2.2.1.length))then
(v.2.2.1[v.1.1.toNat]?).bind fun e104=>
Abs.rowAt v.2.2.2.1.1.2.1 v.1.2.1 fun e105 _=>
(m55 ((v.2.2.2.2.1.1,(e104,(v.1.2.2.1,(e105.2.1,())))),())).bind fun u106=>
bif u106.1.1 then(bif (decide ((0:Int)≤v.1.1∧(v.1.1:Int)<v.2.2.1.length))then
(v.2.2.1[v.1.1.toNat]?).bind fun e107=>
bif (decide (v.2.2.2.2.2.2.2.2.1.length+ [e107].length≤4294967296))then
some ((v.1.2.1,(v.1.2.2.1,(v.1.1,()))),(((v.2.1.1.1,(v.2.1.1.2.1,())),()),(v.2.2.1,((v.2.2.2.1.1,()),((v.2.2.2.2.1.1,()),(((v.2.2.2.2.2.1.1.1,(v.2.2.2.2.2.1.1.2.1,(v.2.2.2.2.2.1.1.2.2.1,(v.2.2.2.2.2.1.1.2.2.2.1,(v.2.2.2.2.2.1.1.2.2.2.2.1,(v.2.2.2.2.2.1.1.2.2.2.2.2.1,(v.2.2.2.2.2.1.1.2.2.2.2.2.2.1,(v.2.2.2.2.2.1.1.2.2.2.2.2.2.2.1,(v.2.2.2.2.2.1.1.2.2.2.2.2.2.2.2.1,(v.2.2.2.2.2.1.1.2.2.2.2.2.2.2.2.2.1,(v.2.2.2.2.2.1.1.2.2.2.2.2.2.2.2.2.2.1,()))))))))))),()),(((v.2.2.2.2.2.2.1.1.1,(v.2.2.2.2.2.2.1.1.2.1,(v.2.2.2.2.2.2.1.1.2.2.1,(v.2.2.2.2.2.2.1.1.2.2.2.1,(v.2.2.2.2.2.2.1.1.2.2.2.2.1,(v.2.2.2.2.2.2.1.1.2.2.2.2.2.1,(v.2.2.2.2.2.2.1.1.2.2.2.2.2.2.1,(v.2.2.2.2.2.2.1.1.2.2.2.2.2.2.2.1,(v.2.2.2.2.2.2.1.1.2.2.2.2.2.2.2.2.1,(v.2.2.2.2.2.2.1.1.2.2.2.2.2.2.2.2.2.1,(v.2.2.2.2.2.2.1.1.2.2.2.2.2.2.2.2.2.2.1,()))))))))))),()),((v.2.2.2.2.2.2.2.1.1,()),((v.2.2.2.2.2.2.2.2.1++ [e107]),(v.2.2.2.2.2.2.2.2.2.1,(v.2.2.2.2.2.2.2.2.2.2.1,(v.2.2.2.2.2.2.2.2.2.2.2.1,()))))))))))))
else none
else none)
else(some ((v.1.2.1,(v.1.2.2.1,(v.1.1,()))),(((v.2.1.1.1,(v.2.1.1.2.1,())),()),(v.2.2.1,((v.2.2.2.1.1,()),((v.2.2.2.2.1.1,()),(((v.2.2.2.2.2.1.1.1,(v.2.2.2.2.2.1.1.2.1,(v.2.2.2.2.2.1.1.2.2.1,(v.2.2.2.2.2.1.1.2.2.2.1,(v.2.2.2.2.2.1.1.2.2.2.2.1,(v.2.2.2.2.2.1.1.2.2.2.2.2.1,(v.2.2.2.2.2.1.1.2.2.2.2.2.2.1,(v.2.2.2.2.2.1.1.2.2.2.2.2.2.2.1,(v.2.2.2.2.2.1.1.2.2.2.2.2.2.2.2.1,(v.2.2.2.2.2.1.1.2.2.2.2.2.2.2.2.2.1,(v.2.2.2.2.2.1.1.2.2.2.2.2.2.2.2.2.2.1,()))))))))))),()),(((v.2.2.2.2.2.2.1.1.1,(v.2.2.2.2.2.2.1.1.2.1,(v.2.2.2.2.2.2.1.1.2.2.1,(v.2.2.2.2.2.2.1.1.2.2.2.1,(v.2.2.2.2.2.2.1.1.2.2.2.2.1,(v.2.2.2.2.2.2.1.1.2.2.2.2.2.1,(v.2.2.2.2.2.2.1.1.2.2.2.2.2.2.1,(v.2.2.2.2.2.2.1.1.2.2.2.2.2.2.2.1,(v.2.2.2.2.2.2.1.1.2.2.2.2.2.2.2.2.1,(v.2.2.2.2.2.2.1.1.2.2.2.2.2.2.2.2.2.1,(v.2.2.2.2.2.2.1.1.2.2.2.2.2.2.2.2.2.2.1,()))))))))))),()),((v.2.2.2.2.2.2.2.1.1,()),(v.2.2.2.2.2.2.2.2.1,(v.2.2.2.2.2.2.2.2.2.1,(v.2.2.2.2.2.2.2.2.2.2.1,(v.2.2.2.2.2.2.2.2.2.2.2.1,())))))))))))))
else none):Option (Y35×(Y33×(List Int)×(Y6×Unit)×(Y2×Unit)×Y13×Y13×(Y7×Unit)×(List Int)×(List Y26)×(List Int)×(List Int)×Unit))).bind fun v108=>
some (.inl (((w64 (v108.1.2.2.1+1)),(v108.1.1,(v108.1.2.1,()))),(((v108.2.1.1.1,(v108.2.1.1.2.1,())),()),(v108.2.2.1,((v108.2.2.2.1.1,()),((v108.2.2.2.2.1.1,()),(((v108.2.2.2.2.2.1.1.1,(v108.2.2.2.2.2.1.1.2.1,(v108.2.2.2.2.2.1.1.2.2.1,(v108.2.2.2.2.2.1.1.2.2.2.1,(v108.2.2.2.2.2.1.1.2.2.2.2.1,(v108.2.2.2.2.2.1.1.2.2.2.2.2.1,(v108.2.2.2.2.2.1.1.2.2.2.2.2.2.1,(v108.2.2.2.2.2.1.1.2.2.2.2.2.2.2.1,(v108.2.2.2.2.2.1.1.2.2.2.2.2.2.2.2.1,(v108.2.2.2.2.2.1.1.2.2.2.2.2.2.2.2.2.1,(v108.2.2.2.2.2.1.1.2.2.2.2.2.2.2.2.2.2.1,()))))))))))),()),(((v108.2.2.2.2.2.2.1.1.1,(v108.2.2.2.2.2.2.1.1.2.1,(v108.2.2.2.2.2.2.1.1.2.2.1,(v108.2.2.2.2.2.2.1.1.2.2.2.1,(v108.2.2.2.2.2.2.1.1.2.2.2.2.1,(v108.2.2.2.2.2.2.1.1.2.2.2.2.2.1,(v108.2.2.2.2.2.2.1.1.2.2.2.2.2.2.1,(v108.2.2.2.2.2.2.1.1.2.2.2.2.2.2.2.1,(v108.2.2.2.2.2.2.1.1.2.2.2.2.2.2.2.2.1,(v108.2.2.2.2.2.2.1.1.2.2.2.2.2.2.2.2.2.1,(v108.2.2.2.2.2.2.1.1.2.2.2.2.2.2.2.2.2.2.1,()))))))))))),()),((v108.2.2.2.2.2.2.2.1.1,()),(v108.2.2.2.2.2.2.2.2.1,(v108.2.2.2.2.2.2.2.2.2.1,(v108.2.2.2.2.2.2.2.2.2.2.1,(v108.2.2.2.2.2.2.2.2.2.2.2.1,()))))))))))))))
else(some (.inr ((v.1.2.1,()),(((v.2.2.2.2.2.1.1.1,(v.2.2.2.2.2.1.1.2.1,(v.2.2.2.2.2.1.1.2.2.1,(v.2.2.2.2.2.1.1.2.2.2.1,(v.2.2.2.2.2.1.1.2.2.2.2.1,(v.2.2.2.2.2.1.1.2.2.2.2.2.1,(v.2.2.2.2.2.1.1.2.2.2.2.2.2.1,(v.2.2.2.2.2.1.1.2.2.2.2.2.2.2.1,(v.2.2.2.2.2.1.1.2.2.2.2.2.2.2.2.1,(v.2.2.2.2.2.1.1.2.2.2.2.2.2.2.2.2.1,(v.2.2.2.2.2.1.1.2.2.2.2.2.2.2.2.2.2.1,()))))))))))),()),(((v.2.2.2.2.2.2.1.1.1,(v.2.2.2.2.2.2.1.1.2.1,(v.2.2.2.2.2.2.1.1.2.2.1,(v.2.2.2.2.2.2.1.1.2.2.2.1,(v.2.2.2.2.2.2.1.1.2.2.2.2.1,(v.2.2.2.2.2.2.1.1.2.2.2.2.2.1,(v.2.2.2.2.2.2.1.1.2.2.2.2.2.2.1,(v.2.2.2.2.2.2.1.1.2.2.2.2.2.2.2.1,(v.2.2.2.2.2.2.1.1.2.2.2.2.2.2.2.2.1,(v.2.2.2.2.2.2.1.1.2.2.2.2.2.2.2.2.2.1,(v.2.2.2.2.2.2.1.1.2.2.2.2.2.2.2.2.2.2.1,()))))))))))),()),((v.2.2.2.1.1,()),(((v.2.1.1.1,(v.2.1.1.2.1,())),()),((v.2.2.2.2.2.2.2.1.1,()),(v.2.2.2.2.2.2.2.2.2.1,(v.2.2.2.2.2.2.2.2.2.2.1,(v.2.2.2.2.2.2.2.2.2.2.2.1,(v.2.2.2.2.2.2.2.2.1,()))))))))))))
def i18:Abs.Sg:=⟨[0,1,2],(.dat Z1 (.dat Z25 Qs19)),.nil⟩
def o18:Abs.Sg:=⟨[6,7],(.st Qx13 Qs2),Qb4⟩
def m18(v:((Y2×Y18×Y7×Unit)×(Unit))):Option ((Int×Unit)×(Y13×(List Y26)×(List Int)×(List Int)×Unit)):=
(m43 ((v.1.2.1,(v.1.2.2.1,())),())).bind fun u94=>
bif (!u94.1.1)then(some ((8,()),(((0,(0,(0,(0,(0,(0,(0,(0,(0,(0,(0,()))))))))))),()),([],([],([],()))))))
else((m45 ((v.1.2.2.1,()),())).bind fun u95=>
bif (!u95.1.2.1)then(some ((9,()),(((0,(0,(0,(0,(0,(0,(0,(0,(0,(0,(0,()))))))))))),()),([],([],([],()))))))
else(let x96:=(decide (((v.1.2.2.1.2.2.2.2.2.2.2.2.2.2.2.1.length:Int):Int)≥200))
bif x96 then(some ((5,()),(((0,(0,(0,(0,(0,(0,(0,(0,(0,(0,(0,()))))))))))),()),([],([],([],()))))))
else((m44 ((v.1.2.2.1,()),())).bind fun u97=>
let x98:=(if(v.1.2.2.1.2.2.2.2.2.2.2.2.1:Int)>u95.1.1 then v.1.2.2.1.2.2.2.2.2.2.2.2.1 else u95.1.1)
bif ((v.1.2.2.1.2.2.2.2.2.1:Int)==2)then(some ((0,()),(((u97.2.1.1.1,(u97.2.1.1.2.1,(u97.2.1.1.2.2.1,(u97.2.1.1.2.2.2.1,(u95.1.1,(0,(u97.2.1.1.2.2.2.2.2.2.1,(u97.2.1.1.2.2.2.2.2.2.2.1,(x98,(u97.2.1.1.2.2.2.2.2.2.2.2.2.1,(u97.2.1.1.2.2.2.2.2.2.2.2.2.2.1,()))))))))))),()),(u97.2.2.1,(u97.2.2.2.1,(u97.2.2.2.2.1,()))))))
else(Abs.rowAt v.1.2.1.2.1 v.1.2.2.1.2.1 fun e99 _=>
(m53 ((e99,(v.1.2.2.1.2.2.2.1,())),())).bind fun u100=>
bif (!u100.1.2.2.1)then(some ((0,()),(((u97.2.1.1.1,(u97.2.1.1.2.1,(u97.2.1.1.2.2.1,(u97.2.1.1.2.2.2.1,(u97.2.1.1.2.2.2.2.1,(3,(u97.2.1.1.2.2.2.2.2.2.1,(u97.2.1.1.2.2.2.2.2.2.2.1,(x98,(u97.2.1.1.2.2.2.2.2.2.2.2.2.1,(u97.2.1.1.2.2.2.2.2.2.2.2.2.2.1,()))))))))))),()),(u97.2.2.1,(u97.2.2.2.1,(u97.2.2.2.2.1,()))))))
else(Abs.rowAt e99.2.1 u100.1.1 fun e101 _=>
(m54 ((v.1.1,(v.1.2.1,(e101.2.2.1,(u95.1.1,())))),())).bind fun u102=>
(loopT l18_0_21 ((0,(u100.1.1,(u95.1.1,()))),(((v.1.2.2.1.2.2.2.1,(u95.1.1,())),()),(u102.2.1,((e99,()),((v.1.1,()),(((0,(0,(0,(0,(0,(0,(0,(0,(0,(0,(0,()))))))))))),()),(((u97.2.1.1.1,(u97.2.1.1.2.1,(u97.2.1.1.2.2.1,(u97.2.1.1.2.2.2.1,(u97.2.1.1.2.2.2.2.1,(u97.2.1.1.2.2.2.2.2.1,(u97.2.1.1.2.2.2.2.2.2.1,(u97.2.1.1.2.2.2.2.2.2.2.1,(x98,(u97.2.1.1.2.2.2.2.2.2.2.2.2.1,(u97.2.1.1.2.2.2.2.2.2.2.2.2.2.1,()))))))))))),()),((v.1.2.2.1,()),([],(u97.2.2.1,(u97.2.2.2.1,(u97.2.2.2.2.1,()))))))))))))).bind fun d109=>
bif (decide (d109.2.2.2.2.2.2.1.length+([(d109.2.2.2.2.1.1.1,(d109.2.2.2.2.1.1.2.1,(d109.2.2.2.2.2.2.2.2.2.1,())))]:List Y26).length≤4294967296))then
let x110:=(d109.2.2.2.2.2.2.1++([(d109.2.2.2.2.1.1.1,(d109.2.2.2.2.1.1.2.1,(d109.2.2.2.2.2.2.2.2.2.1,())))]:List Y26))
((let x111:=(decide ((((d109.2.2.2.2.2.2.2.2.2.1.length:Nat):Int):Int)>0))
bif x111 then(Abs.rowAt d109.2.2.2.1.1.2.1 d109.1.1 fun e112 _=>
some ((),(((d109.2.1.1.1,(d109.2.1.1.2.1,(d109.2.1.1.2.2.1,(d109.2.1.1.2.2.2.1,(d109.2.1.1.2.2.2.2.1,(d109.2.1.1.2.2.2.2.2.1,(d109.2.1.1.2.2.2.2.2.2.1,(d109.2.1.1.2.2.2.2.2.2.2.1,(d109.2.1.1.2.2.2.2.2.2.2.2.1,(d109.2.1.1.2.2.2.2.2.2.2.2.2.1,(d109.2.1.1.2.2.2.2.2.2.2.2.2.2.1,()))))))))))),()),(((d109.2.2.1.1.1,(d109.2.2.1.1.2.1,(d109.2.2.1.1.2.2.1,((w64 (d109.2.2.2.2.2.1.1.2.2.2.1+1)),((w64 (d109.2.2.1.1.2.2.2.2.1+e112.1)),(d109.2.2.1.1.2.2.2.2.2.1,(d109.2.2.1.1.2.2.2.2.2.2.1,(d109.2.2.1.1.2.2.2.2.2.2.2.1,(d109.2.2.1.1.2.2.2.2.2.2.2.2.1,(d109.2.2.1.1.2.2.2.2.2.2.2.2.2.1,(d109.2.2.1.1.2.2.2.2.2.2.2.2.2.2.1,()))))))))))),()),(x110,(d109.2.2.2.2.2.2.2.2.1,()))))))
else(some ((),(((d109.2.1.1.1,(d109.2.1.1.2.1,(d109.2.1.1.2.2.1,(d109.2.1.1.2.2.2.1,(d109.2.1.1.2.2.2.2.1,(d109.2.1.1.2.2.2.2.2.1,(d109.2.1.1.2.2.2.2.2.2.1,(d109.2.1.1.2.2.2.2.2.2.2.1,(d109.2.1.1.2.2.2.2.2.2.2.2.1,(d109.2.1.1.2.2.2.2.2.2.2.2.2.1,(d109.2.1.1.2.2.2.2.2.2.2.2.2.2.1,()))))))))))),()),(((d109.2.2.1.1.1,(d109.2.2.1.1.2.1,(d109.2.2.1.1.2.2.1,((w64 (d109.2.2.2.2.2.1.1.2.2.2.1+1)),(d109.2.2.1.1.2.2.2.2.1,(d109.2.2.1.1.2.2.2.2.2.1,(d109.2.2.1.1.2.2.2.2.2.2.1,(d109.2.2.1.1.2.2.2.2.2.2.2.1,(d109.2.2.1.1.2.2.2.2.2.2.2.2.1,(d109.2.2.1.1.2.2.2.2.2.2.2.2.2.1,(d109.2.2.1.1.2.2.2.2.2.2.2.2.2.2.1,()))))))))))),()),(x110,(d109.2.2.2.2.2.2.2.2.1,()))))))):Option ((Unit)×(Y13×Y13×(List Y26)×(List Int)×Unit))).bind fun v113=>
some ((0,()),(((v113.2.2.1.1.1,(v113.2.2.1.1.2.1,(v113.2.2.1.1.2.2.1,(v113.2.2.1.1.2.2.2.1,(v113.2.2.1.1.2.2.2.2.1,(v113.2.2.1.1.2.2.2.2.2.1,(v113.2.2.1.1.2.2.2.2.2.2.1,(v113.2.2.1.1.2.2.2.2.2.2.2.1,(v113.2.2.1.1.2.2.2.2.2.2.2.2.1,(v113.2.2.1.1.2.2.2.2.2.2.2.2.2.1,(v113.2.2.1.1.2.2.2.2.2.2.2.2.2.2.1,()))))))))))),()),(v113.2.2.2.1,([],(v113.2.2.2.2.1,())))))
else none)))))
def sp18:Abs.Spec:=⟨0,i18,o18,m18⟩
def an18:Nat→Abs.FAn
  | 0=>Abs.FAn.mk (fun _=>none) (fun
    |28=>some (⟨[6,10],(.st Qx13 (.st Qx25 .nil)),(.box 14 Qs1 (.box 14 (.agg (.dat (.int .i64) (.dat (.int .i64) (.dat (.int .i64) (.dat (.int .i64) (.dat (.int .i64) (.dat (.int .i64) (.dat (.int .i64) (.dat (.int .i64) (.dat (.int .i64) (.dat (.int .i64) (.dat (.int .i64) (.st (.own Z12 (2,0)) (.st .nil (.st (.own (.int .i64) (3,0)) .nil)))))))))))))) .nil) (.arr Z12 false Qb8)))⟩,none)
    |22=>some (⟨[15,16,12,11,8,3,6,10,5,17],(.st Qx21 (.st (.own (.int .i64) (1,0)) (.dat (.int .i64) (.st (.ptr (2,0) 3 0 0) (.dat (.int .i64) (.st Qx39 (.st Qx49 (.st (.ptr (5,0) 14 0 0) (.st (.ptr (6,0) 14 0 0) Qs2))))))))),(.box 3 (.agg (.dat (.int .i64) (.dat (.int .i64) (.st (.own (.int .i64) (7,0)) .nil))) .nil) (.arr (.int .i64) false (.box 3 Qs35 (.box 4 Qs32 (.box 14 Qs1 (.box 14 (.agg (.dat (.int .i64) (.dat (.int .i64) (.dat (.int .i64) (.dat (.int .i64) (.dat (.int .i64) (.dat (.int .i64) (.dat (.int .i64) (.dat (.int .i64) (.dat (.int .i64) (.dat (.int .i64) (.dat (.int .i64) (.st (.own Z12 (8,0)) (.st (.own (.int .i64) (9,0)) (.st (.own (.int .i64) (10,0)) .nil)))))))))))))) .nil) (.box 14 Qs19 (.arr (.int .i64) false Qb17))))))))⟩,none)
    |_=>none) (fun
    |21=>some ⟨⟨[17,15,16,12,11,8,3,6,10,5],(.dat (.int .i64) (.st Qx21 (.st (.own (.int .i64) (1,0)) (.dat (.int .i64) (.st (.ptr (2,0) 3 0 0) (.dat (.int .i64) (.st Qx39 (.st Qx49 (.st (.ptr (5,0) 14 0 0) (.st (.ptr (6,0) 14 0 0) .nil)))))))))),(.box 3 (.agg (.dat (.int .i64) (.dat (.int .i64) (.st (.own (.int .i64) (7,0)) .nil))) .nil) (.arr (.int .i64) false (.box 3 Qs35 (.box 4 Qs32 (.box 14 Qs1 (.box 14 (.agg (.dat (.int .i64) (.dat (.int .i64) (.dat (.int .i64) (.dat (.int .i64) (.dat (.int .i64) (.dat (.int .i64) (.dat (.int .i64) (.dat (.int .i64) (.dat (.int .i64) (.dat (.int .i64) (.dat (.int .i64) (.st (.own Z12 (8,0)) (.st (.own (.int .i64) (9,0)) (.st (.own (.int .i64) (10,0)) .nil)))))))))))))) .nil) (.box 14 Qs19 (.arr (.int .i64) false Qb17))))))))⟩,(.one (.exit 0) ⟨[6,10,12,11,15,5],(.st Qx13 (.st Qx25 (.dat (.int .i64) (.st (.ptr (2,0) 3 0 0) (.st (.ptr (3,0) 3 0 0) (.st Qx49 .nil)))))),(.box 14 Qs1 (.box 14 Qs3 (.box 3 Qs35 (.box 3 (.agg (.dat (.int .i64) (.dat (.int .i64) (.st (.own (.int .i64) (8,0)) .nil))) .nil) (.box 14 Qs19 (.arr Z12 false (.arr (.int .i64) false (.arr (.int .i64) false Qb8))))))))⟩)⟩
    |_=>none) (fun _ _=>0)
  |_=>{}
theorem ok18:Abs.SpecOK Tryz.prog 18 sp18:=
  Abs.specOK_of (n:=12) (an:=an18) (T:=Abs.tabOf [(43,sp43),(45,sp45),(44,sp44),(53,sp53),(54,sp54),(55,sp55)]) good foll (Abs.tabOf_ok _ (by simp only[List.forall_mem_cons];exact⟨ok43,ok45,ok44,ok53,ok54,ok55,fun _ h=>by cases h⟩)) rfl (by intro v;kernel_rfl)
def l14_0_4(v:((Int×Unit)×(Y13×Y13×(Y18×Unit)×(Y2×Unit)×(List Y26)×(List Int)×(List Int)×Unit))):Option (((Int×Unit)×(Y13×Y13×(Y18×Unit)×(Y2×Unit)×(List Y26)×(List Int)×(List Int)×Unit))⊕((Int×Unit)×(Y13×(List Y26)×(List Int)×(List Int)×Unit))):=
(m45 (((v.2.2.1.1.1,(v.2.2.1.1.2.1,(v.2.2.1.1.2.2.1,(v.2.2.1.1.2.2.2.1,(v.2.2.1.1.2.2.2.2.1,(v.2.2.1.1.2.2.2.2.2.1,(v.2.2.1.1.2.2.2.2.2.2.1,(v.2.2.1.1.2.2.2.2.2.2.2.1,(v.2.2.1.1.2.2.2.2.2.2.2.2.1,(v.2.2.1.1.2.2.2.2.2.2.2.2.2.1,(v.2.2.1.1.2.2.2.2.2.2.2.2.2.2.1,(v.2.2.2.2.2.1,(v.2.2.2.2.2.2.1,(v.2.2.2.2.2.2.2.1,())))))))))))))),()),())).bind fun u24=>
((bif (!u24.1.2.1)then(some ((true,(v.1.1,())),(((v.2.1.1.1,(v.2.1.1.2.1,(v.2.1.1.2.2.1,(v.2.1.1.2.2.2.1,(v.2.1.1.2.2.2.2.1,(v.2.1.1.2.2.2.2.2.1,(v.2.1.1.2.2.2.2.2.2.1,(v.2.1.1.2.2.2.2.2.2.2.1,(v.2.1.1.2.2.2.2.2.2.2.2.1,(v.2.1.1.2.2.2.2.2.2.2.2.2.1,(v.2.1.1.2.2.2.2.2.2.2.2.2.2.1,()))))))))))),()),(((v.2.2.1.1.1,(v.2.2.1.1.2.1,(v.2.2.1.1.2.2.1,(v.2.2.1.1.2.2.2.1,(v.2.2.1.1.2.2.2.2.1,(v.2.2.1.1.2.2.2.2.2.1,(v.2.2.1.1.2.2.2.2.2.2.1,(v.2.2.1.1.2.2.2.2.2.2.2.1,(v.2.2.1.1.2.2.2.2.2.2.2.2.1,(v.2.2.1.1.2.2.2.2.2.2.2.2.2.1,(v.2.2.1.1.2.2.2.2.2.2.2.2.2.2.1,()))))))))))),()),((v.2.2.2.1.1,()),((v.2.2.2.2.1.1,()),(v.2.2.2.2.2.1,(v.2.2.2.2.2.2.1,(v.2.2.2.2.2.2.2.1,())))))))))
else(some (((decide ((u24.1.1:Int)>v.1.1)),(v.1.1,())),(((v.2.1.1.1,(v.2.1.1.2.1,(v.2.1.1.2.2.1,(v.2.1.1.2.2.2.1,(v.2.1.1.2.2.2.2.1,(v.2.1.1.2.2.2.2.2.1,(v.2.1.1.2.2.2.2.2.2.1,(v.2.1.1.2.2.2.2.2.2.2.1,(v.2.1.1.2.2.2.2.2.2.2.2.1,(v.2.1.1.2.2.2.2.2.2.2.2.2.1,(v.2.1.1.2.2.2.2.2.2.2.2.2.2.1,()))))))))))),()),(((v.2.2.1.1.1,(v.2.2.1.1.2.1,(v.2.2.1.1.2.2.1,(v.2.2.1.1.2.2.2.1,(v.2.2.1.1.2.2.2.2.1,(v.2.2.1.1.2.2.2.2.2.1,(v.2.2.1.1.2.2.2.2.2.2.1,(v.2.2.1.1.2.2.2.2.2.2.2.1,(v.2.2.1.1.2.2.2.2.2.2.2.2.1,(v.2.2.1.1.2.2.2.2.2.2.2.2.2.1,(v.2.2.1.1.2.2.2.2.2.2.2.2.2.2.1,()))))))))))),()),((v.2.2.2.1.1,()),((v.2.2.2.2.1.1,()),(v.2.2.2.2.2.1,(v.2.2.2.2.2.2.1,(v.2.2.2.2.2.2.2.1,())))))))))):Option ((Bool×Int×Unit)×(Y13×Y13×(Y18×Unit)×(Y2×Unit)×(List Y26)×(List Int)×(List Int)×Unit))).bind fun v25=>
bif v25.1.1 then(some (.inr ((0,()),(((v25.2.2.1.1.1,(v25.2.2.1.1.2.1,(v25.2.2.1.1.2.2.1,(v25.2.2.1.1.2.2.2.1,(v25.2.2.1.1.2.2.2.2.1,(v25.2.2.1.1.2.2.2.2.2.1,(v25.2.2.1.1.2.2.2.2.2.2.1,(v25.2.2.1.1.2.2.2.2.2.2.2.1,(v25.2.2.1.1.2.2.2.2.2.2.2.2.1,(v25.2.2.1.1.2.2.2.2.2.2.2.2.2.1,(v25.2.2.1.1.2.2.2.2.2.2.2.2.2.2.1,()))))))))))),()),(v25.2.2.2.2.2.1,(v25.2.2.2.2.2.2.1,(v25.2.2.2.2.2.2.2.1,())))))))
else((m18 ((v25.2.2.2.2.1.1,(v25.2.2.2.1.1,((v25.2.2.1.1.1,(v25.2.2.1.1.2.1,(v25.2.2.1.1.2.2.1,(v25.2.2.1.1.2.2.2.1,(v25.2.2.1.1.2.2.2.2.1,(v25.2.2.1.1.2.2.2.2.2.1,(v25.2.2.1.1.2.2.2.2.2.2.1,(v25.2.2.1.1.2.2.2.2.2.2.2.1,(v25.2.2.1.1.2.2.2.2.2.2.2.2.1,(v25.2.2.1.1.2.2.2.2.2.2.2.2.2.1,(v25.2.2.1.1.2.2.2.2.2.2.2.2.2.2.1,(v25.2.2.2.2.2.1,(v25.2.2.2.2.2.2.1,(v25.2.2.2.2.2.2.2.1,())))))))))))))),()))),())).bind fun u26=>
bif ((u26.1.1:Int) !=0)then(some (.inr ((u26.1.1,()),(((0,(0,(0,(0,(0,(0,(0,(0,(0,(0,(0,()))))))))))),()),([],([],([],())))))))
else(some (.inl ((v25.1.2.1,()),(((v25.2.1.1.1,(v25.2.1.1.2.1,(v25.2.1.1.2.2.1,(v25.2.1.1.2.2.2.1,(v25.2.1.1.2.2.2.2.1,(v25.2.1.1.2.2.2.2.2.1,(v25.2.1.1.2.2.2.2.2.2.1,(v25.2.1.1.2.2.2.2.2.2.2.1,(v25.2.1.1.2.2.2.2.2.2.2.2.1,(v25.2.1.1.2.2.2.2.2.2.2.2.2.1,(v25.2.1.1.2.2.2.2.2.2.2.2.2.2.1,()))))))))))),()),(((u26.2.1.1.1,(u26.2.1.1.2.1,(u26.2.1.1.2.2.1,(u26.2.1.1.2.2.2.1,(u26.2.1.1.2.2.2.2.1,(u26.2.1.1.2.2.2.2.2.1,(u26.2.1.1.2.2.2.2.2.2.1,(u26.2.1.1.2.2.2.2.2.2.2.1,(u26.2.1.1.2.2.2.2.2.2.2.2.1,(u26.2.1.1.2.2.2.2.2.2.2.2.2.1,(u26.2.1.1.2.2.2.2.2.2.2.2.2.2.1,()))))))))))),()),((v25.2.2.2.1.1,()),((v25.2.2.2.2.1.1,()),(u26.2.2.1,(u26.2.2.2.1,(u26.2.2.2.2.1,())))))))))))
def i14:Abs.Sg:=⟨[0,1,2,3],(.dat Z1 (.dat Z25 (.dat Z4 Qs2))),.nil⟩
def o14:Abs.Sg:=⟨[8,9],(.st Qx13 Qs2),Qb4⟩
def m14(v:((Y2×Y18×Y7×Int×Unit)×(Unit))):Option ((Int×Unit)×(Y13×(List Y26)×(List Int)×(List Int)×Unit)):=
(m43 ((v.1.2.1,(v.1.2.2.1,())),())).bind fun u21=>
bif (!u21.1.1)then(some ((8,()),(((0,(0,(0,(0,(0,(0,(0,(0,(0,(0,(0,()))))))))))),()),([],([],([],()))))))
else((m44 ((v.1.2.2.1,()),())).bind fun u23=>
(loopT l14_0_4 ((v.1.2.2.2.1,()),(((0,(0,(0,(0,(0,(0,(0,(0,(0,(0,(0,()))))))))))),()),(((u23.2.1.1.1,(u23.2.1.1.2.1,(u23.2.1.1.2.2.1,(u23.2.1.1.2.2.2.1,(u23.2.1.1.2.2.2.2.1,(u23.2.1.1.2.2.2.2.2.1,(u23.2.1.1.2.2.2.2.2.2.1,(u23.2.1.1.2.2.2.2.2.2.2.1,(u23.2.1.1.2.2.2.2.2.2.2.2.1,(u23.2.1.1.2.2.2.2.2.2.2.2.2.1,(u23.2.1.1.2.2.2.2.2.2.2.2.2.2.1,()))))))))))),()),((v.1.2.1,()),((v.1.1,()),(u23.2.2.1,(u23.2.2.2.1,(u23.2.2.2.2.1,()))))))))).bind fun d27=>
some ((d27.1.1,()),(((d27.2.1.1.1,(d27.2.1.1.2.1,(d27.2.1.1.2.2.1,(d27.2.1.1.2.2.2.1,(d27.2.1.1.2.2.2.2.1,(d27.2.1.1.2.2.2.2.2.1,(d27.2.1.1.2.2.2.2.2.2.1,(d27.2.1.1.2.2.2.2.2.2.2.1,(d27.2.1.1.2.2.2.2.2.2.2.2.1,(d27.2.1.1.2.2.2.2.2.2.2.2.2.1,(d27.2.1.1.2.2.2.2.2.2.2.2.2.2.1,()))))))))))),()),(d27.2.2.1,(d27.2.2.2.1,(d27.2.2.2.2.1,()))))))
def sp14:Abs.Spec:=⟨0,i14,o14,m14⟩
def an14:Nat→Abs.FAn
  | 0=>Abs.FAn.mk (fun
    |5=>some ⟨[32,8,6,5,4,3],(.dat .bool (.st Qx13 (.st Qx25 (.st Qx18 (.st Qx39 Qs2))))),(.box 14 Qs1 (.box 14 Qs10 (.box 2 Qs30 (.box 4 Qs32 Qb17))))⟩
    |_=>none) (fun _=>none) (fun
    |4=>some ⟨⟨[8,6,5,4,3],(.st Qx13 (.st Qx25 (.st Qx18 (.st Qx39 Qs2)))),(.box 14 Qs1 (.box 14 Qs10 (.box 2 Qs30 (.box 4 Qs32 Qb17))))⟩,(.one .ret ⟨[8,9],(.st Qx13 Qs2),Qb4⟩)⟩
    |_=>none) (fun _ _=>0)
  |_=>{}
theorem ok14:Abs.SpecOK Tryz.prog 14 sp14:=
  Abs.specOK_of (n:=12) (an:=an14) (T:=Abs.tabOf [(43,sp43),(44,sp44),(45,sp45),(18,sp18)]) good foll (Abs.tabOf_ok _ (by simp only[List.forall_mem_cons];exact⟨ok43,ok44,ok45,ok18,fun _ h=>by cases h⟩)) rfl (by intro v;kernel_rfl)
def i15:Abs.Sg:=⟨[0,1,2,3],(.st Qx7 Qs23),Qb34⟩
def o15:Abs.Sg:=⟨[8],(.st (.ptr (1,0) 6 0 0) .nil),(.box 2 Qs9 Qb38)⟩
def m15(v:(Y35×(Y17×Unit))):Option ((Unit)×(Y17×Y30×Unit)):=
(m19 ((5,()),((v.2.1.1,()),()))).bind fun u13=>
(m19 ((5,()),((u13.2.1.1,()),()))).bind fun u14=>
((bif (((w64 (1+u14.1.1)):Int)==3)then((m22 (([1,60,600,5000],()),((u14.2.1.1,()),()))).bind fun u15=>
some ((),((u15.2.1.1,()),(((0,(0,(0,(0,(0,(0,())))))),()),(((v.1.1,(v.1.2.1,((w64 (u13.1.1-1)),((w64 (1+u14.1.1)),(u15.1.1,(v.1.2.2.1,())))))),()),())))))
else(bif (((w64 (1+u14.1.1)):Int)==4)then((m19 ((4,()),((u14.2.1.1,()),()))).bind fun u16=>
some ((),((u16.2.1.1,()),(((0,(0,(0,(0,(0,(0,())))))),()),(((v.1.1,(v.1.2.1,((w64 (u13.1.1-1)),((w64 (1+u14.1.1)),(u16.1.1,(v.1.2.2.1,())))))),()),())))))
else(some ((),((u14.2.1.1,()),(((0,(0,(0,(0,(0,(0,())))))),()),(((v.1.1,(v.1.2.1,((w64 (u13.1.1-1)),((w64 (1+u14.1.1)),(0,(v.1.2.2.1,())))))),()),()))))))):Option ((Unit)×(Y17×Y30×Y30×Unit))).bind fun v17=>
some ((),((v17.2.1.1,()),((v17.2.2.2.1.1,()),())))
def sp15:Abs.Spec:=⟨1,i15,o15,m15⟩
def an15:Nat→Abs.FAn
  | 0=>Abs.FAn.mk (fun _=>none) (fun
    |7=>some (⟨[8,9],(.st (.ptr (1,0) 6 0 0) (.st (.ptr (2,0) 6 0 0) .nil)),(.box 2 Qs9 (.box 6 (.dat Z28 .nil) Qb38))⟩,none)
    |_=>none) (fun _=>none) (fun _ _=>0)
  |_=>{}
theorem ok15:Abs.SpecOK Tryz.prog 15 sp15:=
  Abs.specOK_of (n:=12) (an:=an15) (T:=Abs.tabOf [(19,sp19),(22,sp22)]) good foll (Abs.tabOf_ok _ (by simp only[List.forall_mem_cons];exact⟨ok19,ok22,fun _ h=>by cases h⟩)) rfl (by intro v;kernel_rfl)
def i46:Abs.Sg:=⟨[0],(.dat Z28 .nil),.nil⟩
def o46:Abs.Sg:=⟨[2],Qs5,.nil⟩
def m46(v:(Y30×(Unit))):Option Y24:=
(((m56 ((v.1.1.1,(1,(999999,()))),())).bind fun u27=>
bif (!u27.1.1)then(some ((true,()),((v.1.1,()),())))
else((m56 ((v.1.1.2.1,(1,(999999,()))),())).bind fun u28=>
bif (!u28.1.1)then(some ((true,()),((v.1.1,()),())))
else((m56 ((v.1.1.2.2.1,((-1),(31,()))),())).bind fun u29=>
bif (!u29.1.1)then(some ((true,()),((v.1.1,()),())))
else((m56 ((v.1.1.2.2.2.2.2.1,(0,(8589934592,()))),())).bind fun u30=>
some (((!u30.1.1),()),((v.1.1,()),())))))):Option ((Bool×Unit)×(Y30×Unit))).bind fun v31=>
bif v31.1.1 then(some ((false,()),()))
else(((bif ((v31.2.1.1.2.2.2.1:Int)==1)then(some ((((v31.2.1.1.2.2.2.1:Int)==1),(v31.2.1.1.2.2.2.1,())),((v31.2.1.1,()),())))
else(bif ((v31.2.1.1.2.2.2.1:Int)==2)then(some ((((v31.2.1.1.2.2.2.1:Int)==2),(v31.2.1.1.2.2.2.1,())),((v31.2.1.1,()),())))
else(some ((((v31.2.1.1.2.2.2.1:Int)==5),(v31.2.1.1.2.2.2.1,())),((v31.2.1.1,()),()))))):Option ((Bool×Int×Unit)×(Y30×Unit))).bind fun v32=>
bif v32.1.1 then(some ((((v32.2.1.1.2.2.2.2.1:Int)==0),()),()))
else(bif ((v32.1.2.1:Int)==3)then((m56 ((v32.2.1.1.2.2.2.2.1,(1,(86400,()))),())).bind fun u33=>
some ((u33.1.1,()),()))
else(bif ((v32.1.2.1:Int)==4)then((m56 ((v32.2.1.1.2.2.2.2.1,(0,(31,()))),())).bind fun u34=>
some ((u34.1.1,()),()))
else(some ((false,()),())))))
def sp46:Abs.Spec:=⟨0,i46,o46,m46⟩
def an46:Nat→Abs.FAn
  | 0=>Abs.FAn.mk (fun
    |1=>some ⟨[24,1],(.dat .bool (.st (.ptr (0,0) 6 0 0) .nil)),Qb38⟩
    |_=>none) (fun
    |7=>some (⟨[27,1,26],(.dat .bool (.st (.ptr (0,0) 6 0 0) Qs2)),Qb38⟩,none)
    |_=>none) (fun _=>none) (fun _ _=>0)
  |_=>{}
theorem ok46:Abs.SpecOK Tryz.prog 46 sp46:=
  Abs.specOK_of (n:=12) (an:=an46) (T:=Abs.tabOf [(56,sp56)]) good foll (Abs.tabOf_ok _ (by simp only[List.forall_mem_cons];exact⟨ok56,fun _ h=>by cases h⟩)) rfl (by intro v;kernel_rfl)
def i48:Abs.Sg:=⟨[0,1],(.dat Z4 (.dat Z28 .nil)),.nil⟩
def o48:Abs.Sg:=⟨[4],Qs2,.nil⟩
def m48(v:((Y7×(Int×Int×Int×Int×Int×Int×Unit)×Unit)×(Unit))):Option ((Int×Unit)×(Unit)):=
(m45 ((v.1.1,()),())).bind fun u42=>
((let x43:=(decide ((v.1.2.1.2.2.2.2.2.1:Int)<v.1.1.2.2.2.2.2.2.2.2.1))
bif x43 then(some ((true,()),((v.1.1,()),((v.1.2.1,()),()))))
else(bif u42.1.2.1 then(some (((decide ((u42.1.1:Int)≤v.1.2.1.2.2.2.2.2.1)),()),((v.1.1,()),((v.1.2.1,()),()))))
else(some ((false,()),((v.1.1,()),((v.1.2.1,()),())))))):Option ((Bool×Unit)×((Y7×Unit)×Y30×Unit))).bind fun v44=>
bif v44.1.1 then(some ((6,()),()))
else(((bif ((v44.2.1.1.2.2.2.2.2.1:Int)==4)then(some ((((v44.2.1.1.2.2.2.2.2.1:Int)==4),()),((v44.2.1.1,()),((v44.2.2.1.1,()),()))))
else(((bif ((v44.2.1.1.2.2.2.2.2.1:Int)==3)then(some ((((v44.2.2.1.1.2.2.2.1:Int) !=5),()),((v44.2.1.1,()),((v44.2.2.1.1,()),()))))
else(some ((false,()),((v44.2.1.1,()),((v44.2.2.1.1,()),()))))):Option ((Bool×Unit)×((Y7×Unit)×Y30×Unit))).bind fun v45=>
bif v45.1.1 then(some ((v45.1.1,()),((v45.2.1.1,()),((v45.2.2.1.1,()),()))))
else(((bif ((v45.2.1.1.2.2.2.2.2.1:Int)==1)then(some ((((v45.2.2.1.1.2.2.2.1:Int)==2),()),((v45.2.1.1,()),((v45.2.2.1.1,()),()))))
else(some ((false,()),((v45.2.1.1,()),((v45.2.2.1.1,()),()))))):Option ((Bool×Unit)×((Y7×Unit)×Y30×Unit))).bind fun v46=>
some ((v46.1.1,()),((v46.2.1.1,()),((v46.2.2.1.1,()),())))))):Option ((Bool×Unit)×((Y7×Unit)×Y30×Unit))).bind fun v47=>
bif v47.1.1 then(some ((9,()),()))
else(((let x48:=(decide (((v47.2.1.1.2.2.2.2.2.2.2.2.2.2.2.2.2.1.length:Int):Int)≥64))
bif x48 then(some ((x48,()),()))
else(((bif ((v47.2.2.1.1.2.2.2.1:Int)==3)then(let x49:=(decide ((v47.2.1.1.2.2.2.2.2.2.2.2.2.1:Int)≥4))
some ((x49,()),((v47.2.1.1,()),((v47.2.2.1.1,()),()))))
else(some ((false,()),((v47.2.1.1,()),((v47.2.2.1.1,()),()))))):Option ((Bool×Unit)×((Y7×Unit)×Y30×Unit))).bind fun v50=>
bif v50.1.1 then(some ((v50.1.1,()),()))
else(((bif ((v50.2.2.1.1.2.2.2.1:Int)==4)then(let x51:=(decide ((v50.2.1.1.2.2.2.2.2.2.2.2.2.2.1:Int)≥4))
bif x51 then(some ((true,()),()))
else(let x52:=(decide (((v50.2.1.1.2.2.2.2.2.2.2.2.2.2.2.1.length:Int):Int)≥200))
some ((x52,()),())))
else(some ((false,()),()))):Option Y24).bind fun v53=>
some ((v53.1.1,()),())))):Option Y24).bind fun v54=>
bif v54.1.1 then(some ((5,()),()))
else(some ((0,()),()))))
def sp48:Abs.Spec:=⟨0,i48,o48,m48⟩
def an48:Nat→Abs.FAn
  | 0=>Abs.FAn.mk (fun
    |10=>some ⟨[47],Qs5,.nil⟩
    |9=>some ⟨[47,2,3],Qs42,(.box 14 Qs19 Qb38)⟩
    |6=>some ⟨[27,2,3],Qs42,(.box 14 Qs19 Qb38)⟩
    |5=>some ⟨[27,2,3],Qs42,(.box 14 Qs19 Qb38)⟩
    |2=>some ⟨[12,2,3],Qs42,(.box 14 Qs19 Qb38)⟩
    |_=>none) (fun
    |11=>some (⟨[47],Qs5,.nil⟩,none)
    |7=>some (⟨[27,2,3],Qs42,(.box 14 Qs19 Qb38)⟩,none)
    |_=>none) (fun _=>none) (fun _ _=>0)
  |_=>{}
theorem ok48:Abs.SpecOK Tryz.prog 48 sp48:=
  Abs.specOK_of (n:=12) (an:=an48) (T:=Abs.tabOf [(45,sp45)]) good foll (Abs.tabOf_ok _ (by simp only[List.forall_mem_cons];exact⟨ok45,fun _ h=>by cases h⟩)) rfl (by intro v;kernel_rfl)
def i49:Abs.Sg:=⟨[0],Qs19,.nil⟩
def o49:Abs.Sg:=⟨[2],(.st Qx22 .nil),Qb8⟩
def m49(v:((Y7×Unit)×(Unit))):Option ((Unit)×((List Int)×Unit)):=
let x8:=(((v.1.1.2.2.2.2.2.2.2.2.2.2.2.1.length:Int):Int)==0)
bif x8 then(some ((),([],())))
else(let x9:=(w64 ((v.1.1.2.2.2.2.2.2.2.2.2.2.2.1.length:Int)-1))
Abs.rowAt v.1.1.2.2.2.2.2.2.2.2.2.2.2.1 x9 fun e10 _=>
bif (decide (0+e10.2.2.1.length≤4294967296))then
some ((),(e10.2.2.1,()))
else none)
def sp49:Abs.Spec:=⟨0,i49,o49,m49⟩
def an49:Nat→Abs.FAn
  |_=>{}
theorem ok49:Abs.SpecOK Tryz.prog 49 sp49:=
  Abs.specOK_of (n:=12) (an:=an49) (T:=Abs.tabOf []) good foll (Abs.tabOf_ok _ (fun _ h=>by cases h)) rfl (by intro v;kernel_rfl)
def l16_0_23(v:((Int×Bool×Unit)×((List Int)×Y13×Y13×Y30×(Y7×Unit)×(List Y26)×(List Int)×(List Int)×Unit))):Option (((Int×Bool×Unit)×((List Int)×Y13×Y13×Y30×(Y7×Unit)×(List Y26)×(List Int)×(List Int)×Unit))⊕((Bool×Unit)×(Y13×Y13×Y30×(Y7×Unit)×(List Y26)×(List Int)×(List Int)×Unit))):=
let x89:=(decide ((v.1.1:Int)<((v.2.1.length:Nat):Int)))
bif x89 then(((bif v.1.2.1 then(bif (decide ((0:Int)≤v.1.1∧(v.1.1:Int)<v.2.1.length))then
(v.2.1[v.1.1.toNat]?).bind fun e90=>
(m47 ((v.2.2.2.2.2.2.2.1,(e90,())),())).bind fun u91=>
some ((u91.1.1,(v.1.1,())),(v.2.1,(((v.2.2.1.1.1,(v.2.2.1.1.2.1,(v.2.2.1.1.2.2.1,(v.2.2.1.1.2.2.2.1,(v.2.2.1.1.2.2.2.2.1,(v.2.2.1.1.2.2.2.2.2.1,(v.2.2.1.1.2.2.2.2.2.2.1,(v.2.2.1.1.2.2.2.2.2.2.2.1,(v.2.2.1.1.2.2.2.2.2.2.2.2.1,(v.2.2.1.1.2.2.2.2.2.2.2.2.2.1,(v.2.2.1.1.2.2.2.2.2.2.2.2.2.2.1,()))))))))))),()),(((v.2.2.2.1.1.1,(v.2.2.2.1.1.2.1,(v.2.2.2.1.1.2.2.1,(v.2.2.2.1.1.2.2.2.1,(v.2.2.2.1.1.2.2.2.2.1,(v.2.2.2.1.1.2.2.2.2.2.1,(v.2.2.2.1.1.2.2.2.2.2.2.1,(v.2.2.2.1.1.2.2.2.2.2.2.2.1,(v.2.2.2.1.1.2.2.2.2.2.2.2.2.1,(v.2.2.2.1.1.2.2.2.2.2.2.2.2.2.1,(v.2.2.2.1.1.2.2.2.2.2.2.2.2.2.2.1,()))))))))))),()),((v.2.2.2.2.1.1,()),((v.2.2.2.2.2.1.1,()),(v.2.2.2.2.2.2.1,(v.2.2.2.2.2.2.2.1,(v.2.2.2.2.2.2.2.2.1,())))))))))
else none)
else(some ((false,(v.1.1,())),(v.2.1,(((v.2.2.1.1.1,(v.2.2.1.1.2.1,(v.2.2.1.1.2.2.1,(v.2.2.1.1.2.2.2.1,(v.2.2.1.1.2.2.2.2.1,(v.2.2.1.1.2.2.2.2.2.1,(v.2.2.1.1.2.2.2.2.2.2.1,(v.2.2.1.1.2.2.2.2.2.2.2.1,(v.2.2.1.1.2.2.2.2.2.2.2.2.1,(v.2.2.1.1.2.2.2.2.2.2.2.2.2.1,(v.2.2.1.1.2.2.2.2.2.2.2.2.2.2.1,()))))))))))),()),(((v.2.2.2.1.1.1,(v.2.2.2.1.1.2.1,(v.2.2.2.1.1.2.2.1,(v.2.2.2.1.1.2.2.2.1,(v.2.2.2.1.1.2.2.2.2.1,(v.2.2.2.1.1.2.2.2.2.2.1,(v.2.2.2.1.1.2.2.2.2.2.2.1,(v.2.2.2.1.1.2.2.2.2.2.2.2.1,(v.2.2.2.1.1.2.2.2.2.2.2.2.2.1,(v.2.2.2.1.1.2.2.2.2.2.2.2.2.2.1,(v.2.2.2.1.1.2.2.2.2.2.2.2.2.2.2.1,()))))))))))),()),((v.2.2.2.2.1.1,()),((v.2.2.2.2.2.1.1,()),(v.2.2.2.2.2.2.1,(v.2.2.2.2.2.2.2.1,(v.2.2.2.2.2.2.2.2.1,()))))))))))):Option ((Bool×Int×Unit)×((List Int)×Y13×Y13×Y30×(Y7×Unit)×(List Y26)×(List Int)×(List Int)×Unit))).bind fun v92=>
some (.inl (((w64 (v92.1.2.1+1)),(v92.1.1,())),(v92.2.1,(((v92.2.2.1.1.1,(v92.2.2.1.1.2.1,(v92.2.2.1.1.2.2.1,(v92.2.2.1.1.2.2.2.1,(v92.2.2.1.1.2.2.2.2.1,(v92.2.2.1.1.2.2.2.2.2.1,(v92.2.2.1.1.2.2.2.2.2.2.1,(v92.2.2.1.1.2.2.2.2.2.2.2.1,(v92.2.2.1.1.2.2.2.2.2.2.2.2.1,(v92.2.2.1.1.2.2.2.2.2.2.2.2.2.1,(v92.2.2.1.1.2.2.2.2.2.2.2.2.2.2.1,()))))))))))),()),(((v92.2.2.2.1.1.1,(v92.2.2.2.1.1.2.1,(v92.2.2.2.1.1.2.2.1,(v92.2.2.2.1.1.2.2.2.1,(v92.2.2.2.1.1.2.2.2.2.1,(v92.2.2.2.1.1.2.2.2.2.2.1,(v92.2.2.2.1.1.2.2.2.2.2.2.1,(v92.2.2.2.1.1.2.2.2.2.2.2.2.1,(v92.2.2.2.1.1.2.2.2.2.2.2.2.2.1,(v92.2.2.2.1.1.2.2.2.2.2.2.2.2.2.1,(v92.2.2.2.1.1.2.2.2.2.2.2.2.2.2.2.1,()))))))))))),()),((v92.2.2.2.2.1.1,()),((v92.2.2.2.2.2.1.1,()),(v92.2.2.2.2.2.2.1,(v92.2.2.2.2.2.2.2.1,(v92.2.2.2.2.2.2.2.2.1,())))))))))))
else(some (.inr ((v.1.2.1,()),(((v.2.2.2.1.1.1,(v.2.2.2.1.1.2.1,(v.2.2.2.1.1.2.2.1,(v.2.2.2.1.1.2.2.2.1,(v.2.2.2.1.1.2.2.2.2.1,(v.2.2.2.1.1.2.2.2.2.2.1,(v.2.2.2.1.1.2.2.2.2.2.2.1,(v.2.2.2.1.1.2.2.2.2.2.2.2.1,(v.2.2.2.1.1.2.2.2.2.2.2.2.2.1,(v.2.2.2.1.1.2.2.2.2.2.2.2.2.2.1,(v.2.2.2.1.1.2.2.2.2.2.2.2.2.2.2.1,()))))))))))),()),(((v.2.2.1.1.1,(v.2.2.1.1.2.1,(v.2.2.1.1.2.2.1,(v.2.2.1.1.2.2.2.1,(v.2.2.1.1.2.2.2.2.1,(v.2.2.1.1.2.2.2.2.2.1,(v.2.2.1.1.2.2.2.2.2.2.1,(v.2.2.1.1.2.2.2.2.2.2.2.1,(v.2.2.1.1.2.2.2.2.2.2.2.2.1,(v.2.2.1.1.2.2.2.2.2.2.2.2.2.1,(v.2.2.1.1.2.2.2.2.2.2.2.2.2.2.1,()))))))))))),()),((v.2.2.2.2.1.1,()),((v.2.2.2.2.2.1.1,()),(v.2.2.2.2.2.2.1,(v.2.2.2.2.2.2.2.1,(v.2.2.2.2.2.2.2.2.1,()))))))))))
end
end Go.Proofs.YtcelhemfoehedaaGreat
