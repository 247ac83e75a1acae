/- What the card of TemplateFinds wants together. No conditions. -/
import Derived.Test.YtpoelhnceebmkaaGreatDoorLaw2
import Derived.Test.YtpoelhnceebmkaaGreatDoorE10
